/-
 Part 5 of the proof (packed).
-/
import Derived.Test.YtnemkecffmdlnaaGreatDoorG4
import Derived.Shelf.Small.Strs
import Derived.Shelf.LaysM
import Derived.Shelf.Strconv.AtoiAll
import Derived.Shelf.Strings.Search1
import Derived.Shelf.Strings.Search2
import Derived.Shelf.Strings.Search3
import Derived.Shelf.Small.Wraps
import Derived.Shelf.Strings.Split
import Derived.Test.YtnemkecffmdlnaaGreatDoorProg
import Derived.Handy
import Derived.Lib.AtoiAllCases
import Derived.Lib.IndexBytes
import Derived.Shelf.Strconv.ToError
import Derived.Shelf.LaysC
import Derived.Lib.ConvBytes
import Derived.Lib.Hide
import Derived.Laws.Strings3
import Derived.Laws.Closers25
import Derived.Laws.Closers25b
import Derived.Shelf.Strings.OnBuilder
set_option linter.unusedSimpArgs false
set_option linter.unusedVariables false
set_option linter.defProp false
set_option maxHeartbeats 16000000
namespace Go.Proofs.YtnemkecffmdlnaaGreatDoor
section
open Go.RowKit Go.LE Go.Proofs.Tryz
set_option maxRecDepth 10000
def ju:ByteArray:=⟨#[]⟩
abbrev Tk:=Int×Nat×ByteArray
abbrev Pc:=ByteArray×Nat×Int×Nat
def nB(s:ByteArray)(i:Nat):Nat->Nat->ByteArray->Pc
 |0,_,_=>(ju,0,51,i)
 | n+1,k,o=>
  if k<s.size then
   if bt s (k:Nat)=34 then (o,k+1,0,0)
   else if ry (bt s (k:Nat))=false then (ju,0,50,k)
   else if ¬ bt s (k:Nat)=92 then nB s i n (k+1) (o++fB [bt s (k:Nat)])
   else if ¬ k+1<s.size then (ju,0,51,i)
   else if bt s ((k+1:Nat):Int)=110 then nB s i n (k+2) (o++fB [10])
   else if bt s ((k+1:Nat):Int)=114 then nB s i n (k+2) (o++fB [13])
   else if bt s ((k+1:Nat):Int)=116 then nB s i n (k+2) (o++fB [9])
   else if bt s ((k+1:Nat):Int)=34\/bt s ((k+1:Nat):Int)=92 then nB s i n (k+2) (o++fB [bt s ((k+1:Nat):Int)])
   else if bt s ((k+1:Nat):Int)=120 then
    if ¬ k+2<s.size then (ju,0,51,i)
    else if iw (bt s ((k+2:Nat):Int))<0 then (ju,0,50,k+2)
    else if ¬ k+3<s.size then (ju,0,51,i)
    else if iw (bt s ((k+3:Nat):Int))<0 then (ju,0,50,k+3)
    else nB s i n (k+4) (o++fB [16*iw (bt s ((k+2:Nat):Int))+iw (bt s ((k+3:Nat):Int))])
   else (ju,0,50,k+1)
  else (ju,0,51,i)
def Ai(s:ByteArray)(i:Nat):Pc:=nB s i (s.size-(i+1)) (i+1) ju
def pJ(s:ByteArray)(i:Nat):Nat->Nat->Pc
 |0,_=>(ju,0,52,i)
 | n+1,k=>
  if k<s.size then
   if ry (bt s (k:Nat))=false then (ju,0,50,k)
   else if bt s (k:Nat)=47 then (s.extract (i+1) k,k+1,0,0)
   else if bt s (k:Nat)=92 then
    if k+1<s.size/\ry (bt s ((k+1:Nat):Int))=false then (ju,0,50,k+1)
    else pJ s i n (k+2)
   else pJ s i n (k+1)
  else (ju,0,52,i)
def AH(s:ByteArray)(i:Nat):Pc:=pJ s i (s.size-(i+1)) (i+1)
def nmB(c:Int):Bool:=uS c||UN c
def Lz(s:ByteArray):Nat->Nat->Nat
 |0,k=>k
 |n+1,k=>if k<s.size then if nmB (bt s (k:Nat))=true then Lz s n (k+1) else k else k
def uU(s:ByteArray)(i:Nat):Nat:=Lz s (s.size-(i+1)) (i+1)
def bS(s:ByteArray)(i:Nat):Tk×Nat×Int×Nat:=
 if uS (bt s (i:Nat))=true then
  if 32<uU s i-i then ((0,0,ju),0,1,i) else ((1,i,s.extract i (uU s i)),uU s i,0,0)
 else if bt s (i:Nat)=34 then ((2,i,(Ai s i).1),(Ai s i).2.1,(Ai s i).2.2.1,(Ai s i).2.2.2)
 else if bt s (i:Nat)=47 then ((3,i,(AH s i).1),(AH s i).2.1,(AH s i).2.2.1,(AH s i).2.2.2)
 else if Cr (bt s (i:Nat))=true then ((4,i,s.extract i (i+1)),i+1,0,0)
 else if bt s (i:Nat)=62/\i+1<s.size/\bt s ((i+1:Nat):Int)=62 then ((4,i,⟨#[62,62]⟩),i+2,0,0)
 else ((0,0,ju),0,50,i)
def uE(s:ByteArray):Nat->Nat->List Tk->List Tk×Int×Nat
 |0,i,l=>(l++[(0,s.size,ju)],0,0)
 | n+1,i,l=>
  if i<s.size then
   if (bS s i).2.2.1=0 then uE s n (js s (bS s i).2.1) (l++[(bS s i).1]) else ([],(bS s i).2.2.1,(bS s i).2.2.2)
  else (l++[(0,s.size,ju)],0,0)
def bz(s:ByteArray):List Tk×Int×Nat:=if 4096<s.size then ([],1,0) else uE s s.size (js s 0) []
theorem Of{s t:ByteArray}(hs:s.size=t.size)(h:∀ i:Nat,i<s.size->bt s (i:Nat)=bt t (i:Nat)):s=t:=by
 apply ByteArray.ext;apply Array.ext hs;intro i h1 h2;have:=h i h1;simp only[bt,Int.toNat_natCast,Array.getElem?_eq_getElem h1,Array.getElem?_eq_getElem h2,Option.getD_some]at this;exact UInt8.toNat_inj.1 oM
end
section
open Go.RowKit Go.LE Go.Proofs.Tryz
theorem alI:ts prog 6=some 1:=kR
theorem alJ:ta prog 6=some false:=kR
theorem alK:tz prog 6=some [Value.int IntKind.u8 0]:=kR
theorem alL:Program.underlying prog 6=some (.int IntKind.u8):=kR
theorem jS:ts prog 54=some 1:=kR
theorem jT:ta prog 54=some false:=kR
theorem jU:xq prog 54=some 16:=kR
theorem jV:tz prog 54=some [Value.nilIface]:=kR
theorem jW:isIface prog 54=some true:=kR
theorem Ri:ts prog 55=some 1:=kR
theorem Rj:ta prog 55=some false:=kR
theorem Dq:ts prog 72=some 1:=kR
theorem Dr:ta prog 72=some false:=kR
theorem Ds:tz prog 72=some [Value.pointer none]:=kR
theorem Dt:je prog 72=some true:=kR
theorem Du:Program.underlying prog 72=some (.pointer 79):=kR
theorem Rk:ts prog 73=some 1:=kR
theorem Rl:ta prog 73=some false:=kR
theorem Rm:ts prog 75=some 1:=kR
theorem Rn:ta prog 75=some false:=kR
theorem Ro:tz prog 75=some [Value.slice none 0 0]:=kR
theorem Rq:Program.underlying prog 75=some (.slice 134):=kR
theorem ot:ts prog 77=some 1:=kR
theorem ou:ta prog 77=some false:=kR
theorem ov:xq prog 77=some 16:=kR
theorem ow:tz prog 77=some [Value.nilIface]:=kR
theorem ox:isIface prog 77=some true:=kR
theorem Dv:ts prog 79=some 2:=kR
theorem Dw:ta prog 79=some true:=kR
theorem Dx:tz prog 79=some [Value.slice none 0 0,Value.nilIface]:=kR
theorem Dy:rD prog 79=some [(0,1),(1,1)]:=kR
theorem Dz:tf prog 79 0=some (0,1,false):=kR
theorem DA:tf prog 79 1=some (1,1,false):=kR
theorem I3:ts prog 129=some 1:=kR
theorem I4:ta prog 129=some false:=kR
theorem I5:tz prog 129=some [Value.pointer none]:=kR
theorem I6:je prog 129=some true:=kR
theorem I7:Program.underlying prog 129=some (.pointer 132):=kR
theorem Rs:ts prog 130=some 1:=kR
theorem Rt:ta prog 130=some false:=kR
theorem Ru:tz prog 130=some [Value.map none]:=kR
theorem I8:ts prog 132=some 1:=kR
theorem I9:ta prog 132=some true:=kR
theorem Ja:tz prog 132=some [Value.map none]:=kR
theorem Jb:rD prog 132=some [(0,1)]:=kR
theorem Jc:tf prog 132 0=some (0,1,false):=kR
theorem Rv:ts prog 134=some 3:=kR
theorem Rw:ta prog 134=some true:=kR
theorem Ry:xq prog 134=some 40:=kR
theorem Rz:tz prog 134=some [Value.int IntKind.i64 0,Value.string { data:=#[] },Value.nilIface]:=kR
theorem RA:rD prog 134=some [(0,1),(1,1),(2,1)]:=kR
theorem RB:tf prog 134 0=some (0,1,false):=kR
theorem RC:tf prog 134 1=some (1,1,false):=kR
theorem RD:tf prog 134 2=some (2,1,false):=kR
theorem RE:ts prog 135=some 1:=kR
theorem RF:ta prog 135=some false:=kR
theorem Jd:ts prog 138=some 1:=kR
theorem Je:ta prog 138=some false:=kR
theorem Jf:tz prog 138=some [Value.slice none 0 0]:=kR
theorem Jg:Program.underlying prog 138=some (.slice 225):=kR
theorem alM:ts prog 139=some 1:=kR
theorem alN:ta prog 139=some false:=kR
theorem u9:ts prog 141=some 1:=kR
theorem vc:ta prog 141=some false:=kR
theorem vd:tz prog 141=some [Value.pointer none]:=kR
theorem ve:je prog 141=some true:=kR
theorem vf:Program.underlying prog 141=some (.pointer 143):=kR
theorem vg:ts prog 143=some 2:=kR
theorem vh:ta prog 143=some true:=kR
theorem vi:tz prog 143=some [Value.slice none 0 0,Value.int IntKind.i64 0]:=kR
theorem vj:rD prog 143=some [(0,1),(1,1)]:=kR
theorem vl:tf prog 143 0=some (0,1,false):=kR
theorem vm:tf prog 143 1=some (1,1,false):=kR
theorem qs:ts prog 190=some 2:=kR
theorem qt:ta prog 190=some true:=kR
theorem qu:rF prog 190=some (.agg #[Value.int IntKind.i64 0,Value.string { data:=#[] }]):=kR
theorem qv:tz prog 190=some [Value.int IntKind.i64 0,Value.string { data:=#[] }]:=kR
theorem qw:rD prog 190=some [(0,1),(1,1)]:=kR
theorem qx:isIface prog 190=some false:=kR
theorem qy:Program.concrete prog 190=true:=kR
theorem qz:tf prog 190 0=some (0,1,false):=kR
theorem qA:tf prog 190 1=some (1,1,false):=kR
theorem oy:ts prog 192=some 2:=kR
theorem oz:ta prog 192=some true:=kR
theorem oA:rF prog 192=some (.agg #[Value.int IntKind.i64 0,Value.nilIface]):=kR
theorem oB:tz prog 192=some [Value.int IntKind.i64 0,Value.nilIface]:=kR
theorem oC:rD prog 192=some [(0,1),(1,1)]:=kR
theorem oD:isIface prog 192=some false:=kR
theorem oE:Program.concrete prog 192=true:=kR
theorem oF:tf prog 192 0=some (0,1,false):=kR
theorem oG:tf prog 192 1=some (1,1,false):=kR
theorem qB:ts prog 193=some 1:=kR
theorem qC:ta prog 193=some false:=kR
theorem qD:rF prog 193=some (Value.pointer none):=kR
theorem qE:tz prog 193=some [Value.pointer none]:=kR
theorem qF:je prog 193=some true:=kR
theorem qG:Program.underlying prog 193=some (.pointer 196):=kR
theorem qH:isIface prog 193=some false:=kR
theorem qI:Program.concrete prog 193=true:=kR
theorem qJ:ts prog 196=some 7:=kR
theorem qK:ta prog 196=some true:=kR
theorem qL:tz prog 196=some [Value.int IntKind.i64 0,Value.string { data:=#[] },Value.nilIface,Value.string { data:=#[] },Value.string { data:=#[] },Value.pointer none,Value.pointer none]:=kR
theorem qM:rD prog 196=some [(0,1),(1,1),(2,1),(3,1),(4,1),(5,1),(6,1)]:=kR
theorem qN:tf prog 196 0=some (0,1,false):=kR
theorem qO:tf prog 196 1=some (1,1,false):=kR
theorem qP:tf prog 196 2=some (2,1,false):=kR
theorem qQ:tf prog 196 3=some (3,1,false):=kR
theorem qR:tf prog 196 4=some (4,1,false):=kR
theorem qS:tf prog 196 5=some (5,1,false):=kR
theorem qT:tf prog 196 6=some (6,1,false):=kR
theorem mG:ts prog 197=some 1:=kR
theorem mH:ta prog 197=some false:=kR
theorem mI:rF prog 197=some (Value.pointer none):=kR
theorem mJ:tz prog 197=some [Value.pointer none]:=kR
theorem mK:je prog 197=some true:=kR
theorem mL:Program.underlying prog 197=some (.pointer 199):=kR
theorem mM:isIface prog 197=some false:=kR
theorem mN:Program.concrete prog 197=true:=kR
theorem mO:ts prog 199=some 7:=kR
theorem mP:ta prog 199=some true:=kR
theorem mQ:tz prog 199=some [Value.int IntKind.i64 0,Value.string { data:=#[] },Value.nilIface,Value.string { data:=#[] },Value.pointer none,Value.pointer none,Value.pointer none]:=kR
theorem mR:rD prog 199=some [(0,1),(1,1),(2,1),(3,1),(4,1),(5,1),(6,1)]:=kR
theorem mS:tf prog 199 0=some (0,1,false):=kR
theorem mT:tf prog 199 1=some (1,1,false):=kR
theorem mU:tf prog 199 2=some (2,1,false):=kR
theorem mV:tf prog 199 3=some (3,1,false):=kR
theorem mW:tf prog 199 4=some (4,1,false):=kR
theorem mX:tf prog 199 5=some (5,1,false):=kR
theorem mY:tf prog 199 6=some (6,1,false):=kR
theorem acC:ts prog 201=some 1:=kR
theorem acD:ta prog 201=some false:=kR
theorem acE:tz prog 201=some [Value.nilFunc]:=kR
theorem Jh:ts prog 205=some 2:=kR
theorem Ji:ta prog 205=some true:=kR
theorem Jj:rF prog 205=some (.agg #[Value.int IntKind.i64 0,Value.string { data:=#[] }]):=kR
theorem Jk:tz prog 205=some [Value.int IntKind.i64 0,Value.string { data:=#[] }]:=kR
theorem Jl:rD prog 205=some [(0,1),(1,1)]:=kR
theorem Jm:isIface prog 205=some false:=kR
theorem Jo:Program.concrete prog 205=true:=kR
theorem Jp:tf prog 205 0=some (0,1,false):=kR
theorem Jq:tf prog 205 1=some (1,1,false):=kR
theorem Jr:ts prog 206=some 2:=kR
theorem Js:ta prog 206=some true:=kR
theorem Jt:rF prog 206=some (.agg #[Value.int IntKind.i64 0,Value.string { data:=#[] }]):=kR
theorem Ju:tz prog 206=some [Value.int IntKind.i64 0,Value.string { data:=#[] }]:=kR
theorem Jv:rD prog 206=some [(0,1),(1,1)]:=kR
theorem Jw:isIface prog 206=some false:=kR
theorem Jx:Program.concrete prog 206=true:=kR
theorem Jy:tf prog 206 0=some (0,1,false):=kR
theorem Jz:tf prog 206 1=some (1,1,false):=kR
theorem JA:ts prog 207=some 2:=kR
theorem JB:ta prog 207=some true:=kR
theorem JC:rF prog 207=some (.agg #[Value.int IntKind.i64 0,Value.string { data:=#[] }]):=kR
theorem JD:tz prog 207=some [Value.int IntKind.i64 0,Value.string { data:=#[] }]:=kR
theorem JE:rD prog 207=some [(0,1),(1,1)]:=kR
theorem JF:isIface prog 207=some false:=kR
theorem JG:Program.concrete prog 207=true:=kR
theorem JH:tf prog 207 0=some (0,1,false):=kR
theorem JI:tf prog 207 1=some (1,1,false):=kR
theorem JJ:ts prog 209=some 2:=kR
theorem JK:ta prog 209=some true:=kR
theorem JL:rF prog 209=some (.agg #[Value.int IntKind.i64 0,Value.nilIface]):=kR
theorem JM:tz prog 209=some [Value.int IntKind.i64 0,Value.nilIface]:=kR
theorem JN:rD prog 209=some [(0,1),(1,1)]:=kR
theorem JO:isIface prog 209=some false:=kR
theorem JP:Program.concrete prog 209=true:=kR
theorem JQ:tf prog 209 0=some (0,1,false):=kR
theorem JR:tf prog 209 1=some (1,1,false):=kR
theorem JS:ts prog 210=some 1:=kR
theorem JT:ta prog 210=some false:=kR
theorem DB:ts prog 212=some 3:=kR
theorem DC:ta prog 212=some true:=kR
theorem DD:rF prog 212=some (.agg #[Value.int IntKind.i64 0,Value.string { data:=#[] },Value.nilIface]):=kR
theorem DE:tz prog 212=some [Value.int IntKind.i64 0,Value.string { data:=#[] },Value.nilIface]:=kR
theorem DF:rD prog 212=some [(0,1),(1,1),(2,1)]:=kR
theorem DG:isIface prog 212=some false:=kR
theorem DH:Program.concrete prog 212=true:=kR
theorem DI:tf prog 212 0=some (0,1,false):=kR
theorem DJ:tf prog 212 1=some (1,1,false):=kR
theorem DK:tf prog 212 2=some (2,1,false):=kR
theorem DL:ts prog 215=some 4:=kR
theorem DM:ta prog 215=some true:=kR
theorem DN:rF prog 215=some (.agg #[Value.int IntKind.i64 0,Value.string { data:=#[] },Value.nilIface,Value.nilIface]):=kR
theorem DO:tz prog 215=some [Value.int IntKind.i64 0,Value.string { data:=#[] },Value.nilIface,Value.nilIface]:=kR
theorem DP:rD prog 215=some [(0,1),(1,1),(2,1),(3,1)]:=kR
theorem DQ:isIface prog 215=some false:=kR
theorem DR:Program.concrete prog 215=true:=kR
theorem DS:tf prog 215 0=some (0,1,false):=kR
theorem DT:tf prog 215 1=some (1,1,false):=kR
theorem DU:tf prog 215 2=some (2,1,false):=kR
theorem DV:tf prog 215 3=some (3,1,false):=kR
theorem RH:ts prog 217=some 1:=kR
theorem RJ:ta prog 217=some false:=kR
theorem RM:tz prog 217=some [Value.slice none 0 0]:=kR
theorem RN:Program.underlying prog 217=some (.slice 77):=kR
theorem zh:ts prog 219=some 3:=kR
theorem zi:ta prog 219=some true:=kR
theorem zj:rF prog 219=some (.agg #[Value.int IntKind.i64 0,Value.string { data:=#[] },Value.slice none 0 0]):=kR
theorem zk:tz prog 219=some [Value.int IntKind.i64 0,Value.string { data:=#[] },Value.slice none 0 0]:=kR
theorem zl:rD prog 219=some [(0,1),(1,1),(2,1)]:=kR
theorem zm:isIface prog 219=some false:=kR
theorem zp:Program.concrete prog 219=true:=kR
theorem zq:tf prog 219 0=some (0,1,false):=kR
theorem zr:tf prog 219 1=some (1,1,false):=kR
theorem zt:tf prog 219 2=some (2,1,false):=kR
theorem sO:ts prog 221=some 1:=kR
theorem sP:ta prog 221=some false:=kR
theorem sQ:tz prog 221=some [Value.pointer none]:=kR
theorem sR:je prog 221=some true:=kR
theorem sS:Program.underlying prog 221=some (.pointer 223):=kR
theorem sT:ts prog 223=some 6:=kR
theorem sU:ta prog 223=some true:=kR
theorem sV:tz prog 223=some [Value.string { data:=#[] },Value.int IntKind.i64 0,Value.slice none 0 0,Value.int IntKind.i64 0,Value.int IntKind.i64 0,Value.string { data:=#[] }]:=kR
theorem sW:rD prog 223=some [(0,1),(1,1),(2,1),(3,3)]:=kR
theorem sX:tf prog 223 0=some (0,1,false):=kR
theorem sY:tf prog 223 1=some (1,1,false):=kR
theorem sZ:tf prog 223 2=some (2,1,false):=kR
theorem s5:tf prog 223 3=some (3,3,true):=kR
theorem qU:ts prog 225=some 3:=kR
theorem qV:ta prog 225=some true:=kR
theorem qW:xq prog 225=some 32:=kR
theorem qX:tz prog 225=some [Value.int IntKind.i64 0,Value.int IntKind.i64 0,Value.string { data:=#[] }]:=kR
theorem qY:rD prog 225=some [(0,1),(1,1),(2,1)]:=kR
theorem qZ:tf prog 225 0=some (0,1,false):=kR
theorem q7:tf prog 225 1=some (1,1,false):=kR
theorem q8:tf prog 225 2=some (2,1,false):=kR
theorem RQ:ts prog 276=some 1:=kR
theorem RR:ta prog 276=some false:=kR
theorem alO:ts prog 287=some 1:=kR
theorem alP:ta prog 287=some false:=kR
theorem alQ:tz prog 287=some [Value.map none]:=kR
theorem acJ:ts prog 288=some 5:=kR
theorem acK:ta prog 288=some true:=kR
theorem acL:tz prog 288=some [Value.string { data:=#[] },Value.string { data:=#[] },Value.string { data:=#[] },Value.string { data:=#[] },Value.string { data:=#[] }]:=kR
theorem acM:Program.underlying prog 288=some (.array 5 9):=kR
theorem acN:ts prog 289=some 1:=kR
theorem acO:ta prog 289=some false:=kR
theorem acP:ts prog 290=some 1:=kR
theorem acQ:ta prog 290=some false:=kR
theorem acR:tz prog 290=some [Value.pointer none]:=kR
theorem acS:je prog 290=some true:=kR
theorem acT:Program.underlying prog 290=some (.pointer 293):=kR
theorem acU:ts prog 291=some 1:=kR
theorem acV:ta prog 291=some false:=kR
theorem acW:tz prog 291=some [Value.slice none 0 0]:=kR
theorem acX:Program.underlying prog 291=some (.slice 54):=kR
theorem acY:ts prog 293=some 5:=kR
theorem acZ:ta prog 293=some true:=kR
theorem ac0:tz prog 293=some [Value.int IntKind.i64 0,Value.string { data:=#[] },Value.slice none 0 0,Value.slice none 0 0,Value.int IntKind.i64 0]:=kR
theorem ac1:rD prog 293=some [(0,3),(3,1),(4,1)]:=kR
theorem ac2:tf prog 293 0=some (0,3,true):=kR
theorem ac3:tf prog 293 1=some (3,1,false):=kR
theorem ac4:tf prog 293 2=some (4,1,false):=kR
theorem alR:ts prog 325=some 1:=kR
theorem alS:ta prog 325=some false:=kR
end
section
open Go.RowKit Go.LE Go.Proofs.Tryz
set_option maxRecDepth 10000
theorem L7(s:ByteArray)(i:Nat):∀ n k o,(nB s i n k o).2.2.1=0->k<(nB s i n k o).2.1/\(nB s i n k o).2.1<=s.size
 |0,k,o,h=>by simp[nB]at h
 | n+1,k,o,h=>by
  have ih:=L7 s i n;rw[nB]at h ⊢;by_cases hk:k<s.size
  ·rw[if_pos hk]at h ⊢;by_cases h1:bt s (k:Nat)=34
   ·rw[if_pos h1];exact⟨Nat.lt_succ_self _,hk⟩
   rw[if_neg h1]at h ⊢;by_cases h2:ry (bt s (k:Nat))=false
   ·rw[if_pos h2]at h;simp at h
   rw[if_neg h2]at h ⊢;by_cases h3:¬ bt s (k:Nat)=92
   ·rw[if_pos h3]at h ⊢;have:=ih _ _ h;omega
   rw[if_neg h3]at h ⊢;by_cases h4:¬ k+1<s.size
   ·rw[if_pos h4]at h;simp at h
   rw[if_neg h4]at h ⊢;by_cases q0:bt s ((k+1:Nat):Int)=110
   ·rw[if_pos q0]at h ⊢;have:=ih _ _ h;omega
   rw[if_neg q0]at h ⊢;by_cases q1:bt s ((k+1:Nat):Int)=114
   ·rw[if_pos q1]at h ⊢;have:=ih _ _ h;omega
   rw[if_neg q1]at h ⊢;by_cases q2:bt s ((k+1:Nat):Int)=116
   ·rw[if_pos q2]at h ⊢;have:=ih _ _ h;omega
   rw[if_neg q2]at h ⊢;by_cases q3:bt s ((k+1:Nat):Int)=34\/bt s ((k+1:Nat):Int)=92
   ·rw[if_pos q3]at h ⊢;have:=ih _ _ h;omega
   rw[if_neg q3]at h ⊢;by_cases h5:bt s ((k+1:Nat):Int)=120
   ·rw[if_pos h5]at h ⊢;by_cases h6:¬ k+2<s.size
    ·rw[if_pos h6]at h;simp at h
    rw[if_neg h6]at h ⊢;by_cases h7:iw (bt s ((k+2:Nat):Int))<0
    ·rw[if_pos h7]at h;simp at h
    rw[if_neg h7]at h ⊢;by_cases h8:¬ k+3<s.size
    ·rw[if_pos h8]at h;simp at h
    rw[if_neg h8]at h ⊢;by_cases h9:iw (bt s ((k+3:Nat):Int))<0
    ·rw[if_pos h9]at h;simp at h
    rw[if_neg h9]at h ⊢;have:=ih _ _ h;omega
   ·rw[if_neg h5]at h;simp at h
  ·rw[if_neg hk]at h;simp at h
theorem Mj(s:ByteArray)(i:Nat):∀ n k,(pJ s i n k).2.2.1=0->k<(pJ s i n k).2.1/\(pJ s i n k).2.1<=s.size
 |0,k,h=>by simp[pJ]at h
 | n+1,k,h=>by
  have ih:=Mj s i n;rw[pJ]at h ⊢
  repeat' (split at h<;>rename_i hh<;>(first|rw[if_pos hh]|rw[if_neg hh]))
  all_goals first
   |(exfalso;simp at h;done)
   |(have:=ih _ h;omega)
   |exact⟨Nat.lt_succ_self _,by dsimp only;omega⟩
theorem aaO(s:ByteArray):∀ n k,k<=Lz s n k/\Lz s n k<=k+n
 |0,k=>⟨Nat.le_refl _,Nat.le_refl _⟩
 |n+1,k=>by
  have:=aaO s n (k+1);rw[Lz];split
  ·split<;>omega
  ·omega
theorem Pz{s:ByteArray}{i:Nat}(hi:i<s.size):i<uU s i/\uU s i<=s.size:=by
 have:=aaO s (s.size-(i+1)) (i+1);unfold uU;omega
theorem tZ{s:ByteArray}{i:Nat}(hi:i<s.size)(h:(bS s i).2.2.1=0):i<(bS s i).2.1/\(bS s i).2.1<=s.size:=by
 have hn:=Pz hi;unfold bS at h ⊢
 repeat' (split at h<;>rename_i hh<;>(first|rw[if_pos hh]|rw[if_neg hh]))
 all_goals first
  |(exfalso;simp at h;done)
  |(have:=L7 s i _ _ _ h;simp only[Ai];omega)
  |(have:=Mj s i _ _ h;simp only[AH];omega)
  |(simp only;omega)
def x5(l:List Tk):List Value:=l.flatMap λt=>[.int .i64 t.1,.int .i64 (t.2.1:Nat),.string t.2.2]
end
end Go.Proofs.YtnemkecffmdlnaaGreatDoor
namespace Go.Proofs
section
open Go.Shelf
end
end Go.Proofs
namespace Go.Proofs.YtnemkecffmdlnaaGreatDoor
section
open Go.RowKit Go.LE Go.Proofs.Tryz
set_option maxRecDepth 10000
def Bg(W:World)(S:Nat->Prop):Prop:=(S 1/\∃ m:Int,W.cell? ⟨1,0,none⟩=some (.int .i64 m))/\(S 5/\∃ t v,W.cell? ⟨5,0,none⟩=some (.iface t v))/\S 6/\∃ t v,W.cell? ⟨6,0,none⟩=some (.iface t v)
theorem Bg.mono{W W' : World}{S S' : Nat->Prop}(h:Bg W S)(hs:aX W S W' S'):Bg W' S' := by
 obtain⟨⟨a,m,ha⟩,⟨b,t,v,hb⟩,c,t',v',hc⟩:=h;have g:∀ b o v,S b->W.cell? ⟨b,o,none⟩=some v->W'.cell? ⟨b,o,none⟩=some v/\S' b:=λb o v hS hv=>by
  have:=XC.mono (b:=b) (o:=o) (v:=v) ⟨hS,hv⟩ hs;exact⟨this.2,this.1⟩
 exact⟨⟨(g _ _ _ a ha).2,m,(g _ _ _ a ha).1⟩,⟨(g _ _ _ b hb).2,t,v,(g _ _ _ b hb).1⟩,(g _ _ _ c hc).2,t',v',(g _ _ _ c hc).1⟩
theorem Bg.gh{W w:World}{bs fp:List Nat}(h:Bg W (Out bs))(hk:LE.an W bs w)(hm:∀ b∈fp,W.heap.size<=b\/b∈bs):Bg w (Out fp):=
 h.mono λb hb hs=>⟨hk.block b hb hs,λhb' => (hm b hb').elim (λg=>absurd g (Nat.not_le.2 hb)) hs⟩
section
variable (s:ByteArray)(v:Int)(h:Lib.atoiAll s.data.toList=.ok v)(hs:s.size<=9)
end
theorem PgX.mono{p:Pg}{W W' : World}{S S' : Nat->Prop}{a1 a2 a3:Option Addr}(h:PgX p W S a1 a2 a3)(hs:aX W S W' S'):PgX p W' S' a1 a2 a3:=⟨h.1.mono hs,h.2.1.mono hs,h.2.2.mono hs⟩
theorem PgX.is{p:Pg}{w:World}{S:Nat->Prop}{a1 a2 a3:Option Addr}(h:PgX p w S a1 a2 a3)(hb:PgB p):aeq p w a1 a2 a3:=⟨hb,h.1.is,h.2.1.is,h.2.2.is⟩
section
variable (p:Pg)(a1 a2 a3:Option Addr)(c1 c2 c3:Nat)(hb:PgB p)(hn:p.ty.length<=1048576/\p.tx.length<=1048576/\p.co.length<=1048576)
end
section
variable (W:World)(bs:List Nat)(n op k a b:Int)
end
section
variable (p:Pg)(a1 a2 a3:Option Addr)(c1 c2 c3:Nat)(hz:PgZ p)(hs:PgS p)
end
structure Rd where
 ty:List ByteArray
 tx:List ByteArray
 co:List (Int×Int×Int×Int)
 src:Int
 vw:Int
 pl:Nat
end
end Go.Proofs.YtnemkecffmdlnaaGreatDoor
namespace Go.Proofs
section
open Go.Shelf
def Tryz.Ld:Go.Shelf.Ren:=⟨λ| 137=>138|217=>189|266=>231|n=>n,λ| 9=>9|5=>5|3=>3|n=>n,λ| n=>n⟩
theorem Tryz.afG:Go.Proofs.Lays.n137 Tryz.prog Tryz.Ld:={
 mixed:=by kernel_rfl
 f137:=Tryz.func138.trans (congrArg some (by kernel_rfl))
 f217:=Tryz.func189.trans (congrArg some (by kernel_rfl))
 f266:=Tryz.func231.trans (congrArg some (by kernel_rfl))
 t3:=Tryz.underlying3
 a3:=Tryz.isAgg3
 z3:=Tryz.sizeOf3
 v3:=Tryz.zeroValue3
 t5:=Tryz.underlying5
 a5:=Tryz.isAgg5
 z5:=Tryz.sizeOf5
 v5:=Tryz.zeroValue5
 t9:=Tryz.underlying9
 a9:=Tryz.isAgg9
 z9:=Tryz.sizeOf9
 v9:=Tryz.zeroValue9 }
end
end Go.Proofs
namespace Go.Proofs.YtnemkecffmdlnaaGreatDoor
section
open Go.RowKit Go.LE Go.Proofs.Tryz
set_option maxRecDepth 10000
theorem afw(s:ByteArray)(c:Int)(w:World):Calls prog 138 #[.string s,.int .u8 c] w λe w' => e=.returned (.int .i64 (Lib.indexByte s.data.toList c.toNat.toUInt8))/\LE.an w [] w' :=
 (Any.strings_IndexByte Tryz.afG s c w).mono λe w' ⟨he,hw⟩=>⟨he,by rw[hw];exact LE.an.refl w []⟩
def Vh:a8 prog 138 where
 pre:=λW bs=>λ| [.val (.string s),.val (.int .u8 c)]=>True|_=>False
 res:=λW=>λ| [.val (.string s),.val (.int .u8 c)]=>.int .i64 (Lib.indexByte s.data.toList c.toNat.toUInt8)|_=>undef
 enters:=call138
 ok:=by
  intro W w bs us as_ hk hu hp;split at hp
  ·rename_i s c
   match us,hu with
   |[u0,u1],hu=>
    obtain⟨rfl,rfl,_⟩:=hu;exact afw s c w
  ·exact hp.elim
theorem K7(W:World)(s:ByteArray)(c:Int):Vh.res W [.val (.string s),.val (.int .u8 c)]=.int .i64 (Lib.indexByte s.data.toList c.toNat.toUInt8):=rfl
theorem K6(W:World)(bs:List Nat)(s:ByteArray)(c:Int):Vh.pre W bs [.val (.string s),.val (.int .u8 c)]=(True):=rfl
def ER:=(ae @List.replicate_succ.{0} @List.replicate_zero.{0} @au @ab lx ly Tr (ae Tw TS lA di dj dk dm (ae dB dD dF dG mZ nc nf (ae ng nh eK eL eM eN eO (ae eP oH oI oJ oK vn vt (ae vu vv vz vA vB vC vD (ae vE Jd Je Jf Jg sO sP (ae sQ sR sS sT sU sV sW (ae sX sY sZ s5 qU qV qW (ae qX qY qZ q7 q8 @aV @aw (aa @aD @aF)))))))))))
theorem MU(c:Int)(w:World):Calls prog 163 #[.int .u8 c] w λe w' => e=.returned (.bool (uS c))/\an w [] w' := by
 refine ak (nt:=21) [.tmp 2] func163 rfl rfl rfl ?_;refine vR Γ0 ER ?_;refine vR Γ0 ER ?_;refine wZ ER ?_;exact λE=>rfl
theorem Q7(c:Int)(w:World):Calls prog 164 #[.int .u8 c] w λe w' => e=.returned (.bool (UN c))/\an w [] w' := by
 refine ak (nt:=9) [.tmp 2] func164 rfl rfl rfl ?_;refine vR Γ0 ER ?_;refine vR Γ0 ER ?_;refine wZ ER ?_;exact λE=>rfl
theorem Rc(c:Int)(w:World):Calls prog 210 #[.int .u8 c] w λe w' => e=.returned (.bool (ry c))/\an w [] w' := by
 refine ak (nt:=9) [.tmp 2] func210 rfl rfl rfl ?_;refine vR Γ0 ER ?_;refine vR Γ0 ER ?_;refine wZ ER ?_;exact λE=>rfl
def xu:a8 prog 163 where
 pre:=λW bs=>λ| [.val (.int .u8 c)]=>True|_=>False
 res:=λW=>λ| [.val (.int .u8 c)]=>.bool (uS c)|_=>undef
 enters:=call163
 ok:=by
  intro W w bs us as_ hk hu hp;split at hp
  ·rename_i c
   match us,hu with
   |[u0],hu=>
    obtain⟨rfl,_⟩:=hu;exact MU c w
  ·exact hp.elim
theorem xw(W:World)(c:Int):xu.res W [.val (.int .u8 c)]=.bool (uS c):=rfl
theorem xv(W:World)(bs:List Nat)(c:Int):xu.pre W bs [.val (.int .u8 c)]=(True):=rfl
def Bc:a8 prog 164 where
 pre:=λW bs=>λ| [.val (.int .u8 c)]=>True|_=>False
 res:=λW=>λ| [.val (.int .u8 c)]=>.bool (UN c)|_=>undef
 enters:=call164
 ok:=by
  intro W w bs us as_ hk hu hp;split at hp
  ·rename_i c
   match us,hu with
   |[u0],hu=>
    obtain⟨rfl,_⟩:=hu;exact Q7 c w
  ·exact hp.elim
theorem Ao(W:World)(c:Int):Bc.res W [.val (.int .u8 c)]=.bool (UN c):=rfl
theorem An(W:World)(bs:List Nat)(c:Int):Bc.pre W bs [.val (.int .u8 c)]=(True):=rfl
def Bd:a8 prog 210 where
 pre:=λW bs=>λ| [.val (.int .u8 c)]=>True|_=>False
 res:=λW=>λ| [.val (.int .u8 c)]=>.bool (ry c)|_=>undef
 enters:=call210
 ok:=by
  intro W w bs us as_ hk hu hp;split at hp
  ·rename_i c
   match us,hu with
   |[u0],hu=>
    obtain⟨rfl,_⟩:=hu;exact Rc c w
  ·exact hp.elim
theorem sN(W:World)(c:Int):Bd.res W [.val (.int .u8 c)]=.bool (ry c):=rfl
theorem sM(W:World)(bs:List Nat)(c:Int):Bd.pre W bs [.val (.int .u8 c)]=(True):=rfl
def tG(s:ByteArray)(i:Int)(d:Nat)(op:List Value)(c a:Int)(t:ByteArray):List AV:=[.val (.string s),.val (.int .i64 i),.row 225 3 d op,.val (.int .i64 c),.val (.int .i64 a),.val (.string t)]
def tF(s:ByteArray)(i:Nat)(l:List Tk)(c a:Int):List AV:=tG s (i:Nat) l.length (x5 l) c a ⟨#[]⟩
theorem acm{w:World}{u:Value}{fp:List Nat}{s:ByteArray}{i:Int}{d:Nat}{op:List Value}{c a:Int}{t:ByteArray}(h:aY w u fp 223 (tG s i d op c a t)) :
  ∃ b,u=.pointer (some ⟨b,0,none⟩)/\w.cell? ⟨b,0,none⟩=some (.string s)/\w.cell? ⟨b,0+1,none⟩=some (.int .i64 i):=by
 obtain⟨b,us,h1,h2,h3⟩:=yJ h
 match us,h2 with
 |[x,y,z,x',y',z'],h2=>
  obtain⟨rfl,rfl,_⟩:=h2;exact⟨b,h1,h3 0 sI,h3 1 sI⟩
def aeE:=(ae ER @xw @xv @Ao @An @sN @sM (aa @tG.eq_1 @tF.eq_1))
theorem Q8(s:ByteArray)(i:Int)(b:Nat)(w:World)(g1:w.cell? ⟨b,0,none⟩=some (.string s))(g2:w.cell? ⟨b,0+1,none⟩=some (.int .i64 i)) :
  Calls prog 107 #[.pointer (some ⟨b,0,none⟩)] w λe w' => e=.returned (.bool (decide ((s.size:Int)<=i)))/\an w [] w' := by
 refine ak (nt:=13) [.tmp 2] func107 rfl rfl rfl ?_;refine vR Γ0 aeE ?_;refine zv Γ0 (bp aeE g1 g2) ?_;refine wZ aeE ?_;exact λE=>rfl
def hY:zD prog 107 where
 T:=223
 pre:=λW bs fs as_=>match fs,as_ with|[.val (.string s),.val (.int .i64 i),.row 225 3 d op,.val (.int .i64 c),.val (.int .i64 a),.val (.string t)],[]=>True|_,_=>False
 res:=λW fs as_=>match fs,as_ with|[.val (.string s),.val (.int .i64 i),.row 225 3 d op,.val (.int .i64 c),.val (.int .i64 a),.val (.string t)],[]=>.bool (decide ((s.size:Int)<=i))|_,_=>undef
 enters:=call107
 ok:=by
  intro W w bs u fp us fs as_ hk ho hu hp;split at hp
  ·rename_i s i d op c a t
   match us,hu with
   |[],_=>
    obtain⟨b,rfl,g1,g2⟩:=acm ho;exact Q8 s i b w g1 g2
  ·exact hp.elim
theorem gL(W:World)(s:ByteArray)(i:Int)(d:Nat)(op:List Value)(c:Int)(a:Int)(t:ByteArray):hY.res W [.val (.string s),.val (.int .i64 i),.row 225 3 d op,.val (.int .i64 c),.val (.int .i64 a),.val (.string t)] []=.bool (decide ((s.size:Int)<=i)):=rfl
theorem gK(W:World)(bs:List Nat)(s:ByteArray)(i:Int)(d:Nat)(op:List Value)(c:Int)(a:Int)(t:ByteArray):hY.pre W bs [.val (.string s),.val (.int .i64 i),.row 225 3 d op,.val (.int .i64 c),.val (.int .i64 a),.val (.string t)] []=(True):=rfl
theorem kG:hY.T=223:=rfl
def Ur:=(fg aeE @gL @gK @kG)
theorem XB(s:ByteArray)(i:Int)(d:Nat)(op:List Value)(c a:Int)(t:ByteArray)(e j:Int)(u:Value)(fp:List Nat)(w:World)(ho:aY w u fp 223 (tG s i d op c a t))(hlt:∀ b∈fp,b<w.heap.size) :
  Calls prog 165 (#[u]++#[.int .i64 e,.int .i64 j]) w λx w' => dN w u fp 223 x w' (.ret (.bool false) (tG s i d op e j ⟨#[]⟩)):=by
 refine aO (nt:=13) #[.int .i64 e,.int .i64 j] [.tmp 6] (by show 6<=7;omega) ho hlt func165 rfl rfl rfl ?_;refine vR Γ0 Ur ?_;refine vR Γ0 Ur ?_;refine vR Γ0 Ur ?_;refine wZ Ur ?_;exact⟨_,_,rfl,λE=>rfl,_,_,rfl,(ev (aa Ur @aq)),dE⟩
def u6:bP prog 165 where
 T:=223
 pre:=λW bs fs as_=>match fs,as_ with|[.val (.string s),.val (.int .i64 i),.row 225 3 d op,.val (.int .i64 c),.val (.int .i64 a),.val (.string t)],[.val (.int .i64 e),.val (.int .i64 j)]=>True|_,_=>False
 out:=λW fs as_=>match fs,as_ with|[.val (.string s),.val (.int .i64 i),.row 225 3 d op,.val (.int .i64 c),.val (.int .i64 a),.val (.string t)],[.val (.int .i64 e),.val (.int .i64 j)]=>.ret (.bool false) (tG s i d op e j ⟨#[]⟩)|_,_=>.pan [] undef
 enters:=call165
 ok:=by
  intro W w bs u fp us fs as_ hk ho hlt hmine hu hp;split at hp
  ·rename_i s i d op c a t e j
   match us,hu with
   |[u0,u1],hu=>
    obtain⟨rfl,rfl,_⟩:=hu;exact XB s i d op c a t e j u fp w ho hlt
  ·exact hp.elim
theorem ql(W:World)(s:ByteArray)(i:Int)(d:Nat)(op:List Value)(c:Int)(a:Int)(t:ByteArray)(e:Int)(j:Int):u6.out W [.val (.string s),.val (.int .i64 i),.row 225 3 d op,.val (.int .i64 c),.val (.int .i64 a),.val (.string t)] [.val (.int .i64 e),.val (.int .i64 j)]=.ret (.bool false) (tG s i d op e j ⟨#[]⟩):=rfl
theorem qm(W:World)(bs:List Nat)(s:ByteArray)(i:Int)(d:Nat)(op:List Value)(c:Int)(a:Int)(t:ByteArray)(e:Int)(j:Int):u6.pre W bs [.val (.string s),.val (.int .i64 i),.row 225 3 d op,.val (.int .i64 c),.val (.int .i64 a),.val (.string t)] [.val (.int .i64 e),.val (.int .i64 j)]=(True):=rfl
theorem xr:u6.T=223:=rfl
def YK:=(fg Ur @ql @qm @xr)
theorem acn(s:ByteArray)(i:Int)(d:Nat)(op:List Value)(c a:Int)(t:ByteArray)(k j:Int)(x:ByteArray)(u:Value)(fp:List Nat)(w:World)(hd:op.length=d*3)(hd2:d<=1000000)(ho:aY w u fp 223 (tG s i d op c a t))(hlt:∀ b∈fp,b<w.heap.size) :
  Calls prog 109 (#[u]++#[.int .i64 k,.int .i64 j,.string x]) w λy w' => dN w u fp 223 y w' (.ret (.bool true) (tG s i (d+1) (op++[.int .i64 k,.int .i64 j,.string x]) c a t)):=by
 have hop:op.map SV.v++[.v (.int .i64 k),.v (.int .i64 j),.v (.string x)]=(op++([.int .i64 k,.int .i64 j,.string x]:List Value)).map SV.v:=by simp
 refine aO (nt:=22) #[.int .i64 k,.int .i64 j,.string x] [.tmp 8] (by show 6<=7;omega) ho hlt func109 rfl rfl rfl ?_;refine vR Γ0 YK ?_;refine wR Γ0 YK ?_ ?_
 ·exact⟨by unfold maxLen;omega,oM⟩
 refine vR Γ0 YK ?_;refine wZ (aa YK hop) ?_;exact⟨_,_,rfl,λE=>rfl,_,_,rfl,(ev (aa YK @aq)),dE⟩
def xp:bP prog 109 where
 T:=223
 pre:=λW bs fs as_=>match fs,as_ with|[.val (.string s),.val (.int .i64 i),.row 225 3 d op,.val (.int .i64 c),.val (.int .i64 a),.val (.string t)],[.val (.int .i64 k),.val (.int .i64 j),.val (.string x)]=>op.length=d*3/\d<=1000000|_,_=>False
 out:=λW fs as_=>match fs,as_ with|[.val (.string s),.val (.int .i64 i),.row 225 3 d op,.val (.int .i64 c),.val (.int .i64 a),.val (.string t)],[.val (.int .i64 k),.val (.int .i64 j),.val (.string x)]=>.ret (.bool true) (tG s i (d+1) (op++[.int .i64 k,.int .i64 j,.string x]) c a t)|_,_=>.pan [] undef
 enters:=call109
 ok:=by
  intro W w bs u fp us fs as_ hk ho hlt hmine hu hp;split at hp
  ·rename_i s i d op c a t k j x
   match us,hu with
   |[u0,u1,u2],hu=>
    obtain⟨rfl,rfl,rfl,_⟩:=hu;exact acn s i d op c a t k j x u fp w hp.1 hp.2 ho hlt
  ·exact hp.elim
theorem tX(W:World)(s:ByteArray)(i:Int)(d:Nat)(op:List Value)(c:Int)(a:Int)(t:ByteArray)(k:Int)(j:Int)(x:ByteArray):xp.out W [.val (.string s),.val (.int .i64 i),.row 225 3 d op,.val (.int .i64 c),.val (.int .i64 a),.val (.string t)] [.val (.int .i64 k),.val (.int .i64 j),.val (.string x)]=.ret (.bool true) (tG s i (d+1) (op++[.int .i64 k,.int .i64 j,.string x]) c a t):=rfl
theorem tY(W:World)(bs:List Nat)(s:ByteArray)(i:Int)(d:Nat)(op:List Value)(c:Int)(a:Int)(t:ByteArray)(k:Int)(j:Int)(x:ByteArray):xp.pre W bs [.val (.string s),.val (.int .i64 i),.row 225 3 d op,.val (.int .i64 c),.val (.int .i64 a),.val (.string t)] [.val (.int .i64 k),.val (.int .i64 j),.val (.string x)]=(op.length=d*3/\d<=1000000):=rfl
theorem Bb:xp.T=223:=rfl
theorem xt(l:List Tk):(x5 l).length=l.length*3:=by
 induction l with
 |nil=>rfl
 |cons x r ih=>
  have e:x5 (x::r)=[.int .i64 x.1,.int .i64 (x.2.1:Nat),.string x.2.2]++x5 r:=rfl;rw[e,List.length_append,ih];simp only[List.length_cons,List.length_nil];omega
theorem MS(l:List Tk)(x:Int)(y:Nat)(z:ByteArray):x5 l++[.int .i64 x,.int .i64 (y:Nat),.string z]=x5 (l++[(x,y,z)]):=by
 unfold x5;rw[List.flatMap_append];rfl
def yg(c:Int):Bool:=((decide (c=32)||decide (c=9))||decide (c=10))||decide (c=13)
theorem agS(c:Int):Fs c false=!yg c:=by
 unfold Fs yg;generalize decide (c=32)=a1;generalize decide (c=9)=a2;generalize decide (c=10)=a3;generalize decide (c=13)=a4;cases a1<;>cases a2<;>cases a3<;>cases a4<;>rfl
theorem HD(s:ByteArray){i:Nat}(h:s.size<=i)(b:Bool):lh s (s.size-i) b i=i:=by
 rw[show s.size-i=0 by omega];rfl
theorem pc(s:ByteArray){i:Nat}(h:i<s.size)(b:Bool):lh s (s.size-i) b i=if Fs (bt s i) (o8 (bt s i) b)=true then i else lh s (s.size-(i+1)) (o8 (bt s i) b) (i+1):=by
 rw[show s.size-i=(s.size-(i+1))+1 by omega];rfl
theorem akE(s:ByteArray){i:Nat}(h:i<s.size)(hc:¬ bt s i=10):lh s (s.size-i) true i=lh s (s.size-(i+1)) true (i+1):=by
 rw[pc s h];have e:o8 (bt s i) true=true:=by
  unfold o8;rw[if_neg hc];split<;>rfl
 rw[e,if_neg (by simp[Fs])]
theorem akF(s:ByteArray){i:Nat}(h:i<s.size)(hc:bt s i=10):lh s (s.size-i) true i=lh s (s.size-i) false i:=by
 rw[pc s h,pc s h];have e:∀ b,o8 (bt s i) b=false:=λb=>by rw[o8,if_pos hc]
 rw[e,e]
theorem ZF(s:ByteArray){i:Nat}(h:i<s.size)(hc:bt s i=35):lh s (s.size-i) false i=lh s (s.size-i) true i:=by
 rw[pc s h,pc s h];have e:∀ b,o8 (bt s i) b=true:=λb=>by rw[o8,if_neg oM,if_pos hc]
 rw[e,e]
theorem U9(s:ByteArray){i:Nat}(h:i<s.size)(hc:¬ bt s i=35):lh s (s.size-i) false i=if yg (bt s i)=true then lh s (s.size-(i+1)) false (i+1) else i:=by
 rw[pc s h];have e:o8 (bt s i) false=false:=by
  simp[o8,hc]
 rw[e,agS];cases yg (bt s i)<;>rfl
noncomputable def EA:Env prog:=⟨λ| 107=>some hY.spec|_=>none,λ| _=>none,λ_ _=>none⟩
theorem adf:EA.sp 107=some hY.spec:=rfl
def jo:=(ae @List.replicate_succ.{0} @List.replicate_zero.{0} @au @ab lx ly lA (ae di dj dk dm dB dD dF (ae dG mZ nc nf ng nh eK (ae eL eM eN eO eP sO sP (ae sQ sR sS sT sU sV sW (ae sX sY sZ s5 @aV @aw @aD (EL @aF @tG.eq_1 @tF.eq_1 adf @gL @gK @kG)))))))
theorem XS(s:ByteArray)(i:Nat)(d:Nat)(op:List Value)(c a:Int)(t:ByteArray)(u:Value)(fp:List Nat)(w:World)(hi:i<=s.size)(hs:s.size<=100000000)(ho:aY w u fp 223 (tG s i d op c a t))(hlt:∀ b∈fp,b<w.heap.size) :
  Calls prog 106 (#[u]++#[]) w λx w' => dN w u fp 223 x w' (.ret (.tuple #[]) (tG s (js s i:Nat) d op c a t)):=by
 refine aO (nt:=50) #[] [] (by show 6<=7;omega) ho hlt func106 rfl rfl rfl ?_;refine Wp.block ?_
 refine Wp.loop (λk:Nat=>⟨1,eA [(0,.is (.own 0 0))],dS [(0,.cells 223 [.v (.string s),.v (.int .i64 (k:Nat)),.hd 3,.v (.int .i64 c),.v (.int .i64 a),.v (.string t)]),(3,.row 225 3 d (op.map .v))]⟩) (λk=>k<=s.size/\lh s (s.size-k) false k=js s i) (λk=>s.size-k) i ?_ ⟨hi,rfl⟩ ?_
 ·exact wM (λk=>.key k) jo
 rintro k ⟨hk,hg⟩;refine Wp.seq ?_;refine vR EA jo ?_;refine wC jo (λhc=>?_) (λhc=>?_)
 ·have hlt:k<s.size:=by
   simp at hc;omega
  have wk:IntKind.i64.wrap ((k:Int)+1)=((k+1:Nat):Int):=wW;refine wK ?_;refine Wp.block ?_;refine kT EA jo ?_ ?_
  ·omega
  refine Wp.block ?_;refine vR EA jo ?_;refine wC jo (λhc=>?_) (λhc=>?_)
  ·have h35:bt s k=35:=by simpa using hc
   rw[ZF s hlt h35]at hg;refine Wp.block ?_
   refine Wp.loop (λj:Nat=>⟨40,eA [(0,.is (.own 0 0))],dS [(0,.cells 223 [.v (.string s),.v (.int .i64 (j:Nat)),.hd 3,.v (.int .i64 c),.v (.int .i64 a),.v (.string t)]),(3,.row 225 3 d (op.map .v))]⟩) (λj=>k<=j/\j<=s.size/\(j=k->bt s k=35)/\lh s (s.size-j) true j=js s i) (λj=>s.size-j) k ?_ ⟨Nat.le_refl _,hk,λ_=>h35,hg⟩ ?_
   ·exact wM (λk=>.key k) jo
   rintro j ⟨j1,j2,j3,j4⟩;have wj:IntKind.i64.wrap ((j:Int)+1)=((j+1:Nat):Int):=wW;refine Wp.seq ?_;refine kT EA jo ?_ ?_
   ·refine⟨dE,λh=>?_⟩;simp at h;omega
   refine wC jo (λhc=>?_) (λhc=>?_)
   ·have hj:j<s.size/\¬ bt s j=10:=by
     simp at hc;exact⟨oM,hc.2⟩
    rw[akE s hj.1 hj.2]at j4;refine wK ?_;refine Wp.block ?_;refine vr EA (aa jo wj) ?_;refine⟨j+1,⟨oM,oM,λh=>by omega,j4⟩,oM,?_⟩;exact wM (λk=>.key k) jo
   ·have hj:s.size<=j\/bt s j=10:=by
     by_cases h:j<s.size
     ·right;simp at hc;exact hc h
     ·left;omega
    have hne:k<j:=by
     rcases Nat.lt_or_ge k j with h|h
     ·exact h
     ·have:j=k:=oM;subst this;rcases hj with hj|hj
      ·omega
      ·omega
    refine wE ?_;refine⟨j,⟨j2,?_⟩,oM,?_⟩
    ·rcases hj with hj|hj
     ·rw[HD s hj]at j4 ⊢;exact j4
     ·by_cases h:j<s.size
      ·rw[akF s h hj]at j4;exact j4
      ·rw[HD s oM]at j4 ⊢;exact j4
    ·exact wM (λk=>.key k) jo
  ·have h35:¬ bt s k=35:=by simpa using hc
   rw[U9 s hlt h35]at hg;clear hc;refine ig ⟨60,eA [(0,.is (.own 0 0)),(38,.is (.v (.bool (yg (bt s k)))))],dS [(0,.cells 223 [.v (.string s),.v (.int .i64 (k:Nat)),.hd 3,.v (.int .i64 c),.v (.int .i64 a),.v (.string t)]),(3,.row 225 3 d (op.map .v))]⟩ ?_ ?_
   ·generalize bt s k=z at *;skip;refine vR EA jo ?_;refine wC jo (λhc=>?_) (λhc=>?_)
    ·have h:yg z=true:=by
      simp at hc;simp[yg,hc]
     refine wK ?_;exact wM (λk=>.key k) (bp jo h hc)
    refine vR EA jo ?_;have h0:decide (z=32)=false:=hc;clear hc;refine wC jo (λhc=>?_) (λhc=>?_)
    ·have h:yg z=true:=by
      simp at hc;simp[yg,hc]
     refine wK ?_;exact wM (λk=>.key k) (bp jo h hc)
    have h1:decide (z=9)=false:=hc;clear hc;refine vR EA jo ?_;refine wC jo (λhc=>?_) (λhc=>?_)
    ·have h:yg z=true:=by
      simp at hc;simp[yg,hc]
     refine wK ?_;exact wM (λk=>.key k) (bp jo h hc)
    have h2:decide (z=10)=false:=hc;clear hc;have e:yg z=decide (z=13):=by rw[yg,h0,h1,h2];rfl
    refine vr EA jo ?_;exact wM (λk=>.key k) (aa jo e)
   refine wC jo (λhc=>?_) (λhc=>?_)
   ·rw[if_pos hc]at hg;refine vr EA (aa jo wk) ?_;refine⟨k+1,⟨oM,hg⟩,oM,?_⟩;exact wM (λk=>.key k) jo
   ·rw[if_neg (by rw[hc];simp)]at hg;rw[<- hg];refine wZ jo ?_;exact⟨_,_,rfl,λE=>rfl,_,_,rfl,(ev (aa jo @aq)),dE⟩
 ·have hk' : k=s.size:=by
   simp at hc;omega
  rw[HD s oM]at hg;rw[<- hg];refine wE ?_;refine wS jo ?_;exact⟨_,_,rfl,λE=>rfl,_,_,rfl,(ev (aa jo @aq)),dE⟩
def Dn:bP prog 106 where
 T:=223
 pre:=λW bs fs as_=>match fs,as_ with|[.val (.string s),.val (.int .i64 i),.row 225 3 d op,.val (.int .i64 c),.val (.int .i64 a),.val (.string t)],[]=>(0<=i/\i<=s.size)/\s.size<=100000000|_,_=>False
 out:=λW fs as_=>match fs,as_ with|[.val (.string s),.val (.int .i64 i),.row 225 3 d op,.val (.int .i64 c),.val (.int .i64 a),.val (.string t)],[]=>.ret (.tuple #[]) (tG s (js s i.toNat:Nat) d op c a t)|_,_=>.pan [] undef
 enters:=call106
 ok:=by
  intro W w bs u fp us fs as_ hk ho hlt hmine hu hp;split at hp
  ·rename_i s i d op c a t
   match us,hu with
   |[],_=>
    obtain⟨k,rfl⟩:=Int.eq_ofNat_of_zero_le hp.1.1;exact XS s k d op c a t u fp w oM hp.2 ho hlt
  ·exact hp.elim
theorem Rg(W:World)(s:ByteArray)(i:Int)(d:Nat)(op:List Value)(c:Int)(a:Int)(t:ByteArray):Dn.out W [.val (.string s),.val (.int .i64 i),.row 225 3 d op,.val (.int .i64 c),.val (.int .i64 a),.val (.string t)] []=.ret (.tuple #[]) (tG s (js s i.toNat:Nat) d op c a t):=rfl
theorem Rh(W:World)(bs:List Nat)(s:ByteArray)(i:Int)(d:Nat)(op:List Value)(c:Int)(a:Int)(t:ByteArray):Dn.pre W bs [.val (.string s),.val (.int .i64 i),.row 225 3 d op,.val (.int .i64 c),.val (.int .i64 a),.val (.string t)] []=((0<=i/\i<=s.size)/\s.size<=100000000):=rfl
theorem acA:Dn.T=223:=rfl
def iv(s:ByteArray)(i:Nat):Int×Bool×Nat:=
 if ¬ i+1<s.size then (0,false,i+1)
 else if bt s ((i+1:Nat):Int)=110 then (10,true,i+1)
 else if bt s ((i+1:Nat):Int)=114 then (13,true,i+1)
 else if bt s ((i+1:Nat):Int)=116 then (9,true,i+1)
 else if bt s ((i+1:Nat):Int)=34\/bt s ((i+1:Nat):Int)=92 then (bt s ((i+1:Nat):Int),true,i+1)
 else if bt s ((i+1:Nat):Int)=120 then
  if ¬ i+2<s.size then (0,false,i+2)
  else if iw (bt s ((i+2:Nat):Int))<0 then (0,false,i+2)
  else if ¬ i+3<s.size then (0,false,i+3)
  else if iw (bt s ((i+3:Nat):Int))<0 then (0,false,i+3)
  else (16*iw (bt s ((i+2:Nat):Int))+iw (bt s ((i+3:Nat):Int)),true,i+3)
 else (0,false,i+1)
theorem akP:∀ b:Fin 256,Lib.indexByte [48,49,50,51,52,53,54,55,56,57,97,98,99,100,101,102] ((b.val:Int).toNat.toUInt8)=iw ((b.val:Nat):Int):=by decide +kernel
theorem wF(c:Int):iw c<=15:=by
 unfold iw;split
 ·rename_i h;simp[UN]at h;omega
 ·split
  ·rename_i h;simp at h;omega
  ·omega
theorem akO(s:ByteArray)(j:Nat):Lib.indexByte [48,49,50,51,52,53,54,55,56,57,97,98,99,100,101,102] ((bt s (j:Nat)).toNat.toUInt8)=iw (bt s (j:Nat)):=by
 obtain⟨c0,c1⟩:=uw s j;obtain⟨b,hb⟩:=Int.eq_ofNat_of_zero_le c0;have:=akP ⟨b,oM⟩;rw[hb];exact this
def Zm(s:ByteArray)(d:Nat)(op:List Value)(c a:Int)(t:ByteArray)(q:Int×Bool×Nat):BOut:=.ret (.tuple #[.int .u8 q.1,.bool q.2.1]) (tG s (q.2.2:Nat) d op c a t)
noncomputable def ja:Env prog:=⟨λ| 107=>some hY.spec|138=>some Vh.spec|_=>none,λ| _=>none,λ_ _=>none⟩
theorem adg:ja.sp 107=some hY.spec:=rfl
theorem adh:ja.sp 138=some Vh.spec:=rfl
def cz:=(ae @List.replicate_succ.{0} @List.replicate_zero.{0} @au @ab lx ly lA (ae di dj dk dm dB dD dF (ae dG mZ nc nf ng nh eK (ae eL eM eN eO eP sO sP (ae sQ sR sS sT sU sV sW (ae sX sY sZ s5 @aV @aw @aD (ae @aF @tG.eq_1 @tF.eq_1 adg adh @gL @gK (nu @kG @K7 @K6 @akO @Zm.eq_1))))))))
theorem aco(s:ByteArray)(i:Nat)(d:Nat)(op:List Value)(c a:Int)(t:ByteArray)(u:Value)(fp:List Nat)(w:World)(hi:i<=s.size)(hs:s.size<=100000000)(ho:aY w u fp 223 (tG s i d op c a t))(hlt:∀ b∈fp,b<w.heap.size) :
  Calls prog 211 (#[u]++#[]) w λx w' => dN w u fp 223 x w' (Zm s d op c a t (iv s i)):=by
 have wi:IntKind.i64.wrap ((i:Int)+1)=((i+1:Nat):Int):=wW;refine aO (nt:=68) #[] [.tmp 2,.tmp 3] (by show 6<=7;omega) ho hlt func211 rfl rfl rfl ?_;refine vR ja cz ?_;refine vR ja (aa cz wi) ?_;refine Wp.seq ?_;refine vR ja cz ?_;refine wC cz (λhc=>?_) (λhc=>?_)
 ·have h:¬ i+1<s.size:=by
   simp at hc;omega
  have e:iv s i=(0,false,i+1):=by rw[iv,if_pos h]
  rw[e];refine vR ja cz ?_;refine wZ cz ?_;exact⟨_,_,rfl,λE=>rfl,_,_,rfl,(ev (aa cz @aq)),dE⟩
 have h:i+1<s.size:=by
  simp at hc;omega
 clear hc;refine wK ?_;refine Wp.seq ?_;refine kT ja cz ?_ ?_
 ·omega
 refine vR ja cz ?_;refine Wp.block ?_;obtain⟨z0,z1⟩:=uw s ((i+1:Nat):Int);refine vR ja cz ?_;refine wC cz (λhc=>?_) (λhc=>?_)
 ·have hz:bt s ((i+1:Nat):Int)=110:=by simpa using hc
  have e:iv s i=(10,true,i+1):=by rw[iv,if_neg oM,if_pos hz]
  rw[e];refine vR ja cz ?_;refine wZ cz ?_;exact⟨_,_,rfl,λE=>rfl,_,_,rfl,(ev (aa cz @aq)),dE⟩
 have n1:¬ bt s ((i+1:Nat):Int)=110:=by simpa using hc
 clear hc;refine vR ja cz ?_;refine wC cz (λhc=>?_) (λhc=>?_)
 ·have hz:bt s ((i+1:Nat):Int)=114:=by simpa using hc
  have e:iv s i=(13,true,i+1):=by rw[iv,if_neg oM,if_neg n1,if_pos hz]
  rw[e];refine vR ja cz ?_;refine wZ cz ?_;exact⟨_,_,rfl,λE=>rfl,_,_,rfl,(ev (aa cz @aq)),dE⟩
 have n2:¬ bt s ((i+1:Nat):Int)=114:=by simpa using hc
 clear hc;refine vR ja cz ?_;refine wC cz (λhc=>?_) (λhc=>?_)
 ·have hz:bt s ((i+1:Nat):Int)=116:=by simpa using hc
  have e:iv s i=(9,true,i+1):=by rw[iv,if_neg oM,if_neg n1,if_neg n2,if_pos hz]
  rw[e];refine vR ja cz ?_;refine wZ cz ?_;exact⟨_,_,rfl,λE=>rfl,_,_,rfl,(ev (aa cz @aq)),dE⟩
 have n3:¬ bt s ((i+1:Nat):Int)=116:=by simpa using hc
 clear hc
 refine ig ⟨60,eA [(0,.is (.own 0 0)),(4,.is (.v (.int .u8 (bt s ((i+1:Nat):Int))))),(25,.is (.v (.int .u8 (bt s ((i+1:Nat):Int))))),(32,.is (.v (.bool (decide (bt s ((i+1:Nat):Int)=34\/bt s ((i+1:Nat):Int)=92)))))],dS [(0,.cells 223 [.v (.string s),.v (.int .i64 ((i+1:Nat):Int)),.hd 3,.v (.int .i64 c),.v (.int .i64 a),.v (.string t)]),(3,.row 225 3 d (op.map .v))]⟩ ?_ ?_
 ·generalize bt s ((i+1:Nat):Int)=z at *;skip;refine vR ja cz ?_;refine wC cz (λhc=>?_) (λhc=>?_)
  ·have hz:z=34:=by simpa using hc
   have e:decide (z=34\/z=92)=true:=by simp[hz]
   refine wK ?_;exact wM (λk=>.key k) (bp cz e hc)
  ·have hz:¬ z=34:=by simpa using hc
   have e:decide (z=34\/z=92)=decide (z=92):=by simp[hz]
   refine vr ja cz ?_;exact wM (λk=>.key k) (aa cz e)
 refine wC cz (λhc=>?_) (λhc=>?_)
 ·have hz:bt s ((i+1:Nat):Int)=34\/bt s ((i+1:Nat):Int)=92:=by simpa using hc
  have e:iv s i=(bt s ((i+1:Nat):Int),true,i+1):=by rw[iv,if_neg oM,if_neg n1,if_neg n2,if_neg n3,if_pos hz]
  rw[e];refine vR ja cz ?_;refine wZ cz ?_;exact⟨_,_,rfl,λE=>rfl,_,_,rfl,(ev (aa cz @aq)),dE⟩
 have n4:¬ (bt s ((i+1:Nat):Int)=34\/bt s ((i+1:Nat):Int)=92):=by simpa using hc
 clear hc;refine vR ja cz ?_;refine wC cz (λhc=>?_) (λhc=>?_)
 rotate_left
 ·have n5:¬ bt s ((i+1:Nat):Int)=120:=by simpa using hc
  have e:iv s i=(0,false,i+1):=by rw[iv,if_neg oM,if_neg n1,if_neg n2,if_neg n3,if_neg n4,if_neg n5]
  rw[e];refine wK ?_;refine vR ja cz ?_;refine wZ cz ?_;exact⟨_,_,rfl,λE=>rfl,_,_,rfl,(ev (aa cz @aq)),dE⟩
 have hz:bt s ((i+1:Nat):Int)=120:=by simpa using hc
 have e0:iv s i=if ¬ i+2<s.size then (0,false,i+2)
  else if iw (bt s ((i+2:Nat):Int))<0 then (0,false,i+2)
  else if ¬ i+3<s.size then (0,false,i+3)
  else if iw (bt s ((i+3:Nat):Int))<0 then (0,false,i+3)
  else (16*iw (bt s ((i+2:Nat):Int))+iw (bt s ((i+3:Nat):Int)),true,i+3):=by rw[iv,if_neg oM,if_neg n1,if_neg n2,if_neg n3,if_neg n4,if_pos hz]
 clear hc;refine vR ja cz ?_;refine Wp.seq ?_;refine vR ja cz ?_;have x2:=wF (bt s ((i+2:Nat):Int));have x3:=wF (bt s ((i+3:Nat):Int));refine Wp.block ?_
 refine Wp.loop (λp:Nat×Int=>⟨100,eA [(0,.is (.own 0 0)),(5,.is (.v (.int .i64 p.2))),(38,.is (.v (.int .i64 (p.1:Nat))))],dS [(0,.cells 223 [.v (.string s),.v (.int .i64 ((i+1+p.1:Nat):Int)),.hd 3,.v (.int .i64 c),.v (.int .i64 a),.v (.string t)]),(3,.row 225 3 d (op.map .v))]⟩)
  (λp=>p.1<=2/\(p.1=0->p.2=0)/\(1<=p.1->i+2<s.size/\0<=iw (bt s ((i+2:Nat):Int)))/\(p.1=1->p.2=iw (bt s ((i+2:Nat):Int)))/\(p.1=2->i+3<s.size/\0<=iw (bt s ((i+3:Nat):Int))/\p.2=16*iw (bt s ((i+2:Nat):Int))+iw (bt s ((i+3:Nat):Int)))) (λp=>2-p.1) (0,0) ?_ ⟨dE,λ_=>rfl,λh=>absurd h dE,λh=>absurd h dE,λh=>absurd h dE⟩ ?_
 ·exact wM (λk=>.key k) cz
 rintro⟨k,v⟩ ⟨k1,k2,k3,k4,k5⟩;dsimp only at k1 k2 k3 k4 k5 ⊢;refine vR ja cz ?_;refine Wp.seq ?_;refine wC cz (λhc=>?_) (λhc=>?_)
 rotate_left
 ·have hk:k=2:=by
   simp at hc;omega
  subst hk;obtain⟨m1,m2⟩:=k3 oM;obtain⟨m3,m4,m5⟩:=k5 rfl;rw[if_neg oM,if_neg oM,if_neg oM,if_neg oM,<- m5]at e0;rw[e0];have wv:IntKind.u8.wrap v=v:=vF oM oM;refine wE ?_;refine vR ja (aa cz wv) ?_;refine wZ cz ?_;exact⟨_,_,rfl,λE=>rfl,_,_,rfl,(ev (aa cz @aq)),dE⟩
 have hk:k<2:=by
  simp at hc;omega
 clear hc;have wj:IntKind.i64.wrap (((i+1+k:Nat):Int)+1)=((i+2+k:Nat):Int):=wW;have wk:IntKind.i64.wrap ((k:Int)+1)=((k+1:Nat):Int):=wW;refine wK ?_;refine Wp.seq (Wp.block ?_);refine vR ja (aa cz wj) ?_;refine Wp.seq ?_;refine vR ja cz ?_;refine wC cz (λhc=>?_) (λhc=>?_)
 ·have hlt:¬ i+2+k<s.size:=by
   simp at hc;omega
  have e:iv s i=(0,false,i+2+k):=by
   rcases (show k=0\/k=1 by omega) with rfl|rfl
   ·rw[e0,if_pos oM]
   ·obtain⟨m1,m2⟩:=k3 oM;rw[e0,if_neg oM,if_neg oM,if_pos oM]
  rw[e];refine vR ja cz ?_;refine wZ cz ?_;exact⟨_,_,rfl,λE=>rfl,_,_,rfl,(ev (aa cz @aq)),dE⟩
 have hlt:i+2+k<s.size:=by
  simp at hc;omega
 clear hc;refine wK ?_;refine kT ja cz ?_ ?_
 ·omega
 have x4:=wF (bt s ((i+2+k:Nat):Int));have hv:0<=v/\v<=15:=by
  rcases (show k=0\/k=1 by omega) with rfl|rfl
  ·have:=k2 rfl;omega
  ·obtain⟨m1,m2⟩:=k3 oM;have:=k4 rfl;omega
 refine Wp.seq ?_;refine vR ja cz ?_;refine wC cz (λhc=>?_) (λhc=>?_)
 ·have hn:iw (bt s ((i+2+k:Nat):Int))<0:=by simpa using hc
  have e:iv s i=(0,false,i+2+k):=by
   rcases (show k=0\/k=1 by omega) with rfl|rfl
   ·rw[e0,if_neg oM,if_pos (by exact hn)]
   ·obtain⟨m1,m2⟩:=k3 oM;rw[e0,if_neg oM,if_neg oM,if_neg oM,if_pos (by exact hn)]
  rw[e];refine vR ja cz ?_;refine wZ cz ?_;exact⟨_,_,rfl,λE=>rfl,_,_,rfl,(ev (aa cz @aq)),dE⟩
 have hn:0<=iw (bt s ((i+2+k:Nat):Int)):=by
  have:=of_decide_eq_false hc;omega
 clear hc;have w1:IntKind.i64.wrap (16*v)=16*v:=ax oM oM;have w2:IntKind.i64.wrap (16*v+iw (bt s ((i+2+k:Nat):Int)))=16*v+iw (bt s ((i+2+k:Nat):Int)):=ax oM oM;refine wK ?_;refine vr ja (bp cz w1 w2) ?_;refine vr ja (aa cz wk) ?_
 refine⟨(k+1,16*v+iw (bt s ((i+2+k:Nat):Int))),⟨by dsimp only;omega,λh=>?_,λ_=>?_,λh=>?_,λh=>?_⟩,by dsimp only;omega,?_⟩
 ·dsimp only at h;omega
 ·rcases (show k=0\/k=1 by omega) with rfl|rfl
  ·exact⟨hlt,hn⟩
  ·exact k3 oM
 ·dsimp only at h ⊢;obtain rfl:k=0:=oM;rw[k2 rfl];show 16*0+_=_;simp
 ·dsimp only at h ⊢;obtain rfl:k=1:=oM;rw[k4 rfl];exact⟨hlt,hn,rfl⟩
 ·exact wM (λk=>.key k) (aa cz (show i+1+(k+1)=i+2+k by omega))
def MQ:bP prog 211 where
 T:=223
 pre:=λW bs fs as_=>match fs,as_ with|[.val (.string s),.val (.int .i64 i),.row 225 3 d op,.val (.int .i64 c),.val (.int .i64 a),.val (.string t)],[]=>(0<=i/\i<=s.size)/\s.size<=100000000|_,_=>False
 out:=λW fs as_=>match fs,as_ with|[.val (.string s),.val (.int .i64 i),.row 225 3 d op,.val (.int .i64 c),.val (.int .i64 a),.val (.string t)],[]=>Zm s d op c a t (iv s i.toNat)|_,_=>.pan [] undef
 enters:=call211
 ok:=by
  intro W w bs u fp us fs as_ hk ho hlt hmine hu hp;split at hp
  ·rename_i s i d op c a t
   match us,hu with
   |[],_=>
    obtain⟨k,rfl⟩:=Int.eq_ofNat_of_zero_le hp.1.1;exact aco s k d op c a t u fp w oM hp.2 ho hlt
  ·exact hp.elim
theorem Xz(W:World)(s:ByteArray)(i:Int)(d:Nat)(op:List Value)(c:Int)(a:Int)(t:ByteArray):MQ.out W [.val (.string s),.val (.int .i64 i),.row 225 3 d op,.val (.int .i64 c),.val (.int .i64 a),.val (.string t)] []=Zm s d op c a t (iv s i.toNat):=rfl
theorem XA(W:World)(bs:List Nat)(s:ByteArray)(i:Int)(d:Nat)(op:List Value)(c:Int)(a:Int)(t:ByteArray):MQ.pre W bs [.val (.string s),.val (.int .i64 i),.row 225 3 d op,.val (.int .i64 c),.val (.int .i64 a),.val (.string t)] []=((0<=i/\i<=s.size)/\s.size<=100000000):=rfl
theorem ag1:MQ.T=223:=rfl
theorem akz{s:ByteArray}{k:Nat}(hk:k<s.size):(k<(iv s k).2.2/\(iv s k).2.2<=s.size)/\(0<=(iv s k).1/\(iv s k).1<256):=by
 have z:=uw s ((k+1:Nat):Int);have x2:=wF (bt s ((k+2:Nat):Int));have x3:=wF (bt s ((k+3:Nat):Int));unfold iv
 repeat' split
 all_goals (refine⟨⟨?_,?_⟩,?_,?_⟩<;>dsimp only<;>omega)
theorem alp(s:ByteArray)(i n:Nat){k:Nat}(o:ByteArray)(hk:k<s.size)(h:bt s (k:Nat)=92):nB s i (n+1) k o =
  if s.size<=(iv s k).2.2 then (ju,0,51,i) else if (iv s k).2.1=false then (ju,0,50,(iv s k).2.2) else nB s i n ((iv s k).2.2+1) (o++fB [(iv s k).1]):=by
 have hp:¬ ry 92=false:=by decide
 rw[nB,if_pos hk,h,if_neg oM,if_neg hp,if_neg oM];by_cases h1:k+1<s.size
 ·rw[if_neg (show ¬ ¬ k+1<s.size by omega)];unfold iv;rw[if_neg (show ¬ ¬ k+1<s.size by omega)];generalize hz:bt s ((k+1:Nat):Int)=z at *;by_cases e1:z=110
  ·rw[if_pos e1,if_pos e1,if_neg (by dsimp only;omega),if_neg sI]
  rw[if_neg e1,if_neg e1];by_cases e2:z=114
  ·rw[if_pos e2,if_pos e2,if_neg (by dsimp only;omega),if_neg sI]
  rw[if_neg e2,if_neg e2];by_cases e3:z=116
  ·rw[if_pos e3,if_pos e3,if_neg (by dsimp only;omega),if_neg sI]
  rw[if_neg e3,if_neg e3];by_cases e4:z=34\/z=92
  ·rw[if_pos e4,if_pos e4,if_neg (by dsimp only;omega),if_neg sI]
  rw[if_neg e4,if_neg e4];by_cases e5:z=120
  ·rw[if_pos e5,if_pos e5];by_cases h2:k+2<s.size
   ·rw[if_neg (show ¬ ¬ k+2<s.size by omega),if_neg (show ¬ ¬ k+2<s.size by omega)];by_cases x2:iw (bt s ((k+2:Nat):Int))<0
    ·rw[if_pos x2,if_pos x2,if_neg (by dsimp only;omega),if_pos rfl]
    rw[if_neg x2,if_neg x2];by_cases h3:k+3<s.size
    ·rw[if_neg (show ¬ ¬ k+3<s.size by omega),if_neg (show ¬ ¬ k+3<s.size by omega)];by_cases x3:iw (bt s ((k+3:Nat):Int))<0
     ·rw[if_pos x3,if_pos x3,if_neg (by dsimp only;omega),if_pos rfl]
     rw[if_neg x3,if_neg x3,if_neg (by dsimp only;omega),if_neg sI]
    ·rw[if_pos h3,if_pos h3,if_pos (by dsimp only;omega)]
   ·rw[if_pos h2,if_pos h2,if_pos (by dsimp only;omega)]
  ·rw[if_neg e5,if_neg e5,if_neg (by dsimp only;omega),if_pos rfl]
 ·rw[if_pos h1];unfold iv;rw[if_pos h1,if_pos (by dsimp only;omega)]
def w6(s:ByteArray)(i:Nat)(kd:Int)(d:Nat)(op:List Value)(c a:Int)(t:ByteArray)(q:Pc):BOut:=
 if q.2.2.1=0 then .ret (.bool true) (tG s (q.2.1:Nat) (d+1) (op++[.int .i64 kd,.int .i64 (i:Nat),.string q.1]) c a t)
 else .ret (.bool false) (tG s (if q.2.2.1=50 then (q.2.2.2:Nat) else (s.size:Nat)) d op q.2.2.1 (q.2.2.2:Nat) ⟨#[]⟩)
noncomputable def eR:Env prog:=⟨λ| 107=>some hY.spec|109=>some xp.spec|165=>some u6.spec|210=>some Bd.spec|211=>some MQ.spec|_=>none,λ| _=>none,λ_ _=>none⟩
theorem NJ:eR.sp 107=some hY.spec:=rfl
theorem NK:eR.sp 109=some xp.spec:=rfl
theorem NL:eR.sp 165=some u6.spec:=rfl
theorem NN:eR.sp 210=some Bd.spec:=rfl
theorem NO:eR.sp 211=some MQ.spec:=rfl
def fq:=(ae @List.replicate_succ.{0} @List.replicate_zero.{0} @au @ab lx ly Tr (ae Tw TS lA di dj dk dm (ae dB dD dF dG mZ nc nf (ae ng nh eK eL eM eN eO (ae eP oH oI oJ oK acF acG (ae acH acI sO sP sQ sR sS (ae sT sU sV sW sX sY sZ (ae s5 Ny Nz @aV @aw @aD @aF (ae @tG.eq_1 @tF.eq_1 @vU @Dg @FJ @NJ @NK (ae @NL @NN @NO @gL @gK @kG @ql (ae @qm @xr @tX @tY @Bb @sN @sM (fg @Xz @XA @ag1 @Zm.eq_1))))))))))))
theorem acw(s:ByteArray)(i:Nat)(d:Nat)(op:List Value)(c a:Int)(t:ByteArray)(u:Value)(fp:List Nat)(w:World)(hi:i<s.size)(hs:s.size<=4096)(hd:op.length=d*3)(hd2:d<=1000000)(ho:aY w u fp 223 (tG s (i:Nat) d op c a t))(hlt:∀ b∈fp,b<w.heap.size) :
  Calls prog 166 (#[u]++#[]) w λx w' => dN w u fp 223 x w' (w6 s i 2 d op c a t (Ai s i)):=by
 have wi:IntKind.i64.wrap ((i:Int)+1)=((i+1:Nat):Int):=wW;refine aO (nt:=95) #[] [.tmp 2] (by show 6<=7;omega) ho hlt func166 rfl rfl rfl ?_;refine vR eR fq ?_;refine vR eR fq ?_;refine vR eR fq ?_;refine Wp.seq ?_;refine vR eR (aa fq wi) ?_;refine Wp.block ?_
 refine Wp.loop (λp:Nat×Nat×ByteArray=>⟨20,eA [(0,.is (.own 0 0)),(3,.is (.v (.int .i64 (i:Nat)))),(4,.is (.hd 19))],dS [(0,.cells 223 [.v (.string s),.v (.int .i64 (p.2.1:Nat)),.hd 3,.v (.int .i64 c),.v (.int .i64 a),.v (.string t)]),(3,.row 225 3 d (op.map .v)),(19,.row 5 1 p.2.2.size ((byteCells p.2.2).map .v))]⟩) (λp=>(i+1<=p.2.1/\p.2.1<=s.size)/\p.2.2.size<=p.2.1/\s.size<=p.2.1+p.1/\nB s i p.1 p.2.1 p.2.2=Ai s i) (λp=>p.1) (s.size-(i+1),i+1,ju) ?_ ⟨⟨Nat.le_refl _,hi⟩,Nat.zero_le _,by dsimp only;omega,rfl⟩ ?_
 ·exact wM (λk=>if k=19 then .nil else .key k) (fg fq @ju.eq_1 (show (⟨#[]⟩:ByteArray).size=0 from rfl) (show byteCells ⟨#[]⟩=[] from rfl))
 rintro⟨n,k,o⟩ ⟨⟨g0,g1⟩,g2,g3,g4⟩;dsimp only at g0 g1 g2 g3 g4 ⊢;refine Wp.seq ?_;refine vR eR fq ?_;refine wC fq (λhc=>?_) (λhc=>?_)
 rotate_left
 ·have hk:k=s.size:=by
   simp at hc;omega
  subst hk;have hq:Ai s i=(ju,0,51,i):=by
   rw[<- g4];cases n with
   |zero=>rfl
   |succ n=>rw[nB,if_neg oM]
  have hO:w6 s i 2 d op c a t (ju,0,51,i)=.ret (.bool false) (tG s (s.size:Nat) d op 51 (i:Nat) ⟨#[]⟩):=rfl;rw[hq,hO];refine wE ?_;refine wR eR fq ?_ ?_
  ·exact⟨dE,λ_ h=>h.elim⟩
  refine wZ fq ?_;exact⟨_,_,rfl,λE=>rfl,_,_,rfl,(ev (aa fq @aq)),dE⟩
 have hlt:k<s.size:=by
  simp at hc;omega
 clear hc;obtain⟨n,rfl⟩:∃ n',n=n' + 1:=⟨n-1,oM⟩;obtain⟨c0,c1⟩:=uw s k;have hq:=g4;rw[nB,if_pos hlt]at hq;have wk:IntKind.i64.wrap ((k:Int)+1)=((k+1:Nat):Int):=wW;refine wK ?_;refine Wp.seq (Wp.block ?_);refine kT eR fq ?_ ?_
 ·omega
 refine Wp.seq (Wp.block ?_);refine vR eR fq ?_;refine wC fq (λhc=>?_) (λhc=>?_)
 ·have h:bt s (k:Nat)=34:=by simpa using hc
  rw[if_pos h]at hq;have hO:w6 s i 2 d op c a t (o,k+1,0,0)=.ret (.bool true) (tG s (k+1:Nat) (d+1) (op++[.int .i64 2,.int .i64 (i:Nat),.string o]) c a t):=rfl;rw[<- hq,hO];refine vR eR (aa fq wk) ?_;refine wR eR fq ?_ ?_
  ·exact⟨B7 _,⟨hd,hd2⟩,dE,λ_ h=>h.elim⟩
  refine wZ fq ?_;exact⟨_,_,rfl,λE=>rfl,_,_,rfl,(ev (aa fq @aq)),dE⟩
 have h34:¬ bt s (k:Nat)=34:=by simpa using hc
 rw[if_neg h34]at hq;clear hc;refine vR eR fq ?_;refine wC fq (λhc=>?_) (λhc=>?_)
 ·have h:ry (bt s (k:Nat))=false:=by simpa using hc
  rw[if_pos h]at hq;have hO:w6 s i 2 d op c a t (ju,0,50,k)=.ret (.bool false) (tG s (k:Nat) d op 50 (k:Nat) ⟨#[]⟩):=rfl;rw[<- hq,hO];refine wR eR fq ?_ ?_
  ·exact⟨dE,λ_ h=>h.elim⟩
  refine wZ fq ?_;exact⟨_,_,rfl,λE=>rfl,_,_,rfl,(ev (aa fq @aq)),dE⟩
 have hp:¬ ry (bt s (k:Nat))=false:=by simpa using hc
 rw[if_neg hp]at hq;clear hc;refine vR eR fq ?_;refine wC fq (λhc=>?_) (λhc=>?_)
 ·have h:¬ bt s (k:Nat)=92:=by simpa using hc
  rw[if_pos h]at hq;have ha:=tu o [bt s (k:Nat)] (λc hc=>by rw[List.mem_singleton.1 hc];exact⟨c0,c1⟩);have hz:(o++fB [bt s (k:Nat)]).size=o.size+1:=by rw[ByteArray.size_append,dR];rfl
  simp only[List.map_cons,List.map_nil]at ha;refine wR eR (aa fq ha) ?_ ?_
  ·exact⟨by unfold maxLen;omega,oM⟩
  refine wE ?_;refine vr eR (aa fq wk) ?_;refine⟨(n,k+1,o++fB [bt s (k:Nat)]),⟨⟨by dsimp only;omega,by dsimp only;omega⟩,by dsimp only;omega,by dsimp only;omega,hq⟩,by dsimp only;omega,?_⟩;exact wM (λk=>if k=19 then .key 368 else .key k) (aa fq hz)
 have h92:bt s (k:Nat)=92:=by simpa using hc
 clear hc hq;rw[alp s i n o hlt h92]at g4;obtain⟨⟨q1,q2⟩,q3,q4⟩:=akz hlt;generalize hE:iv s k=q at *;obtain⟨b,ok,j⟩:=q;dsimp only at g4 q1 q2 q3 q4;refine wK ?_;refine wR eR (aa fq hE) ?_ ?_
 ·exact⟨⟨⟨oM,oM⟩,oM⟩,dE,λ_ h=>h.elim⟩
 refine Wp.seq ?_;refine vR eR fq ?_;refine wC fq (λhc=>?_) (λhc=>?_)
 ·have hj:j=s.size:=by
   simp at hc;omega
  subst hj;rw[if_pos (Nat.le_refl _)]at g4;have hO:w6 s i 2 d op c a t (ju,0,51,i)=.ret (.bool false) (tG s (s.size:Nat) d op 51 (i:Nat) ⟨#[]⟩):=rfl;rw[<- g4,hO];refine wR eR fq ?_ ?_
  ·exact⟨dE,λ_ h=>h.elim⟩
  refine wZ fq ?_;exact⟨_,_,rfl,λE=>rfl,_,_,rfl,(ev (aa fq @aq)),dE⟩
 have hj:¬ s.size<=j:=by
  simp at hc;omega
 rw[if_neg hj]at g4;clear hc;refine wK ?_;refine Wp.seq ?_;refine vR eR fq ?_;refine wC fq (λhc=>?_) (λhc=>?_)
 ·have hok:ok=false:=by simpa using hc
  rw[if_pos hok]at g4;have hO:w6 s i 2 d op c a t (ju,0,50,j)=.ret (.bool false) (tG s (j:Nat) d op 50 (j:Nat) ⟨#[]⟩):=rfl;rw[<- g4,hO];refine wR eR fq ?_ ?_
  ·exact⟨dE,λ_ h=>h.elim⟩
  refine wZ fq ?_;exact⟨_,_,rfl,λE=>rfl,_,_,rfl,(ev (aa fq @aq)),dE⟩
 have hok:ok=true:=by simpa using hc
 rw[if_neg (by rw[hok];simp)]at g4;clear hc;have ha:=tu o [b] (λc hc=>by rw[List.mem_singleton.1 hc];exact⟨q3,q4⟩);have hz:(o++fB [b]).size=o.size+1:=by rw[ByteArray.size_append,dR];rfl
 have wj:IntKind.i64.wrap ((j:Int)+1)=((j+1:Nat):Int):=wW;simp only[List.map_cons,List.map_nil]at ha;refine wK ?_;refine wr eR (aa fq ha) ?_ ?_
 ·exact⟨by unfold maxLen;omega,oM⟩
 refine vr eR (aa fq wj) ?_;refine⟨(n,j+1,o++fB [b]),⟨⟨by dsimp only;omega,by dsimp only;omega⟩,by dsimp only;omega,by dsimp only;omega,g4⟩,by dsimp only;omega,?_⟩;exact wM (λk=>if k=19 then .key 456 else if k=3 then .key 354 else .key k) (aa fq hz)
def MW:bP prog 166 where
 T:=223
 pre:=λW bs fs as_=>match fs,as_ with|[.val (.string s),.val (.int .i64 i),.row 225 3 d op,.val (.int .i64 c),.val (.int .i64 a),.val (.string t)],[]=>((0<=i/\i<s.size)/\s.size<=4096)/\op.length=d*3/\d<=1000000|_,_=>False
 out:=λW fs as_=>match fs,as_ with|[.val (.string s),.val (.int .i64 i),.row 225 3 d op,.val (.int .i64 c),.val (.int .i64 a),.val (.string t)],[]=>w6 s i.toNat 2 d op c a t (Ai s i.toNat)|_,_=>.pan [] undef
 enters:=call166
 ok:=by
  intro W w bs u fp us fs as_ hk ho hlt hmine hu hp;split at hp
  ·rename_i s i d op c a t
   match us,hu with
   |[],_=>
    obtain⟨k,rfl⟩:=Int.eq_ofNat_of_zero_le hp.1.1.1;exact acw s k d op c a t u fp w oM hp.1.2 hp.2.1 hp.2.2 ho hlt
  ·exact hp.elim
theorem XN(W:World)(s:ByteArray)(i:Int)(d:Nat)(op:List Value)(c:Int)(a:Int)(t:ByteArray):MW.out W [.val (.string s),.val (.int .i64 i),.row 225 3 d op,.val (.int .i64 c),.val (.int .i64 a),.val (.string t)] []=w6 s i.toNat 2 d op c a t (Ai s i.toNat):=rfl
theorem XO(W:World)(bs:List Nat)(s:ByteArray)(i:Int)(d:Nat)(op:List Value)(c:Int)(a:Int)(t:ByteArray):MW.pre W bs [.val (.string s),.val (.int .i64 i),.row 225 3 d op,.val (.int .i64 c),.val (.int .i64 a),.val (.string t)] []=(((0<=i/\i<s.size)/\s.size<=4096)/\op.length=d*3/\d<=1000000):=rfl
theorem ag4:MW.T=223:=rfl
theorem Qj(s:ByteArray)(i n:Nat){k:Nat}(h:s.size<=k):pJ s i n k=(ju,0,52,i):=by
 cases n with
 |zero=>rfl
 |succ n=>rw[pJ,if_neg oM]
def gR:=(ae @List.replicate_succ.{0} @List.replicate_zero.{0} @au @ab lx ly lA (ae di dj dk dm dB dD dF (ae dG mZ nc nf ng nh eK (ae eL eM eN eO eP oH oI (ae oJ oK sO sP sQ sR sS (ae sT sU sV sW sX sY sZ (ae s5 @aV @aw @aD @aF @tG.eq_1 @tF.eq_1 (ae @NJ @NK @NL @NN @NO @gL @gK (ae @kG @ql @qm @xr @tX @tY @Bb (aa @sN @sM))))))))))
theorem ag5(s:ByteArray)(i:Nat)(d:Nat)(op:List Value)(c a:Int)(t:ByteArray)(u:Value)(fp:List Nat)(w:World)(hi:i<s.size)(hs:s.size<=4096)(hd:op.length=d*3)(hd2:d<=1000000)(ho:aY w u fp 223 (tG s (i:Nat) d op c a t))(hlt:∀ b∈fp,b<w.heap.size) :
  Calls prog 167 (#[u]++#[]) w λx w' => dN w u fp 223 x w' (w6 s i 3 d op c a t (AH s i)):=by
 have wi:IntKind.i64.wrap ((i:Int)+1)=((i+1:Nat):Int):=wW;refine aO (nt:=112) #[] [.tmp 2] (by show 6<=7;omega) ho hlt func167 rfl rfl rfl ?_;refine vR eR gR ?_;refine vR eR gR ?_;refine Wp.seq ?_;refine vR eR (aa gR wi) ?_;refine Wp.block ?_
 refine Wp.loop (λp:Nat×Nat=>⟨20,eA [(0,.is (.own 0 0)),(3,.is (.v (.int .i64 (i:Nat))))],dS [(0,.cells 223 [.v (.string s),.v (.int .i64 (p.2:Nat)),.hd 3,.v (.int .i64 c),.v (.int .i64 a),.v (.string t)]),(3,.row 225 3 d (op.map .v))]⟩) (λp=>(i+1<=p.2/\p.2<=s.size)/\s.size<=p.2+p.1/\pJ s i p.1 p.2=AH s i) (λp=>p.1) (s.size-(i+1),i+1) ?_ ⟨⟨Nat.le_refl _,hi⟩,by dsimp only;omega,rfl⟩ ?_
 ·exact wM (λk=>.key k) gR
 rintro⟨n,k⟩ ⟨⟨g0,g1⟩,g3,g4⟩;dsimp only at g0 g1 g3 g4 ⊢;refine Wp.seq ?_;refine vR eR gR ?_;refine wC gR (λhc=>?_) (λhc=>?_)
 rotate_left
 ·have hk:k=s.size:=by
   simp at hc;omega
  subst hk;rw[Qj s i n (Nat.le_refl _)]at g4;have hO:w6 s i 3 d op c a t (ju,0,52,i)=.ret (.bool false) (tG s (s.size:Nat) d op 52 (i:Nat) ⟨#[]⟩):=rfl;rw[<- g4,hO];refine wE ?_;refine wR eR gR ?_ ?_
  ·exact⟨dE,λ_ h=>h.elim⟩
  refine wZ gR ?_;exact⟨_,_,rfl,λE=>rfl,_,_,rfl,(ev (aa gR @aq)),dE⟩
 have hlt:k<s.size:=by
  simp at hc;omega
 clear hc;obtain⟨n,rfl⟩:∃ n',n=n' + 1:=⟨n-1,oM⟩;obtain⟨c0,c1⟩:=uw s k;have hq:=g4;rw[pJ,if_pos hlt]at hq;have wk:IntKind.i64.wrap ((k:Int)+1)=((k+1:Nat):Int):=wW;refine wK ?_;refine Wp.seq (Wp.block ?_);refine kT eR gR ?_ ?_
 ·omega
 obtain⟨z,j,hy,hn⟩:∃ (z:Int) (j:Nat),(bt s (k:Nat)=92/\k+1<s.size->z=32/\j=k+1)/\(¬ (bt s (k:Nat)=92/\k+1<s.size)->z=bt s (k:Nat)/\j=k):=by
  by_cases h:bt s (k:Nat)=92/\k+1<s.size
  ·exact⟨32,k+1,λ_=>⟨rfl,rfl⟩,λh' => absurd h h'⟩
  ·exact⟨_,k,λh' => absurd h' h,λ_=>⟨rfl,rfl⟩⟩
 refine Be (λ_:Unit=>⟨60,eA [(0,.is (.own 0 0)),(3,.is (.v (.int .i64 (i:Nat)))),(4,.is (.v (.int .u8 z)))],dS [(0,.cells 223 [.v (.string s),.v (.int .i64 (j:Nat)),.hd 3,.v (.int .i64 c),.v (.int .i64 a),.v (.string t)]),(3,.row 225 3 d (op.map .v))]⟩) (λ_=>w) (λ_=>fp) (λ_=>(bt s (k:Nat)=92/\k+1<s.size)->¬ ry (bt s ((k+1:Nat):Int))=false) ?_ ?_
 ·skip;refine zv eR (aa gR wk) ?_;refine wC gR (λhc=>?_) (λhc=>?_)
  ·have h:bt s (k:Nat)=92/\k+1<s.size:=by
    simp at hc;exact⟨hc.1,oM⟩
   obtain⟨rfl,rfl⟩:=hy h;clear hc;refine vR eR (aa gR wk) ?_;refine vR eR gR ?_;refine kT eR gR ?_ ?_
   ·omega
   refine wC gR (λhc=>?_) (λhc=>?_)
   ·have hp:ry (bt s ((k+1:Nat):Int))=false:=by simpa using hc
    rw[h.1,if_neg dE,if_neg oM,if_pos rfl,if_pos ⟨h.2,hp⟩]at hq;have hO:w6 s i 3 d op c a t (ju,0,50,k+1)=.ret (.bool false) (tG s (k+1:Nat) d op 50 (k+1:Nat) ⟨#[]⟩):=rfl;rw[<- hq,hO];refine wR eR gR ?_ ?_
    ·exact⟨dE,λ_ h=>h.elim⟩
    refine wZ gR ?_;exact⟨_,_,rfl,λE=>rfl,_,_,rfl,(ev (aa gR @aq)),dE⟩
   have hp:¬ ry (bt s ((k+1:Nat):Int))=false:=by simpa using hc
   refine wK ?_;refine⟨(),λ_=>hp,rfl,rfl,?_⟩;exact wM (λk=>.key k) gR
  ·have h:¬ (bt s (k:Nat)=92/\k+1<s.size):=by
    intro h;simp at hc;have:=hc h.1;omega
   obtain⟨rfl,rfl⟩:=hn h;refine wK ?_;refine⟨(),λh' => absurd h' h,rfl,rfl,?_⟩;exact wM (λk=>.key k) gR
 rintro-hgood hx;have wj:IntKind.i64.wrap ((j:Int)+1)=((j+1:Nat):Int):=by
  by_cases h:bt s (k:Nat)=92/\k+1<s.size
  ·have:=(hy h).2;rw[ax oM oM];omega
  ·have:=(hn h).2;rw[ax oM oM];omega
 refine Wp.block ?_;refine vR eR gR ?_;refine wC gR (λhc=>?_) (λhc=>?_)
 ·have hp:ry z=false:=by simpa using hc
  have h:¬ (bt s (k:Nat)=92/\k+1<s.size):=λh=>by
   rw[(hy h).1]at hp;exact absurd hp dE
  obtain⟨rfl,ej⟩:=hn h;obtain rfl:=ej.symm;rw[if_pos hp]at hq;have hO:w6 s i 3 d op c a t (ju,0,50,k)=.ret (.bool false) (tG s (k:Nat) d op 50 (k:Nat) ⟨#[]⟩):=rfl;rw[<- hq,hO];refine wR eR gR ?_ ?_
  ·exact⟨dE,λ_ h=>h.elim⟩
  refine wZ gR ?_;exact⟨_,_,rfl,λE=>rfl,_,_,rfl,(ev (aa gR @aq)),dE⟩
 have hp:¬ ry z=false:=by simpa using hc
 clear hc;refine vR eR gR ?_;refine wC gR (λhc=>?_) (λhc=>?_)
 ·have hz:z=47:=by simpa using hc
  have h:¬ (bt s (k:Nat)=92/\k+1<s.size):=λh=>by
   have:=(hy h).1;omega
  obtain⟨rfl,ej⟩:=hn h;obtain rfl:=ej.symm;rw[if_neg hp,if_pos hz]at hq;have hO:w6 s i 3 d op c a t (s.extract (i+1) k,k+1,0,0)=.ret (.bool true) (tG s (k+1:Nat) (d+1) (op++[.int .i64 3,.int .i64 (i:Nat),.string (s.extract (i+1) k)]) c a t):=rfl;rw[<- hq,hO]
  have wm:IntKind.i64.wrap (((k+1:Nat):Int)-1)=((k:Nat):Int):=wW;refine vR eR (aa gR wj) ?_;refine kT eR (bp gR wi wm) ?_ ?_
  ·exact⟨⟨oM,oM,oM⟩,⟨hd,hd2⟩,dE,λ_ h=>h.elim⟩
  refine wZ gR ?_;exact⟨_,_,rfl,λE=>rfl,_,_,rfl,(ev (aa gR @aq)),dE⟩
 have hz:¬ z=47:=by simpa using hc
 clear hc;refine wK ?_;refine vr eR (aa gR wj) ?_;have hnx:(j+1<=s.size/\i+1<=j+1/\k<=j)/\pJ s i n (j+1)=AH s i:=by
  by_cases h:bt s (k:Nat)=92/\k+1<s.size
  ·obtain⟨rfl,rfl⟩:=hy h;rw[h.1,if_neg dE,if_neg oM,if_pos rfl,if_neg (λh' => hgood h h'.2)]at hq;exact⟨⟨oM,oM,oM⟩,hq⟩
  ·obtain⟨rfl,ej⟩:=hn h;obtain rfl:=ej.symm;rw[if_neg hp,if_neg hz]at hq;refine⟨⟨oM,oM,oM⟩,?_⟩;by_cases h92:bt s (k:Nat)=92
   ·have hk1:¬ k+1<s.size:=λh' => h ⟨h92,h'⟩
    rw[if_pos h92,if_neg (λh' => hk1 h'.1),Qj s i n oM]at hq;rw[Qj s i n oM];exact hq
   ·rw[if_neg h92]at hq;exact hq
 refine⟨(n,j+1),⟨⟨by dsimp only;omega,by dsimp only;omega⟩,by dsimp only;omega,hnx.2⟩,by dsimp only;omega,?_⟩;exact wM (λk=>.key k) gR
def acx:bP prog 167 where
 T:=223
 pre:=λW bs fs as_=>match fs,as_ with|[.val (.string s),.val (.int .i64 i),.row 225 3 d op,.val (.int .i64 c),.val (.int .i64 a),.val (.string t)],[]=>((0<=i/\i<s.size)/\s.size<=4096)/\op.length=d*3/\d<=1000000|_,_=>False
 out:=λW fs as_=>match fs,as_ with|[.val (.string s),.val (.int .i64 i),.row 225 3 d op,.val (.int .i64 c),.val (.int .i64 a),.val (.string t)],[]=>w6 s i.toNat 3 d op c a t (AH s i.toNat)|_,_=>.pan [] undef
 enters:=call167
 ok:=by
  intro W w bs u fp us fs as_ hk ho hlt hmine hu hp;split at hp
  ·rename_i s i d op c a t
   match us,hu with
   |[],_=>
    obtain⟨k,rfl⟩:=Int.eq_ofNat_of_zero_le hp.1.1.1;exact ag5 s k d op c a t u fp w oM hp.1.2 hp.2.1 hp.2.2 ho hlt
  ·exact hp.elim
theorem acy(W:World)(s:ByteArray)(i:Int)(d:Nat)(op:List Value)(c:Int)(a:Int)(t:ByteArray):acx.out W [.val (.string s),.val (.int .i64 i),.row 225 3 d op,.val (.int .i64 c),.val (.int .i64 a),.val (.string t)] []=w6 s i.toNat 3 d op c a t (AH s i.toNat):=rfl
theorem acz(W:World)(bs:List Nat)(s:ByteArray)(i:Int)(d:Nat)(op:List Value)(c:Int)(a:Int)(t:ByteArray):acx.pre W bs [.val (.string s),.val (.int .i64 i),.row 225 3 d op,.val (.int .i64 c),.val (.int .i64 a),.val (.string t)] []=(((0<=i/\i<s.size)/\s.size<=4096)/\op.length=d*3/\d<=1000000):=rfl
theorem alG:acx.T=223:=rfl
def L4(s p:ByteArray):Bool:=decide ((p.size:Int)<=(s.size:Nat))&&decide (s.extract 0 p.size=p)
def aeF:=(ae @List.replicate_succ.{0} @List.replicate_zero.{0} @au @ab lx ly lA (ae di dj dk dm dB dD dF (ae dG mZ nc nf ng nh eK (ae eL eM eN eO eP oH oI (ae oJ oK sO sP sQ sR sS (ae sT sU sV sW sX sY sZ (nu s5 @aV @aw @aD @aF)))))))
theorem Vi(s p:ByteArray)(w:World):Calls prog 190 #[.string s,.string p] w λe w' => e=.returned (.bool (L4 s p))/\an w [] w' := by
 refine ak (nt:=18) [.tmp 4] func190 rfl rfl rfl ?_;refine vR Γ0 aeF ?_;refine wR Γ0 aeF ?_ ?_
 ·intro h;simp at h;omega
 refine wZ aeF ?_;exact λE=>rfl
def HG:a8 prog 190 where
 pre:=λW bs=>λ| [.val (.string s),.val (.string p)]=>True|_=>False
 res:=λW=>λ| [.val (.string s),.val (.string p)]=>.bool (L4 s p)|_=>undef
 enters:=call190
 ok:=by
  intro W w bs us as_ hk hu hp;split at hp
  ·rename_i s p
   match us,hu with
   |[u0,u1],hu=>
    obtain⟨rfl,rfl,_⟩:=hu;exact Vi s p w
  ·exact hp.elim
theorem Pe(W:World)(s:ByteArray)(p:ByteArray):HG.res W [.val (.string s),.val (.string p)]=.bool (L4 s p):=rfl
theorem Pd(W:World)(bs:List Nat)(s:ByteArray)(p:ByteArray):HG.pre W bs [.val (.string s),.val (.string p)]=(True):=rfl
noncomputable def alX:Env prog:=⟨λ| 190=>some HG.spec|_=>none,λ| _=>none,λ_ _=>none⟩
theorem adi:alX.sp 190=some HG.spec:=rfl
def akl:=(fg aeF @Pe @Pd adi)
theorem ZM(s p:ByteArray)(w:World):Calls prog 168 #[.string s,.string p] w λe w' => e=.returned (.bool (L4 s p))/\an w [] w' := by
 refine ak (nt:=8) [.tmp 4] func168 rfl rfl rfl ?_;refine vR alX akl ?_;refine vR alX akl ?_;refine wZ akl ?_;exact λE=>rfl
def Sv:a8 prog 168 where
 pre:=λW bs=>λ| [.val (.string s),.val (.string p)]=>True|_=>False
 res:=λW=>λ| [.val (.string s),.val (.string p)]=>.bool (L4 s p)|_=>undef
 enters:=call168
 ok:=by
  intro W w bs us as_ hk hu hp;split at hp
  ·rename_i s p
   match us,hu with
   |[u0,u1],hu=>
    obtain⟨rfl,rfl,_⟩:=hu;exact ZM s p w
  ·exact hp.elim
theorem Vg(W:World)(s:ByteArray)(p:ByteArray):Sv.res W [.val (.string s),.val (.string p)]=.bool (L4 s p):=rfl
theorem Vf(W:World)(bs:List Nat)(s:ByteArray)(p:ByteArray):Sv.pre W bs [.val (.string s),.val (.string p)]=(True):=rfl
theorem agc(s:ByteArray){i:Nat}(hi:i<s.size):L4 (s.extract i s.size) ⟨#[62,62]⟩=decide (bt s (i:Nat)=62/\i+1<s.size/\bt s ((i+1:Nat):Int)=62):=by
 have z:(⟨#[62,62]⟩:ByteArray).size=2:=rfl;have hz:=sE s i s.size (Nat.le_refl _);have t0:bt (⟨#[62,62]⟩:ByteArray) ((0:Nat):Int)=62:=rfl;have t1:bt (⟨#[62,62]⟩:ByteArray) ((1:Nat):Int)=62:=rfl;unfold L4;rw[z,hz];by_cases h:i+1<s.size
 ·rw[decide_eq_true (show ((2:Nat):Int)<=((s.size-i:Nat):Nat) by omega),Bool.true_and,decide_eq_decide];have hz2:((s.extract i s.size).extract 0 2).size=2:=by rw[sE _ _ _ oM]
  have b0:=rK (s.extract i s.size) 0 2 0 oM oM;have b1:=rK (s.extract i s.size) 0 2 1 oM oM;have c0:=rK s i s.size 0 (Nat.le_refl _) oM;have c1:=rK s i s.size 1 (Nat.le_refl _) oM;simp only[Nat.zero_add,Nat.add_zero]at b0 b1 c0 c1;rw[c0]at b0;rw[c1]at b1;constructor
  ·intro e;rw[e]at b0 b1;exact⟨by rw[<- b0];exact t0,h,by rw[<- b1];exact t1⟩
  ·rintro⟨e0,_,e1⟩;refine Of (by rw[hz2,z]) λj hj=>?_
   rw[hz2]at hj;rcases (show j=0\/j=1 by omega) with rfl|rfl
   ·rw[b0,e0];rfl
   ·rw[b1,e1];rfl
 ·rw[decide_eq_false (show ¬ ((2:Nat):Int)<=((s.size-i:Nat):Nat) by omega),Bool.false_and]
  symm
  apply decide_eq_false;rintro⟨_,h',_⟩;exact h h'
theorem afQ:∀ b:Fin 256,decide (0<=Lib.indexByte [61,59,40,41,123,125,44,124,38,45,46,126,42,43,63] ((b.val:Int).toNat.toUInt8))=Cr ((b.val:Nat):Int):=by decide +kernel
theorem afP(s:ByteArray)(j:Nat):decide (0<=Lib.indexByte [61,59,40,41,123,125,44,124,38,45,46,126,42,43,63] ((bt s (j:Nat)).toNat.toUInt8))=Cr (bt s (j:Nat)):=by
 obtain⟨c0,c1⟩:=uw s j;obtain⟨b,hb⟩:=Int.eq_ofNat_of_zero_le c0;have:=afQ ⟨b,oM⟩;rw[hb];exact this
def jt(s:ByteArray)(i:Nat)(d:Nat)(op:List Value)(c a:Int)(t:ByteArray):BOut:=
 if uS (bt s (i:Nat))=true then
  if 32<uU s i-i then .ret (.bool false) (tG s (uU s i:Nat) d op 1 (i:Nat) ⟨#[]⟩)
  else .ret (.bool true) (tG s (uU s i:Nat) (d+1) (op++[.int .i64 1,.int .i64 (i:Nat),.string (s.extract i (uU s i))]) c a t)
 else if bt s (i:Nat)=34 then w6 s i 2 d op c a t (Ai s i)
 else if bt s (i:Nat)=47 then w6 s i 3 d op c a t (AH s i)
 else if Cr (bt s (i:Nat))=true then .ret (.bool true) (tG s (i+1:Nat) (d+1) (op++[.int .i64 4,.int .i64 (i:Nat),.string (s.extract i (i+1))]) c a t)
 else if bt s (i:Nat)=62/\i+1<s.size/\bt s ((i+1:Nat):Int)=62 then .ret (.bool true) (tG s (i+2:Nat) (d+1) (op++[.int .i64 4,.int .i64 (i:Nat),.string ⟨#[62,62]⟩]) c a t)
 else .ret (.bool false) (tG s (i:Nat) d op 50 (i:Nat) ⟨#[]⟩)
theorem af3{s:ByteArray}{i d:Nat}{op:List Value}{c a:Int}{t:ByteArray}(h:(bS s i).2.2.1=0) :
  jt s i d op c a t=.ret (.bool true) (tG s ((bS s i).2.1:Nat) (d+1) (op++[.int .i64 (bS s i).1.1,.int .i64 ((bS s i).1.2.1:Nat),.string (bS s i).1.2.2]) c a t):=by
 by_cases h0:uS (bt s (i:Nat))=true
 ·by_cases hl:32<uU s i-i
  ·have e:bS s i=((0,0,ju),0,1,i):=by unfold bS;rw[if_pos h0,if_pos hl]
   rw[e]at h ⊢;exact absurd h sI
  ·have e:bS s i=((1,i,s.extract i (uU s i)),uU s i,0,0):=by unfold bS;rw[if_pos h0,if_neg hl]
   rw[e]at h ⊢;unfold jt;rw[if_pos h0,if_neg hl]
 by_cases h1:bt s (i:Nat)=34
 ·have e:bS s i=((2,i,(Ai s i).1),(Ai s i).2.1,(Ai s i).2.2.1,(Ai s i).2.2.2):=by unfold bS;rw[if_neg h0,if_pos h1]
  rw[e]at h ⊢;have e2:jt s i d op c a t=w6 s i 2 d op c a t (Ai s i):=by unfold jt;rw[if_neg h0,if_pos h1]
  dsimp only at h;rw[e2];unfold w6;rw[if_pos h]
 by_cases h2:bt s (i:Nat)=47
 ·have e:bS s i=((3,i,(AH s i).1),(AH s i).2.1,(AH s i).2.2.1,(AH s i).2.2.2):=by unfold bS;rw[if_neg h0,if_neg h1,if_pos h2]
  rw[e]at h ⊢;have e2:jt s i d op c a t=w6 s i 3 d op c a t (AH s i):=by unfold jt;rw[if_neg h0,if_neg h1,if_pos h2]
  dsimp only at h;rw[e2];unfold w6;rw[if_pos h]
 by_cases h3:Cr (bt s (i:Nat))=true
 ·have e:bS s i=((4,i,s.extract i (i+1)),i+1,0,0):=by unfold bS;rw[if_neg h0,if_neg h1,if_neg h2,if_pos h3]
  rw[e]at h ⊢;unfold jt;rw[if_neg h0,if_neg h1,if_neg h2,if_pos h3]
 by_cases h4:bt s (i:Nat)=62/\i+1<s.size/\bt s ((i+1:Nat):Int)=62
 ·have e:bS s i=((4,i,⟨#[62,62]⟩),i+2,0,0):=by unfold bS;rw[if_neg h0,if_neg h1,if_neg h2,if_neg h3,if_pos h4]
  rw[e]at h ⊢;unfold jt;rw[if_neg h0,if_neg h1,if_neg h2,if_neg h3,if_pos h4]
 have e:bS s i=((0,0,ju),0,50,i):=by unfold bS;rw[if_neg h0,if_neg h1,if_neg h2,if_neg h3,if_neg h4]
 rw[e]at h ⊢;exact absurd h sI
theorem alh{s:ByteArray}{i d:Nat}{op:List Value}{c a:Int}{t:ByteArray}(h:(bS s i).2.2.1≠0) :
  ∃ j:Int,jt s i d op c a t=.ret (.bool false) (tG s j d op (bS s i).2.2.1 ((bS s i).2.2.2:Nat) ⟨#[]⟩):=by
 by_cases h0:uS (bt s (i:Nat))=true
 ·by_cases hl:32<uU s i-i
  ·have e:bS s i=((0,0,ju),0,1,i):=by unfold bS;rw[if_pos h0,if_pos hl]
   rw[e]at h ⊢;unfold jt;rw[if_pos h0,if_pos hl];exact⟨_,rfl⟩
  ·have e:bS s i=((1,i,s.extract i (uU s i)),uU s i,0,0):=by unfold bS;rw[if_pos h0,if_neg hl]
   rw[e]at h ⊢;exact absurd h sI
 by_cases h1:bt s (i:Nat)=34
 ·have e:bS s i=((2,i,(Ai s i).1),(Ai s i).2.1,(Ai s i).2.2.1,(Ai s i).2.2.2):=by unfold bS;rw[if_neg h0,if_pos h1]
  rw[e]at h ⊢;have e2:jt s i d op c a t=w6 s i 2 d op c a t (Ai s i):=by unfold jt;rw[if_neg h0,if_pos h1]
  dsimp only at h;rw[e2];unfold w6;rw[if_neg h];split
  ·exact⟨_,rfl⟩
  ·exact⟨_,rfl⟩
 by_cases h2:bt s (i:Nat)=47
 ·have e:bS s i=((3,i,(AH s i).1),(AH s i).2.1,(AH s i).2.2.1,(AH s i).2.2.2):=by unfold bS;rw[if_neg h0,if_neg h1,if_pos h2]
  rw[e]at h ⊢;have e2:jt s i d op c a t=w6 s i 3 d op c a t (AH s i):=by unfold jt;rw[if_neg h0,if_neg h1,if_pos h2]
  dsimp only at h;rw[e2];unfold w6;rw[if_neg h];split
  ·exact⟨_,rfl⟩
  ·exact⟨_,rfl⟩
 by_cases h3:Cr (bt s (i:Nat))=true
 ·have e:bS s i=((4,i,s.extract i (i+1)),i+1,0,0):=by unfold bS;rw[if_neg h0,if_neg h1,if_neg h2,if_pos h3]
  rw[e]at h ⊢;exact absurd h sI
 by_cases h4:bt s (i:Nat)=62/\i+1<s.size/\bt s ((i+1:Nat):Int)=62
 ·have e:bS s i=((4,i,⟨#[62,62]⟩),i+2,0,0):=by unfold bS;rw[if_neg h0,if_neg h1,if_neg h2,if_neg h3,if_pos h4]
  rw[e]at h ⊢;exact absurd h sI
 have e:bS s i=((0,0,ju),0,50,i):=by unfold bS;rw[if_neg h0,if_neg h1,if_neg h2,if_neg h3,if_neg h4]
 rw[e]at h ⊢;unfold jt;rw[if_neg h0,if_neg h1,if_neg h2,if_neg h3,if_neg h4];exact⟨_,rfl⟩
theorem akZ{c:Int}(h:uS c=true):nmB c=true:=by unfold nmB;rw[h];rfl
theorem amZ{s:ByteArray}{i:Nat}(hi:i<s.size)(h:uS (bt s (i:Nat))=true):Lz s (s.size-i) i=uU s i:=by
 rw[show s.size-i=(s.size-(i+1))+1 by omega,Lz,if_pos hi,if_pos (akZ h)];rfl
theorem abb(s:ByteArray)(i:Nat)(kd:Int)(d:Nat)(op:List Value)(c a:Int)(t:ByteArray)(q:Pc):∃ (b:Bool) (j:Int) (d' : Nat) (op' : List Value) (c' a' : Int) (t' : ByteArray),w6 s i kd d op c a t q=.ret (.bool b) (tG s j d' op' c' a' t'):=by
 unfold w6;split
 ·exact⟨_,_,_,_,_,_,_,rfl⟩
 ·split<;>exact⟨_,_,_,_,_,_,_,rfl⟩
noncomputable def jX:Env prog:=⟨λ| 107=>some hY.spec|109=>some xp.spec|165=>some u6.spec|163=>some xu.spec|164=>some Bc.spec|138=>some Vh.spec|168=>some Sv.spec|166=>some MW.spec|167=>some acx.spec|_=>none,λ| _=>none,λ_ _=>none⟩
theorem adj:jX.sp 107=some hY.spec:=rfl
theorem adk:jX.sp 109=some xp.spec:=rfl
theorem ado:jX.sp 165=some u6.spec:=rfl
theorem adm:jX.sp 163=some xu.spec:=rfl
theorem adn:jX.sp 164=some Bc.spec:=rfl
theorem adl:jX.sp 138=some Vh.spec:=rfl
theorem adr:jX.sp 168=some Sv.spec:=rfl
theorem adp:jX.sp 166=some MW.spec:=rfl
theorem adq:jX.sp 167=some acx.spec:=rfl
def eT:=(ae @List.replicate_succ.{0} @List.replicate_zero.{0} @au @ab lx ly lA (ae di dj dk dm dB dD dF (ae dG mZ nc nf ng nh eK (ae eL eM eN eO eP oH oI (ae oJ oK sO sP sQ sR sS (ae sT sU sV sW sX sY sZ (ae s5 @aV @aw @aD @aF @tG.eq_1 @tF.eq_1 (ae adj adk ado adm adn adl adr (ae adp adq @gL @gK @kG @ql @qm (ae @xr @tX @tY @Bb @xw @xv @Ao (ae @An @K7 @K6 @Vg @Vf @XN @XO (nu @ag4 @acy @acz @alG @afP))))))))))))
theorem acs(s:ByteArray)(i:Nat)(d:Nat)(op:List Value)(c a:Int)(t:ByteArray)(u:Value)(fp:List Nat)(w:World)(hi:i<s.size)(hs:s.size<=4096)(hd:op.length=d*3)(hd2:d<=1000000)(ho:aY w u fp 223 (tG s (i:Nat) d op c a t))(hlt:∀ b∈fp,b<w.heap.size) :
  Calls prog 108 (#[u]++#[]) w λx w' => dN w u fp 223 x w' (jt s i d op c a t):=by
 have wi:IntKind.i64.wrap ((i:Int)+1)=((i+1:Nat):Int):=wW;have wi2:IntKind.i64.wrap ((i:Int)+2)=((i+2:Nat):Int):=wW;obtain⟨c0,c1⟩:=uw s i;refine aO (nt:=130) #[] [.tmp 2] (by show 6<=7;omega) ho hlt func108 rfl rfl rfl ?_;refine vR jX eT ?_;refine vR jX eT ?_;refine Wp.seq ?_;refine wR jX eT ?_ ?_
 ·omega
 refine Wp.block ?_;refine vR jX eT ?_;refine wC eT (λhc=>?_) (λhc=>?_)
 ·have hL:uS (bt s (i:Nat))=true:=hc;clear hc;have hnm:=Pz hi
  have e0:jt s i d op c a t=if 32<uU s i-i then .ret (.bool false) (tG s (uU s i:Nat) d op 1 (i:Nat) ⟨#[]⟩) else .ret (.bool true) (tG s (uU s i:Nat) (d+1) (op++[.int .i64 1,.int .i64 (i:Nat),.string (s.extract i (uU s i))]) c a t):=by unfold jt;rw[if_pos hL]
  have wni:IntKind.i64.wrap (((uU s i:Nat):Int)-((i:Nat):Int))=((uU s i-i:Nat):Int):=wW;refine Wp.seq (Wp.block ?_)
  refine Wp.loop (λk:Nat=>⟨60,eA [(0,.is (.own 0 0)),(3,.is (.v (.int .i64 (i:Nat))))],dS [(0,.cells 223 [.v (.string s),.v (.int .i64 (k:Nat)),.hd 3,.v (.int .i64 c),.v (.int .i64 a),.v (.string t)]),(3,.row 225 3 d (op.map .v))]⟩) (λk=>(i<=k/\k<=s.size)/\Lz s (s.size-k) k=uU s i) (λk=>s.size-k) i ?_ ⟨⟨Nat.le_refl _,oM⟩,amZ hi hL⟩ ?_
  ·exact wM (λk=>.key k) eT
  rintro k ⟨⟨k1,k2⟩,k3⟩;have wk:IntKind.i64.wrap ((k:Int)+1)=((k+1:Nat):Int):=wW;refine Wp.seq ?_;refine kT jX eT ?_ ?_
  ·refine⟨dE,λh=>?_,λh=>?_⟩
   ·simp at h;omega
   ·simp at h;omega
  refine wC eT (λhc=>?_) (λhc=>?_)
  ·have h:k<s.size/\nmB (bt s (k:Nat))=true:=by
    simp at hc;refine⟨oM,?_⟩;unfold nmB;rw[Bool.or_eq_true];exact hc.2
   rw[show s.size-k=(s.size-(k+1))+1 by omega,Lz,if_pos h.1,if_pos h.2]at k3;refine wK ?_;refine Wp.block ?_;refine vr jX (aa eT wk) ?_;refine⟨k+1,⟨⟨oM,oM⟩,k3⟩,oM,?_⟩;exact wM (λk=>.key k) eT
  ·have h:uU s i=k:=by
    rw[<- k3];by_cases hk:k<s.size
    ·rw[show s.size-k=(s.size-(k+1))+1 by omega,Lz,if_pos hk,if_neg];intro h;unfold nmB at h;simp[hk]at hc;rw[hc.1,hc.2]at h;simp at h
    ·rw[show s.size-k=0 by omega];rfl
   subst h;refine wE ?_;refine Wp.seq ?_;refine vR jX (aa eT wni) ?_;clear hc;refine wC eT (λhc=>?_) (λhc=>?_)
   ·have h32:32<uU s i-i:=by
     simp at hc;omega
    rw[if_pos h32]at e0;rw[e0];refine wR jX eT ?_ ?_
    ·exact⟨dE,λ_ h=>h.elim⟩
    refine wZ eT ?_;exact⟨_,_,rfl,λE=>rfl,_,_,rfl,(ev (aa eT @aq)),dE⟩
   have h32:¬ 32<uU s i-i:=by
    simp at hc;omega
   rw[if_neg h32]at e0;rw[e0];refine wK ?_;refine kT jX eT ?_ ?_
   ·exact⟨⟨oM,oM,oM⟩,⟨hd,hd2⟩,dE,λ_ h=>h.elim⟩
   refine wZ eT ?_;exact⟨_,_,rfl,λE=>rfl,_,_,rfl,(ev (aa eT @aq)),dE⟩
 have n0:¬ uS (bt s (i:Nat))=true:=by rw[show uS (bt s (i:Nat))=false from hc];simp
 clear hc;refine vR jX eT ?_;refine wC eT (λhc=>?_) (λhc=>?_)
 ·have h:bt s (i:Nat)=34:=by simpa using hc
  have e0:jt s i d op c a t=w6 s i 2 d op c a t (Ai s i):=by unfold jt;rw[if_neg n0,if_pos h]
  obtain⟨b,j,d',op',c',a',t',hP⟩:=abb s i 2 d op c a t (Ai s i);rw[e0,hP];refine wR jX (aa eT hP) ?_ ?_
  ·exact⟨⟨⟨⟨oM,oM⟩,hs⟩,hd,hd2⟩,dE,λ_ h=>h.elim⟩
  refine wZ eT ?_;exact⟨_,_,rfl,λE=>rfl,_,_,rfl,(ev (aa eT @aq)),dE⟩
 have n1:¬ bt s (i:Nat)=34:=by simpa using hc
 clear hc;refine vR jX eT ?_;refine wC eT (λhc=>?_) (λhc=>?_)
 ·have h:bt s (i:Nat)=47:=by simpa using hc
  have e0:jt s i d op c a t=w6 s i 3 d op c a t (AH s i):=by unfold jt;rw[if_neg n0,if_neg n1,if_pos h]
  obtain⟨b,j,d',op',c',a',t',hP⟩:=abb s i 3 d op c a t (AH s i);rw[e0,hP];refine wR jX (aa eT hP) ?_ ?_
  ·exact⟨⟨⟨⟨oM,oM⟩,hs⟩,hd,hd2⟩,dE,λ_ h=>h.elim⟩
  refine wZ eT ?_;exact⟨_,_,rfl,λE=>rfl,_,_,rfl,(ev (aa eT @aq)),dE⟩
 have n2:¬ bt s (i:Nat)=47:=by simpa using hc
 clear hc;refine vR jX eT ?_;refine wC eT (λhc=>?_) (λhc=>?_)
 ·have h:Cr (bt s (i:Nat))=true:=hc;have e0:jt s i d op c a t=.ret (.bool true) (tG s (i+1:Nat) (d+1) (op++[.int .i64 4,.int .i64 (i:Nat),.string (s.extract i (i+1))]) c a t):=by unfold jt;rw[if_neg n0,if_neg n1,if_neg n2,if_pos h]
  rw[e0];refine vR jX (aa eT wi) ?_;refine kT jX eT ?_ ?_
  ·exact⟨⟨oM,oM,oM⟩,⟨hd,hd2⟩,dE,λ_ h=>h.elim⟩
  refine wZ eT ?_;exact⟨_,_,rfl,λE=>rfl,_,_,rfl,(ev (aa eT @aq)),dE⟩
 have n3:¬ Cr (bt s (i:Nat))=true:=by rw[show Cr (bt s (i:Nat))=false from hc];simp
 clear hc;have hp2:=agc s hi;refine wR jX (aa eT hp2) ?_ ?_
 ·skip;omega
 refine wC eT (λhc=>?_) (λhc=>?_)
 ·have h:bt s (i:Nat)=62/\i+1<s.size/\bt s ((i+1:Nat):Int)=62:=of_decide_eq_true hc;have e0:jt s i d op c a t=.ret (.bool true) (tG s (i+2:Nat) (d+1) (op++[.int .i64 4,.int .i64 (i:Nat),.string ⟨#[62,62]⟩]) c a t):=by unfold jt;rw[if_neg n0,if_neg n1,if_neg n2,if_neg n3,if_pos h]
  rw[e0];refine vR jX (aa eT wi2) ?_;refine wR jX eT ?_ ?_
  ·exact⟨⟨hd,hd2⟩,dE,λ_ h=>h.elim⟩
  refine wZ eT ?_;exact⟨_,_,rfl,λE=>rfl,_,_,rfl,(ev (aa eT @aq)),dE⟩
 have n4:¬ (bt s (i:Nat)=62/\i+1<s.size/\bt s ((i+1:Nat):Int)=62):=of_decide_eq_false hc;have e0:jt s i d op c a t=.ret (.bool false) (tG s (i:Nat) d op 50 (i:Nat) ⟨#[]⟩):=by unfold jt;rw[if_neg n0,if_neg n1,if_neg n2,if_neg n3,if_neg n4]
 rw[e0];refine wK ?_;refine wR jX eT ?_ ?_
 ·exact⟨dE,λ_ h=>h.elim⟩
 refine wZ eT ?_;exact⟨_,_,rfl,λE=>rfl,_,_,rfl,(ev (aa eT @aq)),dE⟩
def MV:bP prog 108 where
 T:=223
 pre:=λW bs fs as_=>match fs,as_ with|[.val (.string s),.val (.int .i64 i),.row 225 3 d op,.val (.int .i64 c),.val (.int .i64 a),.val (.string t)],[]=>((0<=i/\i<s.size)/\s.size<=4096)/\op.length=d*3/\d<=1000000|_,_=>False
 out:=λW fs as_=>match fs,as_ with|[.val (.string s),.val (.int .i64 i),.row 225 3 d op,.val (.int .i64 c),.val (.int .i64 a),.val (.string t)],[]=>jt s i.toNat d op c a t|_,_=>.pan [] undef
 enters:=call108
 ok:=by
  intro W w bs u fp us fs as_ hk ho hlt hmine hu hp;split at hp
  ·rename_i s i d op c a t
   match us,hu with
   |[],_=>
    obtain⟨k,rfl⟩:=Int.eq_ofNat_of_zero_le hp.1.1.1;exact acs s k d op c a t u fp w oM hp.1.2 hp.2.1 hp.2.2 ho hlt
  ·exact hp.elim
theorem XH(W:World)(s:ByteArray)(i:Int)(d:Nat)(op:List Value)(c:Int)(a:Int)(t:ByteArray):MV.out W [.val (.string s),.val (.int .i64 i),.row 225 3 d op,.val (.int .i64 c),.val (.int .i64 a),.val (.string t)] []=jt s i.toNat d op c a t:=rfl
theorem XI(W:World)(bs:List Nat)(s:ByteArray)(i:Int)(d:Nat)(op:List Value)(c:Int)(a:Int)(t:ByteArray):MV.pre W bs [.val (.string s),.val (.int .i64 i),.row 225 3 d op,.val (.int .i64 c),.val (.int .i64 a),.val (.string t)] []=(((0<=i/\i<s.size)/\s.size<=4096)/\op.length=d*3/\d<=1000000):=rfl
theorem ag3:MV.T=223:=rfl
def Fa(c a:Int):SV:=.agg [.v (.int .i64 c),.v (.int .i64 a),.v (.string ⟨#[]⟩)]
noncomputable def um:Env prog:=⟨λ| 106=>some Dn.spec|107=>some hY.spec|108=>some MV.spec|109=>some xp.spec|_=>none,λ| _=>none,λ_ _=>none⟩
theorem ads:um.sp 106=some Dn.spec:=rfl
theorem adt:um.sp 107=some hY.spec:=rfl
theorem adu:um.sp 108=some MV.spec:=rfl
theorem adv:um.sp 109=some xp.spec:=rfl
def lD:=(ae @List.replicate_succ.{0} @List.replicate_zero.{0} @au @ab lx ly lA (ae di dj dk dm dB dD dF (ae dG eK eL eM eN eO eP (ae vn vt vu vv vz vA vB (ae vC vD vE Jd Je Jf Jg (ae sO sP sQ sR sS sT sU (ae sV sW sX sY sZ s5 qU (ae qV qW qX qY qZ q7 q8 (ae @aV @aw @aD @aF @tG.eq_1 @tF.eq_1 @yb.eq_1 (ae @yb.eq_2 ads adt adu adv @gL @gK (ae @kG @Rg @Rh @acA @tX @tY @Bb (bp @XH @XI @ag3))))))))))))
theorem XQ(s:ByteArray)(w:World)(fp:List Nat)(E:Nat->Value)(F:Nat->List Nat)(hs:aj w fp E F (dS []) w)(hz:s.size<=9223372036854775807) :
  Calls prog 66 (ai E [.v (.string s)]).toArray w λe w' => ∃ E' F',e=.returned (den E' (.tup [.hd 8,Fa (bz s).2.1 ((bz s).2.2:Nat)]))/\(∀ k∈([]:List Nat),E' k=E k)/\aj w fp E' F' (dS [(8,.row 225 3 (bz s).1.length ((x5 (bz s).1).map .v))]) w' := by
 refine BB (nt:=35) [.tmp 2,.cell 3 39] hs ?_ ?_ func66 rfl rfl rfl ?_
 ·simp[Lb,yb,FV.keys,SV.keys]
 ·simp
 refine vR um lD ?_;refine Wp.seq ?_;refine vR um lD ?_;refine wC lD (λhc=>?_) (λhc=>?_)
 ·have h:4096<s.size:=by
   simp at hc;omega
  have e:bz s=([],1,0):=by unfold bz;rw[if_pos h]
  rw[e];refine vR um lD ?_;refine wZ lD ?_;exact wN (λk=>.nil) (fg lD @Fa.eq_1 @x5.eq_1 @List.flatMap_nil.{0,0})
 have h4:s.size<=4096:=by
  simp at hc;omega
 have e0:bz s=uE s s.size (js s 0) []:=by unfold bz;rw[if_neg oM]
 clear hc;have hg0:=nM (Nat.zero_le s.size);refine wK ?_;refine vR um lD ?_
 refine Wp.AN (σ' := ⟨60,eA [(0,.is (.v (.string s))),(3,.is (.own 5 0)),(4,.is (.own 0 0))],dS [(0,.cells 223 [.v (.string s),.v (.int .i64 0),.hd 3,.v (.int .i64 0),.v (.int .i64 0),.v (.string ⟨#[]⟩)]),(3,.row 225 3 0 (([]:List Value).map .v)),(5,.cells 39 [.v (.int .i64 0),.v (.int .i64 0),.v (.string ⟨#[]⟩)])]⟩) ?_ ?_
 ·exact wM (λk=>if k=0 then .key 64 else if k=3 then .nil else if k=5 then .key 16 else .key k) lD
 refine Wp.seq ?_;refine wR um lD ?_ ?_
 ·exact⟨⟨oM,oM⟩,dE,λ_ h=>h.elim⟩
 refine Wp.block ?_
 refine Wp.loop (λp:Nat×Nat×List Tk=>⟨100,eA [(0,.is (.v (.string s))),(3,.is (.own 5 0)),(4,.is (.own 0 0))],dS [(0,.cells 223 [.v (.string s),.v (.int .i64 (p.2.1:Nat)),.hd 3,.v (.int .i64 0),.v (.int .i64 0),.v (.string ⟨#[]⟩)]),(3,.row 225 3 p.2.2.length ((x5 p.2.2).map .v)),(5,.cells 39 [.v (.int .i64 0),.v (.int .i64 0),.v (.string ⟨#[]⟩)])]⟩) (λp=>p.2.1<=s.size/\p.2.2.length<=p.2.1/\s.size<=p.2.1+p.1/\uE s p.1 p.2.1 p.2.2=bz s) (λp=>p.1) (s.size,js s 0,[]) ?_ ⟨hg0.2,Nat.zero_le _,by dsimp only;omega,e0.symm⟩ ?_
 ·exact wM (λk=>if k=3 then .key 490 else .key k) (bp lD @x5.eq_1 @List.flatMap_nil.{0,0})
 rintro⟨n,i,l⟩ ⟨g1,g2,g3,g4⟩;dsimp only at g1 g2 g3 g4 ⊢;have hl3:=xt l;refine Wp.seq ?_;refine vR um lD ?_;refine wC lD (λhc=>?_) (λhc=>?_)
 rotate_left
 ·have hi:i=s.size:=by
   simp at hc;omega
  subst hi;have e1:bz s=(l++[(0,s.size,ju)],0,0):=by
   rw[<- g4];cases n with
   |zero=>rfl
   |succ n=>rw[uE,if_neg oM]
  rw[e1];refine wE ?_;refine wR um lD ?_ ?_
  ·exact⟨⟨hl3,oM⟩,dE,λ_ h=>h.elim⟩
  refine vR um lD ?_;refine wZ lD ?_;have e2:x5 l++[.int .i64 0,.int .i64 (s.size:Nat),.string ⟨#[]⟩]=x5 (l++[(0,s.size,ju)]):=MS l 0 s.size ju;have e3:(l++[((0:Int),s.size,ju)]).length=l.length+1:=by simp
  exact wN (λk=>if k=8 then .key 850 else .key k) (nu lD @Fa.eq_1 e2 e3 @Int.natCast_zero)
 have hi:i<s.size:=by
  simp at hc;omega
 clear hc;obtain⟨n,rfl⟩:∃ n',n=n' + 1:=⟨n-1,oM⟩;rw[uE,if_pos hi]at g4;refine wK ?_;refine Wp.seq (Wp.block ?_);by_cases h0:(bS s i).2.2.1=0
 ·have hnext:=tZ hi h0;rw[if_pos h0]at g4;have hgl:=nM hnext.2;have hone:=af3 (d:=l.length) (op:=x5 l) (c:=0) (a:=0) (t:=⟨#[]⟩) h0;refine wR um (aa lD hone) ?_ ?_
  ·exact⟨⟨⟨⟨oM,oM⟩,h4⟩,hl3,oM⟩,dE,λ_ h=>h.elim⟩
  refine wC lD (λhc=>?_) (λhc=>?_)
  ·exact absurd hc sI
  refine wK ?_;refine wr um lD ?_ ?_
  ·exact⟨⟨⟨oM,oM⟩,oM⟩,dE,λ_ h=>h.elim⟩
  have e2:x5 l++[.int .i64 (bS s i).1.1,.int .i64 ((bS s i).1.2.1:Nat),.string (bS s i).1.2.2]=x5 (l++[(bS s i).1]):=MS l _ _ _;have e3:(l++[(bS s i).1]).length=l.length+1:=by simp
  refine⟨(n,js s (bS s i).2.1,l++[(bS s i).1]),⟨hgl.2,by dsimp only;rw[List.length_append,List.length_singleton];omega,by dsimp only;omega,g4⟩,by dsimp only;omega,?_⟩;exact wM (λk=>if k=3 then .key 858 else .key k) (bp lD e2 e3)
 ·rw[if_neg h0]at g4;obtain⟨j,hone⟩:=alh (d:=l.length) (op:=x5 l) (c:=0) (a:=0) (t:=⟨#[]⟩) h0;refine wR um (aa lD hone) ?_ ?_
  ·exact⟨⟨⟨⟨oM,oM⟩,h4⟩,hl3,oM⟩,dE,λ_ h=>h.elim⟩
  refine wC lD (λhc=>?_) (λhc=>?_)
  rotate_left
  ·exact absurd hc sI
  rw[<- g4];refine zv um lD ?_;refine wZ lD ?_;exact wN (λk=>.nil) (fg lD @Fa.eq_1 @x5.eq_1 @List.flatMap_nil.{0,0})
def Re(s:ByteArray):Bh prog 66 where
 args:=[.v (.string s)]
 L:=[]
 val:=.tup [.hd 8,Fa (bz s).2.1 ((bz s).2.2:Nat)]
 L' := [(8,.row 225 3 (bz s).1.length ((x5 (bz s).1).map .v))]
 fR:=[]
 pre:=λW bs=>s.size<=9223372036854775807
 low:=by simp
 kept:=by simp
 vk:=by intro k hk;right;simp[Fa,SV.keys,az]at hk;unfold fresh;omega
 lk:=by intro p hp;simp only[List.mem_cons,List.not_mem_nil,or_false]at hp;rcases hp with rfl;exact⟨.inr (by unfold fresh;omega),by simp[aZ.keys,aR]⟩
 nd:=by simp
 enters:=call66
 ok:=by
  intro W w bs fp E F hk hm hs hp;exact XQ s w fp E F hs hp
end
section
open Go.RowKit Go.LE Go.Proofs.Tryz
inductive Ex where
 |name (a:Nat) (s:ByteArray)
 |text (a:Nat) (s:ByteArray)
 |rx (a:Nat) (s:ByteArray)
 |call (a:Nat) (w:ByteArray) (l:Ex)
 |keyed (a:Nat) (x:Ex)
 |unary (a:Nat) (op:ByteArray) (x:Ex)
 |binary (a:Nat) (op:ByteArray) (x y:Ex)
 |nil
 |cons (x l:Ex)
def ri(s:ByteArray):Int:=
 if s=⟨#[99,111,112,121]⟩\/s=⟨#[107,101,121]⟩\/s=⟨#[105,110,115]⟩\/s=⟨#[105,100]⟩\/s=⟨#[102,111,108,100]⟩ then 1
 else if s=⟨#[100,101,108]⟩\/s=⟨#[108,101,102,116]⟩\/s=⟨#[114,105,103,104,116]⟩\/s=⟨#[100,101,102,97,117,108,116]⟩ then 2
 else if s=⟨#[110,111,114,109]⟩ then 3
 else if s=⟨#[108,101,116]⟩ then -1
 else 0
def yT:Nat->ByteArray
 |0=>⟨#[124]⟩
 |1=>⟨#[38,45]⟩
 |2=>⟨#[62,62]⟩
 |3=>⟨#[126]⟩
 |_=>⟨#[46]⟩
def rkB(s:ByteArray)(i:Nat):Bool:=(!decide (s=⟨#[]⟩)&&Lib.contains (yT i).data.toList s.data.toList)&&(decide ((s.size:Int)=2)||!decide (yT i=⟨#[62,62]⟩))
def EO(s:ByteArray):Int:=match rR (rkB s) 5 0 with
 |some i=>(i:Nat)
 |none=>-1
def pk:List Tk->Tk
 |t::_=>t
 |[]=>(0,0,ju)
def dU(r:List Tk)(m:ByteArray):Bool:=decide ((pk r).1=4)&&decide ((pk r).2.2=m)
abbrev PR:=Except (Int×Nat) (Ex×List Tk)
def iz(sub:List Tk->PR)(lev:Int):Nat->Ex->List Tk->PR
 |0,a,r=>.ok (a,r)
 | n+1,a,r=>
  if (pk r).1=4/\EO (pk r).2.2=lev then match sub r.tail with
   |.error e=>.error e
   |.ok (b,r')=>iz sub lev n (.binary (pk r).2.1 (pk r).2.2 a b) r'
  else .ok (a,r)
def ob(sub:List Tk->PR)(lev:Int)(r:List Tk):PR:=match sub r with
 |.error e=>.error e
 |.ok (a,r')=>iz sub lev r'.length a r'
def kf:ByteArray:=⟨#[42]⟩
def uX:ByteArray:=⟨#[43]⟩
def Ki:ByteArray:=⟨#[63]⟩
def oe:Nat->Ex->List Tk->Ex×List Tk
 |0,a,r=>(a,r)
 |n+1,a,r=>if ((dU r kf||dU r uX)||dU r Ki)=true then oe n (.unary (pk r).2.1 (pk r).2.2 a) r.tail else (a,r)
def nA(atom:List Tk->PR)(r:List Tk):PR:=match atom r with
 |.error e=>.error e
 |.ok (a,r')=>.ok (oe r'.length a r')
def mu(atom:List Tk->PR):Nat->List Tk->PR
 |0=>nA atom
 |k+1=>ob (mu atom k) (4-(k:Nat))
def lg(atom:List Tk->PR):List Tk->PR:=mu atom 5
def dP:ByteArray:=⟨#[40]⟩
def gO:ByteArray:=⟨#[41]⟩
def LG:ByteArray:=⟨#[123]⟩
def Y1:ByteArray:=⟨#[125]⟩
def Yg:ByteArray:=⟨#[44]⟩
def df(m:ByteArray)(f:Ex->Ex):PR->PR
 |.error e=>.error e
 |.ok (a,r)=>if dU r m=true then .ok (f a,r.tail) else .error (60,(pk r).2.1)
def zb:Ex->Ex->Ex
 |.cons x l,y=>.cons x (zb l y)
 |_,y=>.cons y .nil
def kX(ex:List Tk->PR):Nat->Nat->Ex->List Tk->PR
 |0,_,l,r=>.ok (l,r)
 | n+1,k,l,r=>
  if 0<k/\dU r Yg=false then .error (60,(pk r).2.1)
  else match ex (if 0<k then r.tail else r) with
   |.error e=>.error e
   |.ok (a,r')=>kX ex n (k+1) (zb l a) r'
def fc(m:Option (List Tk->PR))(r:List Tk)(b:ByteArray)(go:(List Tk->PR)->List Tk->PR):PR:=
 if dU r b=true then match m with
  |none=>.error (23,(pk r).2.1)
  |some ex=>go ex r.tail
 else .error (60,(pk r).2.1)
def eF(m:Option (List Tk->PR))(r:List Tk):PR:=
 if (pk r).1=2 then .ok (.text (pk r).2.1 (pk r).2.2,r.tail)
 else if (pk r).1=3 then .ok (.rx (pk r).2.1 (pk r).2.2,r.tail)
 else if (pk r).1=1/\0<ri (pk r).2.2 then fc m r.tail dP λex r' => df gO (.call (pk r).2.1 (pk r).2.2) (kX ex (ri (pk r).2.2).toNat 0 .nil r')
 else if (pk r).1=1/\ri (pk r).2.2=0 then .ok (.name (pk r).2.1 (pk r).2.2,r.tail)
 else if dU r LG=true then fc m r LG λex r' => df Y1 (.keyed (pk r).2.1) (ex r')
 else if dU r dP=true then fc m r dP λex r' => df gO id (ex r')
 else .error (60,(pk r).2.1)
def fh:Nat->List Tk->PR
 |0=>eF none
 |m+1=>eF (some (lg (fh m)))
abbrev Pm:=List (Nat×ByteArray×Ex)×Ex
def F8:ByteArray:=⟨#[108,101,116]⟩
def eqB:ByteArray:=⟨#[61]⟩
def smB:ByteArray:=⟨#[59]⟩
def iA(ex:List Tk->PR):Nat->List (Nat×ByteArray×Ex)->List Tk->Except (Int×Nat) (Pm×List Tk)
 |0,ds,r=>.error (60,(pk r).2.1)
 | n+1,ds,r=>
  if (pk r).1=1/\(pk r).2.2=F8 then
   if ¬ (pk r.tail).1=1\/¬ ri (pk r.tail).2.2=0 then .error (60,(pk r.tail).2.1)
   else if dU r.tail.tail eqB=false then .error (60,(pk r.tail.tail).2.1)
   else match ex r.tail.tail.tail with
    |.error e=>.error e
    |.ok (x,r')=>if dU r' smB=false then .error (60,(pk r').2.1)
     else iA ex n (ds++[((pk r.tail).2.1,(pk r.tail).2.2,x)]) r'.tail
  else match ex r with
   |.error e=>.error e
   |.ok (x,r')=>if (pk r').1=0 then .ok ((ds,x),r') else .error (60,(pk r').2.1)
def jR(s:ByteArray):Except (Int×Nat) Pm:=
 if (bz s).2.1=0 then match iA (lg (fh 64)) (bz s).1.length [] (bz s).1 with
  |.error e=>.error e
  |.ok (p,_)=>.ok p
 else .error ((bz s).2.1,(bz s).2.2)
def j6(r:List Tk):Prop:=∃ l e,r=l++[e]/\e.1=0/\∀ t∈l,t.1≠0
theorem j6.ne{r:List Tk}(h:j6 r):r≠[]:=by
 obtain⟨l,e,rfl,_⟩:=h;simp
theorem j6.tail{r:List Tk}(h:j6 r)(hk:(pk r).1≠0):j6 r.tail/\r=pk r::r.tail:=by
 obtain⟨l,e,rfl,h0,hl⟩:=h;cases l with
 |nil=>exact absurd h0 hk
 |cons t l=>exact⟨⟨l,e,rfl,h0,λt ht=>hl t (List.mem_cons_of_mem _ ht)⟩,rfl⟩
theorem j6.pos{r:List Tk}(h:j6 r):1<=r.length:=by
 obtain⟨l,e,rfl,_⟩:=h;simp
def Left(r r' : List Tk)(n:Nat):Prop:=j6 r' /\ r' <:+ r/\r'.length+n<=r.length
theorem Left.refl{r:List Tk}(h:j6 r):Left r r 0:=⟨h,List.suffix_refl _,Nat.le_refl _⟩
theorem Left.trans{r r' r2:List Tk}{n m:Nat}(h:Left r r' n)(h' : Left r' r2 m):Left r r2 (n+m):=⟨h'.1,h'.2.1.trans h.2.1,by have:=h.2.2;have:=h'.2.2;omega⟩
theorem Left.AN{r r' : List Tk}{n m:Nat}(h:Left r r' n)(hm:m<=n):Left r r' m:=⟨h.1,h.2.1,by have:=h.2.2;omega⟩
theorem Left.next{r:List Tk}(h:j6 r)(hk:(pk r).1≠0):Left r r.tail 1:=by
 obtain⟨h1,h2⟩:=h.tail hk;refine⟨h1,List.tail_suffix r,?_⟩;have:=h.pos;rw[List.length_tail];omega
theorem ic{r:List Tk}{m:ByteArray}(h:dU r m=true):(pk r).1≠0:=by
 unfold dU at h;simp at h;omega
def j7(sub:List Tk->PR)(n:Nat):Prop:=∀ r,j6 r->∀ a r',sub r=.ok (a,r')->Left r r' n
theorem Cg{sub:List Tk->PR}(h:j7 sub 1)(lev:Int):∀ n a r,j6 r->∀ b r',iz sub lev n a r=.ok (b,r')->Left r r' 0
 |0,a,r,hr,b,r',he=>by
  cases he;exact .refl hr
 | n+1,a,r,hr,b,r',he=>by
  rw[iz]at he;split at he
  ·rename_i hc;have h1:=Left.next hr oM
   split at he
   ·cases he
   ·rename_i x r2 hs;have h2:=h _ h1.1 _ _ hs;exact ((h1.trans h2).trans (Cg h lev n _ _ h2.1 _ _ he)).AN oM
  ·cases he;exact .refl hr
theorem VK{sub:List Tk->PR}(h:j7 sub 1)(lev:Int):j7 (ob sub lev) 1:=λr hr a r' he=>by
 unfold ob at he;split at he
 ·cases he
 ·rename_i x r2 hs;have h2:=h _ hr _ _ hs;exact (h2.trans (Cg h lev _ _ _ h2.1 _ _ he)).AN oM
theorem Gl:∀ n a r,j6 r->Left r (oe n a r).2 0
 |0,a,r,hr=>.refl hr
 | n+1,a,r,hr=>by
  rw[oe];split
  ·rename_i hc;have hk:(pk r).1≠0:=by
    simp only[Bool.or_eq_true]at hc;rcases hc with (hc|hc)|hc<;>exact ic hc
   have h1:=Left.next hr hk
   exact (h1.trans (Gl n _ _ h1.1)).AN oM
  ·exact .refl hr
theorem P0{atom:List Tk->PR}(h:j7 atom 1):j7 (nA atom) 1:=λr hr a r' he=>by
 unfold nA at he;split at he
 ·cases he
 ·rename_i x r2 hs;have h2:=h _ hr _ _ hs;simp only[Except.ok.injEq]at he;have h3:=Gl r2.length x r2 h2.1;rw[he]at h3;exact h2.trans h3
theorem ph{atom:List Tk->PR}(h:j7 atom 1):∀ k,j7 (mu atom k) 1
 |0=>P0 h
 |k+1=>VK (ph h k) _
theorem Br{ex:List Tk->PR}(h:j7 ex 1):∀ n k l r,j6 r->∀ a r',kX ex n k l r=.ok (a,r')->Left r r' 0
 |0,k,l,r,hr,a,r',he=>by
  cases he;exact .refl hr
 | n+1,k,l,r,hr,a,r',he=>by
  rw[kX]at he;split at he
  ·cases he
  ·rename_i hc;have h1:Left r (if 0<k then r.tail else r) 0:=by
    split
    ·rename_i hk;have:dU r Yg=true:=by
      cases hm:dU r Yg with
      |true=>rfl
      |false=>exact absurd ⟨hk,hm⟩ hc
     exact (Left.next hr (ic this)).AN oM
    ·exact .refl hr
   split at he
   ·cases he
   ·rename_i x r2 hs;have h2:=h _ h1.1 _ _ hs;exact ((h1.trans h2).trans (Br h n _ _ _ h2.1 _ _ he)).AN oM
theorem y8{m:ByteArray}{f:Ex->Ex}{q:PR}{r:List Tk}{n:Nat}(h:∀ a r',q=.ok (a,r')->Left r r' n){a:Ex}{r' : List Tk}(he:df m f q=.ok (a,r')):Left r r' (n+1):=by
 cases q with
 |error e=>cases he
 | ok p=>
  obtain⟨x,r2⟩:=p;have he' : (if dU r2 m=true then (.ok (f x,r2.tail):PR) else .error (60,(pk r2).2.1))=.ok (a,r'):=he;by_cases hm:dU r2 m=true
  ·rw[if_pos hm]at he';cases he';have h1:=h _ _ rfl;exact h1.trans (Left.next h1.1 (ic hm))
  ·rw[if_neg hm]at he';cases he'
theorem zH{m:Option (List Tk->PR)}(hm:∀ ex,m=some ex->j7 ex 1):j7 (eF m) 1:=λr hr a r' he=>by
 have key:∀ {r1:List Tk} {b:ByteArray} {go:(List Tk->PR)->List Tk->PR} {n:Nat},Left r r1 n->fc m r1 b go=.ok (a,r')->∃ ex,j7 ex 1/\Left r r1.tail (n+1)/\go ex r1.tail=.ok (a,r'):=λ{r1 b go n} h1 h=>by
  unfold fc at h;split at h
  ·rename_i hb;cases m with
   |none=>cases h
   |some ex=>exact⟨ex,hm ex rfl,h1.trans (Left.next h1.1 (ic hb)),h⟩
  ·cases h
 unfold eF at he;split at he
 ·cases he;exact Left.next hr oM
 split at he
 ·cases he;exact Left.next hr oM
 split at he
 ·rename_i hc;obtain⟨ex,h1,h2,h3⟩:=key (Left.next hr oM) he;exact (y8 (λx r2 hs=>h2.trans (Br h1 _ _ _ _ h2.1 _ _ hs)) h3).AN oM
 split at he
 ·cases he;exact Left.next hr oM
 split at he
 ·obtain⟨ex,h1,h2,h3⟩:=key (.refl hr) he;exact (y8 (λx r2 hs=>h2.trans (h1 _ h2.1 _ _ hs)) h3).AN oM
 split at he
 ·obtain⟨ex,h1,h2,h3⟩:=key (.refl hr) he;exact (y8 (λx r2 hs=>h2.trans (h1 _ h2.1 _ _ hs)) h3).AN oM
 ·cases he
theorem kY:∀ m,j7 (fh m) 1
 |0=>zH λex h=>by cases h
 |m+1=>zH λex h=>by
  cases h;exact ph (kY m) 5
theorem Ti(s:ByteArray):∀ (n i:Nat) (l:List Tk),(∀ t∈l,t.1≠0)->(uE s n i l).2.1=0->j6 (uE s n i l).1
 |0,i,l,hl,h=>⟨l,(0,s.size,ju),rfl,rfl,hl⟩
 | n+1,i,l,hl,h=>by
  rw[uE]at h ⊢;split
  ·rename_i hi;rw[if_pos hi]at h;split
   ·rename_i h0;rw[if_pos h0]at h;refine Ti s n _ _ (λt ht=>?_) h;rcases List.mem_append.1 ht with ht|ht
    ·exact hl t ht
    ·rw[List.mem_singleton.1 ht];unfold bS at h0 ⊢
     repeat' (split at h0<;>rename_i hh<;>(first|rw[if_pos hh]|rw[if_neg hh]))
     all_goals first|(intro hc;cases hc;done)|(exfalso;simp at h0;done)|(dsimp only;omega)
   ·rename_i h0;rw[if_neg h0]at h;exact absurd h h0
  ·exact⟨l,(0,s.size,ju),rfl,rfl,hl⟩
theorem abX{s:ByteArray}(h:(bz s).2.1=0):j6 (bz s).1:=by
 unfold bz at h ⊢;split
 ·rename_i h4;rw[if_pos h4]at h;cases h
 ·rename_i h4;rw[if_neg h4]at h;exact Ti s _ _ _ (λt ht=>by cases ht) h
end
end Go.Proofs.YtnemkecffmdlnaaGreatDoor
namespace Go.Proofs
section
open Go.Shelf
def Tryz.Lf:Go.Shelf.Ren:=⟨λ| 144=>213|143=>85|219=>144|217=>189|225=>197|224=>198|267=>199|266=>231|314=>242|n=>n,λ| 9=>9|4=>4|3=>3|5=>5|46=>158|146=>348|51=>335|n=>n,λ| 1=>1|n=>n⟩
theorem Tryz.afH:Go.Proofs.Lays.n144 Tryz.prog Tryz.Lf:={
 mixed:=by kernel_rfl
 f143:=Tryz.func85.trans (congrArg some (by kernel_rfl))
 f144:=Tryz.func213.trans (congrArg some (by kernel_rfl))
 f217:=Tryz.func189.trans (congrArg some (by kernel_rfl))
 f219:=Tryz.func144.trans (congrArg some (by kernel_rfl))
 f224:=Tryz.func198.trans (congrArg some (by kernel_rfl))
 f225:=Tryz.func197.trans (congrArg some (by kernel_rfl))
 f266:=Tryz.func231.trans (congrArg some (by kernel_rfl))
 f267:=Tryz.func199.trans (congrArg some (by kernel_rfl))
 f314:=Tryz.func242.trans (congrArg some (by kernel_rfl))
 t3:=Tryz.underlying3
 a3:=Tryz.isAgg3
 z3:=Tryz.sizeOf3
 v3:=Tryz.zeroValue3
 t4:=Tryz.underlying4
 a4:=Tryz.isAgg4
 z4:=Tryz.sizeOf4
 v4:=Tryz.zeroValue4
 t5:=Tryz.underlying5
 a5:=Tryz.isAgg5
 z5:=Tryz.sizeOf5
 v5:=Tryz.zeroValue5
 t9:=Tryz.underlying9
 a9:=Tryz.isAgg9
 z9:=Tryz.sizeOf9
 v9:=Tryz.zeroValue9
 t46:=Tryz.underlying158
 a46:=Tryz.isAgg158
 z46:=Tryz.sizeOf158
 v46:=Tryz.zeroValue158
 t51:=Tryz.underlying335
 a51:=Tryz.isAgg335
 z51:=Tryz.sizeOf335
 v51:=Tryz.zeroValue335
 t146:=Tryz.underlying348
 a146:=Tryz.isAgg348
 z146:=Tryz.sizeOf348
 v146:=Tryz.zeroValue348
 g1:=by kernel_rfl }
open Go.RowKit Go.Lib in
open Go.RowKit Go.Lib in
theorem Tryz.strings_Contains(s sub:ByteArray)(m:Int)(w:World)(hs:s.size<4294967281)(hm:w.cell? ⟨1,0,none⟩=some (.int .i64 m)) :
  Calls Tryz.prog 213 #[.string s,.string sub] w λe w' => e=.returned (.bool (Lib.contains s.data.toList sub.data.toList))/\w' = w:=Any.strings_Contains Tryz.afH s sub m w hs hm
end
end Go.Proofs
namespace Go.Proofs.YtnemkecffmdlnaaGreatDoor
section
open Go.RowKit Go.LE Go.Proofs.Tryz
set_option maxRecDepth 10000
def Bi(W:World)(S:Nat->Prop):Prop:=S 1/\∃ m:Int,W.cell? ⟨1,0,none⟩=some (.int .i64 m)
def J7(W:World)(S:Nat->Prop):Prop:=S 2/\W.cell? ⟨2,0,none⟩=some (.string (yT 0))/\W.cell? ⟨2,0+1,none⟩=some (.string (yT 1))/\W.cell? ⟨2,0+1+1,none⟩=some (.string (yT 2))/\W.cell? ⟨2,0+1+1+1,none⟩=some (.string (yT 3))/\W.cell? ⟨2,0+1+1+1+1,none⟩=some (.string (yT 4))
theorem Bi.mono{W W' : World}{S S' : Nat->Prop}(h:Bi W S)(hs:aX W S W' S'):Bi W' S' := by
 obtain⟨h0,m,h1⟩:=h;have:=XC.mono (b:=1) (o:=0) (v:=.int .i64 m) ⟨h0,h1⟩ hs;exact⟨this.1,m,this.2⟩
theorem J7.mono{W W' : World}{S S' : Nat->Prop}(h:J7 W S)(hs:aX W S W' S'):J7 W' S' := by
 obtain⟨h0,h1,h2,h3,h4,h5⟩:=h;have g:∀ o v,W.cell? ⟨2,o,none⟩=some v->W'.cell? ⟨2,o,none⟩=some v/\S' 2:=λo v hv=>by
  have:=XC.mono (b:=2) (o:=o) (v:=v) ⟨h0,hv⟩ hs;exact⟨this.2,this.1⟩
 exact⟨(g _ _ h1).2,(g _ _ h1).1,(g _ _ h2).1,(g _ _ h3).1,(g _ _ h4).1,(g _ _ h5).1⟩
def fC(W:World)(S:Nat->Prop):Prop:=Bi W S/\J7 W S
theorem fC.mono{W W' : World}{S S' : Nat->Prop}(h:fC W S)(hs:aX W S W' S'):fC W' S' := ⟨h.1.mono hs,h.2.mono hs⟩
theorem fC.gh{W w:World}{bs fp:List Nat}(h:fC W (Out bs))(hk:LE.an W bs w)(hm:∀ b∈fp,W.heap.size<=b\/b∈bs):fC w (Out fp):=
 h.mono λb hb hs=>⟨hk.block b hb hs,λhb' => (hm b hb').elim (λg=>absurd g (Nat.not_le.2 hb)) hs⟩
def aeZ:a8 prog 213 where
 pre:=λW bs=>λ| [.val (.string s),.val (.string p)]=>s.size<4294967281/\Bi W (Out bs)|_=>False
 res:=λW=>λ| [.val (.string s),.val (.string p)]=>.bool (Lib.contains s.data.toList p.data.toList)|_=>undef
 enters:=call213
 ok:=by
  intro W w bs us as_ hk hu hp;split at hp
  ·rename_i s p
   match us,hu with
   |[u0,u1],hu=>
    obtain⟨rfl,rfl,_⟩:=hu;obtain⟨m,hm⟩:=(hp.2.mono (S' := Out []) (λb hb hs=>⟨hk.block b hb hs,by simp[Out]⟩)).2;exact (Tryz.strings_Contains s p m w hp.1 hm).mono λe w' ⟨he,hw⟩=>⟨he,by rw[hw];exact LE.an.refl w []⟩
  ·exact hp.elim
theorem Y9(W:World)(s:ByteArray)(p:ByteArray):aeZ.res W [.val (.string s),.val (.string p)]=.bool (Lib.contains s.data.toList p.data.toList):=rfl
theorem Y8(W:World)(bs:List Nat)(s:ByteArray)(p:ByteArray):aeZ.pre W bs [.val (.string s),.val (.string p)]=(s.size<4294967281/\Bi W (Out bs)):=rfl
noncomputable def jb:Env prog:=⟨λ| 213=>some aeZ.spec|_=>none,λ| _=>none,λ_ _=>none⟩
theorem adw:jb.sp 213=some aeZ.spec:=rfl
def lP:=(ae @List.replicate_succ.{0} @List.replicate_zero.{0} @au @ab lx ly lA (ae di dj dk dm dB dD dF (ae dG eK eL eM eN eO eP (ae acJ acK acL acM @aV @aw @aD (fg @aF @Y9 @Y8 adw)))))
theorem aby(s:ByteArray)(w:World)(hg:fC w (Out [])):Calls prog 171 #[.string s] w λe w' => e=.returned (.int .i64 (EO s))/\LE.an w [] w' := by
 obtain⟨h0,h1,h2,h3,h4,h5⟩:=hg.2;refine ak (nt:=28) [.tmp 2] func171 rfl rfl rfl ?_;refine vR jb lP ?_;refine Wp.seq ?_;refine vR jb (oQ lP h1 h2 h3 h4 h5) ?_;refine Wp.block ?_
 refine Wp.loop (λk:Nat=>⟨20,eA [(0,.is (.v (.string s))),(5,.is (.agg [.v (.string (yT 0)),.v (.string (yT 1)),.v (.string (yT 2)),.v (.string (yT 3)),.v (.string (yT 4))])),(6,.is (.v (.int .i64 (k:Nat))))],dS []⟩) (λk=>k<=5/\∀ i<k,rkB s i=false) (λk=>5-k) 0 ?_ ⟨dE,λi h=>by omega⟩ ?_
 ·exact wM (λk=>.key k) (aa lP @Int.natCast_zero)
 rintro k ⟨k1,k2⟩;refine vR jb lP ?_;refine Wp.seq ?_;refine wC lP (λhc=>?_) (λhc=>?_)
 ·have hk:k<5:=by
   simp at hc;omega
  clear hc;have wk:IntKind.i64.wrap ((k:Int)+1)=((k+1:Nat):Int):=wW;refine wK ?_;refine Wp.seq (Wp.block ?_)
  refine ig ⟨40,eA [(3,.is (.v (.int .i64 (k:Nat)))),(4,.is (.v (.string (yT k)))),(0,.is (.v (.string s))),(5,.is (.agg [.v (.string (yT 0)),.v (.string (yT 1)),.v (.string (yT 2)),.v (.string (yT 3)),.v (.string (yT 4))])),(6,.is (.v (.int .i64 (k:Nat))))],dS []⟩ ?_ ?_
  ·have e0:((0:Nat):Int)=0:=rfl;have e1:((1:Nat):Int)=1:=rfl;have e2:((2:Nat):Int)=2:=rfl;have e3:((3:Nat):Int)=3:=rfl;have e4:((4:Nat):Int)=4:=rfl;rcases (show k=0\/k=1\/k=2\/k=3\/k=4 by omega) with rfl|rfl|rfl|rfl|rfl
   ·skip;refine wr jb (aa lP e0) ?_ ?_
    ·first|trivial|decide|omega
    exact wM (λk=>.key k) (aa lP e0)
   ·skip;refine wr jb (aa lP e1) ?_ ?_
    ·first|trivial|decide|omega
    exact wM (λk=>.key k) (aa lP e1)
   ·skip;refine wr jb (aa lP e2) ?_ ?_
    ·first|trivial|decide|omega
    exact wM (λk=>.key k) (aa lP e2)
   ·skip;refine wr jb (aa lP e3) ?_ ?_
    ·first|trivial|decide|omega
    exact wM (λk=>.key k) (aa lP e3)
   ·skip;refine wr jb (aa lP e4) ?_ ?_
    ·first|trivial|decide|omega
    exact wM (λk=>.key k) (aa lP e4)
  have hz:(yT k).size<4294967281:=by
   unfold yT;split<;>decide
  have hb:rkB s k=((!decide (s=⟨#[]⟩)&&Lib.contains (yT k).data.toList s.data.toList)&&(decide ((s.size:Int)=2)||!decide (yT k=⟨#[62,62]⟩))):=rfl;generalize yT k=p at *;refine wR jb lP ?_ ?_
  ·exact λ_=>⟨hz,hg.1⟩
  refine wC lP (λhc=>?_) (λhc=>?_)
  ·have e:EO s=(k:Nat):=by
    unfold EO;rw[U4 (rkB s) 5 k hk k2 (hb.trans hc)]
   rw[e];refine vR jb lP ?_;refine wZ lP ?_;exact λE=>rfl
  refine wK ?_;refine vr jb (aa lP wk) ?_;refine⟨k+1,⟨oM,λi hi=>?_⟩,oM,?_⟩
  ·rcases Nat.lt_or_ge i k with h|h
   ·exact k2 i h
   ·obtain rfl:i=k:=oM;rw[hb];exact hc
  ·exact wM (λk=>.key k) lP
 ·have hk:k=5:=by
   simp at hc;omega
  subst hk;have e:EO s=-1:=by
   unfold EO;rw[KW (rkB s) 5 k2]
  rw[e];refine wE ?_;refine vR jb lP ?_;refine wZ lP ?_;exact λE=>rfl
def Gq:a8 prog 171 where
 pre:=λW bs=>λ| [.val (.string s)]=>fC W (Out bs)|_=>False
 res:=λW=>λ| [.val (.string s)]=>.int .i64 (EO s)|_=>undef
 enters:=call171
 ok:=by
  intro W w bs us as_ hk hu hp;split at hp
  ·rename_i s
   match us,hu with
   |[u0],hu=>
    obtain⟨rfl,_⟩:=hu;exact aby s w (hp.mono (λb hb hs=>⟨hk.block b hb hs,by simp[Out]⟩))
  ·exact hp.elim
theorem yS(W:World)(s:ByteArray):Gq.res W [.val (.string s)]=.int .i64 (EO s):=rfl
theorem yR(W:World)(bs:List Nat)(s:ByteArray):Gq.pre W bs [.val (.string s)]=(fC W (Out bs)):=rfl
def eU:=(bp lP @yS @yR)
theorem Um(s:ByteArray)(w:World):Calls prog 112 #[.string s] w λe w' => e=.returned (.int .i64 (ri s))/\LE.an w [] w' := by
 refine ak (nt:=19) [.tmp 2] func112 rfl rfl rfl ?_;refine vR jb eU ?_;refine Wp.seq ?_;refine vR jb eU ?_;refine Wp.block ?_
 refine ig ⟨60,eA [(0,.is (.v (.string s))),(3,.is (.v (.string s))),(4,.is (.v (.bool (decide (s=⟨#[99,111,112,121]⟩\/s=⟨#[107,101,121]⟩\/s=⟨#[105,110,115]⟩\/s=⟨#[105,100]⟩\/s=⟨#[102,111,108,100]⟩)))))],dS []⟩ ?_ ?_
 ·skip;refine vR jb eU ?_;refine wC eU (λhc=>?_) (λhc=>?_)
  ·have h:s=⟨#[99,111,112,121]⟩:=of_decide_eq_true hc;have e:decide (s=⟨#[99,111,112,121]⟩\/s=⟨#[107,101,121]⟩\/s=⟨#[105,110,115]⟩\/s=⟨#[105,100]⟩\/s=⟨#[102,111,108,100]⟩)=true:=decide_eq_true (Or.inl h);refine wK ?_;exact wM (λk=>.key k) (bp eU e hc)
  have n0:¬ s=⟨#[99,111,112,121]⟩:=of_decide_eq_false hc;clear hc;refine vR jb eU ?_;refine wC eU (λhc=>?_) (λhc=>?_)
  ·have h:s=⟨#[107,101,121]⟩:=of_decide_eq_true hc;have e:decide (s=⟨#[99,111,112,121]⟩\/s=⟨#[107,101,121]⟩\/s=⟨#[105,110,115]⟩\/s=⟨#[105,100]⟩\/s=⟨#[102,111,108,100]⟩)=true:=decide_eq_true (Or.inr (Or.inl h));refine wK ?_;exact wM (λk=>.key k) (bp eU e hc)
  have n1:¬ s=⟨#[107,101,121]⟩:=of_decide_eq_false hc;clear hc;refine vR jb eU ?_;refine wC eU (λhc=>?_) (λhc=>?_)
  ·have h:s=⟨#[105,110,115]⟩:=of_decide_eq_true hc;have e:decide (s=⟨#[99,111,112,121]⟩\/s=⟨#[107,101,121]⟩\/s=⟨#[105,110,115]⟩\/s=⟨#[105,100]⟩\/s=⟨#[102,111,108,100]⟩)=true:=decide_eq_true (Or.inr (Or.inr (Or.inl h)));refine wK ?_;exact wM (λk=>.key k) (bp eU e hc)
  have n2:¬ s=⟨#[105,110,115]⟩:=of_decide_eq_false hc;clear hc;refine vR jb eU ?_;refine wC eU (λhc=>?_) (λhc=>?_)
  ·have h:s=⟨#[105,100]⟩:=of_decide_eq_true hc;have e:decide (s=⟨#[99,111,112,121]⟩\/s=⟨#[107,101,121]⟩\/s=⟨#[105,110,115]⟩\/s=⟨#[105,100]⟩\/s=⟨#[102,111,108,100]⟩)=true:=decide_eq_true (Or.inr (Or.inr (Or.inr (Or.inl h))));refine wK ?_;exact wM (λk=>.key k) (bp eU e hc)
  have n3:¬ s=⟨#[105,100]⟩:=of_decide_eq_false hc;clear hc
  have e:decide (s=⟨#[99,111,112,121]⟩\/s=⟨#[107,101,121]⟩\/s=⟨#[105,110,115]⟩\/s=⟨#[105,100]⟩\/s=⟨#[102,111,108,100]⟩)=decide (s=⟨#[102,111,108,100]⟩):=by simp only[eq_false n0,false_or,eq_false n1,false_or,eq_false n2,false_or,eq_false n3,false_or]
  refine vr jb eU ?_;exact wM (λk=>.key k) (aa eU e)
 refine wC eU (λhc=>?_) (λhc=>?_)
 ·have h:s=⟨#[99,111,112,121]⟩\/s=⟨#[107,101,121]⟩\/s=⟨#[105,110,115]⟩\/s=⟨#[105,100]⟩\/s=⟨#[102,111,108,100]⟩:=of_decide_eq_true hc;have e:ri s=1:=by unfold ri;rw[if_pos h]
  rw[e];refine vR jb eU ?_;refine wZ eU ?_;exact λE=>rfl
 have m1:¬ (s=⟨#[99,111,112,121]⟩\/s=⟨#[107,101,121]⟩\/s=⟨#[105,110,115]⟩\/s=⟨#[105,100]⟩\/s=⟨#[102,111,108,100]⟩):=of_decide_eq_false hc;clear hc
 refine ig ⟨60,eA [(0,.is (.v (.string s))),(3,.is (.v (.string s))),(10,.is (.v (.bool (decide (s=⟨#[100,101,108]⟩\/s=⟨#[108,101,102,116]⟩\/s=⟨#[114,105,103,104,116]⟩\/s=⟨#[100,101,102,97,117,108,116]⟩)))))],dS []⟩ ?_ ?_
 ·skip;refine vR jb eU ?_;refine wC eU (λhc=>?_) (λhc=>?_)
  ·have h:s=⟨#[100,101,108]⟩:=of_decide_eq_true hc;have e:decide (s=⟨#[100,101,108]⟩\/s=⟨#[108,101,102,116]⟩\/s=⟨#[114,105,103,104,116]⟩\/s=⟨#[100,101,102,97,117,108,116]⟩)=true:=decide_eq_true (Or.inl h);refine wK ?_;exact wM (λk=>.key k) (bp eU e hc)
  have n0:¬ s=⟨#[100,101,108]⟩:=of_decide_eq_false hc;clear hc;refine vR jb eU ?_;refine wC eU (λhc=>?_) (λhc=>?_)
  ·have h:s=⟨#[108,101,102,116]⟩:=of_decide_eq_true hc;have e:decide (s=⟨#[100,101,108]⟩\/s=⟨#[108,101,102,116]⟩\/s=⟨#[114,105,103,104,116]⟩\/s=⟨#[100,101,102,97,117,108,116]⟩)=true:=decide_eq_true (Or.inr (Or.inl h));refine wK ?_;exact wM (λk=>.key k) (bp eU e hc)
  have n1:¬ s=⟨#[108,101,102,116]⟩:=of_decide_eq_false hc;clear hc;refine vR jb eU ?_;refine wC eU (λhc=>?_) (λhc=>?_)
  ·have h:s=⟨#[114,105,103,104,116]⟩:=of_decide_eq_true hc;have e:decide (s=⟨#[100,101,108]⟩\/s=⟨#[108,101,102,116]⟩\/s=⟨#[114,105,103,104,116]⟩\/s=⟨#[100,101,102,97,117,108,116]⟩)=true:=decide_eq_true (Or.inr (Or.inr (Or.inl h)));refine wK ?_;exact wM (λk=>.key k) (bp eU e hc)
  have n2:¬ s=⟨#[114,105,103,104,116]⟩:=of_decide_eq_false hc;clear hc
  have e:decide (s=⟨#[100,101,108]⟩\/s=⟨#[108,101,102,116]⟩\/s=⟨#[114,105,103,104,116]⟩\/s=⟨#[100,101,102,97,117,108,116]⟩)=decide (s=⟨#[100,101,102,97,117,108,116]⟩):=by simp only[eq_false n0,false_or,eq_false n1,false_or,eq_false n2,false_or]
  refine vr jb eU ?_;exact wM (λk=>.key k) (aa eU e)
 refine wC eU (λhc=>?_) (λhc=>?_)
 ·have h:s=⟨#[100,101,108]⟩\/s=⟨#[108,101,102,116]⟩\/s=⟨#[114,105,103,104,116]⟩\/s=⟨#[100,101,102,97,117,108,116]⟩:=of_decide_eq_true hc;have e:ri s=2:=by unfold ri;rw[if_neg m1,if_pos h]
  rw[e];refine vR jb eU ?_;refine wZ eU ?_;exact λE=>rfl
 have m2:¬ (s=⟨#[100,101,108]⟩\/s=⟨#[108,101,102,116]⟩\/s=⟨#[114,105,103,104,116]⟩\/s=⟨#[100,101,102,97,117,108,116]⟩):=of_decide_eq_false hc;clear hc;refine vR jb eU ?_;refine wC eU (λhc=>?_) (λhc=>?_)
 ·have h:s=⟨#[110,111,114,109]⟩:=of_decide_eq_true hc;have e:ri s=3:=by unfold ri;rw[if_neg m1,if_neg m2,if_pos h]
  rw[e];refine vR jb eU ?_;refine wZ eU ?_;exact λE=>rfl
 have m3:¬ s=⟨#[110,111,114,109]⟩:=of_decide_eq_false hc;clear hc;refine vR jb eU ?_;refine wC eU (λhc=>?_) (λhc=>?_)
 ·have h:s=⟨#[108,101,116]⟩:=of_decide_eq_true hc;have e:ri s=-1:=by unfold ri;rw[if_neg m1,if_neg m2,if_neg m3,if_pos h]
  rw[e];refine vR jb eU ?_;refine wZ eU ?_;exact λE=>rfl
 have m4:¬ s=⟨#[108,101,116]⟩:=of_decide_eq_false hc;have e:ri s=0:=by unfold ri;rw[if_neg m1,if_neg m2,if_neg m3,if_neg m4]
 rw[e];refine wK ?_;refine vR jb eU ?_;refine wZ eU ?_;exact λE=>rfl
def yc:a8 prog 112 where
 pre:=λW bs=>λ| [.val (.string s)]=>True|_=>False
 res:=λW=>λ| [.val (.string s)]=>.int .i64 (ri s)|_=>undef
 enters:=call112
 ok:=by
  intro W w bs us as_ hk hu hp;split at hp
  ·rename_i s
   match us,hu with
   |[u0],hu=>
    obtain⟨rfl,_⟩:=hu;exact Um s w
  ·exact hp.elim
theorem pV(W:World)(s:ByteArray):yc.res W [.val (.string s)]=.int .i64 (ri s):=rfl
theorem pU(W:World)(bs:List Nat)(s:ByteArray):yc.pre W bs [.val (.string s)]=(True):=rfl
structure Pb where
 b:Nat
 o:Nat
 c:Nat
 L:List Tk
def Pb.at(q:Pb)(r:List Tk):Nat:=q.o+3*(q.L.length-r.length)
def Pb.sl(q:Pb)(r:List Tk):Value:=.slice (some ⟨q.b,q.at r,none⟩) r.length (q.c-(q.L.length-r.length))
def pC(q:Pb)(r:List Tk)(op:Nat):List AV:=[.val (q.sl r),.val (.int .i64 (op:Nat))]
def Pb.ok(q:Pb)(W:World)(S:Nat->Prop):Prop:=jY W S (some ⟨q.b,q.o,none⟩) (x5 q.L)/\q.L.length<=q.c/\q.L.length<=1000000
theorem Pb.ok.Cu{q:Pb}{W W' : World}{S S' : Nat->Prop}(h:q.ok W S)(hs:aX W S W' S'):q.ok W' S' := ⟨h.1.mono hs,h.2⟩
def tkU(t:Tk):Value:=.agg #[.int .i64 t.1,.int .i64 (t.2.1:Nat),.string t.2.2]
theorem MT{W:World}{S:Nat->Prop}{b o:Nat}:∀ {L:List Tk} {r:List Tk},jY W S (some ⟨b,o,none⟩) (x5 L)->r <:+ L->r≠[] ->
  W.cell? ⟨b,o+3*(L.length-r.length),none⟩=some (.int .i64 (pk r).1)/\W.cell? ⟨b,o+3*(L.length-r.length)+1,none⟩=some (.int .i64 ((pk r).2.1:Nat))/\W.cell? ⟨b,o+3*(L.length-r.length)+1+1,none⟩=some (.string (pk r).2.2):=by
 intro L r h hr hne;obtain⟨p,rfl⟩:=hr;obtain⟨t,r,rfl⟩:∃ t r',r=t::r' := by
  cases r with
  |nil=>exact absurd rfl hne
  |cons t r=>exact⟨t,r,rfl⟩
 have hl:(p++t::r).length-(t::r).length=p.length:=by
  rw[List.length_append];omega
 rw[hl];have hv:x5 (p++t::r)=x5 p++([.int .i64 t.1,.int .i64 (t.2.1:Nat),.string t.2.2]++x5 r):=by
  unfold x5;rw[List.flatMap_append,List.flatMap_cons]
 have hp:=xt p;rw[hv]at h;rcases h with h|⟨b',o',he,hc⟩
 ·exact absurd (congrArg List.length h) sI
 ·cases he;have g:∀ j v,([.int .i64 t.1,.int .i64 (t.2.1:Nat),.string t.2.2]:List Value)[j]?=some v->W.cell? ⟨b,o+(3*p.length+j),none⟩=some v:=λj v hv=>by
   have hj:j<3:=by
    rcases Nat.lt_or_ge j 3 with h|h
    ·exact h
    ·rw[List.getElem?_eq_none (by simpa using h)]at hv;cases hv
   have:=(hc (3*p.length+j) (by rw[List.length_append,List.length_append,hp];simp only[List.length_cons,List.length_nil];omega)).2;rw[this]
   congr 1
   have h2:(x5 p++([.int .i64 t.1,.int .i64 (t.2.1:Nat),.string t.2.2]++x5 r))[3*p.length+j]?=some v:=by
    rw[List.getElem?_append_right oM,hp,show 3*p.length+j-p.length*3=j by omega,List.getElem?_append_left (by simpa using hj)];exact hv
   rw[List.getElem?_eq_getElem (by rw[List.length_append,List.length_append,hp];simp only[List.length_cons,List.length_nil];omega)]at h2;exact Option.some.inj h2
  refine⟨?_,?_,?_⟩
  ·have:=g 0 _ rfl
   rwa [Nat.add_zero]at this
  ·exact g 1 _ rfl
  ·exact g 2 _ rfl
theorem Gn{w:World}{u:Value}{fp:List Nat}{q:Pb}{r:List Tk}{op:Nat}(h:aY w u fp 143 (pC q r op)) :
  ∃ b,u=.pointer (some ⟨b,0,none⟩)/\w.cell? ⟨b,0,none⟩=some (q.sl r)/\w.cell? ⟨b,0+1,none⟩=some (.int .i64 (op:Nat)):=by
 obtain⟨b,us,h1,h2,h3⟩:=yJ h
 match us,h2 with
 |[x,y],h2=>
  obtain⟨rfl,rfl,_⟩:=h2;exact⟨b,h1,h3 0 sI,h3 1 sI⟩
def aeG:=(ae @List.replicate_succ.{0} @List.replicate_zero.{0} @au @ab lx ly lA (ae di dj dk dm dB dD dF (ae dG eK eL eM eN eO eP (ae JU JV JW JX oH oI oJ (ae oK vn vt vu vv vz vA (ae vB vC vD vE Jd Je Jf (ae Jg u9 vc vd ve vf vg (ae vh vi vj vl vm qU qV (ae qW qX qY qZ q7 q8 @aV (bp @aw @aD @aF))))))))))
theorem G1(q:Pb)(r:List Tk)(b:Nat)(w:World)(hq:q.ok w (Out []))(hr:r <:+ q.L)(hne:r≠[])(g1:w.cell? ⟨b,0,none⟩=some (q.sl r)) :
  Calls prog 110 #[.pointer (some ⟨b,0,none⟩)] w λe w' => e=.returned (tkU (pk r))/\an w [] w' := by
 obtain⟨x1,x2,x3⟩:=MT hq.1 hr hne;have hat:q.o+3*(q.L.length-r.length)=q.at r:=rfl;rw[hat]at x1 x2 x3;unfold Pb.sl at g1;have hl:0<r.length:=by
  rcases r with _|⟨t,r⟩
  ·exact absurd rfl hne
  ·simp
 refine ak (nt:=9) [.cell 2 225] func110 rfl rfl rfl ?_;refine vR Γ0 aeG ?_;refine wR Γ0 (nu aeG g1 x1 x2 x3) ?_ ?_
 ·omega
 refine wZ aeG ?_;exact λE=>rfl
def Pb.st(q:Pb)(W:World)(S:Nat->Prop)(r:List Tk):Prop:=q.ok W S/\r <:+ q.L/\j6 r
theorem Pb.st.b8{q:Pb}{r:List Tk}{W W' : World}{S S' : Nat->Prop}(h:q.st W S r)(hs:aX W S W' S'):q.st W' S' r:=⟨h.1.Cu hs,h.2⟩
def gk(q:Pb)(r:List Tk)(op:Nat):zD prog 110 where
 T:=143
 pre:=λW bs fs as_=>(fs=pC q r op/\as_=[])/\q.st W (Out bs) r
 res:=λW fs as_=>tkU (pk r)
 enters:=call110
 ok:=by
  intro W w bs u fp us fs as_ hk ho hu hp;obtain⟨⟨rfl,rfl⟩,h1,h2,h3⟩:=hp
  match us,hu with
  |[],_=>
   obtain⟨b,rfl,g1,g2⟩:=Gn ho;exact G1 q r b w (h1.Cu λb hb hs=>⟨hk.block b hb hs,by simp[Out]⟩) h2 h3.ne g1
def R1(q:Pb)(r:List Tk)(b:Nat):a8 prog 110 where
 pre:=λW bs as_=>as_=[.val (.pointer (some ⟨b,0,none⟩))]/\(b∉bs/\W.cell? ⟨b,0,none⟩=some (q.sl r))/\q.st W (Out bs) r
 res:=λW as_=>tkU (pk r)
 enters:=call110
 ok:=by
  intro W w bs us as_ hk hu hp;obtain⟨rfl,⟨g0,g1⟩,h1,h2,h3⟩:=hp
  match us,hu with
  |[x],hu=>
   obtain⟨rfl,_⟩:=hu;have hs:aX W (Out bs) w (Out []):=λb hb hs=>⟨hk.block b hb hs,by simp[Out]⟩
   exact G1 q r b w (h1.Cu hs) h2 h3.ne (XC.mono (b:=b) (o:=0) ⟨g0,g1⟩ hs).2
section
variable (q:Pb)(r:List Tk)(b:Nat)
noncomputable def anp:Env prog:=⟨λ| 110=>some (R1 q r b).spec|_=>none,λ_=>none,λ_ _=>none⟩
theorem adx:(anp q r b).sp 110=some (R1 q r b).spec:=rfl
end
def aeH:=(nu aeG @adx @R1.eq_1 @pC.eq_1 @tkU.eq_1)
theorem ahp(q:Pb)(r:List Tk)(m:ByteArray)(b:Nat)(w:World)(hq:q.st w (Out []) r)(g1:w.cell? ⟨b,0,none⟩=some (q.sl r)) :
  Calls prog 169 #[.pointer (some ⟨b,0,none⟩),.string m] w λe w' => e=.returned (.bool (dU r m))/\an w [] w' := by
 have hb:b∉([]:List Nat):=by simp
 refine ak (nt:=16) [.tmp 4] func169 rfl rfl rfl ?_;refine vR Γ0 aeH ?_;refine wR (anp q r b) aeH ?_ ?_
 ·exact⟨⟨g1,hq⟩,λ_=>⟨g1,hq⟩⟩
 refine wZ aeH ?_;exact λE=>rfl
def vG(q:Pb)(r:List Tk)(op:Nat):zD prog 169 where
 T:=143
 pre:=λW bs fs as_=>(fs=pC q r op/\∃ m,as_=[.val (.string m)])/\q.st W (Out bs) r
 res:=λW fs as_=>match as_ with
  |[.val (.string m)]=>.bool (dU r m)
  |_=>undef
 enters:=call169
 ok:=by
  intro W w bs u fp us fs as_ hk ho hu hp;obtain⟨⟨rfl,m,rfl⟩,h1⟩:=hp
  match us,hu with
  |[x],hu=>
   obtain⟨rfl,_⟩:=hu;obtain⟨b,rfl,g1,g2⟩:=Gn ho;exact ahp q r m b w (h1.b8 λb hb hs=>⟨hk.block b hb hs,by simp[Out]⟩) g1
section
variable (q:Pb)(r:List Tk)(op:Nat)
noncomputable def alY:Env prog:=⟨λ| 110=>some (gk q r op).spec|169=>some (vG q r op).spec|_=>none,λ_=>none,λ_ _=>none⟩
theorem ady:(alY q r op).sp 110=some (gk q r op).spec:=rfl
theorem adz:(alY q r op).sp 169=some (vG q r op).spec:=rfl
end
theorem aeB{q:Pb}{r:List Tk}(hr:r <:+ q.L)(h:j6 r)(hk:(pk r).1≠0):q.at r+3=q.at r.tail/\r.length-1=r.tail.length/\(q.c-(q.L.length-r.length))-1=q.c-(q.L.length-r.tail.length):=by
 have h1:=h.pos;have h2:=hr.length_le;have h3:=List.length_tail (l:=r);unfold Pb.at;refine⟨oM,oM,oM⟩
def Kp:=(nu aeH @ady @adz @gk.eq_1 @vG.eq_1)
theorem X4(q:Pb)(r:List Tk)(op:Nat)(u:Value)(fp:List Nat)(w:World)(hq:q.st w (Out fp) r)(hk:(pk r).1≠0)(ho:aY w u fp 143 (pC q r op))(hlt:∀ b∈fp,b<w.heap.size) :
  Calls prog 111 (#[u]++#[]) w λx w' => dN w u fp 143 x w' (.ret (tkU (pk r)) (pC q r.tail op)):=by
 obtain⟨h1,h2,h3⟩:=hq;obtain⟨x1,x2,x3⟩:=MT h1.1 h2 h3.ne;have hat:q.o+3*(q.L.length-r.length)=q.at r:=rfl;rw[hat]at x1 x2 x3;obtain⟨n1,n2,n3⟩:=aeB h2 h3 hk;have hl:=h3.pos;have hle:=h2.length_le;have hc:=h1.2.1;have hout:¬ q.b∈fp:=by
  rcases h1.1 with h|⟨b',o',he,hx⟩
  ·have:=xt q.L;rw[h]at this;simp at this;omega
  ·cases he;exact (hx 0 (by rw[xt];omega)).1
 have hsl:IT (some ⟨q.b,q.at r,none⟩) 1 3 (q.c-(q.L.length-r.length))=some ⟨q.b,q.at r.tail,none⟩:=by
  have:=(h3.tail hk).1.pos;unfold IT;rw[if_neg oM,<- n1];rfl
 refine aO (nt:=19) #[] [.cell 2 225] (by show 2<=7;omega) ho hlt func111 rfl rfl rfl ?_;refine vR Γ0 (aa Kp @Pb.sl.eq_1) ?_;refine wR Γ0 (nu Kp x1 x2 x3 @Pb.sl.eq_1) ?_ ?_
 ·exact⟨oM,hout⟩
 refine wR Γ0 (aa Kp @Pb.sl.eq_1) ?_ ?_
 ·exact⟨oM,oM⟩
 refine vR Γ0 (aa Kp @Pb.sl.eq_1) ?_;refine wZ (nu Kp @Pb.sl.eq_1 hsl n2 n3) ?_;exact⟨_,_,rfl,λE=>rfl,_,_,rfl,(ev (aa Kp @aq)),dE⟩
def ij(q:Pb)(r:List Tk)(op:Nat):bP prog 111 where
 T:=143
 pre:=λW bs fs as_=>(fs=pC q r op/\as_=[])/\q.st W (Out bs) r/\(pk r).1≠0
 out:=λW fs as_=>.ret (tkU (pk r)) (pC q r.tail op)
 enters:=call111
 ok:=by
  intro W w bs u fp us fs as_ hk ho hlt hmine hu hp;obtain⟨⟨rfl,rfl⟩,h1,h2⟩:=hp
  match us,hu with
  |[],_=>
   exact X4 q r op u fp w (h1.b8 λb hb hs=>⟨hk.block b hb hs,λhb' => (hmine b hb').elim (λg=>absurd g (Nat.not_le.2 hb)) hs⟩) h2 ho hlt
def Yl(c:Int)(r:List Tk):List PanicEntry:=bf c ((pk r).2.1:Nat)
theorem X3(q:Pb)(r:List Tk)(op:Nat)(c:Int)(u:Value)(fp:List Nat)(w:World)(hq:q.st w (Out fp) r)(ho:aY w u fp 143 (pC q r op))(hlt:∀ b∈fp,b<w.heap.size) :
  Calls prog 113 (#[u]++#[.int .i64 c]) w λx w' => dN w u fp 143 x w' (.pan (Yl c r) (.tuple #[])):=by
 refine aO (nt:=10) #[.int .i64 c] [] (by show 2<=7;omega) ho hlt func113 rfl rfl rfl ?_;refine Wp.dJ (alY q r op) aN (ev (fg Kp @Yl.eq_1 @bf.eq_1 @pR.eq_1)) ?_ ?_
 ·exact⟨dE,hq⟩
 refine qq ?_;exact⟨_,rfl⟩
def oN(q:Pb)(r:List Tk)(op:Nat):bP prog 113 where
 T:=143
 pre:=λW bs fs as_=>(fs=pC q r op/\∃ c,as_=[.val (.int .i64 c)])/\q.st W (Out bs) r
 out:=λW fs as_=>match as_ with
  |[.val (.int _ c)]=>.pan (Yl c r) (.tuple #[])
  |_=>.pan [] undef
 enters:=call113
 ok:=by
  intro W w bs u fp us fs as_ hk ho hlt hmine hu hp;obtain⟨⟨rfl,c,rfl⟩,h1⟩:=hp
  match us,hu with
  |[x],hu=>
   obtain⟨rfl,_⟩:=hu;exact X3 q r op c u fp w (h1.b8 λb hb hs=>⟨hk.block b hb hs,λhb' => (hmine b hb').elim (λg=>absurd g (Nat.not_le.2 hb)) hs⟩) ho hlt
section
variable (q:Pb)(r:List Tk)(op:Nat)
noncomputable def R2:Env prog:=⟨λ| 110=>some (gk q r op).spec|169=>some (vG q r op).spec|111=>some (ij q r op).spec|113=>some (oN q r op).spec|_=>none,λ_=>none,λ_ _=>none⟩
theorem adA:(R2 q r op).sp 110=some (gk q r op).spec:=rfl
theorem adD:(R2 q r op).sp 169=some (vG q r op).spec:=rfl
theorem adB:(R2 q r op).sp 111=some (ij q r op).spec:=rfl
theorem adC:(R2 q r op).sp 113=some (oN q r op).spec:=rfl
end
def eQ(q:Pb)(r:List Tk)(op op' : Nat)(m:ByteArray):BOut:=if dU r m=true then .ret (.tuple #[]) (pC q r.tail op') else .pan (Yl 60 r) (.tuple #[])
def Oe:=(EL Kp @adA @adD @adB @adC @ij.eq_1 @oN.eq_1)
theorem X5(q:Pb)(r:List Tk)(op:Nat)(m:ByteArray)(u:Value)(fp:List Nat)(w:World)(hq:q.st w (Out fp) r)(ho:aY w u fp 143 (pC q r op))(hlt:∀ b∈fp,b<w.heap.size) :
  Calls prog 114 (#[u]++#[.string m]) w λx w' => dN w u fp 143 x w' (eQ q r op op m):=by
 refine aO (nt:=12) #[.string m] [] (by show 2<=7;omega) ho hlt func114 rfl rfl rfl ?_;refine Wp.seq ?_;refine wR (R2 q r op) Oe ?_ ?_
 ·exact⟨dE,⟨_,rfl⟩,hq⟩
 refine wC Oe (λhc=>?_) (λhc=>?_)
 ·have h:¬ dU r m=true:=by simpa using hc
  rw[eQ,if_neg h];refine Wp.dJ (R2 q r op) aN (ev Oe) ?_ ?_
  ·exact⟨⟨⟨_,rfl⟩,hq⟩,dE,λ_ h=>h.elim⟩
  refine qq ?_;exact⟨_,rfl⟩
 have h:dU r m=true:=by simpa using hc
 rw[eQ,if_pos h];refine wK ?_;refine wr (R2 q r op) Oe ?_ ?_
 ·exact⟨⟨hq,ic h⟩,dE,λ_ h=>h.elim⟩
 refine wS Oe ?_;exact⟨_,_,rfl,λE=>rfl,_,_,rfl,(ev (aa Oe @aq)),dE⟩
theorem aag{q:Pb}{r:List Tk}{W w:World}{bs fp:List Nat}(h:q.st W (Out bs) r)(hk:LE.an W bs w)(hm:∀ b∈fp,W.heap.size<=b\/b∈bs):q.st w (Out fp) r:=
 h.b8 λb hb hs=>⟨hk.block b hb hs,λhb' => (hm b hb').elim (λg=>absurd g (Nat.not_le.2 hb)) hs⟩
def s9(q:Pb)(r:List Tk)(op:Nat):bP prog 114 where
 T:=143
 pre:=λW bs fs as_=>(fs=pC q r op/\∃ m,as_=[.val (.string m)])/\q.st W (Out bs) r
 out:=λW fs as_=>match as_ with
  |[.val (.string m)]=>eQ q r op op m
  |_=>.pan [] undef
 enters:=call114
 ok:=by
  intro W w bs u fp us fs as_ hk ho hlt hmine hu hp;obtain⟨⟨rfl,m,rfl⟩,h1⟩:=hp
  match us,hu with
  |[x],hu=>
   obtain⟨rfl,_⟩:=hu;exact X5 q r op m u fp w (aag h1 hk hmine) ho hlt
section
variable (q:Pb)(r:List Tk)(op:Nat)
noncomputable def zy:Env prog:=⟨λ| 110=>some (gk q r op).spec|169=>some (vG q r op).spec|111=>some (ij q r op).spec|113=>some (oN q r op).spec|114=>some (s9 q r op).spec|112=>some yc.spec|171=>some Gq.spec|_=>none,λ_=>none,λ_ _=>none⟩
theorem adE:(zy q r op).sp 110=some (gk q r op).spec:=rfl
theorem adJ:(zy q r op).sp 169=some (vG q r op).spec:=rfl
theorem adF:(zy q r op).sp 111=some (ij q r op).spec:=rfl
theorem adH:(zy q r op).sp 113=some (oN q r op).spec:=rfl
theorem adI:(zy q r op).sp 114=some (s9 q r op).spec:=rfl
theorem adG:(zy q r op).sp 112=some yc.spec:=rfl
theorem adK:(zy q r op).sp 171=some Gq.spec:=rfl
end
def E7(q:Pb)(r:List Tk)(op:Nat)(m:ByteArray):BOut:=if dU r m=true/\64<=op then .pan (Yl 23 r) (.tuple #[]) else eQ q r op (op+1) m
def yd:=(ae Oe @adE @adJ @adF @adH @adI @adG (oQ @adK @s9.eq_1 @pV @pU @yS @yR))
theorem RZ(q:Pb)(r:List Tk)(op:Nat)(m:ByteArray)(u:Value)(fp:List Nat)(w:World)(hq:q.st w (Out fp) r)(hop:op<=64)(ho:aY w u fp 143 (pC q r op))(hlt:∀ b∈fp,b<w.heap.size) :
  Calls prog 247 (#[u]++#[.string m]) w λx w' => dN w u fp 143 x w' (E7 q r op m):=by
 have wo:IntKind.i64.wrap ((op:Int)+1)=((op+1:Nat):Int):=wW;refine aO (nt:=26) #[.string m] [] (by show 2<=7;omega) ho hlt func247 rfl rfl rfl ?_;refine Wp.seq ?_;refine wR (zy q r op) yd ?_ ?_
 ·exact⟨dE,⟨_,rfl⟩,hq⟩
 refine wC yd (λhc=>?_) (λhc=>?_)
 ·have h:dU r m=true/\64<=op:=by
   simp at hc;exact⟨hc.1,oM⟩
  rw[E7,if_pos h];refine Wp.dJ (zy q r op) aN (ev yd) ?_ ?_
  ·exact⟨⟨⟨_,rfl⟩,hq⟩,dE,λ_ h=>h.elim⟩
  refine qq ?_;exact⟨_,rfl⟩
 have h:¬ (dU r m=true/\64<=op):=by
  rintro⟨h1,h2⟩;simp[h1]at hc;omega
 rw[E7,if_neg h];refine wK ?_;by_cases hm:dU r m=true
 ·have hw:eQ q r op op m=.ret (.tuple #[]) (pC q r.tail op):=by rw[eQ,if_pos hm]
  have hw' : eQ q r op (op+1) m=.ret (.tuple #[]) (pC q r.tail (op+1)):=by rw[eQ,if_pos hm]
  rw[hw'];refine wR (zy q r op) (aa yd hw) ?_ ?_
  ·exact⟨⟨⟨_,rfl⟩,hq⟩,dE,λ_ h=>h.elim⟩
  refine vr Γ0 (aa yd wo) ?_;refine wS yd ?_;exact⟨_,_,rfl,λE=>rfl,_,_,rfl,(ev (aa yd @aq)),dE⟩
 ·have hw:eQ q r op op m=.pan (Yl 60 r) (.tuple #[]):=by rw[eQ,if_neg hm]
  have hw' : eQ q r op (op+1) m=.pan (Yl 60 r) (.tuple #[]):=by rw[eQ,if_neg hm]
  rw[hw'];refine Wp.bo (zy q r op) aN (ev (aa yd hw)) ?_ ?_
  ·exact⟨⟨⟨_,rfl⟩,hq⟩,dE,λ_ h=>h.elim⟩
  refine qq ?_;exact⟨_,rfl⟩
def xR(q:Pb)(r:List Tk)(op:Nat):bP prog 247 where
 T:=143
 pre:=λW bs fs as_=>(fs=pC q r op/\∃ m,as_=[.val (.string m)])/\q.st W (Out bs) r/\op<=64
 out:=λW fs as_=>match as_ with
  |[.val (.string m)]=>E7 q r op m
  |_=>.pan [] undef
 enters:=call247
 ok:=by
  intro W w bs u fp us fs as_ hk ho hlt hmine hu hp;obtain⟨⟨rfl,m,rfl⟩,h1,h2⟩:=hp
  match us,hu with
  |[x],hu=>
   obtain⟨rfl,_⟩:=hu;exact RZ q r op m u fp w (aag h1 hk hmine) h2 ho hlt
theorem R0(q:Pb)(r:List Tk)(op:Nat)(m:ByteArray)(u:Value)(fp:List Nat)(w:World)(hq:q.st w (Out fp) r)(hop:op+1<=64)(ho:aY w u fp 143 (pC q r (op+1)))(hlt:∀ b∈fp,b<w.heap.size) :
  Calls prog 248 (#[u]++#[.string m]) w λx w' => dN w u fp 143 x w' (eQ q r (op+1) op m):=by
 have wo:IntKind.i64.wrap (((op+1:Nat):Int)-1)=((op:Nat):Int):=wW;refine aO (nt:=14) #[.string m] [] (by show 2<=7;omega) ho hlt func248 rfl rfl rfl ?_;by_cases hm:dU r m=true
 ·have hw:eQ q r (op+1) (op+1) m=.ret (.tuple #[]) (pC q r.tail (op+1)):=by rw[eQ,if_pos hm]
  have hw' : eQ q r (op+1) op m=.ret (.tuple #[]) (pC q r.tail op):=by rw[eQ,if_pos hm]
  rw[hw'];refine wR (zy q r (op+1)) (aa yd hw) ?_ ?_
  ·exact⟨⟨⟨_,rfl⟩,hq⟩,dE,λ_ h=>h.elim⟩
  refine vr Γ0 (aa yd wo) ?_;refine wS yd ?_;exact⟨_,_,rfl,λE=>rfl,_,_,rfl,(ev (aa yd @aq)),dE⟩
 ·have hw:eQ q r (op+1) (op+1) m=.pan (Yl 60 r) (.tuple #[]):=by rw[eQ,if_neg hm]
  have hw' : eQ q r (op+1) op m=.pan (Yl 60 r) (.tuple #[]):=by rw[eQ,if_neg hm]
  rw[hw'];refine Wp.bo (zy q r (op+1)) aN (ev (aa yd hw)) ?_ ?_
  ·exact⟨⟨⟨_,rfl⟩,hq⟩,dE,λ_ h=>h.elim⟩
  refine qq ?_;exact⟨_,rfl⟩
def xS(q:Pb)(r:List Tk)(op:Nat):bP prog 248 where
 T:=143
 pre:=λW bs fs as_=>(fs=pC q r (op+1)/\∃ m,as_=[.val (.string m)])/\q.st W (Out bs) r/\op+1<=64
 out:=λW fs as_=>match as_ with
  |[.val (.string m)]=>eQ q r (op+1) op m
  |_=>.pan [] undef
 enters:=call248
 ok:=by
  intro W w bs u fp us fs as_ hk ho hlt hmine hu hp;obtain⟨⟨rfl,m,rfl⟩,h1,h2⟩:=hp
  match us,hu with
  |[x],hu=>
   obtain⟨rfl,_⟩:=hu;exact R0 q r op m u fp w (aag h1 hk hmine) h2 ho hlt
inductive nZ (W:World) (S:Nat->Prop):Bool->List Value->Ex->Prop where
 |name (a:Nat) (s:ByteArray):nZ W S true [.iface 205 (.agg #[.int .i64 (a:Nat),.string s])] (.name a s)
 |text (a:Nat) (s:ByteArray):nZ W S true [.iface 206 (.agg #[.int .i64 (a:Nat),.string s])] (.text a s)
 |rx (a:Nat) (s:ByteArray):nZ W S true [.iface 207 (.agg #[.int .i64 (a:Nat),.string s])] (.rx a s)
 |call (a:Nat) (s:ByteArray) (ao:Option Addr) (c:Nat) (vs:List Value) (l:Ex):jY W S ao vs->vs.length<=c->nZ W S false vs l->nZ W S true [.iface 219 (.agg #[.int .i64 (a:Nat),.string s,.slice ao vs.length c])] (.call a s l)
 |keyed (a:Nat) (v:Value) (x:Ex):nZ W S true [v] x->nZ W S true [.iface 209 (.agg #[.int .i64 (a:Nat),v])] (.keyed a x)
 |unary (a:Nat) (s:ByteArray) (v:Value) (x:Ex):nZ W S true [v] x->nZ W S true [.iface 212 (.agg #[.int .i64 (a:Nat),.string s,v])] (.unary a s x)
 |binary (a:Nat) (s:ByteArray) (v u:Value) (x y:Ex):nZ W S true [v] x->nZ W S true [u] y->nZ W S true [.iface 215 (.agg #[.int .i64 (a:Nat),.string s,v,u])] (.binary a s x y)
 |nil:nZ W S false [] .nil
 |cons (v:Value) (vs:List Value) (x l:Ex):nZ W S true [v] x->nZ W S false vs l->nZ W S false (v::vs) (.cons x l)
theorem nZ.mono{W W' : World}{S S' : Nat->Prop}{k:Bool}{vs:List Value}{x:Ex}(h:nZ W S k vs x)(hs:aX W S W' S'):nZ W' S' k vs x:=by
 induction h with
 |name a s=>exact .name a s
 |text a s=>exact .text a s
 |rx a s=>exact .rx a s
 |call a s ao c vs l h1 h2 _ ih=>exact .call a s ao c vs l (h1.mono hs) h2 ih
 |keyed a v x _ ih=>exact .keyed a v x ih
 |unary a s v x _ ih=>exact .unary a s v x ih
 |binary a s v u x y _ _ i1 i2=>exact .binary a s v u x y i1 i2
 |nil=>exact .nil
 |cons v vs x l _ _ i1 i2=>exact .cons v vs x l i1 i2
abbrev AP (W:World)(S:Nat->Prop)(v:Value)(x:Ex):Prop:=nZ W S true [v] x
theorem nZ.iface{W:World}{S:Nat->Prop}{v:Value}{x:Ex}(h:AP W S v x):∃ t u,v=.iface t u:=by
 cases h<;>exact⟨_,_,rfl⟩
theorem nZ.one{W:World}{S:Nat->Prop}{v:Value}{x:Ex}(h:AP W S v x):v.oneCell' = true:=by
 obtain⟨t,u,rfl⟩:=h.iface;rfl
theorem nZ.hv{W:World}{S:Nat->Prop}{v:Value}{x:Ex}(h:AP W S v x):hv v=v:=fQ h.one
theorem nZ.parts{W:World}{S:Nat->Prop}{v:Value}{x:Ex}(h:AP W S v x):partsOf (.v v)=[.v v]:=by
 obtain⟨t,u,rfl⟩:=h.iface;rfl
def exF(x:Ex):FK:=⟨λcs W S=>∃ v,cs=[v]/\AP W S v x,λhs ⟨v,h1,h2⟩=>⟨v,h1,h2.mono hs⟩⟩
theorem uy{W:World}{S:Nat->Prop}{x:Ex}{cs:List Value}(h:(exF x).Φ cs W S):∃ v,cs=[v]/\AP W S v x/\hv v=v:=by
 obtain⟨v,h1,h2⟩:=h;exact⟨v,h1,h2,h2.hv⟩
theorem tN{v:Value}(h:hv v=v):Sh.one.val [v]=v:=by
 show hv v=v;exact h
theorem kO{x:Ex}{W1:World}{bs1 fp:List Nat}{w:World}{S:Nat->Prop}{v:Value}{T:TypeId}{h:Hp}{vs:List SV}{fs' : List AV}{ks:List Nat}(hg:AP W1 (bJ (af w S fp) bs1) v x)
  (h0:h 0=some (.cells T vs)) (hv:aB h vs=some (fs',ks)) (hn:(0::ks).Nodup):N2 w S fp T W1 bs1 (.v v) h (.fact Sh.one (exF x) fs'):=
 ⟨⟨[v],λE=>(tN hg.hv).symm,v,rfl,hg⟩,vs,ks,h0,hv,hn⟩
def We(q:Pb)(op:Nat):PR->GOut
 |.ok (x,r)=>.fact Sh.one (exF x) (pC q r op)
 |.error (c,a)=>.pan (bf c (a:Nat)) .nilIface
theorem fI(q:Pb)(op:Nat)(x:Ex)(r:List Tk):We q op (.ok (x,r))=.fact Sh.one (exF x) (pC q r op):=rfl
theorem bn(q:Pb)(op:Nat)(c:Int)(a:Nat):We q op (.error (c,a))=.pan (bf c (a:Nat)) .nilIface:=rfl
def oT(f:FuncId)(as_:List Value)(op:Nat)(sub:List Tk->PR):Prop:=∀ (q:Pb) (r:List Tk) (u:Value) (fp:List Nat) (w:World) (S:Nat->Prop),q.st w S r->fC w S->aY w u fp 143 (pC q r op)->(∀ b∈fp,b<w.heap.size)->(∀ b∈fp,¬ S b) ->
 Calls prog f (#[u]++as_.toArray) w λe w' => wA w S u fp 143 e w' (We q op (sub r))
theorem BS{w:World}{S:Nat->Prop}:∀ {as_ us:List Value},BR w S (as_.map λ_=>none) us (as_.map AV.val)->us=as_
 |[],[],_=>rfl
 |[],_::_,h=>h.elim
 |a::r,[],h=>h.elim
 |a::r,u::us,h=>by
  obtain⟨h1,h2⟩:=h;have h1:u=a:=h1;rw[h1,BS h2]
def zc(f:FuncId)(as_:List Value)(op:Nat)(sub:List Tk->PR)(he:∀ args w,(callFunc f args).run prog w=.ok (.enter f args) w)(h:oT f as_ op sub)(q:Pb)(r:List Tk):vL prog f where
 T:=143
 kinds:=as_.map λ_=>none
 pre:=λfs bs_ W S=>(fs=pC q r op/\bs_=as_.map AV.val)/\q.st W S r/\fC W S
 premono:=λfs bs_ W S W' S' hs ⟨h1,h2,h3⟩=>⟨h1,h2.b8 hs,h3.mono hs⟩
 out:=λ_ _=>We q op (sub r)
 enters:=he
 ok:=by
  intro w S u fp us fs bs_ ho hlt hS hu hp;obtain⟨⟨rfl,rfl⟩,h1,h2⟩:=hp;obtain rfl:=BS hu;have:=h q r u fp w S h1 h2 ho hlt hS;simpa using this
structure PI where
 W:World
 bs:List Nat
 v:Value
 x:Ex
 r:List Tk
 n:Nat
section
variable (G:Nat->Prop)(q:Pb)(r:List Tk)(op:Nat)(atom:List Tk->PR)(h:oT 212 [] op atom)
noncomputable def NP:Env prog:=⟨λ| 110=>some (gk q r op).spec|169=>some (vG q r op).spec|111=>some (ij q r op).spec|212=>some ((zc 212 [] op atom call212 h q r).spec G)|_=>none,λ_=>none,λ_ _=>none⟩
theorem adL:(NP G q r op atom h).sp 110=some (gk q r op).spec:=rfl
theorem adN:(NP G q r op atom h).sp 169=some (vG q r op).spec:=rfl
theorem adM:(NP G q r op atom h).sp 111=some (ij q r op).spec:=rfl
theorem adO:(NP G q r op atom h).sp 212=some ((zc 212 [] op atom call212 h q r).spec G):=rfl
end
theorem Pb.st.out{q:Pb}{r:List Tk}{w:World}{S:Nat->Prop}{fp:List Nat}(h:q.st w (bJ S fp) r):q.st w (Out fp) r:=h.b8 λb _ hb=>⟨rfl,hb.2⟩
def ye:=(ae @List.replicate_succ.{0} @List.replicate_zero.{0} @au @ab lx ly lA (ae di dj dk dm dB dD dF (ae dG eK eL eM eN eO eP (ae ot ou ov ow ox u9 vc (ae vd ve vf vg vh vi vj (ae vl vm DB DC DD DE DF (ae DG DH DI DJ DK qU qV (ae qW qX qY qZ q7 q8 @aV (ae @aw @aD @aF @fy @adL @adN @adM (ae @adO @gk.eq_1 @vG.eq_1 @ij.eq_1 @pC.eq_1 @tkU.eq_1 @zc.eq_1 (aa @fI @bn)))))))))))
theorem abp(op:Nat)(atom:List Tk->PR)(hT:j7 atom 1)(hA:oT 212 [] op atom):oT 170 [] op (nA atom):=by
 intro q r u fp w S hq hsy ho hlt hS;have u0:=af.up w S fp;have q0:=hq.b8 (af.e7 w S fp hS);have s0:=hsy.mono (af.e7 w S fp hS);refine du (nt:=27) S #[] [.tmp 2] (by show 2<=7;omega) ho hlt func170 rfl rfl rfl ?_;refine vR Γ0 ye ?_;cases hF:atom r with
 |error e=>
  obtain⟨c,j⟩:=e;have hE:nA atom r=.error (c,j):=by rw[nA,hF]
  rw[hE,bn];refine Wp.bo (NP (af w S fp) q r op atom hA) aN (ev (aa ye hF)) ?_ ?_
  ·exact⟨⟨q0,s0⟩,dE,λ_ h=>h.elim⟩
  refine qq ?_;exact⟨_,rfl⟩
 | ok p=>
  obtain⟨x0,r0⟩:=p;have hL:=hT r hq.2.2 _ _ hF;have hE:nA atom r=.ok (oe r0.length x0 r0):=by rw[nA,hF]
  rw[hE];generalize hR:oe r0.length x0 r0=R;refine wR (NP (af w S fp) q r op atom hA) (aa ye hF) ?_ ?_
  ·exact⟨⟨q0,s0⟩,dE,(λ_ h=>h.elim),u0⟩
  refine Wp.cO 31 (ev ye) (aX.refl _ _) λW1 bs1 cs hx1 hΦ=>?_
  obtain⟨v0,rfl,hg0,hv0⟩:=uy hΦ;have q1:q.st W1 (bJ (af w S fp) bs1) r0:=⟨(q0.b8 hx1.dY).1,hL.2.1.trans hq.2.1,hL.1⟩;refine Wp.seq (Wp.block ?_);refine Wp.rm (λp:PI=>⟨20,eA [(0,.is (.own 0 0)),(3,.is (.v p.v))],dS [(0,.cells 143 [.v (q.sl p.r),.v (.int .i64 (op:Nat))])]⟩)
   PI.W PI.bs (λp=>q.st p.W (bJ (af w S fp) p.bs) p.r/\AP p.W (bJ (af w S fp) p.bs) p.v p.x/\p.r.length<=p.n/\oe p.n p.x p.r=R) (λp=>p.n) ⟨W1,bs1,v0,x0,r0,r0.length⟩ rfl rfl ?_ ⟨q1,hg0,Nat.le_refl _,hR⟩ ?_
  ·exact wM (λk=>.key k) (aa ye hv0)
  rintro⟨W2,bs2,v,x,r2,n⟩ ⟨q2,hg,hn,hR2⟩ hx2;simp only at q2 hg hn hR2 hx2;dsimp only;have hpos:=q2.2.2.pos;obtain⟨n,rfl⟩:∃ m,n=m+1:=⟨n-1,oM⟩;refine Wp.seq ?_;refine wR (NP (af w S fp) q r2 op atom hA) ye ?_ ?_
  ·exact⟨⟨dE,⟨_,rfl⟩,q2.out⟩,λ_=>⟨dE,⟨_,rfl⟩,q2.out⟩,λ_=>⟨dE,⟨_,rfl⟩,q2.out⟩⟩
  refine wC ye (λhc=>?_) (λhc=>?_)
  ·have h:((dU r2 kf||dU r2 uX)||dU r2 Ki)=true:=hc;rw[oe,if_pos h]at hR2;have hk:(pk r2).1≠0:=by
    simp only[Bool.or_eq_true]at h;rcases h with (h|h)|h<;>exact ic h
   refine wK ?_;refine Wp.block ?_;refine wR (NP (af w S fp) q r2 op atom hA) ye ?_ ?_
   ·exact⟨⟨q2.out,hk⟩,dE,λ_ h=>h.elim⟩
   refine vr Γ0 (aa ye hg.parts) ?_;have hnx:=Left.next q2.2.2 hk
   refine⟨⟨W2,bs2,.iface 212 (.agg #[.int .i64 ((pk r2).2.1:Nat),.string (pk r2).2.2,v]),.unary (pk r2).2.1 (pk r2).2.2 x,r2.tail,n⟩,⟨⟨q2.1,hnx.2.1.trans q2.2.1,hnx.1⟩,.unary _ _ _ _ hg,by have:=hnx.2.2;dsimp only;omega,hR2⟩,by dsimp only;omega,rfl,rfl,?_⟩;exact wM (λk=>.key k) ye
  ·have h:((dU r2 kf||dU r2 uX)||dU r2 Ki)=false:=hc;rw[oe,if_neg (by rw[h];simp)]at hR2;rw[<- hR2,fI];refine wE ?_;refine vR Γ0 ye ?_;refine wZ ye ?_;exact kO hg rfl ((ev (aa ye @aq))) dE
theorem gE(P:Program)(T:TypeId)(l:List SV):miK P T l none=⟨P.concrete T=true,.nO T (.agg l),[],none,[],[]⟩:=rfl
theorem e9(k i:Nat)(r:List SV):cY (.part k i::r)=none:=rfl
theorem Le.const{W:World}{bs:List Nat}{nt:Nat}{ds:Aux}{σ σ' : St}(t:Nat){x:SV}{v:Value}(hx:σ.φ t=.is x)(hc:cN x=some v)(h:Le W bs nt ds ⟨σ.n,bu σ.φ t (.is (.v v)),σ.h⟩ σ'):Le W bs nt ds σ σ' := by
 rintro a w ⟨⟨E,F,hφ,hs,hp⟩,h1,h2,h3,h4,h5⟩;refine h a w ⟨⟨E,F,λj=>?_,hs,hp⟩,h1,h2,h3,λj k hk=>?_,h5⟩
 ·show fits E (bu σ.φ t (.is (.v v)) j) _;by_cases hj:j=t
  ·subst hj;rw[ah];have:=hφ j;rw[hx]at this;rw[<- pX (E:=E) hc];exact this
  ·rw[al _ _ hj];exact hφ j
 ·show k / 8<σ.n;have hk:k∈(bu σ.φ t (.is (.v v)) j).keys:=hk;by_cases hj:j=t
  ·subst hj;rw[ah]at hk;cases hk
  ·rw[al _ _ hj]at hk;exact h4 j k hk
section
variable (G:Nat->Prop)(q:Pb)(r:List Tk)(op:Nat)(sub:List Tk->PR)(as_:List Value)(h:oT 170 [] op sub)(h' : oT 115 as_ op sub)
noncomputable def alZ:Env prog:=⟨λ| 170=>some ((zc 170 [] op sub call170 h q r).spec G)|_=>none,λ_=>none,λ_ _=>none⟩
noncomputable def Fu:Env prog:=⟨λ| 110=>some (gk q r op).spec|111=>some (ij q r op).spec|171=>some Gq.spec|115=>some ((zc 115 as_ op sub call115 h' q r).spec G)|_=>none,λ_=>none,λ_ _=>none⟩
theorem adP:(alZ G q r op sub h).sp 170=some ((zc 170 [] op sub call170 h q r).spec G):=rfl
theorem adQ:(Fu G q r op sub as_ h').sp 110=some (gk q r op).spec:=rfl
theorem adR:(Fu G q r op sub as_ h').sp 111=some (ij q r op).spec:=rfl
theorem adT:(Fu G q r op sub as_ h').sp 171=some Gq.spec:=rfl
theorem adS:(Fu G q r op sub as_ h').sp 115=some ((zc 115 as_ op sub call115 h' q r).spec G):=rfl
end
theorem fC.out{w:World}{S:Nat->Prop}{fp:List Nat}(h:fC w (bJ S fp)):fC w (Out fp):=h.mono λb _ hb=>⟨rfl,hb.2⟩
def kj:=(ae @List.replicate_succ.{0} @List.replicate_zero.{0} @au @ab lx ly lA (ae di dj dk dm dB dD dF (ae dG eK eL eM eN eO eP (ae ot ou ov ow ox u9 vc (ae vd ve vf vg vh vi vj (ae vl vm DL DM DN DO DP (ae DQ DR DS DT DU DV qU (ae qV qW qX qY qZ q7 q8 (ae @gE @e9 @aV @aw @aD @aF @fy (ae @adP @adQ @adR @adT @adS @gk.eq_1 @ij.eq_1 (EL @pC.eq_1 @tkU.eq_1 @zc.eq_1 @fI @bn @yS @yR)))))))))))
theorem aah(op:Nat)(atom:List Tk->PR)(hA:oT 170 [] op (nA atom)):oT 115 [.int .i64 5] op (mu atom 0):=by
 intro q r u fp w S hq hsy ho hlt hS;have u0:=af.up w S fp;have q0:=hq.b8 (af.e7 w S fp hS);have s0:=hsy.mono (af.e7 w S fp hS);have hE:mu atom 0 r=nA atom r:=rfl;rw[hE];refine du (nt:=41) S #[.int .i64 5] [.tmp 4] (by show 2<=7;omega) ho hlt func115 rfl rfl rfl ?_;refine vR Γ0 kj ?_
 refine Wp.seq ?_;refine vR Γ0 kj ?_;refine wC kj (λhc=>?_) (λhc=>?_)
 rotate_left
 ·exact absurd hc sI
 cases hF:nA atom r with
 |error e=>
  obtain⟨c,j⟩:=e;rw[bn];refine Wp.bo (alZ (af w S fp) q r op (nA atom) hA) aN (ev (aa kj hF)) ?_ ?_
  ·exact⟨⟨q0,s0⟩,dE,λ_ h=>h.elim⟩
  refine qq ?_;exact⟨_,rfl⟩
 |ok p=>
  obtain⟨x0,r0⟩:=p;rw[fI];refine wR (alZ (af w S fp) q r op (nA atom) hA) (aa kj hF) ?_ ?_
  ·exact⟨⟨q0,s0⟩,dE,(λ_ h=>h.elim),u0⟩
  refine Wp.cO 47 (ev kj) (aX.refl _ _) λW1 bs1 cs hx1 hΦ=>?_
  obtain⟨v0,rfl,hg0,hv0⟩:=uy hΦ;refine wZ (aa kj hv0) ?_;exact kO hg0 rfl ((ev (aa kj @aq))) dE
theorem afJ(op k:Nat)(hk:k<=4)(sub:List Tk->PR)(hT:j7 sub 1)(hA:oT 115 [.int .i64 (5-(k:Nat))] op sub):oT 115 [.int .i64 (4-(k:Nat))] op (ob sub (4-(k:Nat))):=by
 intro q r u fp w S hq hsy ho hlt hS;have u0:=af.up w S fp;have q0:=hq.b8 (af.e7 w S fp hS);have s0:=hsy.mono (af.e7 w S fp hS);have wl:IntKind.i64.wrap (4-(k:Int)+1)=5-(k:Nat):=wW;have hd:decide (4-(k:Int)=5)=false:=decide_eq_false oM
 refine du (nt:=41) S #[.int .i64 (4-(k:Nat))] [.tmp 4] (by show 2<=7;omega) ho hlt func115 rfl rfl rfl ?_;refine vR Γ0 kj ?_;refine Wp.seq ?_;refine vR Γ0 (aa kj hd) ?_;refine wC kj (λhc=>?_) (λhc=>?_)
 ·exact absurd hc sI
 refine wK ?_;cases hF:sub r with
 |error e=>
  obtain⟨c,j⟩:=e;have hE:ob sub (4-(k:Nat)) r=.error (c,j):=by rw[ob,hF]
  rw[hE,bn];refine Wp.bo (Fu (af w S fp) q r op sub _ hA) aN (ev (bp kj hF wl)) ?_ ?_
  ·exact⟨⟨q0,s0⟩,dE,λ_ h=>h.elim⟩
  refine qq ?_;exact⟨_,rfl⟩
 | ok p=>
  obtain⟨x0,r0⟩:=p;have hL:=hT r hq.2.2 _ _ hF;have hE:ob sub (4-(k:Nat)) r=iz sub (4-(k:Nat)) r0.length x0 r0:=by rw[ob,hF]
  rw[hE];generalize hR:iz sub (4-(k:Nat)) r0.length x0 r0=R;refine wR (Fu (af w S fp) q r op sub _ hA) (bp kj hF wl) ?_ ?_
  ·exact⟨⟨q0,s0⟩,dE,(λ_ h=>h.elim),u0⟩
  refine Wp.cO 63 (ev kj) (aX.refl _ _) λW1 bs1 cs hx1 hΦ=>?_
  obtain⟨v0,rfl,hg0,hv0⟩:=uy hΦ;have q1:q.st W1 (bJ (af w S fp) bs1) r0:=⟨(q0.b8 hx1.dY).1,hL.2.1.trans hq.2.1,hL.1⟩;refine Wp.seq (Wp.block ?_)
  refine Wp.rm (λp:PI=>⟨20,eA [(0,.is (.own 0 0)),(1,.is (.v (.int .i64 (4-(k:Nat))))),(5,.is (.v p.v))],dS [(0,.cells 143 [.v (q.sl p.r),.v (.int .i64 (op:Nat))])]⟩)
   PI.W PI.bs (λp=>q.st p.W (bJ (af w S fp) p.bs) p.r/\fC p.W (bJ (af w S fp) p.bs)/\AP p.W (bJ (af w S fp) p.bs) p.v p.x/\p.r.length<=p.n/\iz sub (4-(k:Nat)) p.n p.x p.r=R) (λp=>p.n) ⟨W1,bs1,v0,x0,r0,r0.length⟩ rfl rfl ?_ ⟨q1,s0.mono hx1.dY,hg0,Nat.le_refl _,hR⟩ ?_
  ·exact wM (λk=>.key k) (aa kj hv0)
  rintro⟨W2,bs2,v,x,r2,n⟩ ⟨q2,s2,hg,hn,hR2⟩ hx2;simp only at q2 s2 hg hn hR2 hx2;dsimp only;have hx02:=hx1.trans hx2;have u2:=u0.ext hx02;have hpos:=q2.2.2.pos;obtain⟨n,rfl⟩:∃ m,n=m+1:=⟨n-1,oM⟩;rw[iz]at hR2;refine Wp.seq ?_;refine wR (Fu (af w S fp) q r2 op sub _ hA) kj ?_ ?_
  ·exact⟨⟨dE,q2.out⟩,λ_=>⟨dE,q2.out⟩,λ_=>s2.out⟩
  refine wC kj (λhc=>?_) (λhc=>?_)
  ·have h:(pk r2).1=4/\EO (pk r2).2.2=4-(k:Nat):=by
    simp at hc;exact hc
   rw[if_pos h]at hR2;have hk0:(pk r2).1≠0:=oM;have hnx:=Left.next q2.2.2 hk0
   have q3:q.st W2 (bJ (af w S fp) bs2) r2.tail:=⟨q2.1,hnx.2.1.trans q2.2.1,hnx.1⟩;refine wK ?_;refine Wp.block ?_;refine wR (Fu (af w S fp) q r2 op sub _ hA) kj ?_ ?_
   ·exact⟨⟨q2.out,hk0⟩,dE,λ_ h=>h.elim⟩
   cases hF2:sub r2.tail with
   |error e=>
    obtain⟨c,j⟩:=e;rw[hF2]at hR2;simp only at hR2;rw[<- hR2,bn];refine Wp.rp (Fu (af w S fp) q r2.tail op sub _ hA) aN (ev (fg kj hF2 wl hg.parts)) rfl (by kernel_rfl) ?_ ?_
    ·exact⟨⟨q3,s2⟩,dE,λ_ h=>h.elim⟩
    refine qq ?_;exact⟨_,rfl⟩
   |ok p=>
    obtain⟨y,r3⟩:=p;rw[hF2]at hR2;simp only at hR2;have hL2:=hT _ hnx.1 _ _ hF2;refine Wp.more ?_;refine J3 (Fu (af w S fp) q r2.tail op sub _ hA) (fg kj hF2 wl hg.parts) ?_ ?_
    ·exact⟨⟨q3,s2⟩,dE,(λ_ h=>h.elim),u2⟩
    refine dn ?_;refine Pw.cO 359 (ev kj) (aX.refl _ _) λW3 bs3 cs hx3 hΦ3=>?_
    obtain⟨v3,rfl,hg3,hv3⟩:=uy hΦ3;refine Pw.here ?_;refine qq ?_
    refine⟨⟨W3,bs3,.iface 215 (.agg #[.int .i64 ((pk r2).2.1:Nat),.string (pk r2).2.2,v,v3]),.binary (pk r2).2.1 (pk r2).2.2 x y,r3,n⟩,⟨⟨(q2.b8 hx3.dY).1,hL2.2.1.trans (hnx.2.1.trans q2.2.1),hL2.1⟩,s2.mono hx3.dY,.binary _ _ _ _ _ _ (hg.mono hx3.dY) hg3,by have:=hnx.2.2;have:=hL2.2.2;dsimp only;omega,hR2⟩,by dsimp only;omega,rfl,rfl,?_⟩
    refine Le.const 5 ((ev (aa kj hv3))) ((ev (aa kj hv3))) ?_;exact wM (λk=>.key k) (aa kj hv3)
  ·have h:¬ ((pk r2).1=4/\EO (pk r2).2.2=4-(k:Nat)):=by
    intro h;simp at hc;exact hc h.1 h.2
   rw[if_neg h]at hR2;rw[<- hR2,fI];refine wE ?_;refine vR Γ0 kj ?_;refine wZ kj ?_;exact kO hg rfl ((ev (aa kj @aq))) dE
theorem SJ(op:Nat)(atom:List Tk->PR)(hT:j7 atom 1)(hA:oT 212 [] op atom):∀ k,k<=5->oT 115 [.int .i64 (5-(k:Nat))] op (mu atom k)
 |0,_=>aah op atom (abp op atom hT hA)
 |k+1,h=>by
  have:=afJ op k oM (mu atom k) (ph hT k) (SJ op atom hT hA k oM);rw[show (5-((k+1:Nat):Int))=4-(k:Nat) by omega];exact this
theorem KU(op:Nat)(atom:List Tk->PR)(hT:j7 atom 1)(hA:oT 212 [] op atom):oT 115 [.int .i64 0] op (lg atom):=SJ op atom hT hA 5 (Nat.le_refl _)
def ake(f:FuncId)(as_:List Value)(op:Nat)(sub:List Tk->PR)(P:List Tk->Prop):Prop:=∀ (q:Pb) (r:List Tk) (u:Value) (fp:List Nat) (w:World) (S:Nat->Prop),P r->q.st w S r->fC w S->aY w u fp 143 (pC q r op)->(∀ b∈fp,b<w.heap.size)->(∀ b∈fp,¬ S b) ->
 Calls prog f (#[u]++as_.toArray) w λe w' => wA w S u fp 143 e w' (We q op (sub r))
def alA(f:FuncId)(as_:List Value)(op:Nat)(sub:List Tk->PR)(P:List Tk->Prop)(he:∀ args w,(callFunc f args).run prog w=.ok (.enter f args) w)(h:ake f as_ op sub P)(q:Pb)(r:List Tk):vL prog f where
 T:=143
 kinds:=as_.map λ_=>none
 pre:=λfs bs_ W S=>(fs=pC q r op/\bs_=as_.map AV.val)/\P r/\q.st W S r/\fC W S
 premono:=λfs bs_ W S W' S' hs ⟨h1,h0,h2,h3⟩=>⟨h1,h0,h2.b8 hs,h3.mono hs⟩
 out:=λ_ _=>We q op (sub r)
 enters:=he
 ok:=by
  intro w S u fp us fs bs_ ho hlt hS hu hp;obtain⟨⟨rfl,rfl⟩,h0,h1,h2⟩:=hp;obtain rfl:=BS hu;have:=h q r u fp w S h0 h1 h2 ho hlt hS;simpa using this
def rj(mo:Option (List Tk->PR))(r:List Tk):PR:=fc mo r.tail dP λex r' => df gO (.call (pk r).2.1 (pk r).2.2) (kX ex (ri (pk r).2.2).toNat 0 .nil r')
def MoT(op:Nat)(mo:Option (List Tk->PR)):Prop:=op<=64/\(mo=none->op=64)/\∀ ex,mo=some ex->op<64/\j7 ex 1/\oT 115 [.int .i64 0] (op+1) ex
section
variable (G:Nat->Prop)(q:Pb)(r:List Tk)(op:Nat)(sub:List Tk->PR)(h:oT 115 [.int .i64 0] op sub)
noncomputable def ei:Env prog:=⟨λ| 111=>some (ij q r op).spec|112=>some yc.spec|114=>some (s9 q r op).spec|247=>some (xR q r op).spec|248=>some (xS q r op).spec|110=>some (gk q r op).spec|169=>some (vG q r op).spec|113=>some (oN q r op).spec|_=>none,λ_=>none,λ_ _=>none⟩
noncomputable def EJ:Env prog:=⟨λ| 115=>some ((zc 115 [.int .i64 0] op sub call115 h q r).spec G)|_=>none,λ_=>none,λ_ _=>none⟩
theorem EC:(ei q r op).sp 111=some (ij q r op).spec:=rfl
theorem ED:(ei q r op).sp 112=some yc.spec:=rfl
theorem EF:(ei q r op).sp 114=some (s9 q r op).spec:=rfl
theorem EH:(ei q r op).sp 247=some (xR q r op).spec:=rfl
theorem EI:(ei q r op).sp 248=some (xS q r op).spec:=rfl
theorem EB:(ei q r op).sp 110=some (gk q r op).spec:=rfl
theorem EG:(ei q r op).sp 169=some (vG q r op).spec:=rfl
theorem EE:(ei q r op).sp 113=some (oN q r op).spec:=rfl
theorem EK:(EJ G q r op sub h).sp 115=some ((zc 115 [.int .i64 0] op sub call115 h q r).spec G):=rfl
end
theorem akx{q:Pb}{r:List Tk}{op:Nat}{m:ByteArray}(h:dU r m=false):E7 q r op m=.pan (Yl 60 r) (.tuple #[]):=by
 unfold E7 eQ;rw[if_neg (by rw[h];simp),if_neg (by rw[h];simp)]
theorem BI{q:Pb}{r:List Tk}{m:ByteArray}(h:dU r m=true):E7 q r 64 m=.pan (Yl 23 r) (.tuple #[]):=by
 unfold E7;rw[if_pos ⟨h,Nat.le_refl _⟩]
theorem Hv{q:Pb}{r:List Tk}{op:Nat}{m:ByteArray}(h:dU r m=true)(ho:op<64):E7 q r op m=.ret (.tuple #[]) (pC q r.tail (op+1)):=by
 unfold E7 eQ;rw[if_neg oM,if_pos h]
theorem pP{q:Pb}{r:List Tk}{op op' : Nat}{m:ByteArray}(h:dU r m=true):eQ q r op op' m=.ret (.tuple #[]) (pC q r.tail op'):=by rw[eQ,if_pos h]
theorem ua{q:Pb}{r:List Tk}{op op' : Nat}{m:ByteArray}(h:dU r m=false):eQ q r op op' m=.pan (Yl 60 r) (.tuple #[]):=by rw[eQ,if_neg (by rw[h];simp)]
theorem nZ.snc{W:World}{S:Nat->Prop}{v:Value}{x:Ex}(hx:AP W S v x):∀ {k:Bool} {vs:List Value} {l:Ex},nZ W S k vs l->k=false->nZ W S false (vs++[v]) (zb l x):=by
 intro k vs l h
 induction h with
 |nil=>exact λ_=>.cons _ _ _ _ hx .nil
 |cons v' vs x' l h1 h2 i1 i2=>exact λ_=>.cons _ _ _ _ h1 (i2 rfl)
 |_=>exact λe=>by cases e
structure PA where
 W:World
 bs:List Nat
 vs:List Value
 l:Ex
 r:List Tk
 k:Nat
 n:Nat
theorem ajr(s:ByteArray):ri s<=3:=by
 unfold ri
 repeat' split
 all_goals decide
def jq:=(ae @List.replicate_succ.{0} @List.replicate_zero.{0} @au @ab lx ly Tr (ae Tw TS lA di dj dk dm (ae dB dD dF dG eK eL eM (ae eN eO eP ot ou ov ow (ae ox u9 vc vd ve vf vg (ae vh vi vj vl vm RH RJ (ae RM RN zh zi zj zk zl (ae zm zp zq zr zt qU qV (ae qW qX qY qZ q7 q8 @gE (ae @e9 @aV @aw @aD @aF @fy @EC (ae @ED @EF @EH @EI @EB @EG @EE (ae @EK @ij.eq_1 @s9.eq_1 @xR.eq_1 @xS.eq_1 @gk.eq_1 @vG.eq_1 (ae @oN.eq_1 @pV @pU @pC.eq_1 @tkU.eq_1 @zc.eq_1 @fI @bn)))))))))))))
theorem YX(op:Nat)(mo:Option (List Tk->PR))(hm:MoT op mo):ake 246 [] op (rj mo) (λr=>(pk r).1=1/\0<ri (pk r).2.2):=by
 intro q r u fp w S hP hq hsy ho hlt hS;obtain⟨hop,hm0,hm1⟩:=hm;obtain⟨hP1,hP2⟩:=hP;have u0:=af.up w S fp;have q0:=hq.b8 (af.e7 w S fp hS);have s0:=hsy.mono (af.e7 w S fp hS);have hk:(pk r).1≠0:=oM;have hnx:=Left.next hq.2.2 hk
 have q1:q.st w (bJ (af w S fp) fp) r.tail:=⟨q0.1,hnx.2.1.trans q0.2.1,hnx.1⟩;refine du (nt:=37) S #[] [.tmp 2] (by show 2<=7;omega) ho hlt func246 rfl rfl rfl ?_;refine vR Γ0 jq ?_;refine wR (ei q r op) jq ?_ ?_
 ·exact⟨⟨q0.out,hk⟩,dE,λ_ h=>h.elim⟩
 refine vR Γ0 jq ?_;by_cases hb:dU r.tail dP=true
 rotate_left
 ·have hb' : dU r.tail dP=false:=by simpa using hb
  have hE:rj mo r=.error (60,(pk r.tail).2.1):=by unfold rj fc;rw[if_neg hb]
  have hen:=akx (q:=q) (op:=op) hb';unfold dP at hen;rw[hE,bn];refine Wp.bo (ei q r.tail op) aN (ev (aa jq hen)) ?_ ?_
  ·exact⟨⟨⟨_,rfl⟩,q1.out,hop⟩,dE,λ_ h=>h.elim⟩
  refine qq ?_;exact⟨_,rfl⟩
 cases mo with
 |none=>
  have ho64:=hm0 rfl;subst ho64;have hE:rj none r=.error (23,(pk r.tail).2.1):=by unfold rj fc;rw[if_pos hb]
  have hen:=BI (q:=q) hb;unfold dP at hen;rw[hE,bn];refine Wp.bo (ei q r.tail 64) aN (ev (aa jq hen)) ?_ ?_
  ·exact⟨⟨⟨_,rfl⟩,q1.out⟩,dE,λ_ h=>h.elim⟩
  refine qq ?_;exact⟨_,rfl⟩
 | some ex=>
  obtain⟨hop2,hT,hA⟩:=hm1 ex rfl;have hE:rj (some ex) r=df gO (.call (pk r).2.1 (pk r).2.2) (kX ex (ri (pk r).2.2).toNat 0 .nil r.tail.tail):=by unfold rj fc;rw[if_pos hb]
  have hen:=Hv (q:=q) hb hop2;unfold dP at hen;have hnx2:=Left.next q1.2.2 (ic hb)
  have q2:q.st w (bJ (af w S fp) fp) r.tail.tail:=⟨q0.1,hnx2.2.1.trans q1.2.1,hnx2.1⟩;rw[hE];refine wR (ei q r.tail op) (aa jq hen) ?_ ?_
  ·exact⟨⟨⟨_,rfl⟩,q1.out,hop⟩,dE,λ_ h=>h.elim⟩
  refine Wp.seq ?_;refine vR (ei q r op) jq ?_;have ha3:=ajr (pk r).2.2;obtain⟨N,hN⟩:=Int.eq_ofNat_of_zero_le (show 0<=ri (pk r).2.2 by omega);rw[hN,Int.toNat_natCast];rw[hN]at ha3 hP2;generalize hR:kX ex N 0 .nil r.tail.tail=R;refine Wp.block ?_
  refine Wp.rm (λp:PA=>⟨60,eA [(0,.is (.own 0 0)),(4,.is (.own 4 0)),(17,.is (.v (.int .i64 (N:Nat)))),(18,.is (.v (.int .i64 (p.k:Nat))))],dS [(0,.cells 143 [.v (q.sl p.r),.v (.int .i64 ((op+1:Nat):Int))]),(4,.cells 219 [.v (.int .i64 ((pk r).2.1:Nat)),.v (.string (pk r).2.2),.hd 5]),(5,.row 77 1 p.vs.length (p.vs.map .v))]⟩)
   PA.W PA.bs (λp=>q.st p.W (bJ (af w S fp) p.bs) p.r/\fC p.W (bJ (af w S fp) p.bs)/\nZ p.W (bJ (af w S fp) p.bs) false p.vs p.l/\(p.vs.length=p.k/\p.k+p.n=N)/\kX ex p.n p.k p.l p.r=R) (λp=>p.n) ⟨w,fp,[],.nil,r.tail.tail,0,N⟩ rfl rfl ?_ ⟨q2,s0,.nil,⟨rfl,Nat.zero_add N⟩,hR⟩ ?_
  ·exact wM (λk=>if k=4 then .key 88 else if k=5 then .nil else .key k) (bp jq @Int.natCast_zero hN)
  rintro⟨W1,bs1,vs,l,r1,k,n⟩ ⟨q3,s3,hv,⟨hvk,hkn⟩,hR1⟩ hx1;simp only at q3 s3 hv hvk hkn hR1 hx1;dsimp only;have u1:=u0.ext hx1;refine vR Γ0 jq ?_;refine Wp.seq ?_;refine wC jq (λhc=>?_) (λhc=>?_)
  ·have hk1:k<N:=by
    simp at hc;omega
   clear hc;obtain⟨n,rfl⟩:∃ m,n=m+1:=⟨n-1,oM⟩;rw[kX]at hR1;have wk:IntKind.i64.wrap ((k:Int)+1)=((k+1:Nat):Int):=wW;refine wK ?_;refine Wp.seq (Wp.block ?_);refine vR Γ0 jq ?_
   refine Be (λ_:Unit=>⟨80,eA [(0,.is (.own 0 0)),(4,.is (.own 4 0)),(17,.is (.v (.int .i64 (N:Nat)))),(18,.is (.v (.int .i64 (k:Nat))))],dS [(0,.cells 143 [.v (q.sl (if 0<k then r1.tail else r1)),.v (.int .i64 ((op+1:Nat):Int))]),(4,.cells 219 [.v (.int .i64 ((pk r).2.1:Nat)),.v (.string (pk r).2.2),.hd 5]),(5,.row 77 1 vs.length (vs.map .v))]⟩) (λ_=>W1) (λ_=>bs1) (λ_=>0<k->dU r1 Yg=true) ?_ ?_
   ·skip;refine vR Γ0 jq ?_;refine wC jq (λhc=>?_) (λhc=>?_)
    ·have hkp:0<k:=by
      simp at hc;exact hc
     cases hcm:dU r1 Yg with
     |false=>
      rw[if_pos ⟨hkp,hcm⟩]at hR1;have hw:=ua (q:=q) (op:=op+1) (op' := op+1) hcm;unfold Yg at hw;rw[<- hR1];show Wp prog W1 bs1 _ _ _ _ _;have hs1:df gO (.call (pk r).2.1 (pk r).2.2) (.error (60,(pk r1).2.1))=.error (60,(pk r1).2.1):=rfl;rw[hs1,bn]
      refine Wp.dJ (ei q r1 (op+1)) aN (ev (aa jq hw)) ?_ ?_
      ·exact⟨⟨⟨_,rfl⟩,q3.out⟩,dE,λ_ h=>h.elim⟩
      refine qq ?_;exact⟨_,rfl⟩
     |true=>
      have hw:=pP (q:=q) (op:=op+1) (op' := op+1) hcm;unfold Yg at hw;refine wr (ei q r1 (op+1)) (aa jq hw) ?_ ?_
      ·exact⟨⟨⟨_,rfl⟩,q3.out⟩,dE,λ_ h=>h.elim⟩
      refine⟨(),λ_=>rfl,rfl,rfl,?_⟩
      exact Le.mk (λk=>.key k) ⟨by simp[FV.keys,SV.keys,az],by simp[aZ.keys,az,SV.keys,aR,aU]⟩ (by simp only[iV,Op.operands,Value.cells,σ0,σB,Nat.reduceEqDiff,Nat.reduceAdd,Nat.reduceMul,Nat.reduceLT,Nat.reduceLeDiff,Nat.reduceBEq,av,Int.reduceToNat,Int.reduceLT,Int.reduceLE,Nat.reduceDiv,Nat.reduceMod,Nat.reduceSub,Int.reducePow,Nat.reducePow,σP,σB3,jq,if_pos hkp,HA,HC,ky,Ac]<;>trivial) (by simp only[iV,Op.operands,Value.cells,σ0,σB,Nat.reduceEqDiff,Nat.reduceAdd,Nat.reduceMul,Nat.reduceLT,Nat.reduceLeDiff,Nat.reduceBEq,av,Int.reduceToNat,Int.reduceLT,Int.reduceLE,Nat.reduceDiv,Nat.reduceMod,Nat.reduceSub,Int.reducePow,Nat.reducePow,σP,σB3,jq,if_pos hkp,wG,nI,iB,gF,j5,ky]<;>trivial) (by simp[ed]) sI
    ·have hkp:¬ 0<k:=by
      simp at hc;omega
     refine wK ?_;refine⟨(),λh=>absurd h hkp,rfl,rfl,?_⟩
     exact Le.mk (λk=>.key k) ⟨by simp[FV.keys,SV.keys,az],by simp[aZ.keys,az,SV.keys,aR,aU]⟩ (by simp only[iV,Op.operands,Value.cells,σ0,σB,Nat.reduceEqDiff,Nat.reduceAdd,Nat.reduceMul,Nat.reduceLT,Nat.reduceLeDiff,Nat.reduceBEq,av,Int.reduceToNat,Int.reduceLT,Int.reduceLE,Nat.reduceDiv,Nat.reduceMod,Nat.reduceSub,Int.reducePow,Nat.reducePow,σP,σB3,jq,if_neg hkp,HA,HC,ky,Ac]<;>trivial) (by simp only[iV,Op.operands,Value.cells,σ0,σB,Nat.reduceEqDiff,Nat.reduceAdd,Nat.reduceMul,Nat.reduceLT,Nat.reduceLeDiff,Nat.reduceBEq,av,Int.reduceToNat,Int.reduceLT,Int.reduceLE,Nat.reduceDiv,Nat.reduceMod,Nat.reduceSub,Int.reducePow,Nat.reducePow,σP,σB3,jq,if_neg hkp,wG,nI,iB,gF,j5,ky]<;>trivial) (by simp[ed]) sI
   rintro-hcm hx1';have hcn:¬ (0<k/\dU r1 Yg=false):=λ⟨h,h'⟩=>by
    rw[hcm h]at h';cases h'
   rw[if_neg hcn]at hR1;have hnx3:Left r1 (if 0<k then r1.tail else r1) 0:=by
    split
    ·rename_i h;exact (Left.next q3.2.2 (ic (hcm h))).AN oM
    ·exact .refl q3.2.2
   generalize (if 0<k then r1.tail else r1)=r2 at *;have q4:q.st W1 (bJ (af w S fp) bs1) r2:=⟨q3.1,hnx3.2.1.trans q3.2.1,hnx3.1⟩;cases hF:ex r2 with
   |error e=>
    obtain⟨c,j⟩:=e;rw[hF]at hR1;simp only at hR1;have hs1:df gO (.call (pk r).2.1 (pk r).2.2) (.error (c,j))=.error (c,j):=rfl;rw[<- hR1,hs1,bn];refine Wp.rp (EJ (af w S fp) q r2 (op+1) ex hA) aN (ev (aa jq hF)) rfl (by kernel_rfl) ?_ ?_
    ·exact⟨⟨⟨q4,s3⟩,dE,λ_ h=>h.elim⟩,by unfold maxLen;omega,oM⟩
    refine qq ?_;exact⟨_,rfl⟩
   |ok p=>
    obtain⟨y,r3⟩:=p;rw[hF]at hR1;simp only at hR1;have hL2:=hT _ hnx3.1 _ _ hF;refine Wp.more ?_;refine J3 (EJ (af w S fp) q r2 (op+1) ex hA) (aa jq hF) ?_ ?_
    ·exact⟨⟨⟨q4,s3⟩,dE,(λ_ h=>h.elim),u1⟩,by unfold maxLen;omega,oM⟩
    refine dn ?_;refine Pw.cO 671 (ev jq) (aX.refl _ _) λW3 bs3 cs hx3 hΦ3=>?_
    obtain⟨v3,rfl,hg3,hv3⟩:=uy hΦ3;refine Pw.here ?_;refine qq ?_;refine vr Γ0 (aa jq wk) ?_;have em:List.map SV.v vs++[.v v3]=List.map SV.v (vs++[v3]):=by simp
    have el:(vs++[v3]).length=vs.length+1:=by simp
    refine⟨⟨W3,bs3,vs++[v3],zb l y,r3,k+1,n⟩,⟨⟨(q4.b8 hx3.dY).1,hL2.2.1.trans q4.2.1,hL2.1⟩,s3.mono hx3.dY,nZ.snc hg3 (hv.mono hx3.dY) rfl,⟨by dsimp only;omega,by dsimp only;omega⟩,hR1⟩,by dsimp only;omega,rfl,rfl,?_⟩;exact wM (λk=>if k=5 then .key 680 else .key k) (fg jq hv3 em el)
  ·have hkN:k=N:=by
    simp at hc;omega
   obtain rfl:n=0:=oM;have hR2:R=.ok (l,r1):=hR1.symm;rw[hR2];refine wE ?_;cases hcl:dU r1 gO with
   | false=>
    have hs1:df gO (.call (pk r).2.1 (pk r).2.2) (.ok (l,r1))=.error (60,(pk r1).2.1):=by
     unfold df;dsimp only;rw[if_neg (by rw[hcl];simp)]
    have hw:=ua (q:=q) (op:=op+1) (op' := op) hcl;unfold gO at hw;rw[hs1,bn];refine Wp.bo (ei q r1 op) aN (ev (aa jq hw)) ?_ ?_
    ·exact⟨⟨⟨_,rfl⟩,q3.out,oM⟩,dE,λ_ h=>h.elim⟩
    refine qq ?_;exact⟨_,rfl⟩
   | true=>
    have hs1:df gO (.call (pk r).2.1 (pk r).2.2) (.ok (l,r1))=.ok (.call (pk r).2.1 (pk r).2.2 l,r1.tail):=by
     unfold df;dsimp only;rw[if_pos hcl]
    have hw:=pP (q:=q) (op:=op+1) (op' := op) hcl;unfold gO at hw;rw[hs1,fI];refine Wp.Aq 5 (ev (aa jq @aS)) (λE=>by simp only[ai,den,aS];exact rfl) λW2 bs2 ao2 c2 hx2 hs2 hd2=>?_
    have u2:=u1.ext hx2;have q5:q.st W2 (bJ (af w S fp) bs2) r1:=q3.b8 hx2.dY;refine wR (ei q r1 op) (aa jq hw) ?_ ?_
    ·exact⟨⟨⟨_,rfl⟩,q5.out,oM⟩,dE,λ_ h=>h.elim⟩
    refine vR Γ0 jq ?_;refine wZ jq ?_;have hS2:jY W2 (bJ (af w S fp) bs2) ao2 vs:=hs2.out λb hb=>⟨u1 b hb.2,hb.1⟩
    exact kO (.call (pk r).2.1 (pk r).2.2 ao2 c2 vs l hS2 hd2 (hv.mono hx2.dY)) rfl ((ev (aa jq @aq))) dE
section
variable (G:Nat->Prop)(q:Pb)(r:List Tk)(op:Nat)(sub:List Tk->PR)(h:ake 246 [] op sub (λr=>(pk r).1=1/\0<ri (pk r).2.2))
noncomputable def al0:Env prog:=⟨λ| 246=>some ((alA 246 [] op sub _ call246 h q r).spec G)|_=>none,λ_=>none,λ_ _=>none⟩
theorem adU:(al0 G q r op sub h).sp 246=some ((alA 246 [] op sub _ call246 h q r).spec G):=rfl
end
def dh:=(ae @List.replicate_succ.{0} @List.replicate_zero.{0} @au @ab lx ly lA (ae di dj dk dm dB dD dF (ae dG eK eL eM eN eO eP (ae oH oI oJ oK ot ou ov (ae ow ox u9 vc vd ve vf (ae vg vh vi vj vl vm Jh (ae Ji Jj Jk Jl Jm Jo Jp (ae Jq Jr Js Jt Ju Jv Jw (ae Jx Jy Jz JA JB JC JD (ae JE JF JG JH JI JJ JK (ae JL JM JN JO JP JQ JR (ae qU qV qW qX qY qZ q7 (ae q8 @gE @e9 @aV @aw @aD @aF (ae @fy @EC @ED @EF @EH @EI @EB (ae @EG @EE @EK @adU @ij.eq_1 @s9.eq_1 @xR.eq_1 (ae @xS.eq_1 @gk.eq_1 @vG.eq_1 @oN.eq_1 @pV @pU @pC.eq_1 (nu @tkU.eq_1 @zc.eq_1 @alA.eq_1 @fI @bn)))))))))))))))))
theorem FE(op:Nat)(mo:Option (List Tk->PR))(hm:MoT op mo):oT 212 [] op (eF mo):=by
 intro q r u fp w S hq hsy ho hlt hS;have hcall:=YX op mo hm;obtain⟨hop,hm0,hm1⟩:=hm;have u0:=af.up w S fp;have q0:=hq.b8 (af.e7 w S fp hS);have s0:=hsy.mono (af.e7 w S fp hS);have qo:=q0.out;refine du (nt:=88) S #[] [.tmp 2] (by show 2<=7;omega) ho hlt func212 rfl rfl rfl ?_;refine vR Γ0 dh ?_
 refine wR (ei q r op) dh ?_ ?_
 ·exact⟨dE,qo⟩
 refine Wp.seq (Wp.block ?_);refine vR Γ0 dh ?_;refine wC dh (λhc=>?_) (λhc=>?_)
 ·have hk:(pk r).1=2:=by simpa using hc
  have hE:eF mo r=.ok (.text (pk r).2.1 (pk r).2.2,r.tail):=by unfold eF;rw[if_pos hk]
  rw[hE,fI];refine wR (ei q r op) dh ?_ ?_
  ·exact⟨⟨qo,oM⟩,dE,λ_ h=>h.elim⟩
  refine vR Γ0 dh ?_;refine wZ dh ?_;exact kO (.text (pk r).2.1 (pk r).2.2) rfl ((ev (aa dh @aq))) dE
 have n0:¬ (pk r).1=2:=by simpa using hc
 clear hc;refine vR Γ0 dh ?_;refine wC dh (λhc=>?_) (λhc=>?_)
 ·have hk:(pk r).1=3:=by simpa using hc
  have hE:eF mo r=.ok (.rx (pk r).2.1 (pk r).2.2,r.tail):=by unfold eF;rw[if_neg n0,if_pos hk]
  rw[hE,fI];refine wR (ei q r op) dh ?_ ?_
  ·exact⟨⟨qo,oM⟩,dE,λ_ h=>h.elim⟩
  refine vR Γ0 dh ?_;refine wZ dh ?_;exact kO (.rx (pk r).2.1 (pk r).2.2) rfl ((ev (aa dh @aq))) dE
 have n1:¬ (pk r).1=3:=by simpa using hc
 clear hc;refine vR (ei q r op) dh ?_;refine wC dh (λhc=>?_) (λhc=>?_)
 ·have hk:(pk r).1=1/\0<ri (pk r).2.2:=by
   simp at hc;exact hc
  have hE:eF mo r=rj mo r:=by unfold eF rj;rw[if_neg n0,if_neg n1,if_pos hk]
  rw[hE];cases hF:rj mo r with
  |error e=>
   obtain⟨c,j⟩:=e;rw[bn];refine Wp.bo (al0 (af w S fp) q r op (rj mo) hcall) aN (ev (aa dh hF)) ?_ ?_
   ·exact⟨⟨hk,q0,s0⟩,dE,λ_ h=>h.elim⟩
   refine qq ?_;exact⟨_,rfl⟩
  |ok p=>
   obtain⟨x0,r0⟩:=p;rw[fI];refine wR (al0 (af w S fp) q r op (rj mo) hcall) (aa dh hF) ?_ ?_
   ·exact⟨⟨hk,q0,s0⟩,dE,(λ_ h=>h.elim),u0⟩
   refine Wp.cO 207 (ev dh) (aX.refl _ _) λW1 bs1 cs hx1 hΦ=>?_
   obtain⟨v0,rfl,hg0,hv0⟩:=uy hΦ;refine wZ (aa dh hv0) ?_;exact kO hg0 rfl ((ev (aa dh @aq))) dE
 have n2:¬ ((pk r).1=1/\0<ri (pk r).2.2):=by
  intro h;simp at hc;have:=hc h.1;omega
 clear hc;refine vR (ei q r op) dh ?_;refine wC dh (λhc=>?_) (λhc=>?_)
 ·have hk:(pk r).1=1/\ri (pk r).2.2=0:=by
   simp at hc;exact hc
  have hE:eF mo r=.ok (.name (pk r).2.1 (pk r).2.2,r.tail):=by unfold eF;rw[if_neg n0,if_neg n1,if_neg n2,if_pos hk]
  rw[hE,fI];refine wR (ei q r op) dh ?_ ?_
  ·exact⟨⟨qo,oM⟩,dE,λ_ h=>h.elim⟩
  refine vR Γ0 dh ?_;refine wZ dh ?_;exact kO (.name (pk r).2.1 (pk r).2.2) rfl ((ev (aa dh @aq))) dE
 have n3:¬ ((pk r).1=1/\ri (pk r).2.2=0):=by
  intro h;simp at hc;exact hc h.1 h.2
 clear hc;refine wR (ei q r op) dh ?_ ?_
 ·exact⟨dE,⟨_,rfl⟩,qo⟩
 refine wC dh (λhc=>?_) (λhc=>?_)
 ·have hb:dU r LG=true:=hc;clear hc;have hE:eF mo r=fc mo r LG λex r' => df Y1 (.keyed (pk r).2.1) (ex r'):=by unfold eF;rw[if_neg n0,if_neg n1,if_neg n2,if_neg n3,if_pos hb]
  rw[hE];cases mo with
  |none=>
   have ho64:=hm0 rfl;subst ho64;have hE2:fc none r LG (λex r' => df Y1 (.keyed (pk r).2.1) (ex r'))=.error (23,(pk r).2.1):=by unfold fc;rw[if_pos hb]
   have hen:=BI (q:=q) hb;unfold LG at hen;rw[hE2,bn];refine Wp.bo (ei q r 64) aN (ev (aa dh hen)) ?_ ?_
   ·exact⟨⟨⟨_,rfl⟩,qo⟩,dE,λ_ h=>h.elim⟩
   refine qq ?_;exact⟨_,rfl⟩
  | some ex=>
   obtain⟨hop2,hT,hA⟩:=hm1 ex rfl;have hE2:fc (some ex) r LG (λex r' => df Y1 (.keyed (pk r).2.1) (ex r'))=df Y1 (.keyed (pk r).2.1) (ex r.tail):=by unfold fc;rw[if_pos hb]
   have hen:=Hv (q:=q) hb hop2;unfold LG at hen;have hnx:=Left.next hq.2.2 (ic hb)
   have q1:q.st w (bJ (af w S fp) fp) r.tail:=⟨q0.1,hnx.2.1.trans q0.2.1,hnx.1⟩;rw[hE2];refine wR (ei q r op) (aa dh hen) ?_ ?_
   ·exact⟨⟨⟨_,rfl⟩,qo,hop⟩,dE,λ_ h=>h.elim⟩
   cases hF:ex r.tail with
   |error e=>
    obtain⟨c,j⟩:=e;have hs1:df Y1 (.keyed (pk r).2.1) (.error (c,j))=.error (c,j):=rfl;rw[hs1,bn];refine Wp.bo (EJ (af w S fp) q r.tail (op+1) ex hA) aN (ev (aa dh hF)) ?_ ?_
    ·exact⟨⟨q1,s0⟩,dE,λ_ h=>h.elim⟩
    refine qq ?_;exact⟨_,rfl⟩
   | ok p=>
    obtain⟨x0,r0⟩:=p;have hL:=hT _ hnx.1 _ _ hF;refine wR (EJ (af w S fp) q r.tail (op+1) ex hA) (aa dh hF) ?_ ?_
    ·exact⟨⟨q1,s0⟩,dE,(λ_ h=>h.elim),u0⟩
    refine Wp.cO 327 (ev dh) (aX.refl _ _) λW1 bs1 cs hx1 hΦ=>?_
    obtain⟨v0,rfl,hg0,hv0⟩:=uy hΦ;have q2:q.st W1 (bJ (af w S fp) bs1) r0:=⟨(q1.b8 hx1.dY).1,hL.2.1.trans q1.2.1,hL.1⟩;cases hcl:dU r0 Y1 with
    | false=>
     have hs1:df Y1 (.keyed (pk r).2.1) (.ok (x0,r0))=.error (60,(pk r0).2.1):=by
      unfold df;dsimp only;rw[if_neg (by rw[hcl];simp)]
     have hw:=ua (q:=q) (op:=op+1) (op' := op) hcl;unfold Y1 at hw;rw[hs1,bn];refine Wp.bo (ei q r0 op) aN (ev (aa dh hw)) ?_ ?_
     ·exact⟨⟨⟨_,rfl⟩,q2.out,oM⟩,dE,λ_ h=>h.elim⟩
     refine qq ?_;exact⟨_,rfl⟩
    | true=>
     have hs1:df Y1 (.keyed (pk r).2.1) (.ok (x0,r0))=.ok (.keyed (pk r).2.1 x0,r0.tail):=by
      unfold df;dsimp only;rw[if_pos hcl]
      try rfl
     have hw:=pP (q:=q) (op:=op+1) (op' := op) hcl;unfold Y1 at hw;rw[hs1,fI];refine wR (ei q r0 op) (aa dh hw) ?_ ?_
     ·exact⟨⟨⟨_,rfl⟩,q2.out,oM⟩,dE,λ_ h=>h.elim⟩
     refine vR Γ0 (bp dh hg0.parts hv0) ?_;refine wZ (aa dh hv0) ?_;exact kO (.keyed _ _ _ hg0) rfl ((ev (aa dh @aq))) dE
 have n4:¬ dU r LG=true:=by
  have:dU r LG=false:=hc;rw[this];simp
 clear hc;refine wR (ei q r op) dh ?_ ?_
 ·exact⟨dE,⟨_,rfl⟩,qo⟩
 refine wC dh (λhc=>?_) (λhc=>?_)
 ·have hb:dU r dP=true:=hc;clear hc;have hE:eF mo r=fc mo r dP λex r' => df gO id (ex r'):=by unfold eF;rw[if_neg n0,if_neg n1,if_neg n2,if_neg n3,if_neg n4,if_pos hb]
  rw[hE];cases mo with
  |none=>
   have ho64:=hm0 rfl;subst ho64;have hE2:fc none r dP (λex r' => df gO id (ex r'))=.error (23,(pk r).2.1):=by unfold fc;rw[if_pos hb]
   have hen:=BI (q:=q) hb;unfold dP at hen;rw[hE2,bn];refine Wp.bo (ei q r 64) aN (ev (aa dh hen)) ?_ ?_
   ·exact⟨⟨⟨_,rfl⟩,qo⟩,dE,λ_ h=>h.elim⟩
   refine qq ?_;exact⟨_,rfl⟩
  | some ex=>
   obtain⟨hop2,hT,hA⟩:=hm1 ex rfl;have hE2:fc (some ex) r dP (λex r' => df gO id (ex r'))=df gO id (ex r.tail):=by unfold fc;rw[if_pos hb]
   have hen:=Hv (q:=q) hb hop2;unfold dP at hen;have hnx:=Left.next hq.2.2 (ic hb)
   have q1:q.st w (bJ (af w S fp) fp) r.tail:=⟨q0.1,hnx.2.1.trans q0.2.1,hnx.1⟩;rw[hE2];refine wR (ei q r op) (aa dh hen) ?_ ?_
   ·exact⟨⟨⟨_,rfl⟩,qo,hop⟩,dE,λ_ h=>h.elim⟩
   cases hF:ex r.tail with
   |error e=>
    obtain⟨c,j⟩:=e;have hs1:df gO id (.error (c,j))=.error (c,j):=rfl;rw[hs1,bn];refine Wp.bo (EJ (af w S fp) q r.tail (op+1) ex hA) aN (ev (aa dh hF)) ?_ ?_
    ·exact⟨⟨q1,s0⟩,dE,λ_ h=>h.elim⟩
    refine qq ?_;exact⟨_,rfl⟩
   | ok p=>
    obtain⟨x0,r0⟩:=p;have hL:=hT _ hnx.1 _ _ hF;refine wR (EJ (af w S fp) q r.tail (op+1) ex hA) (aa dh hF) ?_ ?_
    ·exact⟨⟨q1,s0⟩,dE,(λ_ h=>h.elim),u0⟩
    refine Wp.cO 351 (ev dh) (aX.refl _ _) λW1 bs1 cs hx1 hΦ=>?_
    obtain⟨v0,rfl,hg0,hv0⟩:=uy hΦ;have q2:q.st W1 (bJ (af w S fp) bs1) r0:=⟨(q1.b8 hx1.dY).1,hL.2.1.trans q1.2.1,hL.1⟩;cases hcl:dU r0 gO with
    | false=>
     have hs1:df gO id (.ok (x0,r0))=.error (60,(pk r0).2.1):=by
      unfold df;dsimp only;rw[if_neg (by rw[hcl];simp)]
     have hw:=ua (q:=q) (op:=op+1) (op' := op) hcl;unfold gO at hw;rw[hs1,bn];refine Wp.bo (ei q r0 op) aN (ev (aa dh hw)) ?_ ?_
     ·exact⟨⟨⟨_,rfl⟩,q2.out,oM⟩,dE,λ_ h=>h.elim⟩
     refine qq ?_;exact⟨_,rfl⟩
    | true=>
     have hs1:df gO id (.ok (x0,r0))=.ok (x0,r0.tail):=by
      unfold df;dsimp only;rw[if_pos hcl]
      try rfl
     have hw:=pP (q:=q) (op:=op+1) (op' := op) hcl;unfold gO at hw;rw[hs1,fI];refine wR (ei q r0 op) (aa dh hw) ?_ ?_
     ·exact⟨⟨⟨_,rfl⟩,q2.out,oM⟩,dE,λ_ h=>h.elim⟩
     refine vR Γ0 (bp dh hg0.parts hv0) ?_;refine wZ (aa dh hv0) ?_;exact kO (hg0) rfl ((ev (aa dh @aq))) dE
 have n5:¬ dU r dP=true:=by
  have:dU r dP=false:=hc;rw[this];simp
 clear hc;have hE:eF mo r=.error (60,(pk r).2.1):=by unfold eF;rw[if_neg n0,if_neg n1,if_neg n2,if_neg n3,if_neg n4,if_neg n5]
 rw[hE,bn];refine wK ?_;refine Wp.bo (ei q r op) aN (ev dh) ?_ ?_
 ·exact⟨⟨⟨_,rfl⟩,qo⟩,dE,λ_ h=>h.elim⟩
 refine qq ?_;exact⟨_,rfl⟩
theorem FC:∀ m,m<=64->oT 212 [] (64-m) (fh m)
 |0,_=>FE 64 none ⟨Nat.le_refl _,λ_=>rfl,λex h=>by cases h⟩
 |m+1,h=>by
  refine FE (64-(m+1)) (some (lg (fh m))) ⟨oM,(λh=>by cases h),λex he=>?_⟩;cases he;refine⟨oM,ph (kY m) 5,?_⟩;rw[show 64-(m+1)+1=64-m by omega];exact KU (64-m) (fh m) (kY m) (FC m oM)
theorem U2:oT 115 [.int .i64 0] 0 (lg (fh 64)):=KU 0 (fh 64) (kY 64) (FC 64 (Nat.le_refl _))
inductive R7 (W:World) (S:Nat->Prop):List Value->List (Nat×ByteArray×Ex)->Prop where
 |nil:R7 W S [] []
 |cons (a:Nat) (s:ByteArray) (v:Value) (x:Ex) (vs:List Value) (ds:List (Nat×ByteArray×Ex)):AP W S v x->R7 W S vs ds->R7 W S (.int .i64 (a:Nat)::.string s::v::vs) ((a,s,x)::ds)
theorem R7.mono{W W' : World}{S S' : Nat->Prop}{vs:List Value}{ds:List (Nat×ByteArray×Ex)}(h:R7 W S vs ds)(hs:aX W S W' S'):R7 W' S' vs ds:=by
 induction h with
 |nil=>exact .nil
 |cons a s v x vs ds h1 _ ih=>exact .cons a s v x vs ds (h1.mono hs) ih
theorem R7.snoc{W:World}{S:Nat->Prop}{vs:List Value}{ds:List (Nat×ByteArray×Ex)}(h:R7 W S vs ds){a:Nat}{s:ByteArray}{v:Value}{x:Ex}(hx:AP W S v x):R7 W S (vs++[.int .i64 (a:Nat),.string s,v]) (ds++[(a,s,x)]):=by
 induction h with
 |nil=>exact .cons _ _ _ _ _ _ hx .nil
 |cons a' s' v' x' vs' ds' h1 _ ih=>exact .cons _ _ _ _ _ _ h1 ih
theorem R7.len{W:World}{S:Nat->Prop}{vs:List Value}{ds:List (Nat×ByteArray×Ex)}(h:R7 W S vs ds):vs.length=ds.length*3:=by
 induction h with
 |nil=>rfl
 |cons a s v x vs ds _ _ ih=>simp only[List.length_cons,ih];omega
def PmV(W:World)(S:Nat->Prop)(v:Value)(p:Pm):Prop:=∃ (b:Nat) (ao:Option Addr) (c:Nat) (vs:List Value) (u:Value),v=.pointer (some ⟨b,0,none⟩)/\XC W S b 0 (.slice ao p.1.length c)/\XC W S b 1 u/\(jY W S ao vs/\R7 W S vs p.1/\p.1.length<=c)/\AP W S u p.2
theorem PmV.mono{W W' : World}{S S' : Nat->Prop}{v:Value}{p:Pm}(h:PmV W S v p)(hs:aX W S W' S'):PmV W' S' v p:=by
 obtain⟨b,ao,c,vs,u,h1,h2,h3,⟨h4,h5,h6⟩,h7⟩:=h;exact⟨b,ao,c,vs,u,h1,h2.mono hs,h3.mono hs,⟨h4.mono hs,h5.mono hs,h6⟩,h7.mono hs⟩
theorem PmV.hv{W:World}{S:Nat->Prop}{v:Value}{p:Pm}(h:PmV W S v p):hv v=v:=by
 obtain⟨b,ao,c,vs,u,rfl,_⟩:=h;rfl
def pmF(p:Pm):FK:=⟨λcs W S=>∃ v,cs=[v]/\PmV W S v p,λhs ⟨v,h1,h2⟩=>⟨v,h1,h2.mono hs⟩⟩
def af9(q:Pb)(op:Nat):Except (Int×Nat) (Pm×List Tk)->GOut
 |.ok (x,r)=>.fact Sh.one (pmF x) (pC q r op)
 |.error (c,a)=>.pan (bf c (a:Nat)) (.pointer none)
theorem S3(q:Pb)(op:Nat)(x:Pm)(r:List Tk):af9 q op (.ok (x,r))=.fact Sh.one (pmF x) (pC q r op):=rfl
theorem iX(q:Pb)(op:Nat)(c:Int)(a:Nat):af9 q op (.error (c,a))=.pan (bf c (a:Nat)) (.pointer none):=rfl
structure PD where
 W:World
 bs:List Nat
 vs:List Value
 ds:List (Nat×ByteArray×Ex)
 r:List Tk
 n:Nat
def jr:=(ae @List.replicate_succ.{0} @List.replicate_zero.{0} @au @ab lx ly Tr (ae Tw TS lA di dj dk dm (ae dB dD dF dG eK eL eM (ae eN eO eP oH oI oJ oK (ae Dq Dr Ds Dt Du Rm Rn (ae Ro Rq ot ou ov ow ox (ae Dv Dw Dx Dy Dz DA Rv (ae Rw Ry Rz RA RB RC RD (ae u9 vc vd ve vf vg vh (ae vi vj vl vm qU qV qW (ae qX qY qZ q7 q8 @gE @e9 (ae @aV @aw @aD @aF @fy @EC @ED (ae @EF @EH @EI @EB @EG @EE @EK (ae @ij.eq_1 @s9.eq_1 @xR.eq_1 @xS.eq_1 @gk.eq_1 @vG.eq_1 @oN.eq_1 (EL @pV @pU @pC.eq_1 @tkU.eq_1 @zc.eq_1 @fI @bn)))))))))))))))
theorem abu(op:Nat)(ex:List Tk->PR)(hT:j7 ex 1)(hA:oT 115 [.int .i64 0] op ex)(q:Pb)(r:List Tk)(u:Value)(fp:List Nat)(w:World)(S:Nat->Prop)(hq:q.st w S r)(hsy:fC w S)(ho:aY w u fp 143 (pC q r op))(hlt:∀ b∈fp,b<w.heap.size)(hS:∀ b∈fp,¬ S b) :
  Calls prog 68 (#[u]++#[]) w λe w' => wA w S u fp 143 e w' (af9 q op (iA ex r.length [] r)):=by
 have u0:=af.up w S fp;have q0:=hq.b8 (af.e7 w S fp hS);have s0:=hsy.mono (af.e7 w S fp hS);have hmax:=q0.1.2.2;generalize hR:iA ex r.length [] r=R;refine du (nt:=66) S #[] [.tmp 2] (by show 2<=7;omega) ho hlt func68 rfl rfl rfl ?_;refine vR Γ0 jr ?_;refine vR Γ0 jr ?_;refine Wp.seq (Wp.block ?_)
 refine Wp.rm (λp:PD=>⟨20,eA [(0,.is (.own 0 0)),(3,.is (.own 4 0))],dS [(0,.cells 143 [.v (q.sl p.r),.v (.int .i64 (op:Nat))]),(4,.cells 79 [.hd 5,.v .nilIface]),(5,.row 134 3 p.ds.length (p.vs.map .v))]⟩)
  PD.W PD.bs (λp=>q.st p.W (bJ (af w S fp) p.bs) p.r/\fC p.W (bJ (af w S fp) p.bs)/\R7 p.W (bJ (af w S fp) p.bs) p.vs p.ds/\(p.r.length<=p.n/\p.ds.length+p.r.length<=q.L.length)/\iA ex p.n p.ds p.r=R) (λp=>p.n) ⟨w,fp,[],[],r,r.length⟩ rfl rfl ?_ ⟨q0,s0,.nil,⟨Nat.le_refl _,by have:=q0.2.1.length_le;simpa using this⟩,hR⟩ ?_
 ·exact wM (λk=>if k=4 then .key 24 else if k=5 then .nil else .key k) jr
 rintro⟨W1,bs1,vs,ds,r1,n⟩ ⟨q1,s1,hd,⟨hn,hdl⟩,hR1⟩ hx1;simp only at q1 s1 hd hn hdl hR1 hx1;dsimp only;have u1:=u0.ext hx1;have hpos:=q1.2.2.pos;have hle:=q1.2.1.length_le;have hvl:=hd.len;obtain⟨n,rfl⟩:∃ m,n=m+1:=⟨n-1,oM⟩;rw[iA]at hR1;refine Wp.seq ?_;refine wR (ei q r1 op) jr ?_ ?_
 ·exact⟨⟨dE,q1.out⟩,λ_=>⟨dE,q1.out⟩⟩
 refine wC jr (λhc=>?_) (λhc=>?_)
 ·have hl:(pk r1).1=1/\(pk r1).2.2=F8:=by
   simp at hc;exact hc
  clear hc;rw[if_pos hl]at hR1;have hk:(pk r1).1≠0:=oM;have hnx:=Left.next q1.2.2 hk
  have q2:q.st W1 (bJ (af w S fp) bs1) r1.tail:=⟨q1.1,hnx.2.1.trans q1.2.1,hnx.1⟩;refine wK ?_;refine Wp.block ?_;refine wR (ei q r1 op) jr ?_ ?_
  ·exact⟨⟨q1.out,hk⟩,dE,λ_ h=>h.elim⟩
  refine wR (ei q r1.tail op) jr ?_ ?_
  ·exact⟨dE,q2.out⟩
  refine Wp.seq ?_;refine vR (ei q r1.tail op) jr ?_;refine wC jr (λhc=>?_) (λhc=>?_)
  ·have hb:¬ (pk r1.tail).1=1\/¬ ri (pk r1.tail).2.2=0:=by
    simp at hc;exact hc
   rw[if_pos hb]at hR1;rw[<- hR1,iX];refine Wp.dJ (ei q r1.tail op) aN (ev jr) ?_ ?_
   ·exact⟨⟨⟨_,rfl⟩,q2.out⟩,dE,λ_ h=>h.elim⟩
   refine qq ?_;exact⟨_,rfl⟩
  have hb:¬ (¬ (pk r1.tail).1=1\/¬ ri (pk r1.tail).2.2=0):=by
   intro h;simp at hc;rcases h with h|h
   ·exact h hc.1
   ·exact h hc.2
  clear hc;rw[if_neg hb]at hR1;have hk2:(pk r1.tail).1≠0:=λh=>hb (.inl oM)
  have hnx2:=Left.next q2.2.2 hk2
  have q3:q.st W1 (bJ (af w S fp) bs1) r1.tail.tail:=⟨q1.1,hnx2.2.1.trans q2.2.1,hnx2.1⟩;refine wK ?_;refine wR (ei q r1.tail op) jr ?_ ?_
  ·exact⟨⟨q2.out,hk2⟩,dE,λ_ h=>h.elim⟩
  cases hq1:dU r1.tail.tail eqB with
  |false=>
   rw[if_pos hq1]at hR1;have hw:=ua (q:=q) (op:=op) (op' := op) hq1;unfold eqB at hw;rw[<- hR1,iX];refine Wp.bo (ei q r1.tail.tail op) aN (ev (aa jr hw)) ?_ ?_
   ·exact⟨⟨⟨_,rfl⟩,q3.out⟩,dE,λ_ h=>h.elim⟩
   refine qq ?_;exact⟨_,rfl⟩
  | true=>
   rw[if_neg (by rw[hq1];simp)]at hR1;have hw:=pP (q:=q) (op:=op) (op' := op) hq1;unfold eqB at hw;have hnx3:=Left.next q3.2.2 (ic hq1)
   have q4:q.st W1 (bJ (af w S fp) bs1) r1.tail.tail.tail:=⟨q1.1,hnx3.2.1.trans q3.2.1,hnx3.1⟩;refine wR (ei q r1.tail.tail op) (aa jr hw) ?_ ?_
   ·exact⟨⟨⟨_,rfl⟩,q3.out⟩,dE,λ_ h=>h.elim⟩
   cases hF:ex r1.tail.tail.tail with
   |error e=>
    obtain⟨c,j⟩:=e;rw[hF]at hR1;simp only at hR1;rw[<- hR1,iX];refine Wp.IU (EJ (af w S fp) q r1.tail.tail.tail op ex hA) aN (ev (aa jr hF)) rfl (by kernel_rfl) ?_ ?_
    ·exact⟨⟨⟨q4,s1⟩,dE,λ_ h=>h.elim⟩,by unfold maxLen;omega,oM⟩
    refine qq ?_;exact⟨_,rfl⟩
   | ok p=>
    obtain⟨y,r2⟩:=p;rw[hF]at hR1;simp only at hR1;have hL2:=hT _ hnx3.1 _ _ hF;refine kT (EJ (af w S fp) q r1.tail.tail.tail op ex hA) (aa jr hF) ?_ ?_
    ·exact⟨⟨⟨q4,s1⟩,dE,(λ_ h=>h.elim),u1⟩,by unfold maxLen;omega,oM⟩
    refine Wp.cO 479 (ev jr) (aX.refl _ _) λW2 bs2 cs hx2 hΦ=>?_
    obtain⟨v0,rfl,hg0,hv0⟩:=uy hΦ;have q5:q.st W2 (bJ (af w S fp) bs2) r2:=⟨(q4.b8 hx2.dY).1,hL2.2.1.trans q4.2.1,hL2.1⟩;cases hq2:dU r2 smB with
    |false=>
     rw[if_pos hq2]at hR1;have hw2:=ua (q:=q) (op:=op) (op' := op) hq2;unfold smB at hw2;rw[<- hR1,iX];refine Wp.dJ (ei q r2 op) aN (ev (aa jr hw2)) ?_ ?_
     ·exact⟨⟨⟨_,rfl⟩,q5.out⟩,dE,λ_ h=>h.elim⟩
     refine qq ?_;exact⟨_,rfl⟩
    |true=>
     rw[if_neg (by rw[hq2];simp)]at hR1;have hw2:=pP (q:=q) (op:=op) (op' := op) hq2;unfold smB at hw2;have hnx4:=Left.next q5.2.2 (ic hq2)
     have q6:q.st W2 (bJ (af w S fp) bs2) r2.tail:=⟨q5.1,hnx4.2.1.trans q5.2.1,hnx4.1⟩;refine wr (ei q r2 op) (aa jr hw2) ?_ ?_
     ·exact⟨⟨⟨_,rfl⟩,q5.out⟩,dE,λ_ h=>h.elim⟩
     have em:List.map SV.v vs++[.v (.int .i64 ((pk r1.tail).2.1:Nat)),.v (.string (pk r1.tail).2.2),.v v0]=List.map SV.v (vs++[.int .i64 ((pk r1.tail).2.1:Nat),.string (pk r1.tail).2.2,v0]):=by simp
     have el:(ds++[((pk r1.tail).2.1,(pk r1.tail).2.2,y)]).length=ds.length+1:=by simp
     have l1:=hnx.2.2;have l2:=hnx2.2.2;have l3:=hnx3.2.2;have l4:=hL2.2.2;have l5:=hnx4.2.2
     refine⟨⟨W2,bs2,vs++[.int .i64 ((pk r1.tail).2.1:Nat),.string (pk r1.tail).2.2,v0],ds++[((pk r1.tail).2.1,(pk r1.tail).2.2,y)],r2.tail,n⟩,⟨q6,s1.mono hx2.dY,(hd.mono hx2.dY).snoc hg0,⟨by dsimp only;omega,by dsimp only;rw[el];omega⟩,hR1⟩,by dsimp only;omega,rfl,rfl,?_⟩
     exact wM (λk=>if k=5 then .key 496 else .key k) (fg jr hv0 em el)
 have hl:¬ ((pk r1).1=1/\(pk r1).2.2=F8):=by
  intro h;simp at hc;exact hc h.1 h.2
 clear hc;rw[if_neg hl]at hR1;refine wE ?_;cases hF:ex r1 with
 |error e=>
  obtain⟨c,j⟩:=e;rw[hF]at hR1;simp only at hR1;rw[<- hR1,iX];refine Wp.bo (EJ (af w S fp) q r1 op ex hA) aN (ev (aa jr hF)) ?_ ?_
  ·exact⟨⟨q1,s1⟩,dE,λ_ h=>h.elim⟩
  refine qq ?_;exact⟨_,rfl⟩
 | ok p=>
  obtain⟨y,r2⟩:=p;rw[hF]at hR1;simp only at hR1;have hL2:=hT _ q1.2.2 _ _ hF;refine wR (EJ (af w S fp) q r1 op ex hA) (aa jr hF) ?_ ?_
  ·exact⟨⟨q1,s1⟩,dE,(λ_ h=>h.elim),u1⟩
  refine Wp.cO 263 (ev jr) (aX.refl _ _) λW2 bs2 cs hx2 hΦ=>?_
  obtain⟨v0,rfl,hg0,hv0⟩:=uy hΦ;have q5:q.st W2 (bJ (af w S fp) bs2) r2:=⟨(q1.b8 hx2.dY).1,hL2.2.1.trans q1.2.1,hL2.1⟩;refine Wp.seq ?_;refine wR (ei q r2 op) jr ?_ ?_
  ·exact⟨dE,q5.out⟩
  refine wC jr (λhc=>?_) (λhc=>?_)
  ·have hz:¬ (pk r2).1=0:=by simpa using hc
   rw[if_neg hz]at hR1;rw[<- hR1,iX];refine Wp.dJ (ei q r2 op) aN (ev jr) ?_ ?_
   ·exact⟨⟨⟨_,rfl⟩,q5.out⟩,dE,λ_ h=>h.elim⟩
   refine qq ?_;exact⟨_,rfl⟩
  have hz:(pk r2).1=0:=by simpa using hc
  rw[if_pos hz]at hR1;rw[<- hR1,S3];refine wK ?_;have u2:=u1.ext hx2;refine Wp.Aq 5 (ev (bp jr @aS hv0)) (λE=>by simp only[ai,den,aS,hv0];exact rfl) λW3 bs3 ao3 c3 hx3 hs3 hd3=>?_
  have u3:=u2.ext hx3;refine Wp.cX 4 (ev (aa jr hv0)) (λE=>by simp only[ai,den,hv0];exact rfl) λW4 bs4 b4 hx4 hb4 hn4 hc4=>?_
  refine vR Γ0 jr ?_;refine wZ jr ?_;have hx24:=hx2.trans (hx3.trans hx4);have hS3:jY W4 (bJ (af w S fp) bs4) ao3 vs:=(hs3.out λb hb=>⟨u2 b hb.2,hb.1⟩).mono hx4.dY;have x0:XC W4 (bJ (af w S fp) bs4) b4 0 (.slice ao3 ds.length c3):=⟨⟨u3 b4 hn4,hb4⟩,cell_of hc4 0 sI⟩
  have x1:XC W4 (bJ (af w S fp) bs4) b4 1 v0:=⟨⟨u3 b4 hn4,hb4⟩,cell_of hc4 1 sI⟩;refine⟨⟨[_],λE=>rfl,_,rfl,b4,ao3,c3,vs,v0,rfl,x0,x1,⟨hS3,hd.mono hx24.dY,hd3⟩,hg0.mono (hx3.trans hx4).dY⟩,_,_,rfl,(ev (aa jr @aq)),dE⟩
theorem zO{P:Program}{fn:Func}{nt:Nat}{f:FuncId}{c:Code}{args:Array Value}{w:World}{out:FOut}(S:Nat->Prop)(hf:P.funcs[f]?=some fn)(hb:fn.body=some c)(hnt:args.size+(fn.ntmps-args.size)=nt)
  (h:iR P fn nt [] (λW' bs' x _=>G4 w S W' bs' x out) (λc _=>∃ v,out=.pan c v) w [] c (σ0 args.toList)):Calls P f args w λe w' => lI w S e w' out:=by
 refine (FF hf hb (tT args hnt) h).mono λe w' he=>?_
 cases e with
 | returned u=>
  obtain⟨W',bs',E,F,x,h,hx,hok,rfl,hs,_⟩:=he;cases out with
  |val v=>exact⟨by rw[hok E],hx.fR hs.keeps⟩
  |fact sh Φ=>
   obtain⟨cs,hd,hΦ⟩:=hok;exact⟨cs,by rw[hd E],Φ.mono (λb hb hr=>⟨hs.keeps.block b hb hr.2,hr.1⟩) hΦ,hx.fR hs.keeps⟩
  |pan c v=>exact hok.elim
 |panicked c=>
  obtain⟨W',bs',E,F,h',hx,⟨v,rfl⟩,hs,_⟩:=he;exact⟨rfl,hx.fR hs.keeps⟩
 |outgrown=>exact he.elim
theorem Tj(s:ByteArray):∀ (n i:Nat) (l:List Tk),i<=s.size->l.length<=i->(uE s n i l).1.length<=s.size+1
 |0,i,l,hi,hl=>by
  show (l++[_]).length<=_;rw[List.length_append,List.length_singleton];omega
 | n+1,i,l,hi,hl=>by
  rw[uE];split
  ·rename_i hlt;split
   ·rename_i h0;have h1:=tZ hlt h0;have h2:=nM h1.2;exact Tj s n _ _ h2.2 (by rw[List.length_append,List.length_singleton];omega)
   ·exact Nat.zero_le _
  ·show (l++[_]).length<=_;rw[List.length_append,List.length_singleton];omega
theorem Mm(s:ByteArray):(bz s).1.length<=4097:=by
 unfold bz;split
 ·exact Nat.zero_le _
 ·have:=Tj s s.size (js s 0) [] (nM (Nat.zero_le _)).2 (Nat.zero_le _);omega
theorem Ml(s:ByteArray):∀ (n i:Nat) (l:List Tk),(uE s n i l).2.1=0->(uE s n i l).2.2=0
 |0,i,l,h=>rfl
 | n+1,i,l,h=>by
  rw[uE]at h ⊢;split
  ·rename_i hi;rw[if_pos hi]at h;split
   ·rename_i h0;rw[if_pos h0]at h;exact Ml s n _ _ h
   ·rename_i h0;rw[if_neg h0]at h;exact absurd h h0
  ·rfl
theorem WW{s:ByteArray}(h:(bz s).2.1=0):(bz s).2.2=0:=by
 unfold bz at h ⊢;split
 ·rfl
 ·rename_i h4;rw[if_neg h4]at h;exact Ml s _ _ _ h
def Sh.pf:Sh:=⟨λk=>.tup [.part k 0,.agg [.part k 1,.part k 2,.part k 3]],λ_ _=>rfl,λk j hj=>by simpa [SV.keys,az] using hj⟩
theorem PV{v:Value}(h:hv v=v):Sh.pf.val [v,.int .i64 0,.int .i64 0,.string ⟨#[]⟩]=.tuple #[v,pR 0 0 ⟨#[]⟩]:=by
 show Value.tuple #[hv v,.agg #[.int .i64 0,.int .i64 0,.string ⟨#[]⟩]]=_;rw[h];rfl
def am9(p:Pm):FK:=⟨λcs W S=>∃ v,cs=[v,.int .i64 0,.int .i64 0,.string ⟨#[]⟩]/\PmV W S v p,λhs ⟨v,h1,h2⟩=>⟨v,h1,h2.mono hs⟩⟩
def agY:Except (Int×Nat) Pm->FOut
 |.ok p=>.fact Sh.pf (am9 p)
 |.error (c,a)=>.val (.tuple #[.pointer none,pR c (a:Nat) ⟨#[]⟩])
theorem IX(p:Pm):agY (.ok p)=.fact Sh.pf (am9 p):=rfl
theorem qk(c:Int)(a:Nat):agY (.error (c,a))=.val (.tuple #[.pointer none,pR c (a:Nat) ⟨#[]⟩]):=rfl
def abr(q:Pb)(r:List Tk):vL prog 68 where
 T:=143
 kinds:=[]
 pre:=λfs bs_ W S=>(fs=pC q r 0/\bs_=[])/\q.st W S r/\fC W S
 premono:=λfs bs_ W S W' S' hs ⟨h1,h2,h3⟩=>⟨h1,h2.b8 hs,h3.mono hs⟩
 out:=λ_ _=>af9 q 0 (iA (lg (fh 64)) r.length [] r)
 enters:=call68
 ok:=by
  intro w S u fp us fs bs_ ho hlt hS hu hp;obtain⟨⟨rfl,rfl⟩,h1,h2⟩:=hp
  match us,hu with
  |[],_=>exact abu 0 _ (ph (kY 64) 5) U2 q r u fp w S h1 h2 ho hlt hS
section
variable (s:ByteArray)(G:Nat->Prop)(q:Pb)(r:List Tk)
noncomputable def X6:Env prog:=⟨λ| 66=>some ((Re s).spec [])|_=>none,λ| 39=>some uf|_=>none,λ_ _=>none⟩
noncomputable def al1:Env prog:=⟨λ| 68=>some ((abr q r).spec G)|_=>none,λ| 39=>some uf|_=>none,λ_ _=>none⟩
theorem ahP:(X6 s).sp 66=some ((Re s).spec []):=rfl
theorem X7:(X6 s).eqs 39=some uf:=rfl
theorem ahQ:(al1 G q r).sp 68=some ((abr q r).spec G):=rfl
end
def kZ:=(ae @List.replicate_succ.{0} @List.replicate_zero.{0} @au @ab lx ly Tr (ae Tw TS dB dD dF dG eK (ae eL eM eN eO eP JU JV (ae JW JX vn vt vu vv vz (ae vA vB vC vD vE Dq Dr (ae Ds Dt Du Dv Dw Dx Dy (ae Dz DA Jd Je Jf Jg alM (ae alN u9 vc vd ve vf vg (ae vh vi vj vl vm qU qV (ae qW qX qY qZ q7 q8 @aV (ae @aw @aD @aF @fy @aas @Aa.eq_1 @j5.eq_1 (ae @j5.eq_2 @ky.eq_1 @ky.eq_2 @ky.eq_3 @ky.eq_4 @ky.eq_5 @ky.eq_6 (ae @ky.eq_7 @ky.eq_8 @r9.eq_1 @r9.eq_2 @jf.eq_1 @jf.eq_2 @lH.eq_1 (ae @lH.eq_2 @iB.eq_1 @iB.eq_2 @iB.eq_3 @iB.eq_4 @xZ.eq_1 @mp.eq_1 (ae @gF @yo @uJ @uL @ahP @X7 @ahQ (ae @Re.eq_1 @abr.eq_1 @S3 @iX @Fa.eq_1 @Ac.eq_1 @pR.eq_1 (oQ @σR.eq_1 @σL.eq_1 @mq.eq_1 @mq.eq_2 @r8.eq_1 @r8.eq_2)))))))))))))))))
noncomputable def aeX:CatchC prog 67 where
 Ts:=[72,39]
 enters:=call67
 pre:=λvss pv=>(∃ a f g h,vss=[[a],[f,g,h]])/\∃ c i t,pv=.iface 39 (pR c i t)
 out:=λvss pv=>[[.pointer none],match pv with|.iface _ (.agg x)=>x.toList|_=>[]]
 pO:=λvss pv=>[.pointer none,match pv with|.iface _ x=>x|_=>undef]
 vals_ok:=by
  rintro vss pv ⟨_,c,i,t,rfl⟩
  refine⟨.inr ⟨by simp only[iV,Op.operands,Value.cells,σ0,σB,Nat.reduceEqDiff,Nat.reduceAdd,Nat.reduceMul,Nat.reduceLT,Nat.reduceLeDiff,Nat.reduceBEq,av,Int.reduceToNat,Int.reduceLT,Int.reduceLE,Nat.reduceDiv,Nat.reduceMod,Nat.reduceSub,Int.reducePow,Nat.reducePow,σP,σB3,kZ],rfl⟩,.inl ⟨by simp only[iV,Op.operands,Value.cells,σ0,σB,Nat.reduceEqDiff,Nat.reduceAdd,Nat.reduceMul,Nat.reduceLT,Nat.reduceLeDiff,Nat.reduceBEq,av,Int.reduceToNat,Int.reduceLT,Int.reduceLE,Nat.reduceDiv,Nat.reduceMod,Nat.reduceSub,Int.reducePow,Nat.reducePow,σP,σB3,kZ]<;>rfl,by simp only[iV,Op.operands,Value.cells,σ0,σB,Nat.reduceEqDiff,Nat.reduceAdd,Nat.reduceMul,Nat.reduceLT,Nat.reduceLeDiff,Nat.reduceBEq,av,Int.reduceToNat,Int.reduceLT,Int.reduceLE,Nat.reduceDiv,Nat.reduceMod,Nat.reduceSub,Int.reducePow,Nat.reducePow,σP,σB3,kZ],rfl⟩,trivial⟩
 quiet:=λw us hl=>by
  match us,hl with
  | [u0,u1],_=>
   refine lR (nt:=8) w _ func67 rfl rfl oM oM rfl ?_;refine vR Γ0 kZ ?_;refine wC kZ (λhc=>?_) (λhc=>?_)
   ·simp at hc
   ·refine wK ?_;simp only[iV,Op.operands,Value.cells,σ0,σB,Nat.reduceEqDiff,Nat.reduceAdd,Nat.reduceMul,Nat.reduceLT,Nat.reduceLeDiff,Nat.reduceBEq,av,Int.reduceToNat,Int.reduceLT,Int.reduceLE,Nat.reduceDiv,Nat.reduceMod,Nat.reduceSub,Int.reducePow,Nat.reducePow,σP,σB3,nE,gr,kU,iQ,kZ]
    done
 caught:=λw us bl vss pv hl hn hlt hp=>by
  obtain⟨⟨a,f,g,h,rfl⟩,k,i,t,rfl⟩:=hp;have h3:=hl.len.1;refine kL (nt:=8) func67 rfl rfl oM oM ?_ hl hn hlt ?_ ?_
  ·rw[h3];rfl
  ·rw[h3];decide
  intro us _;refine vR Γ0 kZ ?_;refine wC kZ (λhc=>?_) (λhc=>?_)
  ·skip;refine vrD Γ0 (aa kZ @pR.eq_1) ?_;refine wS kZ ?_;exact⟨rfl,rfl,trivial⟩
  ·cases hc
theorem agZ(s:ByteArray)(w:World)(S:Nat->Prop)(hs:s.size<=9223372036854775807)(hg:fC w S) :
  Calls prog 28 #[.string s] w λe w' => lI w S e w' (agY (jR s)):=by
 have u0:=aG.up w S;have s0:=hg.mono (aG.e7 w S);have hlen:=Mm s;refine zO (nt:=22) S func28 rfl rfl ?_;refine iR.seq' (rs:=[.cell 2 72,.cell 3 39]) rfl ?_;refine vr Γ0 kZ ?_;refine iR.seq' (rs:=[.cell 2 72,.cell 3 39]) rfl ?_;by_cases h0:(bz s).2.1=0
 rotate_left
 ·have he:jR s=.error ((bz s).2.1,(bz s).2.2):=by rw[jR,if_neg h0]
  have hd0:decide ((bz s).2.1=0)=false:=decide_eq_false h0;rw[he,qk];refine wr (X6 s) kZ ?_ ?_
  ·exact⟨dE,hs⟩
  refine iR.seq' (rs:=[.cell 2 72,.cell 3 39]) rfl ?_;refine vR (X6 s) (aa kZ hd0) ?_;refine wC kZ (λhc=>?_) (λhc=>?_)
  ·skip;refine zv Γ0 kZ ?_;refine wZ kZ ?_;exact λE=>rfl
  ·exact absurd hc sI
 ·have hE:=abX h0;have hz:=WW h0;have he:jR s=match iA (lg (fh 64)) (bz s).1.length [] (bz s).1 with
    |.error e=>.error e
    |.ok (p,_)=>.ok p:=by rw[jR,if_pos h0];all_goals rfl
  rw[he];generalize hL:(bz s).1=L at *;refine wr (X6 s) (nu kZ h0 hz hL @Int.natCast_zero) ?_ ?_
  ·exact⟨dE,hs⟩
  refine iR.seq' (rs:=[.cell 2 72,.cell 3 39]) rfl ?_;refine Wp.Aq 24 (ev (aa kZ @aS)) (λE=>by simp only[ai,den,aS];exact rfl) λW1 bs1 ao c hx1 hs1 hd1=>?_
  have u1:=u0.ext hx1;have hS1:jY W1 (bJ (aG w S) bs1) ao (x5 L):=hs1.out λb hb=>⟨u0 b hb.2,hb.1⟩
  obtain⟨b,o,rfl⟩:∃ b o,ao=some ⟨b,o,none⟩:=by
   rcases hS1 with h|⟨b,o,rfl,_⟩
   ·have:=xt L;rw[h]at this;have:=hE.pos;simp at *;omega
   ·exact⟨b,o,rfl⟩
  have hq:(Pb.mk b o c L).st W1 (bJ (aG w S) bs1) L:=⟨⟨hS1,hd1,by dsimp only;omega⟩,List.suffix_refl _,hE⟩;have hsl:(Pb.mk b o c L).sl L=.slice (some ⟨b,o,none⟩) L.length c:=by
   unfold Pb.sl Pb.at;simp
  refine vR (X6 s) kZ ?_;refine wC kZ (λhc=>?_) (λhc=>?_)
  ·exact absurd hc sI
  refine wK ?_;refine iR.Hr (rs:=[.cell 2 72,.cell 3 39]) rfl aeX [2,3] [0,8] rfl dE rfl dE rfl rfl ?_ ?_ λus hus=>?_
  ·rintro p hp;simp only[List.zip_cons_cons,List.zip_nil_right,List.mem_cons,List.not_mem_nil,or_false]at hp;rcases hp with rfl|rfl<;>rfl
  ·rintro k hk;simp only[List.mem_cons,List.not_mem_nil,or_false]at hk;rcases hk with rfl|rfl<;>exact⟨_,_,rfl⟩
  refine vR Γ0 kZ ?_
  match us,hus with
  |[u0',u1'],_=>
  have s1:=s0.mono hx1.dY;have hfs:[AV.val (.slice (some ⟨b,o,none⟩) L.length c),AV.val (.int .i64 0)]=pC (Pb.mk b o c L) L 0:=by
   unfold pC;rw[hsl];rfl
  cases hF:iA (lg (fh 64)) L.length [] L with
  |error e=>
   obtain⟨e,j⟩:=e;simp only;rw[qk];refine Wp.bo (al1 (aG w S) (Pb.mk b o c L) L) aN (ev (aa kZ hF)) ?_ ?_
   ·exact⟨⟨hfs,hq,s1⟩,dE,λ_ h=>h.elim⟩
   refine qq ?_;refine wS kZ ?_;refine⟨.iface 39 (pR e j ⟨#[]⟩),[[.pointer none],[.int .i64 0,.int .i64 0,.string ⟨#[]⟩]],rfl,⟨?_,?_,?_,?_,trivial⟩,⟨⟨_,_,_,_,rfl⟩,e,j,⟨#[]⟩,rfl⟩,λE=>rfl⟩
   all_goals rfl
  |ok p=>
   obtain⟨p,r2⟩:=p;simp only;rw[IX];refine wR (al1 (aG w S) (Pb.mk b o c L) L) (bp kZ hF @pC.eq_1) ?_ ?_
   ·exact⟨⟨hfs,hq,s1⟩,dE,(λ_ h=>h.elim),u1⟩
   refine Wp.cO 159 (ev kZ) (aX.refl _ _) λW2 bs2 cs hx2 hΦ=>?_
   obtain⟨v,rfl,hv⟩:=hΦ;have hvv:LE.hv v=v:=hv.hv;refine wZ (aa kZ hvv) ?_;exact⟨[v,.int .i64 0,.int .i64 0,.string ⟨#[]⟩],λE=>(PV hvv).symm,v,rfl,hv⟩
def Xx(s:ByteArray):me prog 28 where
 kinds:=[none]
 pre:=λas_ W S=>as_=[.val (.string s)]/\s.size<=9223372036854775807/\fC W S
 premono:=λas_ W S W' S' hs h=>⟨h.1,h.2.1,h.2.2.mono hs⟩
 out:=λ_=>agY (jR s)
 enters:=call28
 ok:=by
  intro w S us as_ hu hp;obtain⟨rfl,h1,h2⟩:=hp
  match us,hu with
  |[u],hu=>
   obtain⟨rfl,_⟩:=hu;exact agZ s w S h1 h2
section
variable (p:ByteArray)(h2:p.size<=2)(v:Nat)(hv:akT p=some (v:Int))
end
def x7(W:World)(S:Nat->Prop):Prop:=(Bm W S/\bj W S)/\nF W S/\Bg W S
theorem x7.mono{W W' : World}{S S' : Nat->Prop}(h:x7 W S)(hs:aX W S W' S'):x7 W' S' := ⟨⟨h.1.1.mono hs,h.1.2.mono hs⟩,h.2.1.mono hs,h.2.2.mono hs⟩
theorem x7.gh{W w:World}{bs fp:List Nat}(h:x7 W (Out bs))(hk:LE.an W bs w)(hm:∀ b∈fp,W.heap.size<=b\/b∈bs):x7 w (Out fp):=
 h.mono λb hb hs=>⟨hk.block b hb hs,λhb' => (hm b hb').elim (λg=>absurd g (Nat.not_le.2 hb)) hs⟩
def A4:a8 prog 38 where
 pre:=λW bs as_=>∃ s,as_=[.val (.string s)]/\s.size<=16777216
 res:=λ_ as_=>match as_ with
  |[.val (.string s)]=>.string (eY s)
  |_=>undef
 enters:=call38
 ok:=by
  intro W w bs us as_ hk hu hp;obtain⟨s,rfl,h1⟩:=hp
  match us,hu with
  |[x],hu=>
   obtain⟨rfl,_⟩:=hu;exact WA s h1 w
theorem L9(W:World)(bs:List Nat)(s:ByteArray):A4.pre W bs [.val (.string s)]=(s.size<=16777216):=
 propext ⟨λ⟨s',h,h2⟩=>by
  cases h
  exact h2,λh=>⟨s,rfl,h⟩⟩
theorem Ma(W:World)(s:ByteArray):A4.res W [.val (.string s)]=.string (eY s):=rfl
section
variable (p:ByteArray)(h2:p.size<=2)(v:Nat)(hv:akT p=some (v:Int))(hn:akT p=none)(ev:Value)
end
end
end Go.Proofs.YtnemkecffmdlnaaGreatDoor
namespace Go.LE
section
open Go.RowKit
section
variable {P:Program}(Γ:Env P){W:World}{bs:List Nat}{κ:Nat}{h:Hp}
theorem Al(T:TypeId)(l:List SV):ew Γ W bs κ h (.makeMap T none) l=kC κ l:=rfl
theorem qi(T:TypeId)(x y:Operand)(ok:Bool)(l:List SV):ew Γ W bs κ h (.lookup T x y ok) l=jm P h T ok l:=rfl
theorem Fq(T:TypeId)(x y z:Operand)(l:List SV):ew Γ W bs κ h (.mapUpdate T x y z) l=eD P h T l:=rfl
theorem QP(T:TypeId)(x y z:Operand)(l:List SV):ew Γ W bs κ h (.insert T x y z) l=eD P h T l:=rfl
end
section
variable {P:Program}{W:World}{bs:List Nat}{κ:Nat}{h:Hp}
theorem sA:kC κ []=⟨True,.hd (8*κ),[(8*κ,some (.mp [] []))],none,[],[]⟩:=rfl
theorem lY(T:TypeId)(ok:Bool)(k:Nat)(s:ByteArray):jm P h T ok [.hd k,.v (.string s)]=HM P k ok s (HS P (P.underlying T)) (h k):=rfl
theorem Cj(kt et:TypeId):HS P (some (.map kt et))=afO et (P.underlying kt):=rfl
theorem Ci(et:TypeId):afO et (some .string)=some et:=rfl
theorem HN(k:Nat)(ok:Bool)(s:ByteArray)(et:TypeId)(ks:List ByteArray)(vs:List SV):HM P k ok s (some et) (some (.mp ks vs))=lkE k ok (Cc ks vs s) (rF P et):=rfl
theorem wU(k:Nat)(ok:Bool)(o:Option SV)(z:Value):lkE k ok o (some z)=⟨True,Yi ok z o,[],none,[],[k]⟩:=rfl
theorem HO(z:Value)(x:SV):Yi true z (some x)=.tup [x,.v (.bool true)]:=rfl
theorem Pq(z:Value):Yi true z none=.tup [.v z,.v (.bool false)]:=rfl
theorem xk(T:TypeId)(k:Nat)(s:ByteArray)(x:SV):eD P h T [.hd k,.v (.string s),x]=upM k s x (HS P (P.underlying T)) (h k):=rfl
theorem ac6(k:Nat)(s:ByteArray)(x:SV)(et:TypeId)(ks:List ByteArray)(vs:List SV):upM k s x (some et) (some (.mp ks vs))=⟨s∉ks,.v undef,[(k,some (.mp (ks++[s]) (vs++[x])))],none,[],[k]⟩:=rfl
theorem cr(k:Nat)(ks:List ByteArray)(us:List SV):fT k (some (.mp ks us))=(cY us).map λvs=>(.mp ks vs,[k]):=rfl
theorem w9(k:Nat)(ks:List ByteArray)(vs:List Value)(r:List AV):bh k (.mp ks vs::r)=(k,.mp ks (vs.map .v))::bh (k+1) r:=rfl
theorem tt(k:Nat)(ks:List ByteArray)(vs:List Value)(r:List AV):aP k (.mp ks vs::r)=.hd k::aP (k+1) r:=rfl
theorem eZ(k:Nat)(u:Value)(ks:List ByteArray)(vs:List SV):Yj k u (.mp ks vs)=.mp ks (xj k u vs):=rfl
theorem A5(m:Nat->Src)(ks:List ByteArray)(vs:List SV):iB m (.mp ks vs)=.mp ks (j5 m vs):=rfl
theorem p6 :
  (∀ (T:TypeId) (r:Option Operand),cH (.makeMap T r)=false) /\
  (∀ (T:TypeId) (x y:Operand) (ok:Bool),cH (.lookup T x y ok)=false) /\
  (∀ (T:TypeId) (x y z:Operand),cH (.mapUpdate T x y z)=false) /\
  (∀ (T:TypeId) (x y z:Operand),cH (.insert T x y z)=false):=by
 refine⟨?_,?_,?_,?_⟩<;>(intros;rfl)
theorem kP(T:TypeId):(Op.makeMap T none).operands=#[]:=rfl
theorem lW(T:TypeId)(x y:Operand)(ok:Bool):(Op.lookup T x y ok).operands=#[x,y]:=rfl
theorem AD(T:TypeId)(x y z:Operand):(Op.mapUpdate T x y z).operands=#[x,y,z]:=rfl
theorem lV(T:TypeId)(x y z:Operand):(Op.insert T x y z).operands=#[x,y,z]:=rfl
end
end
end Go.LE
namespace Go.Proofs.YtnemkecffmdlnaaGreatDoor
section
open Go.RowKit Go.LE Go.Proofs.Tryz
inductive Cn where
 |nil
 |mk (at_:Nat) (op:ByteArray) (n:Option Rx) (to bk:ByteArray) (a b:Cn)
inductive Ln where
 |nil
 |mk (at_:Nat) (op:ByteArray) (n:Option Rx) (tx:ByteArray) (q:Cn) (a b:Ln)
inductive Tm where
 |text (at_:Nat) (s:ByteArray)
 |rx (at_:Nat) (r:Rx)
 |canon (c:Cn)
 |lens (l:Ln)
def jJ:ByteArray:=⟨#[110,111,114,109]⟩
def mm:ByteArray:=⟨#[105,110,115]⟩
def Sx:ByteArray:=⟨#[105,100]⟩
def rk:ByteArray:=⟨#[102,111,108,100]⟩
def gJ:ByteArray:=⟨#[115,116,97,114]⟩
def jD:ByteArray:=⟨#[99,111,112,121]⟩
def AB:ByteArray:=⟨#[107,101,121]⟩
def Hs:ByteArray:=⟨#[100,101,108]⟩
def iW:ByteArray:=⟨#[107,101,121,101,100]⟩
def wJ:ByteArray:=⟨#[108,101,102,116]⟩
def qf:ByteArray:=⟨#[114,105,103,104,116]⟩
def v7:ByteArray:=⟨#[100,101,102,97,117,108,116]⟩
def ya:ByteArray:=⟨#[97,108,116]⟩
def yh:ByteArray:=⟨#[99,97,116]⟩
def MP:ByteArray:=⟨#[115,119,97,112]⟩
def BE:ByteArray:=⟨#[99,104,97,105,110]⟩
def Tq:ByteArray:=⟨#[116,101,120,116]⟩
def Ih:ByteArray:=⟨#[114,101,103,101,120]⟩
def mE(s:ByteArray):Nat:=max 1 (2*s.size-1)
def eg:Option Rx->Nat
 |none=>0
 |some r=>bO r
def dM:Cn->Nat
 |.nil=>0
 |.mk _ op n to _ a b=>1+eg n+dM a+dM b+(if op=jJ then mE to else 0)
def gn:Ln->Nat
 |.nil=>0
 |.mk _ op n tx q a b=>1+eg n+dM q+gn a+gn b+(if op=mm then mE tx else 0)
def br:Tm->Nat
 |.text _ s=>mE s
 |.rx _ r=>bO r
 |.canon c=>dM c
 |.lens l=>gn l
def ab8:ByteArray:=⟨#[47]⟩
def atB:ByteArray:=⟨#[64]⟩
def alk:ByteArray:=⟨#[40]⟩
def akt:ByteArray:=⟨#[41]⟩
def KG:ByteArray:=⟨#[44]⟩
def ee:Option Rx->ByteArray
 |none=>ab8++⟨#[91,93]⟩++ab8
 |some r=>ab8++dc r++ab8
def dd(l:List ByteArray):ByteArray:=⟨(Lib.join (l.map (·.data.toList)) KG.data.toList).toArray⟩
def cW(a:Nat)(w:ByteArray)(l:List ByteArray):ByteArray:=w++atB++PB (a:Nat)++alk++dd l++akt
def nv:Cn->ByteArray
 |.nil=>⟨#[]⟩
 |.mk a op n to bk x y=>
  if op=Sx\/op=rk then cW a op [ee n]
  else if op=jJ then cW a op [ee n,eY to,eY bk]
  else if op=gJ then cW a op [nv x]
  else cW a op [nv x,nv y]
def im:Ln->ByteArray
 |.nil=>⟨#[]⟩
 |.mk a op n tx q x y=>
  if op=jD\/op=AB then cW a op [ee n]
  else if op=Hs then cW a op [ee n,eY tx]
  else if op=mm then cW a op [eY tx]
  else if op=gJ\/op=iW then cW a op [im x]
  else if op=wJ then cW a op [nv q,im x]
  else if op=qf then cW a op [im x,nv q]
  else if op=v7 then cW a op [im x,eY tx]
  else cW a op [im x,im y]
def vI:Tm->ByteArray
 |.text a s=>cW a Tq [eY s]
 |.rx a r=>cW a Ih [ee (some r)]
 |.canon c=>nv c
 |.lens l=>im l
def Yf:Tm->Nat
 |.text a _=>a
 |.rx a _=>a
 |.canon (.mk a ..)=>a
 |.lens (.mk a ..)=>a
 |_=>0
def Pl:Tm->Nat
 |.text ..=>1
 |.rx ..=>2
 |.canon _=>3
 |.lens _=>4
def am1(s:ByteArray)(i:Nat):Rx:=.cls (V7 (s.extract i (i+1)) 1)
def nX(s:ByteArray):Nat->Rx
 |0=>.eps
 |1=>am1 s 0
 |n+2=>.cat (nX s (n+1)) (am1 s (n+1))
def GF(s:ByteArray):Rx:=nX s s.size
def ud:Tm->Option Rx
 |.text _ s=>some (GF s)
 |.rx _ r=>some r
 |_=>none
abbrev TE:=Except (Int×Int) Tm
def fE(a:Nat):TE:=.error (72,(a:Nat))
def AM(a:Nat)(op:ByteArray)(t:Tm):TE:=match ud t with
 |some n=>.ok (.rx a (if op=kf then .star n else if op=uX then .cat n (.star n) else .alt n .eps))
 |none=>match t with
  |.canon c=>if op=kf then .ok (.canon (.mk a gJ none ⟨#[]⟩ ⟨#[]⟩ c .nil)) else fE a
  | .lens l=>.ok (.lens (if op=kf then .mk a gJ none ⟨#[]⟩ .nil l .nil
    else if op=uX then .mk a yh none ⟨#[]⟩ .nil l (.mk a gJ none ⟨#[]⟩ .nil l .nil)
    else .mk a ya none ⟨#[]⟩ .nil l (.mk a jD (some .eps) ⟨#[]⟩ .nil .nil .nil)))
  |_=>fE a
def EU:ByteArray:=⟨#[124]⟩
def E6:ByteArray:=⟨#[46]⟩
def Oc:ByteArray:=⟨#[38]⟩
def Pu:ByteArray:=⟨#[45]⟩
def XD:ByteArray:=⟨#[126]⟩
def E3:ByteArray:=⟨#[62,62]⟩
def H0(op:ByteArray):Nat:=if op=EU then 1 else if op=E6 then 2 else if op=XD then 3 else if op=E3 then 4 else 0
def Wd:Nat->ByteArray
 |1=>ya
 |2=>yh
 |3=>MP
 |4=>BE
 |_=>⟨#[]⟩
def Tf(op:ByteArray)(x y:Rx):Option Rx:=if op=EU then some (.alt x y) else if op=E6 then some (.cat x y) else if op=Oc then some (.and x y) else if op=Pu then some (.minus x y) else none
def oW(a:Nat)(op:ByteArray):Tm->Tm->TE
 |.lens p,.lens q=>if 0<H0 op then .ok (.lens (.mk a (Wd (H0 op)) none ⟨#[]⟩ .nil p q)) else fE a
 |.canon p,.canon q=>if H0 op=1\/H0 op=2 then .ok (.canon (.mk a (Wd (H0 op)) none ⟨#[]⟩ ⟨#[]⟩ p q)) else fE a
 |_,_=>fE a
def EV(a:Nat)(op:ByteArray)(t u:Tm):TE:=match ud t,ud u with
 |some x,some y=>match Tf op x y with
  |some r=>.ok (.rx a r)
  |none=>oW a op t u
 |_,_=>oW a op t u
def EN(ts:List Tm)(ps:List Nat)(i:Nat):Except (Int×Int) Rx:=match (ts[i]?).bind ud with
 |some r=>.ok r
 |none=>.error (72,((ps.getD i 0:Nat)))
def As(ts:List Tm)(ps:List Nat)(i:Nat):Except (Int×Int) ByteArray:=match ts[i]? with
 |some (.text _ s)=>.ok s
 |_=>.error (72,((ps.getD i 0:Nat)))
def E4(ts:List Tm)(ps:List Nat)(i:Nat):Except (Int×Int) Cn:=match ts[i]? with
 |some (.canon c)=>.ok c
 |_=>.error (72,((ps.getD i 0:Nat)))
def Ce(ts:List Tm)(ps:List Nat)(i:Nat):Except (Int×Int) Ln:=match ts[i]? with
 |some (.lens l)=>.ok l
 |_=>.error (72,((ps.getD i 0:Nat)))
def bM{α:Type}(x:Except (Int×Int) α)(f:α->TE):TE:=match x with
 |.error e=>.error e
 |.ok a=>f a
def bc(a:Nat)(w:ByteArray)(ts:List Tm)(ps:List Nat):TE:=
 if w=Sx\/w=rk then bM (EN ts ps 0) λn=>.ok (.canon (.mk a w (some n) ⟨#[]⟩ ⟨#[]⟩ .nil .nil))
 else if w=jJ then bM (EN ts ps 0) λn=>bM (As ts ps 1) λs=>bM (As ts ps 2) λt=>.ok (.canon (.mk a w (some n) s t .nil .nil))
 else if w=Hs then bM (EN ts ps 0) λn=>bM (As ts ps 1) λs=>.ok (.lens (.mk a w (some n) s .nil .nil .nil))
 else if w=mm then bM (As ts ps 0) λs=>.ok (.lens (.mk a w none s .nil .nil .nil))
 else if w=jD\/w=AB then bM (EN ts ps 0) λn=>.ok (.lens (.mk a w (some n) ⟨#[]⟩ .nil .nil .nil))
 else if w=wJ then bM (E4 ts ps 0) λc=>bM (Ce ts ps 1) λl=>.ok (.lens (.mk a w none ⟨#[]⟩ c l .nil))
 else if w=qf then bM (Ce ts ps 0) λl=>bM (E4 ts ps 1) λc=>.ok (.lens (.mk a w none ⟨#[]⟩ c l .nil))
 else if w=v7 then bM (Ce ts ps 0) λl=>bM (As ts ps 1) λs=>.ok (.lens (.mk a w none s .nil l .nil))
 else .ok (.lens (.mk a w none ⟨#[]⟩ .nil .nil .nil))
def gT(a:Nat)(t:Tm):TE:=if 2000<br t then .error (24,(a:Nat)) else .ok t
def U1:Ex->Nat
 |.name a _=>a
 |.text a _=>a
 |.rx a _=>a
 |.call a _ _=>a
 |.keyed a _=>a
 |.unary a _ _=>a
 |.binary a _ _ _=>a
 |_=>0
def cF:Ex->List Nat
 |.cons x l=>U1 x::cF l
 |_=>[]
abbrev En:=List (ByteArray×Tm)
def Lm:En->ByteArray->Option Tm
 |[],_=>none
 |(k,t)::r,s=>if k=s then some t else Lm r s
def yw(a:Nat):Tm->TE
 |.lens l=>.ok (.lens (.mk a iW none ⟨#[]⟩ .nil l .nil))
 |_=>fE a
mutual
def aE(v:En):Ex->TE
 |.name a s=>match Lm v s with
  |some t=>.ok t
  |none=>.error (70,(a:Nat))
 |.text a s=>.ok (.text a s)
 |.rx a s=>match pA s with
  |.ok r=>.ok (.rx a r)
  |.error (c,j)=>.error (c,IntKind.i64.wrap ((a:Nat)+1+j))
 |.keyed a x=>bM (aE v x) λt=>bM (yw a t) (gT a)
 |.unary a op x=>bM (aE v x) λt=>bM (AM a op t) (gT a)
 |.binary a op x y=>bM (aE v x) λt=>bM (aE v y) λu=>bM (EV a op t u) (gT a)
 |.call a w l=>match cx v l with
  |.error e=>.error e
  |.ok ts=>bM (bc a w ts (cF l)) (gT a)
 |.nil=>.error (0,0)
 |.cons _ _=>.error (0,0)
def cx(v:En):Ex->Except (Int×Int) (List Tm)
 | .cons x l=>match aE v x with
  |.error e=>.error e
  |.ok t=>match cx v l with
   |.error e=>.error e
   |.ok ts=>.ok (t::ts)
 |_=>.ok []
end
def zW:En->List (Nat×ByteArray×Ex)->Except (Int×Int) En
 |v,[]=>.ok v
 | v,(a,s,x)::r=>match Lm v s with
  |some _=>.error (71,(a:Nat))
  |none=>match aE v x with
   |.error e=>.error e
   |.ok t=>zW (v++[(s,t)]) r
def v8(p:Pm):TE:=match zW [] p.1 with
 |.error e=>.error e
 |.ok v=>aE v p.2
def bI(s:ByteArray):TE:=match jR s with
 |.error (c,a)=>.error (c,(a:Nat))
 |.ok p=>v8 p
end
section
open Go Go.RowKit Go.LE
set_option maxRecDepth 10000
theorem aaw{P:Program}{t:TypeId}{name:String}{f:FuncId}{i:TypeInfo}{m:Method}{d:TypeDesc}{b:Bool}(hi:P.info? t=some i)(hm:i.methods.find? (·.name == name)=some m)(hp:m.path=#[])(hf:m.func=some (f,b))
  (hd:P.underlying t=some d) (hb:b=match d with|.pointer _=>true|_=>false) (n:Nat) (v:Value) (w:World) :
  (method (n+1) t v name).run P w=.ok (f,v) w:=by
 subst hb;simp only[method,Sem.run_bind,typeInfo];simp[hi,hm,hp,hf,follow,receiverAt,run_underlying hd];cases d<;>simp[Place.get]
def aav(P:Program)(t:TypeId)(name:String):Option (FuncId×Bool):=match P.info? t with
 | some i=>match i.methods.find? (·.name == name) with
  |some m=>match m.path.isEmpty,m.func with
   |true,some x=>some x
   |_,_=>none
  |none=>none
 |none=>none
def alo:Option TypeDesc->Option Bool
 |some (.pointer _)=>some true
 |some _=>some false
 |none=>none
theorem VW{P:Program}{t:TypeId}{name:String}{f:FuncId}{b:Bool}(hq:aav P t name=some (f,b))(hd:alo (P.underlying t)=some b)(v:Value)(w:World) :
  (method (P.types.size+Made.depth) t v name).run P w=.ok (f,v) w:=by
 unfold aav at hq;split at hq
 ·rename_i i hi;split at hq
  ·rename_i m hm;split at hq
   ·rename_i x hp hf;cases hq;cases hu:P.underlying t with
    |none=>rw[hu]at hd;cases hd
    |some d=>
     rw[hu]at hd;have:Made.depth=(Made.depth-1)+1:=rfl;rw[this,<- Nat.add_assoc];refine aaw hi hm (by simpa using hp) hf hu ?_ _ v w;cases d<;>simp[alo]at hd<;>simp[hd]
   ·cases hq
  ·cases hq
 ·cases hq
def cg{P:Program}{t:TypeId}{name:String}(f:FuncId)(b:Bool)(hq:aav P t name=some (f,b))(hd:alo (P.underlying t)=some b):MethSpec P t name:=⟨f,VW hq hd⟩
def amN:MethSpec Tryz.prog 279 "Size":=cg 311 false (by kernel_rfl) (by kernel_rfl)
def amO:MethSpec Tryz.prog 281 "Size":=cg 314 false (by kernel_rfl) (by kernel_rfl)
def amP:MethSpec Tryz.prog 283 "Size":=cg 316 false (by kernel_rfl) (by kernel_rfl)
def amQ:MethSpec Tryz.prog 284 "Size":=cg 318 false (by kernel_rfl) (by kernel_rfl)
def amR:MethSpec Tryz.prog 285 "Size":=cg 320 false (by kernel_rfl) (by kernel_rfl)
def amS:MethSpec Tryz.prog 286 "Size":=cg 322 false (by kernel_rfl) (by kernel_rfl)
def amT:MethSpec Tryz.prog 311 "Size":=cg 324 false (by kernel_rfl) (by kernel_rfl)
def fnS:TypeId->Option FuncId
 |279=>some 311
 |281=>some 314
 |283=>some 316
 |284=>some 318
 |285=>some 320
 |286=>some 322
 |311=>some 324
 |_=>none
abbrev N5 (n:Nat):Prop:=∀ (r:Rx) (t:TypeId) (x:Value) (f:FuncId),ay r=.iface t x->fnS t=some f->bO r<n->bO r<=1152921504606846976->∀ w:World,Calls Tryz.prog f #[x] w λe w' => e=.returned (.int .i64 (bO r))/\an w [] w'
noncomputable def Ft(t:TypeId)(f:FuncId)(he:∀ args w,(callFunc f args).run Tryz.prog w=.ok (.enter f args) w)(hf:fnS t=some f)(n:Nat)(h:N5 n):a8 Tryz.prog f where
 pre:=λW bs as_=>∃ (r:Rx) (x:Value),ay r=.iface t x/\as_=[.val x]/\bO r<n/\bO r<=1152921504606846976
 res:=λ_ as_=>match as_ with
  |[.val x]=>(match dec ay (.iface t x) with
   |some r=>.int .i64 (bO r)
   |_=>undef)
  |_=>undef
 enters:=he
 ok:=by
  intro W w bs us as_ hk hu hp;obtain⟨r,x,h0,rfl,h1,h2⟩:=hp
  match us,hu with
  |[y],hu=>
   obtain⟨rfl,_⟩:=hu;simp only[<- h0,ca bb];exact h r t _ f h0 hf h1 h2 w
section
variable (n:Nat)(h:N5 n)
noncomputable def spS:(f:FuncId)->Option (LE.Spec Tryz.prog f)
 |311=>some (Ft 279 311 Tryz.call311 rfl n h).spec
 |314=>some (Ft 281 314 Tryz.call314 rfl n h).spec
 |316=>some (Ft 283 316 Tryz.call316 rfl n h).spec
 |318=>some (Ft 284 318 Tryz.call318 rfl n h).spec
 |320=>some (Ft 285 320 Tryz.call320 rfl n h).spec
 |322=>some (Ft 286 322 Tryz.call322 rfl n h).spec
 |324=>some (Ft 311 324 Tryz.call324 rfl n h).spec
 |_=>none
def mtS:(t:TypeId)->(name:String)->Option (MethSpec Tryz.prog t name)
 |279, "Size"=>some amN
 |281, "Size"=>some amO
 |283, "Size"=>some amP
 |284, "Size"=>some amQ
 |285, "Size"=>some amR
 |286, "Size"=>some amS
 |311, "Size"=>some amT
 |_,_=>none
end
theorem B1{Γ:Env Tryz.prog}{W:World}{bs:List Nat}{κ:Nat}{hh:Hp}(n:Nat)(h:N5 n)(hm:Γ.mt=mtS)(hs:∀ t f,fnS t=some f->Γ.sp f=spS n h f)(r:Rx) :
  aI Γ W bs κ hh "Size" [.v (ay r)]=⟨bO r<n/\bO r<=1152921504606846976,.v (.int .i64 (bO r)),[],none,[],[]⟩:=by
 have key:∀ (t:TypeId) (f:FuncId) (he:∀ args w,(callFunc f args).run Tryz.prog w=.ok (.enter f args) w) (hf:fnS t=some f) (x:Value),ay r=.iface t x ->
   (Ft t f he hf n h).spec.ev W bs κ hh [.v x]=⟨bO r<n/\bO r<=1152921504606846976,.v (.int .i64 (bO r)),[],none,[],[]⟩:=λt f he hf x hx=>by
  have h1:(Ft t f he hf n h).pre W bs [.val x]=(bO r<n/\bO r<=1152921504606846976):=by
   apply propext;constructor
   ·rintro⟨r',x',g1,g2,g3⟩;cases g2;obtain rfl:=bb _ _ (hx.trans g1.symm);exact g3
   ·exact λg=>⟨r,x,hx,rfl,g⟩
  have h2:(Ft t f he hf n h).res W [.val x]=.int .i64 (bO r):=by
   show (match dec ay (.iface t x) with|some r=>Value.int .i64 (bO r)|_=>undef)=_;rw[<- hx,ca bb]
  rw[aD];show Gp _ _ W bs (some ([.val x],[]))=_;rw[CP,h1,h2]
 cases r with
 |eps=>simp only[ay,aI,hm,mtS,amP,cg,fz,hs 283 316 rfl,spS];exact key 283 316 _ rfl _ rfl
 |cls S=>simp only[ay,aI,hm,mtS,amT,cg,fz,hs 311 324 rfl,spS];exact key 311 324 _ rfl _ rfl
 |cat a b=>simp only[ay,aI,hm,mtS,amO,cg,fz,hs 281 314 rfl,spS];exact key 281 314 _ rfl _ rfl
 |alt a b=>simp only[ay,aI,hm,mtS,amQ,cg,fz,hs 284 318 rfl,spS];exact key 284 318 _ rfl _ rfl
 |star a=>simp only[ay,aI,hm,mtS,amN,cg,fz,hs 279 311 rfl,spS];exact key 279 311 _ rfl _ rfl
 |and a b=>simp only[ay,aI,hm,mtS,amR,cg,fz,hs 285 320 rfl,spS];exact key 285 320 _ rfl _ rfl
 |minus a b=>simp only[ay,aI,hm,mtS,amS,cg,fz,hs 286 322 rfl,spS];exact key 286 322 _ rfl _ rfl
theorem BL{eqs:(T:TypeId)->Option (EqSpec Tryz.prog T)}{hh:Hp}(T:TypeId)(X Y:Operand)(r:Rx):bR Tryz.prog eqs hh .eql T X Y [.v (ay r),.v .nilIface]=⟨isIface Tryz.prog T=some true,.v (.bool false),[],none,[],[]⟩:=by
 cases r<;>rfl
def Us:=(ae @List.replicate_succ.{0} @List.replicate_zero.{0} @au @ab lx ly lA (ae di dj dk dm dB dD dF (ae dG iH iI iJ iK M5 M6 (ae M7 M8 M9 Na Nb Nc D9 (ae Ea Eb Ec Ed Ee Ef Eg (ae Eh Ei Ej Ek El Em Eo (ae Ep GK GL GM GN GO GP (ae GQ GR GS Nf Ng Nh Ni (ae Nj Nk Nl Nn No Np Nq (ae Nr Ns Nt Nu Nv Nw Nx (ae Tx Ty Tz TA TB TC TD (ae TF @aV @aw @aD @aF @BL @aM (bp @e8 @dw @cT)))))))))))))
theorem acj(r:Rx)(w:World):Calls Tryz.prog 312 #[ay r] w λe w' => e=.returned (ay r)/\an w [] w' := by
 refine ak (nt:=8) [.tmp 2] Tryz.func312 rfl rfl rfl ?_;refine vR Γ0 Us ?_;refine Wp.seq ?_;refine vR Γ0 Us ?_;refine wC Us (λhc=>?_) (λhc=>?_)
 ·cases hc
 ·refine wK ?_;refine vR Γ0 Us ?_;refine wZ Us ?_;exact λE=>rfl
noncomputable def GB:a8 Tryz.prog 312 where
 pre:=λW bs=>λ| [.val y0]=>(match dec ay y0 with|some r=>True|_=>False)|_=>False
 res:=λW=>λ| [.val y0]=>(match dec ay y0 with|some r=>ay r|_=>undef)|_=>undef
 enters:=Tryz.call312
 ok:=by
  intro W w bs us as_ hk hu hp;split at hp
  ·rename_i y0;split at hp
   ·rename_i r h0
    match us,hu with
    |[u0],hu=>
     obtain⟨rfl,_⟩:=hu;obtain rfl:=gv h0
     try dsimp only
     try simp only[ca bb]
     exact acj r w
   ·exact hp.elim
  ·exact hp.elim
theorem Xw(W:World)(r:Rx):GB.res W [.val (ay r)]=ay r:=by simp only[GB,ca bb]
theorem Xv(W:World)(bs:List Nat)(r:Rx):GB.pre W bs [.val (ay r)]=(True):=by simp only[GB,ca bb]
section
variable (n:Nat)(h:N5 n)
noncomputable def R3:Env Tryz.prog:=⟨λ| 312=>some GB.spec|f=>spS n h f,λ_=>none,mtS⟩
theorem adV:(R3 n h).sp 312=some GB.spec:=rfl
theorem adW{W:World}{bs:List Nat}{κ:Nat}{hh:Hp}(r:Rx):aI (R3 n h) W bs κ hh "Size" [.v (ay r)]=⟨bO r<n/\bO r<=1152921504606846976,.v (.int .i64 (bO r)),[],none,[],[]⟩:=
 B1 n h rfl (λt f hf=>by
  unfold fnS at hf
  split at hf<;>cases hf<;>rfl) r
end
def n8:=(nu Us Xw Xv @adV @adW)
theorem Pv(n:Nat)(h:N5 n):N5 (n+1):=by
 intro r t x f hr hf hlt hsz w;cases r with
 |eps=>
  cases hr;cases hf;refine ak (nt:=3) [.tmp 2] Tryz.func316 rfl rfl rfl ?_;refine vR Γ0 n8 ?_;refine vR Γ0 n8 ?_;refine wZ n8 ?_;exact λE=>rfl
 |cls S=>
  cases hr;cases hf;refine ak (nt:=3) [.tmp 2] Tryz.func324 rfl rfl rfl ?_;refine vR Γ0 n8 ?_;refine vR Γ0 n8 ?_;refine wZ n8 ?_;exact λE=>rfl
 |cat a b=>
  cases hr;cases hf;simp only[bO]at hlt hsz;refine ak (nt:=13) [.tmp 2] Tryz.func314 rfl rfl rfl ?_;refine vR Γ0 n8 ?_;refine zv (R3 n h) (aa n8 @ax) ?_;refine wZ n8 ?_;refine λE=>?_
  simp only[den,bO];have:=xi a;rw[ax (n:=1+(bO a:Int)) oM oM]
  try rw[ax oM oM]
  congr 1
  omega
 |alt a b=>
  cases hr;cases hf;simp only[bO]at hlt hsz;refine ak (nt:=13) [.tmp 2] Tryz.func318 rfl rfl rfl ?_;refine vR Γ0 n8 ?_;refine zv (R3 n h) (aa n8 @ax) ?_;refine wZ n8 ?_;refine λE=>?_
  simp only[den,bO];have:=xi a;rw[ax (n:=1+(bO a:Int)) oM oM]
  try rw[ax oM oM]
  congr 1
  omega
 |and a b=>
  cases hr;cases hf;simp only[bO]at hlt hsz;refine ak (nt:=13) [.tmp 2] Tryz.func320 rfl rfl rfl ?_;refine vR Γ0 n8 ?_;refine zv (R3 n h) (aa n8 @ax) ?_;refine wZ n8 ?_;refine λE=>?_
  simp only[den,bO];have:=xi a;rw[ax (n:=1+(bO a:Int)) oM oM]
  try rw[ax oM oM]
  congr 1
  omega
 |minus a b=>
  cases hr;cases hf;simp only[bO]at hlt hsz;refine ak (nt:=13) [.tmp 2] Tryz.func322 rfl rfl rfl ?_;refine vR Γ0 n8 ?_;refine zv (R3 n h) (aa n8 @ax) ?_;refine wZ n8 ?_;refine λE=>?_
  simp only[den,bO];have:=xi a;rw[ax (n:=1+(bO a:Int)) oM oM]
  try rw[ax oM oM]
  congr 1
  omega
 |star a=>
  cases hr;cases hf;simp only[bO]at hlt hsz;refine ak (nt:=8) [.tmp 2] Tryz.func311 rfl rfl rfl ?_;refine vR Γ0 n8 ?_;refine vR (R3 n h) (aa n8 @ax) ?_;refine wZ n8 ?_;refine λE=>?_
  simp only[den,bO];have:=xi a;rw[ax (n:=1+(bO a:Int)) oM oM]
  try rw[ax oM oM]
  congr 1
  omega
theorem pq:∀ n,N5 n
 |0=>λr t x f _ _ h=>absurd h (Nat.not_lt_zero _)
 |n+1=>Pv n (pq n)
end
end Go.Proofs.YtnemkecffmdlnaaGreatDoor
