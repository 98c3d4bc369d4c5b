/-
 Part 5 of the proof (packed).
-/
import Derived.Test.YtnemkecffmdlnaaGreatDoorV4
import Derived.Shelf.Small.Strs
import Derived.Shelf.LaysM
import Derived.Shelf.Strconv.AtoiAll
import Derived.Shelf.Strings.Search1
import Derived.Shelf.Strings.Search2
import Derived.Shelf.Strings.Search3
import Derived.Shelf.Small.Wraps
import Derived.Shelf.Strings.Split
import Derived.Test.YtnemkecffmdlnaaGreatDoorProg
import Derived.Handy
import Derived.Lib.AtoiAllCases
import Derived.Lib.IndexBytes
import Derived.Shelf.Strconv.ToError
import Derived.Shelf.LaysC
import Derived.Lib.ConvBytes
import Derived.Lib.Hide
import Derived.Laws.Strings3
import Derived.Laws.Closers25
import Derived.Laws.Closers25b
import Derived.Shelf.Strings.OnBuilder
set_option linter.unusedSimpArgs false
set_option linter.unusedVariables false
set_option linter.defProp false
set_option maxHeartbeats 16000000
namespace Go.Proofs.YtnemkecffmdlnaaGreatDoor
section
open Go.RowKit Go.LE Go.Proofs.Tryz
theorem jw:ts prog 54=some 1:=kR
theorem jx:ta prog 54=some false:=kR
theorem jy:vI prog 54=some 16:=kR
theorem jz:tz prog 54=some [Value.nilIface]:=kR
theorem jA:isIface prog 54=some true:=kR
theorem PK:ts prog 55=some 1:=kR
theorem PM:ta prog 55=some false:=kR
theorem Ch:ts prog 72=some 1:=kR
theorem Ci:ta prog 72=some false:=kR
theorem Cj:tz prog 72=some [Value.pointer none]:=kR
theorem Ck:iL prog 72=some true:=kR
theorem Cl:Program.underlying prog 72=some (.pointer 79):=kR
theorem PN:ts prog 73=some 1:=kR
theorem PO:ta prog 73=some false:=kR
theorem aae:ts prog 75=some 1:=kR
theorem aaf:ta prog 75=some false:=kR
theorem aag:tz prog 75=some [Value.slice none 0 0]:=kR
theorem aah:Program.underlying prog 75=some (.slice 134):=kR
theorem ny:ts prog 77=some 1:=kR
theorem nz:ta prog 77=some false:=kR
theorem nA:vI prog 77=some 16:=kR
theorem nB:tz prog 77=some [Value.nilIface]:=kR
theorem nC:isIface prog 77=some true:=kR
theorem Cm:ts prog 79=some 2:=kR
theorem Co:ta prog 79=some true:=kR
theorem Cp:tz prog 79=some [Value.slice none 0 0,Value.nilIface]:=kR
theorem Cq:qK prog 79=some [(0,1),(1,1)]:=kR
theorem Cr:tf prog 79 0=some (0,1,false):=kR
theorem Cs:tf prog 79 1=some (1,1,false):=kR
theorem HI:ts prog 129=some 1:=kR
theorem HJ:ta prog 129=some false:=kR
theorem HK:tz prog 129=some [Value.pointer none]:=kR
theorem HL:iL prog 129=some true:=kR
theorem HM:Program.underlying prog 129=some (.pointer 132):=kR
theorem PQ:ts prog 130=some 1:=kR
theorem PS:ta prog 130=some false:=kR
theorem PT:tz prog 130=some [Value.map none]:=kR
theorem HN:ts prog 132=some 1:=kR
theorem HO:ta prog 132=some true:=kR
theorem HP:tz prog 132=some [Value.map none]:=kR
theorem HQ:qK prog 132=some [(0,1)]:=kR
theorem HR:tf prog 132 0=some (0,1,false):=kR
theorem aai:ts prog 134=some 3:=kR
theorem aaj:ta prog 134=some true:=kR
theorem aak:vI prog 134=some 40:=kR
theorem aal:tz prog 134=some [Value.int IntKind.i64 0,Value.string { data:=#[] },Value.nilIface]:=kR
theorem aam:qK prog 134=some [(0,1),(1,1),(2,1)]:=kR
theorem aan:tf prog 134 0=some (0,1,false):=kR
theorem aao:tf prog 134 1=some (1,1,false):=kR
theorem aap:tf prog 134 2=some (2,1,false):=kR
theorem PU:ts prog 135=some 1:=kR
theorem PV:ta prog 135=some false:=kR
theorem HS:ts prog 138=some 1:=kR
theorem HT:ta prog 138=some false:=kR
theorem HU:tz prog 138=some [Value.slice none 0 0]:=kR
theorem HV:Program.underlying prog 138=some (.slice 225):=kR
theorem ajl:ts prog 139=some 1:=kR
theorem ajm:ta prog 139=some false:=kR
theorem tX:ts prog 141=some 1:=kR
theorem tY:ta prog 141=some false:=kR
theorem tZ:tz prog 141=some [Value.pointer none]:=kR
theorem ua:iL prog 141=some true:=kR
theorem ub:Program.underlying prog 141=some (.pointer 143):=kR
theorem uc:ts prog 143=some 2:=kR
theorem ud:ta prog 143=some true:=kR
theorem ue:tz prog 143=some [Value.slice none 0 0,Value.int IntKind.i64 0]:=kR
theorem uf:qK prog 143=some [(0,1),(1,1)]:=kR
theorem ui:tf prog 143 0=some (0,1,false):=kR
theorem uj:tf prog 143 1=some (1,1,false):=kR
theorem pD:ts prog 190=some 2:=kR
theorem pE:ta prog 190=some true:=kR
theorem pF:qM prog 190=some (.agg #[Value.int IntKind.i64 0,Value.string { data:=#[] }]):=kR
theorem pG:tz prog 190=some [Value.int IntKind.i64 0,Value.string { data:=#[] }]:=kR
theorem pH:qK prog 190=some [(0,1),(1,1)]:=kR
theorem pI:isIface prog 190=some false:=kR
theorem pJ:Program.concrete prog 190=true:=kR
theorem pK:tf prog 190 0=some (0,1,false):=kR
theorem pL:tf prog 190 1=some (1,1,false):=kR
theorem nD:ts prog 192=some 2:=kR
theorem nE:ta prog 192=some true:=kR
theorem nF:qM prog 192=some (.agg #[Value.int IntKind.i64 0,Value.nilIface]):=kR
theorem nG:tz prog 192=some [Value.int IntKind.i64 0,Value.nilIface]:=kR
theorem nH:qK prog 192=some [(0,1),(1,1)]:=kR
theorem nI:isIface prog 192=some false:=kR
theorem nJ:Program.concrete prog 192=true:=kR
theorem nL:tf prog 192 0=some (0,1,false):=kR
theorem nM:tf prog 192 1=some (1,1,false):=kR
theorem pM:ts prog 193=some 1:=kR
theorem pN:ta prog 193=some false:=kR
theorem pO:qM prog 193=some (Value.pointer none):=kR
theorem pP:tz prog 193=some [Value.pointer none]:=kR
theorem pQ:iL prog 193=some true:=kR
theorem pR:Program.underlying prog 193=some (.pointer 196):=kR
theorem pS:isIface prog 193=some false:=kR
theorem pT:Program.concrete prog 193=true:=kR
theorem pU:ts prog 196=some 7:=kR
theorem pV:ta prog 196=some true:=kR
theorem pW:tz prog 196=some [Value.int IntKind.i64 0,Value.string { data:=#[] },Value.nilIface,Value.string { data:=#[] },Value.string { data:=#[] },Value.pointer none,Value.pointer none]:=kR
theorem pX:qK prog 196=some [(0,1),(1,1),(2,1),(3,1),(4,1),(5,1),(6,1)]:=kR
theorem pY:tf prog 196 0=some (0,1,false):=kR
theorem pZ:tf prog 196 1=some (1,1,false):=kR
theorem p4:tf prog 196 2=some (2,1,false):=kR
theorem p5:tf prog 196 3=some (3,1,false):=kR
theorem p6:tf prog 196 4=some (4,1,false):=kR
theorem p7:tf prog 196 5=some (5,1,false):=kR
theorem p8:tf prog 196 6=some (6,1,false):=kR
theorem lX:ts prog 197=some 1:=kR
theorem lY:ta prog 197=some false:=kR
theorem lZ:qM prog 197=some (Value.pointer none):=kR
theorem l6:tz prog 197=some [Value.pointer none]:=kR
theorem l7:iL prog 197=some true:=kR
theorem l8:Program.underlying prog 197=some (.pointer 199):=kR
theorem l9:isIface prog 197=some false:=kR
theorem ma:Program.concrete prog 197=true:=kR
theorem mb:ts prog 199=some 7:=kR
theorem mc:ta prog 199=some true:=kR
theorem me:tz prog 199=some [Value.int IntKind.i64 0,Value.string { data:=#[] },Value.nilIface,Value.string { data:=#[] },Value.pointer none,Value.pointer none,Value.pointer none]:=kR
theorem mf:qK prog 199=some [(0,1),(1,1),(2,1),(3,1),(4,1),(5,1),(6,1)]:=kR
theorem mg:tf prog 199 0=some (0,1,false):=kR
theorem mh:tf prog 199 1=some (1,1,false):=kR
theorem mi:tf prog 199 2=some (2,1,false):=kR
theorem mj:tf prog 199 3=some (3,1,false):=kR
theorem ml:tf prog 199 4=some (4,1,false):=kR
theorem mm:tf prog 199 5=some (5,1,false):=kR
theorem mn:tf prog 199 6=some (6,1,false):=kR
theorem aaq:ts prog 201=some 1:=kR
theorem aar:ta prog 201=some false:=kR
theorem aas:tz prog 201=some [Value.nilFunc]:=kR
theorem HW:ts prog 205=some 2:=kR
theorem HX:ta prog 205=some true:=kR
theorem HY:qM prog 205=some (.agg #[Value.int IntKind.i64 0,Value.string { data:=#[] }]):=kR
theorem HZ:tz prog 205=some [Value.int IntKind.i64 0,Value.string { data:=#[] }]:=kR
theorem H0:qK prog 205=some [(0,1),(1,1)]:=kR
theorem H2:isIface prog 205=some false:=kR
theorem H3:Program.concrete prog 205=true:=kR
theorem H4:tf prog 205 0=some (0,1,false):=kR
theorem H5:tf prog 205 1=some (1,1,false):=kR
theorem H6:ts prog 206=some 2:=kR
theorem H7:ta prog 206=some true:=kR
theorem H8:qM prog 206=some (.agg #[Value.int IntKind.i64 0,Value.string { data:=#[] }]):=kR
theorem H9:tz prog 206=some [Value.int IntKind.i64 0,Value.string { data:=#[] }]:=kR
theorem Ia:qK prog 206=some [(0,1),(1,1)]:=kR
theorem Ib:isIface prog 206=some false:=kR
theorem Ic:Program.concrete prog 206=true:=kR
theorem Ie:tf prog 206 0=some (0,1,false):=kR
theorem Ig:tf prog 206 1=some (1,1,false):=kR
theorem Ih:ts prog 207=some 2:=kR
theorem Ii:ta prog 207=some true:=kR
theorem Ij:qM prog 207=some (.agg #[Value.int IntKind.i64 0,Value.string { data:=#[] }]):=kR
theorem Ik:tz prog 207=some [Value.int IntKind.i64 0,Value.string { data:=#[] }]:=kR
theorem Il:qK prog 207=some [(0,1),(1,1)]:=kR
theorem Im:isIface prog 207=some false:=kR
theorem Io:Program.concrete prog 207=true:=kR
theorem Ip:tf prog 207 0=some (0,1,false):=kR
theorem Iq:tf prog 207 1=some (1,1,false):=kR
theorem Ir:ts prog 209=some 2:=kR
theorem Is:ta prog 209=some true:=kR
theorem It:qM prog 209=some (.agg #[Value.int IntKind.i64 0,Value.nilIface]):=kR
theorem Iu:tz prog 209=some [Value.int IntKind.i64 0,Value.nilIface]:=kR
theorem Iv:qK prog 209=some [(0,1),(1,1)]:=kR
theorem Iw:isIface prog 209=some false:=kR
theorem Ix:Program.concrete prog 209=true:=kR
theorem Iy:tf prog 209 0=some (0,1,false):=kR
theorem Iz:tf prog 209 1=some (1,1,false):=kR
theorem IA:ts prog 210=some 1:=kR
theorem IB:ta prog 210=some false:=kR
theorem Ct:ts prog 212=some 3:=kR
theorem Cu:ta prog 212=some true:=kR
theorem Cv:qM prog 212=some (.agg #[Value.int IntKind.i64 0,Value.string { data:=#[] },Value.nilIface]):=kR
theorem Cw:tz prog 212=some [Value.int IntKind.i64 0,Value.string { data:=#[] },Value.nilIface]:=kR
theorem Cx:qK prog 212=some [(0,1),(1,1),(2,1)]:=kR
theorem Cy:isIface prog 212=some false:=kR
theorem Cz:Program.concrete prog 212=true:=kR
theorem CA:tf prog 212 0=some (0,1,false):=kR
theorem CB:tf prog 212 1=some (1,1,false):=kR
theorem CC:tf prog 212 2=some (2,1,false):=kR
theorem CD:ts prog 215=some 4:=kR
theorem CE:ta prog 215=some true:=kR
theorem CF:qM prog 215=some (.agg #[Value.int IntKind.i64 0,Value.string { data:=#[] },Value.nilIface,Value.nilIface]):=kR
theorem CG:tz prog 215=some [Value.int IntKind.i64 0,Value.string { data:=#[] },Value.nilIface,Value.nilIface]:=kR
theorem CH:qK prog 215=some [(0,1),(1,1),(2,1),(3,1)]:=kR
theorem CI:isIface prog 215=some false:=kR
theorem CJ:Program.concrete prog 215=true:=kR
theorem CK:tf prog 215 0=some (0,1,false):=kR
theorem CL:tf prog 215 1=some (1,1,false):=kR
theorem CM:tf prog 215 2=some (2,1,false):=kR
theorem CN:tf prog 215 3=some (3,1,false):=kR
theorem PW:ts prog 217=some 1:=kR
theorem PX:ta prog 217=some false:=kR
theorem PY:tz prog 217=some [Value.slice none 0 0]:=kR
theorem PZ:Program.underlying prog 217=some (.slice 77):=kR
theorem yh:ts prog 219=some 3:=kR
theorem yi:ta prog 219=some true:=kR
theorem yj:qM prog 219=some (.agg #[Value.int IntKind.i64 0,Value.string { data:=#[] },Value.slice none 0 0]):=kR
theorem yk:tz prog 219=some [Value.int IntKind.i64 0,Value.string { data:=#[] },Value.slice none 0 0]:=kR
theorem yl:qK prog 219=some [(0,1),(1,1),(2,1)]:=kR
theorem ym:isIface prog 219=some false:=kR
theorem yn:Program.concrete prog 219=true:=kR
theorem yo:tf prog 219 0=some (0,1,false):=kR
theorem yp:tf prog 219 1=some (1,1,false):=kR
theorem yq:tf prog 219 2=some (2,1,false):=kR
theorem rR:ts prog 221=some 1:=kR
theorem rS:ta prog 221=some false:=kR
theorem rT:tz prog 221=some [Value.pointer none]:=kR
theorem rU:iL prog 221=some true:=kR
theorem rV:Program.underlying prog 221=some (.pointer 223):=kR
theorem rW:ts prog 223=some 6:=kR
theorem rX:ta prog 223=some true:=kR
theorem rY:tz prog 223=some [Value.string { data:=#[] },Value.int IntKind.i64 0,Value.slice none 0 0,Value.int IntKind.i64 0,Value.int IntKind.i64 0,Value.string { data:=#[] }]:=kR
theorem rZ:qK prog 223=some [(0,1),(1,1),(2,1),(3,3)]:=kR
theorem r8:tf prog 223 0=some (0,1,false):=kR
theorem r9:tf prog 223 1=some (1,1,false):=kR
theorem sa:tf prog 223 2=some (2,1,false):=kR
theorem sb:tf prog 223 3=some (3,3,true):=kR
theorem p9:ts prog 225=some 3:=kR
theorem qc:ta prog 225=some true:=kR
theorem qd:vI prog 225=some 32:=kR
theorem qe:tz prog 225=some [Value.int IntKind.i64 0,Value.int IntKind.i64 0,Value.string { data:=#[] }]:=kR
theorem qf:qK prog 225=some [(0,1),(1,1),(2,1)]:=kR
theorem qg:tf prog 225 0=some (0,1,false):=kR
theorem qh:tf prog 225 1=some (1,1,false):=kR
theorem qi:tf prog 225 2=some (2,1,false):=kR
theorem P0:ts prog 276=some 1:=kR
theorem P1:ta prog 276=some false:=kR
theorem ajn:ts prog 287=some 1:=kR
theorem ajo:ta prog 287=some false:=kR
theorem ajp:tz prog 287=some [Value.map none]:=kR
theorem aax:ts prog 288=some 5:=kR
theorem aay:ta prog 288=some true:=kR
theorem aaz:tz prog 288=some [Value.string { data:=#[] },Value.string { data:=#[] },Value.string { data:=#[] },Value.string { data:=#[] },Value.string { data:=#[] }]:=kR
theorem aaA:Program.underlying prog 288=some (.array 5 9):=kR
theorem aaB:ts prog 289=some 1:=kR
theorem aaC:ta prog 289=some false:=kR
theorem aaD:ts prog 290=some 1:=kR
theorem aaE:ta prog 290=some false:=kR
theorem aaF:tz prog 290=some [Value.pointer none]:=kR
theorem aaG:iL prog 290=some true:=kR
theorem aaH:Program.underlying prog 290=some (.pointer 293):=kR
theorem aaI:ts prog 291=some 1:=kR
theorem aaJ:ta prog 291=some false:=kR
theorem aaK:tz prog 291=some [Value.slice none 0 0]:=kR
theorem aaL:Program.underlying prog 291=some (.slice 54):=kR
theorem aaM:ts prog 293=some 5:=kR
theorem aaN:ta prog 293=some true:=kR
theorem aaO:tz prog 293=some [Value.int IntKind.i64 0,Value.string { data:=#[] },Value.slice none 0 0,Value.slice none 0 0,Value.int IntKind.i64 0]:=kR
theorem aaP:qK prog 293=some [(0,3),(3,1),(4,1)]:=kR
theorem aaQ:tf prog 293 0=some (0,3,true):=kR
theorem aaR:tf prog 293 1=some (3,1,false):=kR
theorem aaS:tf prog 293 2=some (4,1,false):=kR
theorem ajq:ts prog 325=some 1:=kR
theorem ajr:ta prog 325=some false:=kR
end
section
open Go.RowKit Go.LE Go.Proofs.Tryz
set_option maxRecDepth 10000
theorem KD(s:ByteArray)(i:Nat):∀ n k o,(EW s i n k o).2.2.1=0->k<(EW s i n k o).2.1/\(EW s i n k o).2.1<=s.size
 |0,k,o,h=>by simp[EW]at h
 | n+1,k,o,h=>by
  have ih:=KD s i n;rw[EW]at h ⊢;by_cases hk:k<s.size
  ·rw[if_pos hk]at h ⊢;by_cases h1:bt s (k:Nat)=34
   ·rw[if_pos h1];exact⟨Nat.lt_succ_self _,hk⟩
   rw[if_neg h1]at h ⊢;by_cases h2:tP (bt s (k:Nat))=false
   ·rw[if_pos h2]at h;simp at h
   rw[if_neg h2]at h ⊢;by_cases h3:¬ bt s (k:Nat)=92
   ·rw[if_pos h3]at h ⊢;have:=ih _ _ h;omega
   rw[if_neg h3]at h ⊢;by_cases h4:¬ k+1<s.size
   ·rw[if_pos h4]at h;simp at h
   rw[if_neg h4]at h ⊢;by_cases q0:bt s ((k+1:Nat):Int)=110
   ·rw[if_pos q0]at h ⊢;have:=ih _ _ h;omega
   rw[if_neg q0]at h ⊢;by_cases q1:bt s ((k+1:Nat):Int)=114
   ·rw[if_pos q1]at h ⊢;have:=ih _ _ h;omega
   rw[if_neg q1]at h ⊢;by_cases q2:bt s ((k+1:Nat):Int)=116
   ·rw[if_pos q2]at h ⊢;have:=ih _ _ h;omega
   rw[if_neg q2]at h ⊢;by_cases q3:bt s ((k+1:Nat):Int)=34\/bt s ((k+1:Nat):Int)=92
   ·rw[if_pos q3]at h ⊢;have:=ih _ _ h;omega
   rw[if_neg q3]at h ⊢;by_cases h5:bt s ((k+1:Nat):Int)=120
   ·rw[if_pos h5]at h ⊢;by_cases h6:¬ k+2<s.size
    ·rw[if_pos h6]at h;simp at h
    rw[if_neg h6]at h ⊢;by_cases h7:iX (bt s ((k+2:Nat):Int))<0
    ·rw[if_pos h7]at h;simp at h
    rw[if_neg h7]at h ⊢;by_cases h8:¬ k+3<s.size
    ·rw[if_pos h8]at h;simp at h
    rw[if_neg h8]at h ⊢;by_cases h9:iX (bt s ((k+3:Nat):Int))<0
    ·rw[if_pos h9]at h;simp at h
    rw[if_neg h9]at h ⊢;have:=ih _ _ h;omega
   ·rw[if_neg h5]at h;simp at h
  ·rw[if_neg hk]at h;simp at h
theorem KQ(s:ByteArray)(i:Nat):∀ n k,(Oy s i n k).2.2.1=0->k<(Oy s i n k).2.1/\(Oy s i n k).2.1<=s.size
 |0,k,h=>by simp[Oy]at h
 | n+1,k,h=>by
  have ih:=KQ s i n;rw[Oy]at h ⊢
  repeat' (split at h<;>rename_i hh<;>(first|rw[if_pos hh]|rw[if_neg hh]))
  all_goals first
   |(exfalso;simp at h;done)
   |(have:=ih _ h;omega)
   |exact⟨Nat.lt_succ_self _,by dsimp only;omega⟩
theorem YG(s:ByteArray):∀ n k,k<=nmN s n k/\nmN s n k<=k+n
 |0,k=>⟨Nat.le_refl _,Nat.le_refl _⟩
 |n+1,k=>by
  have:=YG s n (k+1);rw[nmN];split
  ·split<;>omega
  ·omega
theorem YF{s:ByteArray}{i:Nat}(hi:i<s.size):i<xI s i/\xI s i<=s.size:=by
 have:=YG s (s.size-(i+1)) (i+1);unfold xI;omega
theorem Fe{s:ByteArray}{i:Nat}(hi:i<s.size)(h:(cJ s i).2.2.1=0):i<(cJ s i).2.1/\(cJ s i).2.1<=s.size:=by
 have hn:=YF hi;unfold cJ at h ⊢
 repeat' (split at h<;>rename_i hh<;>(first|rw[if_pos hh]|rw[if_neg hh]))
 all_goals first
  |(exfalso;simp at h;done)
  |(have:=KD s i _ _ _ h;simp only[zA];omega)
  |(have:=KQ s i _ _ h;simp only[zZ];omega)
  |(simp only;omega)
def wO(l:List Tk):List Value:=l.flatMap λt=>[.int .i64 t.1,.int .i64 (t.2.1:Nat),.string t.2.2]
end
end Go.Proofs.YtnemkecffmdlnaaGreatDoor
namespace Go.Proofs
section
open Go.Shelf
end
end Go.Proofs
namespace Go.Proofs.YtnemkecffmdlnaaGreatDoor
section
open Go.RowKit Go.LE Go.Proofs.Tryz
set_option maxRecDepth 10000
def Ad(W:World)(S:Nat->Prop):Prop:=(S 1/\∃ m:Int,W.cell? ⟨1,0,none⟩=some (.int .i64 m))/\(S 5/\∃ t v,W.cell? ⟨5,0,none⟩=some (.iface t v))/\S 6/\∃ t v,W.cell? ⟨6,0,none⟩=some (.iface t v)
theorem Ad.mono{W W' : World}{S S' : Nat->Prop}(h:Ad W S)(hs:aX W S W' S'):Ad W' S' := by
 obtain⟨⟨a,m,ha⟩,⟨b,t,v,hb⟩,c,t',v',hc⟩:=h;have g:∀ b o v,S b->W.cell? ⟨b,o,none⟩=some v->W'.cell? ⟨b,o,none⟩=some v/\S' b:=λb o v hS hv=>by
  have:=XC.mono (b:=b) (o:=o) (v:=v) ⟨hS,hv⟩ hs;exact⟨this.2,this.1⟩
 exact⟨⟨(g _ _ _ a ha).2,m,(g _ _ _ a ha).1⟩,⟨(g _ _ _ b hb).2,t,v,(g _ _ _ b hb).1⟩,(g _ _ _ c hc).2,t',v',(g _ _ _ c hc).1⟩
theorem Ad.fK{W w:World}{bs fp:List Nat}(h:Ad W (Out bs))(hk:LE.an W bs w)(hm:∀ b∈fp,W.heap.size<=b\/b∈bs):Ad w (Out fp):=
 h.mono λb hb hs=>⟨hk.block b hb hs,λhb' => (hm b hb').elim (λg=>absurd g (Nat.not_le.2 hb)) hs⟩
section
variable (s:ByteArray)(v:Int)(h:Lib.atoiAll s.data.toList=.ok v)(hs:s.size<=9)
end
theorem PgX.mono{p:Pg}{W W' : World}{S S' : Nat->Prop}{a1 a2 a3:Option Addr}(h:PgX p W S a1 a2 a3)(hs:aX W S W' S'):PgX p W' S' a1 a2 a3:=⟨h.1.mono hs,h.2.1.mono hs,h.2.2.mono hs⟩
theorem PgX.is{p:Pg}{w:World}{S:Nat->Prop}{a1 a2 a3:Option Addr}(h:PgX p w S a1 a2 a3)(hb:PgB p):acn p w a1 a2 a3:=⟨hb,h.1.is,h.2.1.is,h.2.2.is⟩
section
variable (p:Pg)(a1 a2 a3:Option Addr)(c1 c2 c3:Nat)(hb:PgB p)(hn:p.ty.length<=1048576/\p.tx.length<=1048576/\p.co.length<=1048576)
end
section
variable (W:World)(bs:List Nat)(n op k a b:Int)
end
section
variable (p:Pg)(a1 a2 a3:Option Addr)(c1 c2 c3:Nat)(hz:PgZ p)(hs:PgS p)
end
structure Rd where
 ty:List ByteArray
 tx:List ByteArray
 co:List (Int×Int×Int×Int)
 src:Int
 vw:Int
 pl:Nat
end
end Go.Proofs.YtnemkecffmdlnaaGreatDoor
namespace Go.Proofs
section
open Go.Shelf
def Tryz.JQ:Go.Shelf.Ren:=⟨λ| 137=>138|217=>189|266=>231|n=>n,λ| 9=>9|5=>5|3=>3|n=>n,λ| n=>n⟩
theorem Tryz.adz:Go.Proofs.Lays.n137 Tryz.prog Tryz.JQ:={
 mixed:=by kernel_rfl
 f137:=Tryz.func138.trans (congrArg some (by kernel_rfl))
 f217:=Tryz.func189.trans (congrArg some (by kernel_rfl))
 f266:=Tryz.func231.trans (congrArg some (by kernel_rfl))
 t3:=Tryz.underlying3
 a3:=Tryz.isAgg3
 z3:=Tryz.sizeOf3
 v3:=Tryz.zeroValue3
 t5:=Tryz.underlying5
 a5:=Tryz.isAgg5
 z5:=Tryz.sizeOf5
 v5:=Tryz.zeroValue5
 t9:=Tryz.underlying9
 a9:=Tryz.isAgg9
 z9:=Tryz.sizeOf9
 v9:=Tryz.zeroValue9 }
end
end Go.Proofs
namespace Go.Proofs.YtnemkecffmdlnaaGreatDoor
section
open Go.RowKit Go.LE Go.Proofs.Tryz
set_option maxRecDepth 10000
theorem adp(s:ByteArray)(c:Int)(w:World):Calls prog 138 #[.string s,.int .u8 c] w λe w' => e=.returned (.int .i64 (Lib.indexByte s.data.toList c.toNat.toUInt8))/\LE.an w [] w' :=
 (Any.strings_IndexByte Tryz.adz s c w).mono λe w' ⟨he,hw⟩=>⟨he,by rw[hw];exact LE.an.refl w []⟩
def Td:aY prog 138 where
 pre:=λW bs=>λ| [.val (.string s),.val (.int .u8 c)]=>True|_=>False
 res:=λW=>λ| [.val (.string s),.val (.int .u8 c)]=>.int .i64 (Lib.indexByte s.data.toList c.toNat.toUInt8)|_=>undef
 enters:=call138
 ok:=by
  intro W w bs us as_ hk hu hp;split at hp
  ·rename_i s c
   match us,hu with
   |[u0,u1],hu=>
    obtain⟨rfl,rfl,_⟩:=hu;exact adp s c w
  ·exact hp.elim
theorem JK(W:World)(s:ByteArray)(c:Int):Td.res W [.val (.string s),.val (.int .u8 c)]=.int .i64 (Lib.indexByte s.data.toList c.toNat.toUInt8):=rfl
theorem JJ(W:World)(bs:List Nat)(s:ByteArray)(c:Int):Td.pre W bs [.val (.string s),.val (.int .u8 c)]=(True):=rfl
def DC:=(ae @List.replicate_succ.{0} @List.replicate_zero.{0} @au @ab kH kI Ri (ae Rm RN kK c8 da db dc (ae dn dr dt du mG mH mI (ae mJ mK ew ez eA eB eC (ae eD oL oN oO oP um uo (ae uq ur uu uv uw ux uy (ae uz HS HT HU HV rR rS (ae rT rU rV rW rX rY rZ (ae r8 r9 sa sb p9 qc qd (ae qe qf qg qh qi @aV @aw (aa @aD @aG)))))))))))
theorem Lt(c:Int)(w:World):Calls prog 163 #[.int .u8 c] w λe w' => e=.returned (.bool (xB c))/\an w [] w' := by
 refine ai (nt:=21) [.tmp 2] func163 rfl rfl rfl ?_;refine vR Γ0 DC ?_;refine vR Γ0 DC ?_;refine wZ DC ?_;exact λE=>rfl
theorem Px(c:Int)(w:World):Calls prog 164 #[.int .u8 c] w λe w' => e=.returned (.bool (SH c))/\an w [] w' := by
 refine ai (nt:=9) [.tmp 2] func164 rfl rfl rfl ?_;refine vR Γ0 DC ?_;refine vR Γ0 DC ?_;refine wZ DC ?_;exact λE=>rfl
theorem PE(c:Int)(w:World):Calls prog 210 #[.int .u8 c] w λe w' => e=.returned (.bool (tP c))/\an w [] w' := by
 refine ai (nt:=9) [.tmp 2] func210 rfl rfl rfl ?_;refine vR Γ0 DC ?_;refine vR Γ0 DC ?_;refine wZ DC ?_;exact λE=>rfl
def vL:aY prog 163 where
 pre:=λW bs=>λ| [.val (.int .u8 c)]=>True|_=>False
 res:=λW=>λ| [.val (.int .u8 c)]=>.bool (xB c)|_=>undef
 enters:=call163
 ok:=by
  intro W w bs us as_ hk hu hp;split at hp
  ·rename_i c
   match us,hu with
   |[u0],hu=>
    obtain⟨rfl,_⟩:=hu;exact Lt c w
  ·exact hp.elim
theorem vN(W:World)(c:Int):vL.res W [.val (.int .u8 c)]=.bool (xB c):=rfl
theorem vM(W:World)(bs:List Nat)(c:Int):vL.pre W bs [.val (.int .u8 c)]=(True):=rfl
def z7:aY prog 164 where
 pre:=λW bs=>λ| [.val (.int .u8 c)]=>True|_=>False
 res:=λW=>λ| [.val (.int .u8 c)]=>.bool (SH c)|_=>undef
 enters:=call164
 ok:=by
  intro W w bs us as_ hk hu hp;split at hp
  ·rename_i c
   match us,hu with
   |[u0],hu=>
    obtain⟨rfl,_⟩:=hu;exact Px c w
  ·exact hp.elim
theorem zj(W:World)(c:Int):z7.res W [.val (.int .u8 c)]=.bool (SH c):=rfl
theorem zi(W:World)(bs:List Nat)(c:Int):z7.pre W bs [.val (.int .u8 c)]=(True):=rfl
def z8:aY prog 210 where
 pre:=λW bs=>λ| [.val (.int .u8 c)]=>True|_=>False
 res:=λW=>λ| [.val (.int .u8 c)]=>.bool (tP c)|_=>undef
 enters:=call210
 ok:=by
  intro W w bs us as_ hk hu hp;split at hp
  ·rename_i c
   match us,hu with
   |[u0],hu=>
    obtain⟨rfl,_⟩:=hu;exact PE c w
  ·exact hp.elim
theorem rQ(W:World)(c:Int):z8.res W [.val (.int .u8 c)]=.bool (tP c):=rfl
theorem rP(W:World)(bs:List Nat)(c:Int):z8.pre W bs [.val (.int .u8 c)]=(True):=rfl
def tG(s:ByteArray)(i:Int)(d:Nat)(op:List Value)(c a:Int)(t:ByteArray):List AV:=[.val (.string s),.val (.int .i64 i),.row 225 3 d op,.val (.int .i64 c),.val (.int .i64 a),.val (.string t)]
def tF(s:ByteArray)(i:Nat)(l:List Tk)(c a:Int):List AV:=tG s (i:Nat) l.length (wO l) c a ⟨#[]⟩
theorem ZZ{w:World}{u:Value}{fp:List Nat}{s:ByteArray}{i:Int}{d:Nat}{op:List Value}{c a:Int}{t:ByteArray}(h:aW w u fp 223 (tG s i d op c a t)) :
  ∃ b,u=.pointer (some ⟨b,0,none⟩)/\w.cell? ⟨b,0,none⟩=some (.string s)/\w.cell? ⟨b,0+1,none⟩=some (.int .i64 i):=by
 obtain⟨b,us,h1,h2,h3⟩:=xJ h
 match us,h2 with
 |[x,y,z,x',y',z'],h2=>
  obtain⟨rfl,rfl,_⟩:=h2;exact⟨b,h1,h3 0 sI,h3 1 sI⟩
def acD:=(ae DC @vN @vM @zj @zi @rQ @rP (aa @tG.eq_1 @tF.eq_1))
theorem Py(s:ByteArray)(i:Int)(b:Nat)(w:World)(g1:w.cell? ⟨b,0,none⟩=some (.string s))(g2:w.cell? ⟨b,0+1,none⟩=some (.int .i64 i)) :
  Calls prog 107 #[.pointer (some ⟨b,0,none⟩)] w λe w' => e=.returned (.bool (decide ((s.size:Int)<=i)))/\an w [] w' := by
 refine ai (nt:=13) [.tmp 2] func107 rfl rfl rfl ?_;refine vR Γ0 acD ?_;refine yt Γ0 (br acD g1 g2) ?_;refine wZ acD ?_;exact λE=>rfl
def gK:yz prog 107 where
 T:=223
 pre:=λW bs fs as_=>match fs,as_ with|[.val (.string s),.val (.int .i64 i),.row 225 3 d op,.val (.int .i64 c),.val (.int .i64 a),.val (.string t)],[]=>True|_,_=>False
 res:=λW fs as_=>match fs,as_ with|[.val (.string s),.val (.int .i64 i),.row 225 3 d op,.val (.int .i64 c),.val (.int .i64 a),.val (.string t)],[]=>.bool (decide ((s.size:Int)<=i))|_,_=>undef
 enters:=call107
 ok:=by
  intro W w bs u fp us fs as_ hk ho hu hp;split at hp
  ·rename_i s i d op c a t
   match us,hu with
   |[],_=>
    obtain⟨b,rfl,g1,g2⟩:=ZZ ho;exact Py s i b w g1 g2
  ·exact hp.elim
theorem gr(W:World)(s:ByteArray)(i:Int)(d:Nat)(op:List Value)(c:Int)(a:Int)(t:ByteArray):gK.res W [.val (.string s),.val (.int .i64 i),.row 225 3 d op,.val (.int .i64 c),.val (.int .i64 a),.val (.string t)] []=.bool (decide ((s.size:Int)<=i)):=rfl
theorem gp(W:World)(bs:List Nat)(s:ByteArray)(i:Int)(d:Nat)(op:List Value)(c:Int)(a:Int)(t:ByteArray):gK.pre W bs [.val (.string s),.val (.int .i64 i),.row 225 3 d op,.val (.int .i64 c),.val (.int .i64 a),.val (.string t)] []=(True):=rfl
theorem j8:gK.T=223:=rfl
def Sl:=(fP acD @gr @gp @j8)
theorem Vu(s:ByteArray)(i:Int)(d:Nat)(op:List Value)(c a:Int)(t:ByteArray)(e j:Int)(u:Value)(fp:List Nat)(w:World)(ho:aW w u fp 223 (tG s i d op c a t))(hlt:∀ b∈fp,b<w.heap.size) :
  Calls prog 165 (#[u]++#[.int .i64 e,.int .i64 j]) w λx w' => dA w u fp 223 x w' (.ret (.bool false) (tG s i d op e j ⟨#[]⟩)):=by
 refine aN (nt:=13) #[.int .i64 e,.int .i64 j] [.tmp 6] (by show 6<=7;omega) ho hlt func165 rfl rfl rfl ?_;refine vR Γ0 Sl ?_;refine vR Γ0 Sl ?_;refine vR Γ0 Sl ?_;refine wZ Sl ?_;exact⟨_,_,rfl,λE=>rfl,_,_,rfl,(ev (aa Sl @aq)),dE⟩
def tV:bI prog 165 where
 T:=223
 pre:=λW bs fs as_=>match fs,as_ with|[.val (.string s),.val (.int .i64 i),.row 225 3 d op,.val (.int .i64 c),.val (.int .i64 a),.val (.string t)],[.val (.int .i64 e),.val (.int .i64 j)]=>True|_,_=>False
 out:=λW fs as_=>match fs,as_ with|[.val (.string s),.val (.int .i64 i),.row 225 3 d op,.val (.int .i64 c),.val (.int .i64 a),.val (.string t)],[.val (.int .i64 e),.val (.int .i64 j)]=>.ret (.bool false) (tG s i d op e j ⟨#[]⟩)|_,_=>.pan [] undef
 enters:=call165
 ok:=by
  intro W w bs u fp us fs as_ hk ho hlt hmine hu hp;split at hp
  ·rename_i s i d op c a t e j
   match us,hu with
   |[u0,u1],hu=>
    obtain⟨rfl,rfl,_⟩:=hu;exact Vu s i d op c a t e j u fp w ho hlt
  ·exact hp.elim
theorem pz(W:World)(s:ByteArray)(i:Int)(d:Nat)(op:List Value)(c:Int)(a:Int)(t:ByteArray)(e:Int)(j:Int):tV.out W [.val (.string s),.val (.int .i64 i),.row 225 3 d op,.val (.int .i64 c),.val (.int .i64 a),.val (.string t)] [.val (.int .i64 e),.val (.int .i64 j)]=.ret (.bool false) (tG s i d op e j ⟨#[]⟩):=rfl
theorem pA(W:World)(bs:List Nat)(s:ByteArray)(i:Int)(d:Nat)(op:List Value)(c:Int)(a:Int)(t:ByteArray)(e:Int)(j:Int):tV.pre W bs [.val (.string s),.val (.int .i64 i),.row 225 3 d op,.val (.int .i64 c),.val (.int .i64 a),.val (.string t)] [.val (.int .i64 e),.val (.int .i64 j)]=(True):=rfl
theorem vJ:tV.T=223:=rfl
def WA:=(fP Sl @pz @pA @vJ)
theorem Z0(s:ByteArray)(i:Int)(d:Nat)(op:List Value)(c a:Int)(t:ByteArray)(k j:Int)(x:ByteArray)(u:Value)(fp:List Nat)(w:World)(hd:op.length=d*3)(hd2:d<=1000000)(ho:aW w u fp 223 (tG s i d op c a t))(hlt:∀ b∈fp,b<w.heap.size) :
  Calls prog 109 (#[u]++#[.int .i64 k,.int .i64 j,.string x]) w λy w' => dA w u fp 223 y w' (.ret (.bool true) (tG s i (d+1) (op++[.int .i64 k,.int .i64 j,.string x]) c a t)):=by
 have hop:op.map SV.v++[.v (.int .i64 k),.v (.int .i64 j),.v (.string x)]=(op++([.int .i64 k,.int .i64 j,.string x]:List Value)).map SV.v:=by simp
 refine aN (nt:=22) #[.int .i64 k,.int .i64 j,.string x] [.tmp 8] (by show 6<=7;omega) ho hlt func109 rfl rfl rfl ?_;refine vR Γ0 WA ?_;refine wR Γ0 WA ?_ ?_
 ·exact⟨by unfold maxLen;omega,oM⟩
 refine vR Γ0 WA ?_;refine wZ (aa WA hop) ?_;exact⟨_,_,rfl,λE=>rfl,_,_,rfl,(ev (aa WA @aq)),dE⟩
def vH:bI prog 109 where
 T:=223
 pre:=λW bs fs as_=>match fs,as_ with|[.val (.string s),.val (.int .i64 i),.row 225 3 d op,.val (.int .i64 c),.val (.int .i64 a),.val (.string t)],[.val (.int .i64 k),.val (.int .i64 j),.val (.string x)]=>op.length=d*3/\d<=1000000|_,_=>False
 out:=λW fs as_=>match fs,as_ with|[.val (.string s),.val (.int .i64 i),.row 225 3 d op,.val (.int .i64 c),.val (.int .i64 a),.val (.string t)],[.val (.int .i64 k),.val (.int .i64 j),.val (.string x)]=>.ret (.bool true) (tG s i (d+1) (op++[.int .i64 k,.int .i64 j,.string x]) c a t)|_,_=>.pan [] undef
 enters:=call109
 ok:=by
  intro W w bs u fp us fs as_ hk ho hlt hmine hu hp;split at hp
  ·rename_i s i d op c a t k j x
   match us,hu with
   |[u0,u1,u2],hu=>
    obtain⟨rfl,rfl,rfl,_⟩:=hu;exact Z0 s i d op c a t k j x u fp w hp.1 hp.2 ho hlt
  ·exact hp.elim
theorem sW(W:World)(s:ByteArray)(i:Int)(d:Nat)(op:List Value)(c:Int)(a:Int)(t:ByteArray)(k:Int)(j:Int)(x:ByteArray):vH.out W [.val (.string s),.val (.int .i64 i),.row 225 3 d op,.val (.int .i64 c),.val (.int .i64 a),.val (.string t)] [.val (.int .i64 k),.val (.int .i64 j),.val (.string x)]=.ret (.bool true) (tG s i (d+1) (op++[.int .i64 k,.int .i64 j,.string x]) c a t):=rfl
theorem sX(W:World)(bs:List Nat)(s:ByteArray)(i:Int)(d:Nat)(op:List Value)(c:Int)(a:Int)(t:ByteArray)(k:Int)(j:Int)(x:ByteArray):vH.pre W bs [.val (.string s),.val (.int .i64 i),.row 225 3 d op,.val (.int .i64 c),.val (.int .i64 a),.val (.string t)] [.val (.int .i64 k),.val (.int .i64 j),.val (.string x)]=(op.length=d*3/\d<=1000000):=rfl
theorem z6:vH.T=223:=rfl
theorem vK(l:List Tk):(wO l).length=l.length*3:=by
 induction l with
 |nil=>rfl
 |cons x r ih=>
  have e:wO (x::r)=[.int .i64 x.1,.int .i64 (x.2.1:Nat),.string x.2.2]++wO r:=rfl;rw[e,List.length_append,ih];simp only[List.length_cons,List.length_nil];omega
theorem Lq(l:List Tk)(x:Int)(y:Nat)(z:ByteArray):wO l++[.int .i64 x,.int .i64 (y:Nat),.string z]=wO (l++[(x,y,z)]):=by
 unfold wO;rw[List.flatMap_append];rfl
def w8(c:Int):Bool:=((decide (c=32)||decide (c=9))||decide (c=10))||decide (c=13)
theorem aeB(c:Int):ZM c false=!w8 c:=by
 unfold ZM w8;generalize decide (c=32)=a1;generalize decide (c=9)=a2;generalize decide (c=10)=a3;generalize decide (c=13)=a4;cases a1<;>cases a2<;>cases a3<;>cases a4<;>rfl
theorem Gf(s:ByteArray){i:Nat}(h:s.size<=i)(b:Bool):qE s (s.size-i) b i=i:=by
 rw[show s.size-i=0 by omega];rfl
theorem od(s:ByteArray){i:Nat}(h:i<s.size)(b:Bool):qE s (s.size-i) b i=if ZM (bt s i) (xn (bt s i) b)=true then i else qE s (s.size-(i+1)) (xn (bt s i) b) (i+1):=by
 rw[show s.size-i=(s.size-(i+1))+1 by omega];rfl
theorem ain(s:ByteArray){i:Nat}(h:i<s.size)(hc:¬ bt s i=10):qE s (s.size-i) true i=qE s (s.size-(i+1)) true (i+1):=by
 rw[od s h];have e:xn (bt s i) true=true:=by
  unfold xn;rw[if_neg hc];split<;>rfl
 rw[e,if_neg (by simp[ZM])]
theorem aio(s:ByteArray){i:Nat}(h:i<s.size)(hc:bt s i=10):qE s (s.size-i) true i=qE s (s.size-i) false i:=by
 rw[od s h,od s h];have e:∀ b,xn (bt s i) b=false:=λb=>by rw[xn,if_pos hc]
 rw[e,e]
theorem XA(s:ByteArray){i:Nat}(h:i<s.size)(hc:bt s i=35):qE s (s.size-i) false i=qE s (s.size-i) true i:=by
 rw[od s h,od s h];have e:∀ b,xn (bt s i) b=true:=λb=>by rw[xn,if_neg oM,if_pos hc]
 rw[e,e]
theorem S5(s:ByteArray){i:Nat}(h:i<s.size)(hc:¬ bt s i=35):qE s (s.size-i) false i=if w8 (bt s i)=true then qE s (s.size-(i+1)) false (i+1) else i:=by
 rw[od s h];have e:xn (bt s i) false=false:=by
  simp[xn,hc]
 rw[e,aeB];cases w8 (bt s i)<;>rfl
noncomputable def Dq:Env prog:=⟨λ| 107=>some gK.spec|_=>none,λ| _=>none,λ_ _=>none⟩
theorem aa1:Dq.sp 107=some gK.spec:=rfl
def iU:=(ae @List.replicate_succ.{0} @List.replicate_zero.{0} @au @ab kH kI kK (ae c8 da db dc dn dr dt (ae du mG mH mI mJ mK ew (ae ez eA eB eC eD rR rS (ae rT rU rV rW rX rY rZ (ae r8 r9 sa sb @aV @aw @aD (IL @aG @tG.eq_1 @tF.eq_1 aa1 @gr @gp @j8)))))))
theorem VJ(s:ByteArray)(i:Nat)(d:Nat)(op:List Value)(c a:Int)(t:ByteArray)(u:Value)(fp:List Nat)(w:World)(hi:i<=s.size)(hs:s.size<=100000000)(ho:aW w u fp 223 (tG s i d op c a t))(hlt:∀ b∈fp,b<w.heap.size) :
  Calls prog 106 (#[u]++#[]) w λx w' => dA w u fp 223 x w' (.ret (.tuple #[]) (tG s (u5 s i:Nat) d op c a t)):=by
 refine aN (nt:=50) #[] [] (by show 6<=7;omega) ho hlt func106 rfl rfl rfl ?_;refine Wp.block ?_
 refine Wp.loop (λk:Nat=>⟨1,dZ [(0,.is (.own 0 0))],dM [(0,.cells 223 [.v (.string s),.v (.int .i64 (k:Nat)),.hd 3,.v (.int .i64 c),.v (.int .i64 a),.v (.string t)]),(3,.row 225 3 d (op.map .v))]⟩) (λk=>k<=s.size/\qE s (s.size-k) false k=u5 s i) (λk=>s.size-k) i ?_ ⟨hi,rfl⟩ ?_
 ·exact wM (λk=>.key k) iU
 rintro k ⟨hk,hg⟩;refine Wp.seq ?_;refine vR Dq iU ?_;refine wC iU (λhc=>?_) (λhc=>?_)
 ·have hlt:k<s.size:=by
   simp at hc;omega
  have wk:IntKind.i64.wrap ((k:Int)+1)=((k+1:Nat):Int):=wW;refine wK ?_;refine Wp.block ?_;refine ko Dq iU ?_ ?_
  ·omega
  refine Wp.block ?_;refine vR Dq iU ?_;refine wC iU (λhc=>?_) (λhc=>?_)
  ·have h35:bt s k=35:=by simpa using hc
   rw[XA s hlt h35]at hg;refine Wp.block ?_
   refine Wp.loop (λj:Nat=>⟨40,dZ [(0,.is (.own 0 0))],dM [(0,.cells 223 [.v (.string s),.v (.int .i64 (j:Nat)),.hd 3,.v (.int .i64 c),.v (.int .i64 a),.v (.string t)]),(3,.row 225 3 d (op.map .v))]⟩) (λj=>k<=j/\j<=s.size/\(j=k->bt s k=35)/\qE s (s.size-j) true j=u5 s i) (λj=>s.size-j) k ?_ ⟨Nat.le_refl _,hk,λ_=>h35,hg⟩ ?_
   ·exact wM (λk=>.key k) iU
   rintro j ⟨j1,j2,j3,j4⟩;have wj:IntKind.i64.wrap ((j:Int)+1)=((j+1:Nat):Int):=wW;refine Wp.seq ?_;refine ko Dq iU ?_ ?_
   ·refine⟨dE,λh=>?_⟩;simp at h;omega
   refine wC iU (λhc=>?_) (λhc=>?_)
   ·have hj:j<s.size/\¬ bt s j=10:=by
     simp at hc;exact⟨oM,hc.2⟩
    rw[ain s hj.1 hj.2]at j4;refine wK ?_;refine Wp.block ?_;refine vr Dq (aa iU wj) ?_;refine⟨j+1,⟨oM,oM,λh=>by omega,j4⟩,oM,?_⟩;exact wM (λk=>.key k) iU
   ·have hj:s.size<=j\/bt s j=10:=by
     by_cases h:j<s.size
     ·right;simp at hc;exact hc h
     ·left;omega
    have hne:k<j:=by
     rcases Nat.lt_or_ge k j with h|h
     ·exact h
     ·have:j=k:=oM;subst this;rcases hj with hj|hj
      ·omega
      ·omega
    refine wE ?_;refine⟨j,⟨j2,?_⟩,oM,?_⟩
    ·rcases hj with hj|hj
     ·rw[Gf s hj]at j4 ⊢;exact j4
     ·by_cases h:j<s.size
      ·rw[aio s h hj]at j4;exact j4
      ·rw[Gf s oM]at j4 ⊢;exact j4
    ·exact wM (λk=>.key k) iU
  ·have h35:¬ bt s k=35:=by simpa using hc
   rw[S5 s hlt h35]at hg;clear hc;refine gR ⟨60,dZ [(0,.is (.own 0 0)),(38,.is (.v (.bool (w8 (bt s k)))))],dM [(0,.cells 223 [.v (.string s),.v (.int .i64 (k:Nat)),.hd 3,.v (.int .i64 c),.v (.int .i64 a),.v (.string t)]),(3,.row 225 3 d (op.map .v))]⟩ ?_ ?_
   ·generalize bt s k=z at *;skip;refine vR Dq iU ?_;refine wC iU (λhc=>?_) (λhc=>?_)
    ·have h:w8 z=true:=by
      simp at hc;simp[w8,hc]
     refine wK ?_;exact wM (λk=>.key k) (br iU h hc)
    refine vR Dq iU ?_;have h0:decide (z=32)=false:=hc;clear hc;refine wC iU (λhc=>?_) (λhc=>?_)
    ·have h:w8 z=true:=by
      simp at hc;simp[w8,hc]
     refine wK ?_;exact wM (λk=>.key k) (br iU h hc)
    have h1:decide (z=9)=false:=hc;clear hc;refine vR Dq iU ?_;refine wC iU (λhc=>?_) (λhc=>?_)
    ·have h:w8 z=true:=by
      simp at hc;simp[w8,hc]
     refine wK ?_;exact wM (λk=>.key k) (br iU h hc)
    have h2:decide (z=10)=false:=hc;clear hc;have e:w8 z=decide (z=13):=by rw[w8,h0,h1,h2];rfl
    refine vr Dq iU ?_;exact wM (λk=>.key k) (aa iU e)
   refine wC iU (λhc=>?_) (λhc=>?_)
   ·rw[if_pos hc]at hg;refine vr Dq (aa iU wk) ?_;refine⟨k+1,⟨oM,hg⟩,oM,?_⟩;exact wM (λk=>.key k) iU
   ·rw[if_neg (by rw[hc];simp)]at hg;rw[<- hg];refine wZ iU ?_;exact⟨_,_,rfl,λE=>rfl,_,_,rfl,(ev (aa iU @aq)),dE⟩
 ·have hk' : k=s.size:=by
   simp at hc;omega
  rw[Gf s oM]at hg;rw[<- hg];refine wE ?_;refine wS iU ?_;exact⟨_,_,rfl,λE=>rfl,_,_,rfl,(ev (aa iU @aq)),dE⟩
def Cf:bI prog 106 where
 T:=223
 pre:=λW bs fs as_=>match fs,as_ with|[.val (.string s),.val (.int .i64 i),.row 225 3 d op,.val (.int .i64 c),.val (.int .i64 a),.val (.string t)],[]=>(0<=i/\i<=s.size)/\s.size<=100000000|_,_=>False
 out:=λW fs as_=>match fs,as_ with|[.val (.string s),.val (.int .i64 i),.row 225 3 d op,.val (.int .i64 c),.val (.int .i64 a),.val (.string t)],[]=>.ret (.tuple #[]) (tG s (u5 s i.toNat:Nat) d op c a t)|_,_=>.pan [] undef
 enters:=call106
 ok:=by
  intro W w bs u fp us fs as_ hk ho hlt hmine hu hp;split at hp
  ·rename_i s i d op c a t
   match us,hu with
   |[],_=>
    obtain⟨k,rfl⟩:=Int.eq_ofNat_of_zero_le hp.1.1;exact VJ s k d op c a t u fp w oM hp.2 ho hlt
  ·exact hp.elim
theorem PH(W:World)(s:ByteArray)(i:Int)(d:Nat)(op:List Value)(c:Int)(a:Int)(t:ByteArray):Cf.out W [.val (.string s),.val (.int .i64 i),.row 225 3 d op,.val (.int .i64 c),.val (.int .i64 a),.val (.string t)] []=.ret (.tuple #[]) (tG s (u5 s i.toNat:Nat) d op c a t):=rfl
theorem PJ(W:World)(bs:List Nat)(s:ByteArray)(i:Int)(d:Nat)(op:List Value)(c:Int)(a:Int)(t:ByteArray):Cf.pre W bs [.val (.string s),.val (.int .i64 i),.row 225 3 d op,.val (.int .i64 c),.val (.int .i64 a),.val (.string t)] []=((0<=i/\i<=s.size)/\s.size<=100000000):=rfl
theorem aac:Cf.T=223:=rfl
def gW(s:ByteArray)(i:Nat):Int×Bool×Nat:=
 if ¬ i+1<s.size then (0,false,i+1)
 else if bt s ((i+1:Nat):Int)=110 then (10,true,i+1)
 else if bt s ((i+1:Nat):Int)=114 then (13,true,i+1)
 else if bt s ((i+1:Nat):Int)=116 then (9,true,i+1)
 else if bt s ((i+1:Nat):Int)=34\/bt s ((i+1:Nat):Int)=92 then (bt s ((i+1:Nat):Int),true,i+1)
 else if bt s ((i+1:Nat):Int)=120 then
  if ¬ i+2<s.size then (0,false,i+2)
  else if iX (bt s ((i+2:Nat):Int))<0 then (0,false,i+2)
  else if ¬ i+3<s.size then (0,false,i+3)
  else if iX (bt s ((i+3:Nat):Int))<0 then (0,false,i+3)
  else (16*iX (bt s ((i+2:Nat):Int))+iX (bt s ((i+3:Nat):Int)),true,i+3)
 else (0,false,i+1)
theorem aiy:∀ b:Fin 256,Lib.indexByte [48,49,50,51,52,53,54,55,56,57,97,98,99,100,101,102] ((b.val:Int).toNat.toUInt8)=iX ((b.val:Nat):Int):=by decide +kernel
theorem u9(c:Int):iX c<=15:=by
 unfold iX;split
 ·rename_i h;simp[SH]at h;omega
 ·split
  ·rename_i h;simp at h;omega
  ·omega
theorem aix(s:ByteArray)(j:Nat):Lib.indexByte [48,49,50,51,52,53,54,55,56,57,97,98,99,100,101,102] ((bt s (j:Nat)).toNat.toUInt8)=iX (bt s (j:Nat)):=by
 obtain⟨c0,c1⟩:=te s j;obtain⟨b,hb⟩:=Int.eq_ofNat_of_zero_le c0;have:=aiy ⟨b,oM⟩;rw[hb];exact this
def Xj(s:ByteArray)(d:Nat)(op:List Value)(c a:Int)(t:ByteArray)(q:Int×Bool×Nat):BOut:=.ret (.tuple #[.int .u8 q.1,.bool q.2.1]) (tG s (q.2.2:Nat) d op c a t)
noncomputable def iI:Env prog:=⟨λ| 107=>some gK.spec|138=>some Td.spec|_=>none,λ| _=>none,λ_ _=>none⟩
theorem aa9:iI.sp 107=some gK.spec:=rfl
theorem aba:iI.sp 138=some Td.spec:=rfl
def cq:=(ae @List.replicate_succ.{0} @List.replicate_zero.{0} @au @ab kH kI kK (ae c8 da db dc dn dr dt (ae du mG mH mI mJ mK ew (ae ez eA eB eC eD rR rS (ae rT rU rV rW rX rY rZ (ae r8 r9 sa sb @aV @aw @aD (ae @aG @tG.eq_1 @tF.eq_1 aa9 aba @gr @gp (qG @j8 @JK @JJ @aix @Xj.eq_1))))))))
theorem Z1(s:ByteArray)(i:Nat)(d:Nat)(op:List Value)(c a:Int)(t:ByteArray)(u:Value)(fp:List Nat)(w:World)(hi:i<=s.size)(hs:s.size<=100000000)(ho:aW w u fp 223 (tG s i d op c a t))(hlt:∀ b∈fp,b<w.heap.size) :
  Calls prog 211 (#[u]++#[]) w λx w' => dA w u fp 223 x w' (Xj s d op c a t (gW s i)):=by
 have wi:IntKind.i64.wrap ((i:Int)+1)=((i+1:Nat):Int):=wW;refine aN (nt:=68) #[] [.tmp 2,.tmp 3] (by show 6<=7;omega) ho hlt func211 rfl rfl rfl ?_;refine vR iI cq ?_;refine vR iI (aa cq wi) ?_;refine Wp.seq ?_;refine vR iI cq ?_;refine wC cq (λhc=>?_) (λhc=>?_)
 ·have h:¬ i+1<s.size:=by
   simp at hc;omega
  have e:gW s i=(0,false,i+1):=by rw[gW,if_pos h]
  rw[e];refine vR iI cq ?_;refine wZ cq ?_;exact⟨_,_,rfl,λE=>rfl,_,_,rfl,(ev (aa cq @aq)),dE⟩
 have h:i+1<s.size:=by
  simp at hc;omega
 clear hc;refine wK ?_;refine Wp.seq ?_;refine ko iI cq ?_ ?_
 ·omega
 refine vR iI cq ?_;refine Wp.block ?_;obtain⟨z0,z1⟩:=te s ((i+1:Nat):Int);refine vR iI cq ?_;refine wC cq (λhc=>?_) (λhc=>?_)
 ·have hz:bt s ((i+1:Nat):Int)=110:=by simpa using hc
  have e:gW s i=(10,true,i+1):=by rw[gW,if_neg oM,if_pos hz]
  rw[e];refine vR iI cq ?_;refine wZ cq ?_;exact⟨_,_,rfl,λE=>rfl,_,_,rfl,(ev (aa cq @aq)),dE⟩
 have n1:¬ bt s ((i+1:Nat):Int)=110:=by simpa using hc
 clear hc;refine vR iI cq ?_;refine wC cq (λhc=>?_) (λhc=>?_)
 ·have hz:bt s ((i+1:Nat):Int)=114:=by simpa using hc
  have e:gW s i=(13,true,i+1):=by rw[gW,if_neg oM,if_neg n1,if_pos hz]
  rw[e];refine vR iI cq ?_;refine wZ cq ?_;exact⟨_,_,rfl,λE=>rfl,_,_,rfl,(ev (aa cq @aq)),dE⟩
 have n2:¬ bt s ((i+1:Nat):Int)=114:=by simpa using hc
 clear hc;refine vR iI cq ?_;refine wC cq (λhc=>?_) (λhc=>?_)
 ·have hz:bt s ((i+1:Nat):Int)=116:=by simpa using hc
  have e:gW s i=(9,true,i+1):=by rw[gW,if_neg oM,if_neg n1,if_neg n2,if_pos hz]
  rw[e];refine vR iI cq ?_;refine wZ cq ?_;exact⟨_,_,rfl,λE=>rfl,_,_,rfl,(ev (aa cq @aq)),dE⟩
 have n3:¬ bt s ((i+1:Nat):Int)=116:=by simpa using hc
 clear hc
 refine gR ⟨60,dZ [(0,.is (.own 0 0)),(4,.is (.v (.int .u8 (bt s ((i+1:Nat):Int))))),(25,.is (.v (.int .u8 (bt s ((i+1:Nat):Int))))),(32,.is (.v (.bool (decide (bt s ((i+1:Nat):Int)=34\/bt s ((i+1:Nat):Int)=92)))))],dM [(0,.cells 223 [.v (.string s),.v (.int .i64 ((i+1:Nat):Int)),.hd 3,.v (.int .i64 c),.v (.int .i64 a),.v (.string t)]),(3,.row 225 3 d (op.map .v))]⟩ ?_ ?_
 ·generalize bt s ((i+1:Nat):Int)=z at *;skip;refine vR iI cq ?_;refine wC cq (λhc=>?_) (λhc=>?_)
  ·have hz:z=34:=by simpa using hc
   have e:decide (z=34\/z=92)=true:=by simp[hz]
   refine wK ?_;exact wM (λk=>.key k) (br cq e hc)
  ·have hz:¬ z=34:=by simpa using hc
   have e:decide (z=34\/z=92)=decide (z=92):=by simp[hz]
   refine vr iI cq ?_;exact wM (λk=>.key k) (aa cq e)
 refine wC cq (λhc=>?_) (λhc=>?_)
 ·have hz:bt s ((i+1:Nat):Int)=34\/bt s ((i+1:Nat):Int)=92:=by simpa using hc
  have e:gW s i=(bt s ((i+1:Nat):Int),true,i+1):=by rw[gW,if_neg oM,if_neg n1,if_neg n2,if_neg n3,if_pos hz]
  rw[e];refine vR iI cq ?_;refine wZ cq ?_;exact⟨_,_,rfl,λE=>rfl,_,_,rfl,(ev (aa cq @aq)),dE⟩
 have n4:¬ (bt s ((i+1:Nat):Int)=34\/bt s ((i+1:Nat):Int)=92):=by simpa using hc
 clear hc;refine vR iI cq ?_;refine wC cq (λhc=>?_) (λhc=>?_)
 rotate_left
 ·have n5:¬ bt s ((i+1:Nat):Int)=120:=by simpa using hc
  have e:gW s i=(0,false,i+1):=by rw[gW,if_neg oM,if_neg n1,if_neg n2,if_neg n3,if_neg n4,if_neg n5]
  rw[e];refine wK ?_;refine vR iI cq ?_;refine wZ cq ?_;exact⟨_,_,rfl,λE=>rfl,_,_,rfl,(ev (aa cq @aq)),dE⟩
 have hz:bt s ((i+1:Nat):Int)=120:=by simpa using hc
 have e0:gW s i=if ¬ i+2<s.size then (0,false,i+2)
  else if iX (bt s ((i+2:Nat):Int))<0 then (0,false,i+2)
  else if ¬ i+3<s.size then (0,false,i+3)
  else if iX (bt s ((i+3:Nat):Int))<0 then (0,false,i+3)
  else (16*iX (bt s ((i+2:Nat):Int))+iX (bt s ((i+3:Nat):Int)),true,i+3):=by rw[gW,if_neg oM,if_neg n1,if_neg n2,if_neg n3,if_neg n4,if_pos hz]
 clear hc;refine vR iI cq ?_;refine Wp.seq ?_;refine vR iI cq ?_;have x2:=u9 (bt s ((i+2:Nat):Int));have x3:=u9 (bt s ((i+3:Nat):Int));refine Wp.block ?_
 refine Wp.loop (λp:Nat×Int=>⟨100,dZ [(0,.is (.own 0 0)),(5,.is (.v (.int .i64 p.2))),(38,.is (.v (.int .i64 (p.1:Nat))))],dM [(0,.cells 223 [.v (.string s),.v (.int .i64 ((i+1+p.1:Nat):Int)),.hd 3,.v (.int .i64 c),.v (.int .i64 a),.v (.string t)]),(3,.row 225 3 d (op.map .v))]⟩)
  (λp=>p.1<=2/\(p.1=0->p.2=0)/\(1<=p.1->i+2<s.size/\0<=iX (bt s ((i+2:Nat):Int)))/\(p.1=1->p.2=iX (bt s ((i+2:Nat):Int)))/\(p.1=2->i+3<s.size/\0<=iX (bt s ((i+3:Nat):Int))/\p.2=16*iX (bt s ((i+2:Nat):Int))+iX (bt s ((i+3:Nat):Int)))) (λp=>2-p.1) (0,0) ?_ ⟨dE,λ_=>rfl,λh=>absurd h dE,λh=>absurd h dE,λh=>absurd h dE⟩ ?_
 ·exact wM (λk=>.key k) cq
 rintro⟨k,v⟩ ⟨k1,k2,k3,k4,k5⟩;dsimp only at k1 k2 k3 k4 k5 ⊢;refine vR iI cq ?_;refine Wp.seq ?_;refine wC cq (λhc=>?_) (λhc=>?_)
 rotate_left
 ·have hk:k=2:=by
   simp at hc;omega
  subst hk;obtain⟨m1,m2⟩:=k3 oM;obtain⟨m3,m4,m5⟩:=k5 rfl;rw[if_neg oM,if_neg oM,if_neg oM,if_neg oM,<- m5]at e0;rw[e0];have wv:IntKind.u8.wrap v=v:=uA oM oM;refine wE ?_;refine vR iI (aa cq wv) ?_;refine wZ cq ?_;exact⟨_,_,rfl,λE=>rfl,_,_,rfl,(ev (aa cq @aq)),dE⟩
 have hk:k<2:=by
  simp at hc;omega
 clear hc;have wj:IntKind.i64.wrap (((i+1+k:Nat):Int)+1)=((i+2+k:Nat):Int):=wW;have wk:IntKind.i64.wrap ((k:Int)+1)=((k+1:Nat):Int):=wW;refine wK ?_;refine Wp.seq (Wp.block ?_);refine vR iI (aa cq wj) ?_;refine Wp.seq ?_;refine vR iI cq ?_;refine wC cq (λhc=>?_) (λhc=>?_)
 ·have hlt:¬ i+2+k<s.size:=by
   simp at hc;omega
  have e:gW s i=(0,false,i+2+k):=by
   rcases (show k=0\/k=1 by omega) with rfl|rfl
   ·rw[e0,if_pos oM]
   ·obtain⟨m1,m2⟩:=k3 oM;rw[e0,if_neg oM,if_neg oM,if_pos oM]
  rw[e];refine vR iI cq ?_;refine wZ cq ?_;exact⟨_,_,rfl,λE=>rfl,_,_,rfl,(ev (aa cq @aq)),dE⟩
 have hlt:i+2+k<s.size:=by
  simp at hc;omega
 clear hc;refine wK ?_;refine ko iI cq ?_ ?_
 ·omega
 have x4:=u9 (bt s ((i+2+k:Nat):Int));have hv:0<=v/\v<=15:=by
  rcases (show k=0\/k=1 by omega) with rfl|rfl
  ·have:=k2 rfl;omega
  ·obtain⟨m1,m2⟩:=k3 oM;have:=k4 rfl;omega
 refine Wp.seq ?_;refine vR iI cq ?_;refine wC cq (λhc=>?_) (λhc=>?_)
 ·have hn:iX (bt s ((i+2+k:Nat):Int))<0:=by simpa using hc
  have e:gW s i=(0,false,i+2+k):=by
   rcases (show k=0\/k=1 by omega) with rfl|rfl
   ·rw[e0,if_neg oM,if_pos (by exact hn)]
   ·obtain⟨m1,m2⟩:=k3 oM;rw[e0,if_neg oM,if_neg oM,if_neg oM,if_pos (by exact hn)]
  rw[e];refine vR iI cq ?_;refine wZ cq ?_;exact⟨_,_,rfl,λE=>rfl,_,_,rfl,(ev (aa cq @aq)),dE⟩
 have hn:0<=iX (bt s ((i+2+k:Nat):Int)):=by
  have:=of_decide_eq_false hc;omega
 clear hc;have w1:IntKind.i64.wrap (16*v)=16*v:=aA oM oM;have w2:IntKind.i64.wrap (16*v+iX (bt s ((i+2+k:Nat):Int)))=16*v+iX (bt s ((i+2+k:Nat):Int)):=aA oM oM;refine wK ?_;refine vr iI (br cq w1 w2) ?_;refine vr iI (aa cq wk) ?_
 refine⟨(k+1,16*v+iX (bt s ((i+2+k:Nat):Int))),⟨by dsimp only;omega,λh=>?_,λ_=>?_,λh=>?_,λh=>?_⟩,by dsimp only;omega,?_⟩
 ·dsimp only at h;omega
 ·rcases (show k=0\/k=1 by omega) with rfl|rfl
  ·exact⟨hlt,hn⟩
  ·exact k3 oM
 ·dsimp only at h ⊢;obtain rfl:k=0:=oM;rw[k2 rfl];show 16*0+_=_;simp
 ·dsimp only at h ⊢;obtain rfl:k=1:=oM;rw[k4 rfl];exact⟨hlt,hn,rfl⟩
 ·exact wM (λk=>.key k) (aa cq (show i+1+(k+1)=i+2+k by omega))
def Lm:bI prog 211 where
 T:=223
 pre:=λW bs fs as_=>match fs,as_ with|[.val (.string s),.val (.int .i64 i),.row 225 3 d op,.val (.int .i64 c),.val (.int .i64 a),.val (.string t)],[]=>(0<=i/\i<=s.size)/\s.size<=100000000|_,_=>False
 out:=λW fs as_=>match fs,as_ with|[.val (.string s),.val (.int .i64 i),.row 225 3 d op,.val (.int .i64 c),.val (.int .i64 a),.val (.string t)],[]=>Xj s d op c a t (gW s i.toNat)|_,_=>.pan [] undef
 enters:=call211
 ok:=by
  intro W w bs u fp us fs as_ hk ho hlt hmine hu hp;split at hp
  ·rename_i s i d op c a t
   match us,hu with
   |[],_=>
    obtain⟨k,rfl⟩:=Int.eq_ofNat_of_zero_le hp.1.1;exact Z1 s k d op c a t u fp w oM hp.2 ho hlt
  ·exact hp.elim
theorem Vs(W:World)(s:ByteArray)(i:Int)(d:Nat)(op:List Value)(c:Int)(a:Int)(t:ByteArray):Lm.out W [.val (.string s),.val (.int .i64 i),.row 225 3 d op,.val (.int .i64 c),.val (.int .i64 a),.val (.string t)] []=Xj s d op c a t (gW s i.toNat):=rfl
theorem Vt(W:World)(bs:List Nat)(s:ByteArray)(i:Int)(d:Nat)(op:List Value)(c:Int)(a:Int)(t:ByteArray):Lm.pre W bs [.val (.string s),.val (.int .i64 i),.row 225 3 d op,.val (.int .i64 c),.val (.int .i64 a),.val (.string t)] []=((0<=i/\i<=s.size)/\s.size<=100000000):=rfl
theorem aeJ:Lm.T=223:=rfl
theorem aii{s:ByteArray}{k:Nat}(hk:k<s.size):(k<(gW s k).2.2/\(gW s k).2.2<=s.size)/\(0<=(gW s k).1/\(gW s k).1<256):=by
 have z:=te s ((k+1:Nat):Int);have x2:=u9 (bt s ((k+2:Nat):Int));have x3:=u9 (bt s ((k+3:Nat):Int));unfold gW
 repeat' split
 all_goals (refine⟨⟨?_,?_⟩,?_,?_⟩<;>dsimp only<;>omega)
theorem ai2(s:ByteArray)(i n:Nat){k:Nat}(o:ByteArray)(hk:k<s.size)(h:bt s (k:Nat)=92):EW s i (n+1) k o =
  if s.size<=(gW s k).2.2 then (mX,0,51,i) else if (gW s k).2.1=false then (mX,0,50,(gW s k).2.2) else EW s i n ((gW s k).2.2+1) (o++e7 [(gW s k).1]):=by
 have hp:¬ tP 92=false:=by decide
 rw[EW,if_pos hk,h,if_neg oM,if_neg hp,if_neg oM];by_cases h1:k+1<s.size
 ·rw[if_neg (show ¬ ¬ k+1<s.size by omega)];unfold gW;rw[if_neg (show ¬ ¬ k+1<s.size by omega)];generalize hz:bt s ((k+1:Nat):Int)=z at *;by_cases e1:z=110
  ·rw[if_pos e1,if_pos e1,if_neg (by dsimp only;omega),if_neg sI]
  rw[if_neg e1,if_neg e1];by_cases e2:z=114
  ·rw[if_pos e2,if_pos e2,if_neg (by dsimp only;omega),if_neg sI]
  rw[if_neg e2,if_neg e2];by_cases e3:z=116
  ·rw[if_pos e3,if_pos e3,if_neg (by dsimp only;omega),if_neg sI]
  rw[if_neg e3,if_neg e3];by_cases e4:z=34\/z=92
  ·rw[if_pos e4,if_pos e4,if_neg (by dsimp only;omega),if_neg sI]
  rw[if_neg e4,if_neg e4];by_cases e5:z=120
  ·rw[if_pos e5,if_pos e5];by_cases h2:k+2<s.size
   ·rw[if_neg (show ¬ ¬ k+2<s.size by omega),if_neg (show ¬ ¬ k+2<s.size by omega)];by_cases x2:iX (bt s ((k+2:Nat):Int))<0
    ·rw[if_pos x2,if_pos x2,if_neg (by dsimp only;omega),if_pos rfl]
    rw[if_neg x2,if_neg x2];by_cases h3:k+3<s.size
    ·rw[if_neg (show ¬ ¬ k+3<s.size by omega),if_neg (show ¬ ¬ k+3<s.size by omega)];by_cases x3:iX (bt s ((k+3:Nat):Int))<0
     ·rw[if_pos x3,if_pos x3,if_neg (by dsimp only;omega),if_pos rfl]
     rw[if_neg x3,if_neg x3,if_neg (by dsimp only;omega),if_neg sI]
    ·rw[if_pos h3,if_pos h3,if_pos (by dsimp only;omega)]
   ·rw[if_pos h2,if_pos h2,if_pos (by dsimp only;omega)]
  ·rw[if_neg e5,if_neg e5,if_neg (by dsimp only;omega),if_pos rfl]
 ·rw[if_pos h1];unfold gW;rw[if_pos h1,if_pos (by dsimp only;omega)]
def vv(s:ByteArray)(i:Nat)(kd:Int)(d:Nat)(op:List Value)(c a:Int)(t:ByteArray)(q:Pc):BOut:=
 if q.2.2.1=0 then .ret (.bool true) (tG s (q.2.1:Nat) (d+1) (op++[.int .i64 kd,.int .i64 (i:Nat),.string q.1]) c a t)
 else .ret (.bool false) (tG s (if q.2.2.1=50 then (q.2.2.2:Nat) else (s.size:Nat)) d op q.2.2.1 (q.2.2.2:Nat) ⟨#[]⟩)
noncomputable def eF:Env prog:=⟨λ| 107=>some gK.spec|109=>some vH.spec|165=>some tV.spec|210=>some z8.spec|211=>some Lm.spec|_=>none,λ| _=>none,λ_ _=>none⟩
theorem Mc:eF.sp 107=some gK.spec:=rfl
theorem Md:eF.sp 109=some vH.spec:=rfl
theorem Me:eF.sp 165=some tV.spec:=rfl
theorem Mf:eF.sp 210=some z8.spec:=rfl
theorem Mg:eF.sp 211=some Lm.spec:=rfl
def eT:=(ae @List.replicate_succ.{0} @List.replicate_zero.{0} @au @ab kH kI Ri (ae Rm RN kK c8 da db dc (ae dn dr dt du mG mH mI (ae mJ mK ew ez eA eB eC (ae eD oL oN oO oP aat aau (ae aav aaw rR rS rT rU rV (ae rW rX rY rZ r8 r9 sa (ae sb L2 L3 @aV @aw @aD @aG (ae @tG.eq_1 @tF.eq_1 @uO @B8 @Ek @Mc @Md (ae @Me @Mf @Mg @gr @gp @j8 @pz (ae @pA @vJ @sW @sX @z6 @rQ @rP (fP @Vs @Vt @aeJ @Xj.eq_1))))))))))))
theorem Z8(s:ByteArray)(i:Nat)(d:Nat)(op:List Value)(c a:Int)(t:ByteArray)(u:Value)(fp:List Nat)(w:World)(hi:i<s.size)(hs:s.size<=4096)(hd:op.length=d*3)(hd2:d<=1000000)(ho:aW w u fp 223 (tG s (i:Nat) d op c a t))(hlt:∀ b∈fp,b<w.heap.size) :
  Calls prog 166 (#[u]++#[]) w λx w' => dA w u fp 223 x w' (vv s i 2 d op c a t (zA s i)):=by
 have wi:IntKind.i64.wrap ((i:Int)+1)=((i+1:Nat):Int):=wW;refine aN (nt:=95) #[] [.tmp 2] (by show 6<=7;omega) ho hlt func166 rfl rfl rfl ?_;refine vR eF eT ?_;refine vR eF eT ?_;refine vR eF eT ?_;refine Wp.seq ?_;refine vR eF (aa eT wi) ?_;refine Wp.block ?_
 refine Wp.loop (λp:Nat×Nat×ByteArray=>⟨20,dZ [(0,.is (.own 0 0)),(3,.is (.v (.int .i64 (i:Nat)))),(4,.is (.hd 19))],dM [(0,.cells 223 [.v (.string s),.v (.int .i64 (p.2.1:Nat)),.hd 3,.v (.int .i64 c),.v (.int .i64 a),.v (.string t)]),(3,.row 225 3 d (op.map .v)),(19,.row 5 1 p.2.2.size ((byteCells p.2.2).map .v))]⟩) (λp=>(i+1<=p.2.1/\p.2.1<=s.size)/\p.2.2.size<=p.2.1/\s.size<=p.2.1+p.1/\EW s i p.1 p.2.1 p.2.2=zA s i) (λp=>p.1) (s.size-(i+1),i+1,mX) ?_ ⟨⟨Nat.le_refl _,hi⟩,Nat.zero_le _,by dsimp only;omega,rfl⟩ ?_
 ·exact wM (λk=>if k=19 then .nil else .key k) (fP eT @mX.eq_1 (show (⟨#[]⟩:ByteArray).size=0 from rfl) (show byteCells ⟨#[]⟩=[] from rfl))
 rintro⟨n,k,o⟩ ⟨⟨g0,g1⟩,g2,g3,g4⟩;dsimp only at g0 g1 g2 g3 g4 ⊢;refine Wp.seq ?_;refine vR eF eT ?_;refine wC eT (λhc=>?_) (λhc=>?_)
 rotate_left
 ·have hk:k=s.size:=by
   simp at hc;omega
  subst hk;have hq:zA s i=(mX,0,51,i):=by
   rw[<- g4];cases n with
   |zero=>rfl
   |succ n=>rw[EW,if_neg oM]
  have hO:vv s i 2 d op c a t (mX,0,51,i)=.ret (.bool false) (tG s (s.size:Nat) d op 51 (i:Nat) ⟨#[]⟩):=rfl;rw[hq,hO];refine wE ?_;refine wR eF eT ?_ ?_
  ·exact⟨dE,λ_ h=>h.elim⟩
  refine wZ eT ?_;exact⟨_,_,rfl,λE=>rfl,_,_,rfl,(ev (aa eT @aq)),dE⟩
 have hlt:k<s.size:=by
  simp at hc;omega
 clear hc;obtain⟨n,rfl⟩:∃ n',n=n' + 1:=⟨n-1,oM⟩;obtain⟨c0,c1⟩:=te s k;have hq:=g4;rw[EW,if_pos hlt]at hq;have wk:IntKind.i64.wrap ((k:Int)+1)=((k+1:Nat):Int):=wW;refine wK ?_;refine Wp.seq (Wp.block ?_);refine ko eF eT ?_ ?_
 ·omega
 refine Wp.seq (Wp.block ?_);refine vR eF eT ?_;refine wC eT (λhc=>?_) (λhc=>?_)
 ·have h:bt s (k:Nat)=34:=by simpa using hc
  rw[if_pos h]at hq;have hO:vv s i 2 d op c a t (o,k+1,0,0)=.ret (.bool true) (tG s (k+1:Nat) (d+1) (op++[.int .i64 2,.int .i64 (i:Nat),.string o]) c a t):=rfl;rw[<- hq,hO];refine vR eF (aa eT wk) ?_;refine wR eF eT ?_ ?_
  ·exact⟨A7 _,⟨hd,hd2⟩,dE,λ_ h=>h.elim⟩
  refine wZ eT ?_;exact⟨_,_,rfl,λE=>rfl,_,_,rfl,(ev (aa eT @aq)),dE⟩
 have h34:¬ bt s (k:Nat)=34:=by simpa using hc
 rw[if_neg h34]at hq;clear hc;refine vR eF eT ?_;refine wC eT (λhc=>?_) (λhc=>?_)
 ·have h:tP (bt s (k:Nat))=false:=by simpa using hc
  rw[if_pos h]at hq;have hO:vv s i 2 d op c a t (mX,0,50,k)=.ret (.bool false) (tG s (k:Nat) d op 50 (k:Nat) ⟨#[]⟩):=rfl;rw[<- hq,hO];refine wR eF eT ?_ ?_
  ·exact⟨dE,λ_ h=>h.elim⟩
  refine wZ eT ?_;exact⟨_,_,rfl,λE=>rfl,_,_,rfl,(ev (aa eT @aq)),dE⟩
 have hp:¬ tP (bt s (k:Nat))=false:=by simpa using hc
 rw[if_neg hp]at hq;clear hc;refine vR eF eT ?_;refine wC eT (λhc=>?_) (λhc=>?_)
 ·have h:¬ bt s (k:Nat)=92:=by simpa using hc
  rw[if_pos h]at hq;have ha:=sA o [bt s (k:Nat)] (λc hc=>by rw[List.mem_singleton.1 hc];exact⟨c0,c1⟩);have hz:(o++e7 [bt s (k:Nat)]).size=o.size+1:=by rw[ByteArray.size_append,dH];rfl
  simp only[List.map_cons,List.map_nil]at ha;refine wR eF (aa eT ha) ?_ ?_
  ·exact⟨by unfold maxLen;omega,oM⟩
  refine wE ?_;refine vr eF (aa eT wk) ?_;refine⟨(n,k+1,o++e7 [bt s (k:Nat)]),⟨⟨by dsimp only;omega,by dsimp only;omega⟩,by dsimp only;omega,by dsimp only;omega,hq⟩,by dsimp only;omega,?_⟩;exact wM (λk=>if k=19 then .key 368 else .key k) (aa eT hz)
 have h92:bt s (k:Nat)=92:=by simpa using hc
 clear hc hq;rw[ai2 s i n o hlt h92]at g4;obtain⟨⟨q1,q2⟩,q3,q4⟩:=aii hlt;generalize hE:gW s k=q at *;obtain⟨b,ok,j⟩:=q;dsimp only at g4 q1 q2 q3 q4;refine wK ?_;refine wR eF (aa eT hE) ?_ ?_
 ·exact⟨⟨⟨oM,oM⟩,oM⟩,dE,λ_ h=>h.elim⟩
 refine Wp.seq ?_;refine vR eF eT ?_;refine wC eT (λhc=>?_) (λhc=>?_)
 ·have hj:j=s.size:=by
   simp at hc;omega
  subst hj;rw[if_pos (Nat.le_refl _)]at g4;have hO:vv s i 2 d op c a t (mX,0,51,i)=.ret (.bool false) (tG s (s.size:Nat) d op 51 (i:Nat) ⟨#[]⟩):=rfl;rw[<- g4,hO];refine wR eF eT ?_ ?_
  ·exact⟨dE,λ_ h=>h.elim⟩
  refine wZ eT ?_;exact⟨_,_,rfl,λE=>rfl,_,_,rfl,(ev (aa eT @aq)),dE⟩
 have hj:¬ s.size<=j:=by
  simp at hc;omega
 rw[if_neg hj]at g4;clear hc;refine wK ?_;refine Wp.seq ?_;refine vR eF eT ?_;refine wC eT (λhc=>?_) (λhc=>?_)
 ·have hok:ok=false:=by simpa using hc
  rw[if_pos hok]at g4;have hO:vv s i 2 d op c a t (mX,0,50,j)=.ret (.bool false) (tG s (j:Nat) d op 50 (j:Nat) ⟨#[]⟩):=rfl;rw[<- g4,hO];refine wR eF eT ?_ ?_
  ·exact⟨dE,λ_ h=>h.elim⟩
  refine wZ eT ?_;exact⟨_,_,rfl,λE=>rfl,_,_,rfl,(ev (aa eT @aq)),dE⟩
 have hok:ok=true:=by simpa using hc
 rw[if_neg (by rw[hok];simp)]at g4;clear hc;have ha:=sA o [b] (λc hc=>by rw[List.mem_singleton.1 hc];exact⟨q3,q4⟩);have hz:(o++e7 [b]).size=o.size+1:=by rw[ByteArray.size_append,dH];rfl
 have wj:IntKind.i64.wrap ((j:Int)+1)=((j+1:Nat):Int):=wW;simp only[List.map_cons,List.map_nil]at ha;refine wK ?_;refine wr eF (aa eT ha) ?_ ?_
 ·exact⟨by unfold maxLen;omega,oM⟩
 refine vr eF (aa eT wj) ?_;refine⟨(n,j+1,o++e7 [b]),⟨⟨by dsimp only;omega,by dsimp only;omega⟩,by dsimp only;omega,by dsimp only;omega,g4⟩,by dsimp only;omega,?_⟩;exact wM (λk=>if k=19 then .key 456 else if k=3 then .key 354 else .key k) (aa eT hz)
def Lw:bI prog 166 where
 T:=223
 pre:=λW bs fs as_=>match fs,as_ with|[.val (.string s),.val (.int .i64 i),.row 225 3 d op,.val (.int .i64 c),.val (.int .i64 a),.val (.string t)],[]=>((0<=i/\i<s.size)/\s.size<=4096)/\op.length=d*3/\d<=1000000|_,_=>False
 out:=λW fs as_=>match fs,as_ with|[.val (.string s),.val (.int .i64 i),.row 225 3 d op,.val (.int .i64 c),.val (.int .i64 a),.val (.string t)],[]=>vv s i.toNat 2 d op c a t (zA s i.toNat)|_,_=>.pan [] undef
 enters:=call166
 ok:=by
  intro W w bs u fp us fs as_ hk ho hlt hmine hu hp;split at hp
  ·rename_i s i d op c a t
   match us,hu with
   |[],_=>
    obtain⟨k,rfl⟩:=Int.eq_ofNat_of_zero_le hp.1.1.1;exact Z8 s k d op c a t u fp w oM hp.1.2 hp.2.1 hp.2.2 ho hlt
  ·exact hp.elim
theorem VE(W:World)(s:ByteArray)(i:Int)(d:Nat)(op:List Value)(c:Int)(a:Int)(t:ByteArray):Lw.out W [.val (.string s),.val (.int .i64 i),.row 225 3 d op,.val (.int .i64 c),.val (.int .i64 a),.val (.string t)] []=vv s i.toNat 2 d op c a t (zA s i.toNat):=rfl
theorem VF(W:World)(bs:List Nat)(s:ByteArray)(i:Int)(d:Nat)(op:List Value)(c:Int)(a:Int)(t:ByteArray):Lw.pre W bs [.val (.string s),.val (.int .i64 i),.row 225 3 d op,.val (.int .i64 c),.val (.int .i64 a),.val (.string t)] []=(((0<=i/\i<s.size)/\s.size<=4096)/\op.length=d*3/\d<=1000000):=rfl
theorem aeL:Lw.T=223:=rfl
theorem Oz(s:ByteArray)(i n:Nat){k:Nat}(h:s.size<=k):Oy s i n k=(mX,0,52,i):=by
 cases n with
 |zero=>rfl
 |succ n=>rw[Oy,if_neg oM]
def gA:=(ae @List.replicate_succ.{0} @List.replicate_zero.{0} @au @ab kH kI kK (ae c8 da db dc dn dr dt (ae du mG mH mI mJ mK ew (ae ez eA eB eC eD oL oN (ae oO oP rR rS rT rU rV (ae rW rX rY rZ r8 r9 sa (ae sb @aV @aw @aD @aG @tG.eq_1 @tF.eq_1 (ae @Mc @Md @Me @Mf @Mg @gr @gp (ae @j8 @pz @pA @vJ @sW @sX @z6 (aa @rQ @rP))))))))))
theorem aeM(s:ByteArray)(i:Nat)(d:Nat)(op:List Value)(c a:Int)(t:ByteArray)(u:Value)(fp:List Nat)(w:World)(hi:i<s.size)(hs:s.size<=4096)(hd:op.length=d*3)(hd2:d<=1000000)(ho:aW w u fp 223 (tG s (i:Nat) d op c a t))(hlt:∀ b∈fp,b<w.heap.size) :
  Calls prog 167 (#[u]++#[]) w λx w' => dA w u fp 223 x w' (vv s i 3 d op c a t (zZ s i)):=by
 have wi:IntKind.i64.wrap ((i:Int)+1)=((i+1:Nat):Int):=wW;refine aN (nt:=112) #[] [.tmp 2] (by show 6<=7;omega) ho hlt func167 rfl rfl rfl ?_;refine vR eF gA ?_;refine vR eF gA ?_;refine Wp.seq ?_;refine vR eF (aa gA wi) ?_;refine Wp.block ?_
 refine Wp.loop (λp:Nat×Nat=>⟨20,dZ [(0,.is (.own 0 0)),(3,.is (.v (.int .i64 (i:Nat))))],dM [(0,.cells 223 [.v (.string s),.v (.int .i64 (p.2:Nat)),.hd 3,.v (.int .i64 c),.v (.int .i64 a),.v (.string t)]),(3,.row 225 3 d (op.map .v))]⟩) (λp=>(i+1<=p.2/\p.2<=s.size)/\s.size<=p.2+p.1/\Oy s i p.1 p.2=zZ s i) (λp=>p.1) (s.size-(i+1),i+1) ?_ ⟨⟨Nat.le_refl _,hi⟩,by dsimp only;omega,rfl⟩ ?_
 ·exact wM (λk=>.key k) gA
 rintro⟨n,k⟩ ⟨⟨g0,g1⟩,g3,g4⟩;dsimp only at g0 g1 g3 g4 ⊢;refine Wp.seq ?_;refine vR eF gA ?_;refine wC gA (λhc=>?_) (λhc=>?_)
 rotate_left
 ·have hk:k=s.size:=by
   simp at hc;omega
  subst hk;rw[Oz s i n (Nat.le_refl _)]at g4;have hO:vv s i 3 d op c a t (mX,0,52,i)=.ret (.bool false) (tG s (s.size:Nat) d op 52 (i:Nat) ⟨#[]⟩):=rfl;rw[<- g4,hO];refine wE ?_;refine wR eF gA ?_ ?_
  ·exact⟨dE,λ_ h=>h.elim⟩
  refine wZ gA ?_;exact⟨_,_,rfl,λE=>rfl,_,_,rfl,(ev (aa gA @aq)),dE⟩
 have hlt:k<s.size:=by
  simp at hc;omega
 clear hc;obtain⟨n,rfl⟩:∃ n',n=n' + 1:=⟨n-1,oM⟩;obtain⟨c0,c1⟩:=te s k;have hq:=g4;rw[Oy,if_pos hlt]at hq;have wk:IntKind.i64.wrap ((k:Int)+1)=((k+1:Nat):Int):=wW;refine wK ?_;refine Wp.seq (Wp.block ?_);refine ko eF gA ?_ ?_
 ·omega
 obtain⟨z,j,hy,hn⟩:∃ (z:Int) (j:Nat),(bt s (k:Nat)=92/\k+1<s.size->z=32/\j=k+1)/\(¬ (bt s (k:Nat)=92/\k+1<s.size)->z=bt s (k:Nat)/\j=k):=by
  by_cases h:bt s (k:Nat)=92/\k+1<s.size
  ·exact⟨32,k+1,λ_=>⟨rfl,rfl⟩,λh' => absurd h h'⟩
  ·exact⟨_,k,λh' => absurd h' h,λ_=>⟨rfl,rfl⟩⟩
 refine Aa (λ_:Unit=>⟨60,dZ [(0,.is (.own 0 0)),(3,.is (.v (.int .i64 (i:Nat)))),(4,.is (.v (.int .u8 z)))],dM [(0,.cells 223 [.v (.string s),.v (.int .i64 (j:Nat)),.hd 3,.v (.int .i64 c),.v (.int .i64 a),.v (.string t)]),(3,.row 225 3 d (op.map .v))]⟩) (λ_=>w) (λ_=>fp) (λ_=>(bt s (k:Nat)=92/\k+1<s.size)->¬ tP (bt s ((k+1:Nat):Int))=false) ?_ ?_
 ·skip;refine yt eF (aa gA wk) ?_;refine wC gA (λhc=>?_) (λhc=>?_)
  ·have h:bt s (k:Nat)=92/\k+1<s.size:=by
    simp at hc;exact⟨hc.1,oM⟩
   obtain⟨rfl,rfl⟩:=hy h;clear hc;refine vR eF (aa gA wk) ?_;refine vR eF gA ?_;refine ko eF gA ?_ ?_
   ·omega
   refine wC gA (λhc=>?_) (λhc=>?_)
   ·have hp:tP (bt s ((k+1:Nat):Int))=false:=by simpa using hc
    rw[h.1,if_neg dE,if_neg oM,if_pos rfl,if_pos ⟨h.2,hp⟩]at hq;have hO:vv s i 3 d op c a t (mX,0,50,k+1)=.ret (.bool false) (tG s (k+1:Nat) d op 50 (k+1:Nat) ⟨#[]⟩):=rfl;rw[<- hq,hO];refine wR eF gA ?_ ?_
    ·exact⟨dE,λ_ h=>h.elim⟩
    refine wZ gA ?_;exact⟨_,_,rfl,λE=>rfl,_,_,rfl,(ev (aa gA @aq)),dE⟩
   have hp:¬ tP (bt s ((k+1:Nat):Int))=false:=by simpa using hc
   refine wK ?_;refine⟨(),λ_=>hp,rfl,rfl,?_⟩;exact wM (λk=>.key k) gA
  ·have h:¬ (bt s (k:Nat)=92/\k+1<s.size):=by
    intro h;simp at hc;have:=hc h.1;omega
   obtain⟨rfl,rfl⟩:=hn h;refine wK ?_;refine⟨(),λh' => absurd h' h,rfl,rfl,?_⟩;exact wM (λk=>.key k) gA
 rintro-hgood hx;have wj:IntKind.i64.wrap ((j:Int)+1)=((j+1:Nat):Int):=by
  by_cases h:bt s (k:Nat)=92/\k+1<s.size
  ·have:=(hy h).2;rw[aA oM oM];omega
  ·have:=(hn h).2;rw[aA oM oM];omega
 refine Wp.block ?_;refine vR eF gA ?_;refine wC gA (λhc=>?_) (λhc=>?_)
 ·have hp:tP z=false:=by simpa using hc
  have h:¬ (bt s (k:Nat)=92/\k+1<s.size):=λh=>by
   rw[(hy h).1]at hp;exact absurd hp dE
  obtain⟨rfl,ej⟩:=hn h;obtain rfl:=ej.symm;rw[if_pos hp]at hq;have hO:vv s i 3 d op c a t (mX,0,50,k)=.ret (.bool false) (tG s (k:Nat) d op 50 (k:Nat) ⟨#[]⟩):=rfl;rw[<- hq,hO];refine wR eF gA ?_ ?_
  ·exact⟨dE,λ_ h=>h.elim⟩
  refine wZ gA ?_;exact⟨_,_,rfl,λE=>rfl,_,_,rfl,(ev (aa gA @aq)),dE⟩
 have hp:¬ tP z=false:=by simpa using hc
 clear hc;refine vR eF gA ?_;refine wC gA (λhc=>?_) (λhc=>?_)
 ·have hz:z=47:=by simpa using hc
  have h:¬ (bt s (k:Nat)=92/\k+1<s.size):=λh=>by
   have:=(hy h).1;omega
  obtain⟨rfl,ej⟩:=hn h;obtain rfl:=ej.symm;rw[if_neg hp,if_pos hz]at hq;have hO:vv s i 3 d op c a t (s.extract (i+1) k,k+1,0,0)=.ret (.bool true) (tG s (k+1:Nat) (d+1) (op++[.int .i64 3,.int .i64 (i:Nat),.string (s.extract (i+1) k)]) c a t):=rfl;rw[<- hq,hO]
  have wm:IntKind.i64.wrap (((k+1:Nat):Int)-1)=((k:Nat):Int):=wW;refine vR eF (aa gA wj) ?_;refine ko eF (br gA wi wm) ?_ ?_
  ·exact⟨⟨oM,oM,oM⟩,⟨hd,hd2⟩,dE,λ_ h=>h.elim⟩
  refine wZ gA ?_;exact⟨_,_,rfl,λE=>rfl,_,_,rfl,(ev (aa gA @aq)),dE⟩
 have hz:¬ z=47:=by simpa using hc
 clear hc;refine wK ?_;refine vr eF (aa gA wj) ?_;have hnx:(j+1<=s.size/\i+1<=j+1/\k<=j)/\Oy s i n (j+1)=zZ s i:=by
  by_cases h:bt s (k:Nat)=92/\k+1<s.size
  ·obtain⟨rfl,rfl⟩:=hy h;rw[h.1,if_neg dE,if_neg oM,if_pos rfl,if_neg (λh' => hgood h h'.2)]at hq;exact⟨⟨oM,oM,oM⟩,hq⟩
  ·obtain⟨rfl,ej⟩:=hn h;obtain rfl:=ej.symm;rw[if_neg hp,if_neg hz]at hq;refine⟨⟨oM,oM,oM⟩,?_⟩;by_cases h92:bt s (k:Nat)=92
   ·have hk1:¬ k+1<s.size:=λh' => h ⟨h92,h'⟩
    rw[if_pos h92,if_neg (λh' => hk1 h'.1),Oz s i n oM]at hq;rw[Oz s i n oM];exact hq
   ·rw[if_neg h92]at hq;exact hq
 refine⟨(n,j+1),⟨⟨by dsimp only;omega,by dsimp only;omega⟩,by dsimp only;omega,hnx.2⟩,by dsimp only;omega,?_⟩;exact wM (λk=>.key k) gA
def Z9:bI prog 167 where
 T:=223
 pre:=λW bs fs as_=>match fs,as_ with|[.val (.string s),.val (.int .i64 i),.row 225 3 d op,.val (.int .i64 c),.val (.int .i64 a),.val (.string t)],[]=>((0<=i/\i<s.size)/\s.size<=4096)/\op.length=d*3/\d<=1000000|_,_=>False
 out:=λW fs as_=>match fs,as_ with|[.val (.string s),.val (.int .i64 i),.row 225 3 d op,.val (.int .i64 c),.val (.int .i64 a),.val (.string t)],[]=>vv s i.toNat 3 d op c a t (zZ s i.toNat)|_,_=>.pan [] undef
 enters:=call167
 ok:=by
  intro W w bs u fp us fs as_ hk ho hlt hmine hu hp;split at hp
  ·rename_i s i d op c a t
   match us,hu with
   |[],_=>
    obtain⟨k,rfl⟩:=Int.eq_ofNat_of_zero_le hp.1.1.1;exact aeM s k d op c a t u fp w oM hp.1.2 hp.2.1 hp.2.2 ho hlt
  ·exact hp.elim
theorem aaa(W:World)(s:ByteArray)(i:Int)(d:Nat)(op:List Value)(c:Int)(a:Int)(t:ByteArray):Z9.out W [.val (.string s),.val (.int .i64 i),.row 225 3 d op,.val (.int .i64 c),.val (.int .i64 a),.val (.string t)] []=vv s i.toNat 3 d op c a t (zZ s i.toNat):=rfl
theorem aab(W:World)(bs:List Nat)(s:ByteArray)(i:Int)(d:Nat)(op:List Value)(c:Int)(a:Int)(t:ByteArray):Z9.pre W bs [.val (.string s),.val (.int .i64 i),.row 225 3 d op,.val (.int .i64 c),.val (.int .i64 a),.val (.string t)] []=(((0<=i/\i<s.size)/\s.size<=4096)/\op.length=d*3/\d<=1000000):=rfl
theorem ajj:Z9.T=223:=rfl
def KA(s p:ByteArray):Bool:=decide ((p.size:Int)<=(s.size:Nat))&&decide (s.extract 0 p.size=p)
def acE:=(ae @List.replicate_succ.{0} @List.replicate_zero.{0} @au @ab kH kI kK (ae c8 da db dc dn dr dt (ae du mG mH mI mJ mK ew (ae ez eA eB eC eD oL oN (ae oO oP rR rS rT rU rV (ae rW rX rY rZ r8 r9 sa (qG sb @aV @aw @aD @aG)))))))
theorem Te(s p:ByteArray)(w:World):Calls prog 190 #[.string s,.string p] w λe w' => e=.returned (.bool (KA s p))/\an w [] w' := by
 refine ai (nt:=18) [.tmp 4] func190 rfl rfl rfl ?_;refine vR Γ0 acE ?_;refine wR Γ0 acE ?_ ?_
 ·intro h;simp at h;omega
 refine wZ acE ?_;exact λE=>rfl
def Gi:aY prog 190 where
 pre:=λW bs=>λ| [.val (.string s),.val (.string p)]=>True|_=>False
 res:=λW=>λ| [.val (.string s),.val (.string p)]=>.bool (KA s p)|_=>undef
 enters:=call190
 ok:=by
  intro W w bs us as_ hk hu hp;split at hp
  ·rename_i s p
   match us,hu with
   |[u0,u1],hu=>
    obtain⟨rfl,rfl,_⟩:=hu;exact Te s p w
  ·exact hp.elim
theorem NF(W:World)(s:ByteArray)(p:ByteArray):Gi.res W [.val (.string s),.val (.string p)]=.bool (KA s p):=rfl
theorem ND(W:World)(bs:List Nat)(s:ByteArray)(p:ByteArray):Gi.pre W bs [.val (.string s),.val (.string p)]=(True):=rfl
noncomputable def ajA:Env prog:=⟨λ| 190=>some Gi.spec|_=>none,λ| _=>none,λ_ _=>none⟩
theorem abb:ajA.sp 190=some Gi.spec:=rfl
def ah4:=(fP acE @NF @ND abb)
theorem XH(s p:ByteArray)(w:World):Calls prog 168 #[.string s,.string p] w λe w' => e=.returned (.bool (KA s p))/\an w [] w' := by
 refine ai (nt:=8) [.tmp 4] func168 rfl rfl rfl ?_;refine vR ajA ah4 ?_;refine vR ajA ah4 ?_;refine wZ ah4 ?_;exact λE=>rfl
def Qy:aY prog 168 where
 pre:=λW bs=>λ| [.val (.string s),.val (.string p)]=>True|_=>False
 res:=λW=>λ| [.val (.string s),.val (.string p)]=>.bool (KA s p)|_=>undef
 enters:=call168
 ok:=by
  intro W w bs us as_ hk hu hp;split at hp
  ·rename_i s p
   match us,hu with
   |[u0,u1],hu=>
    obtain⟨rfl,rfl,_⟩:=hu;exact XH s p w
  ·exact hp.elim
theorem Tc(W:World)(s:ByteArray)(p:ByteArray):Qy.res W [.val (.string s),.val (.string p)]=.bool (KA s p):=rfl
theorem Tb(W:World)(bs:List Nat)(s:ByteArray)(p:ByteArray):Qy.pre W bs [.val (.string s),.val (.string p)]=(True):=rfl
theorem ad2(s:ByteArray){i:Nat}(hi:i<s.size):KA (s.extract i s.size) ⟨#[62,62]⟩=decide (bt s (i:Nat)=62/\i+1<s.size/\bt s ((i+1:Nat):Int)=62):=by
 have z:(⟨#[62,62]⟩:ByteArray).size=2:=rfl;have hz:=Ld s i s.size (Nat.le_refl _);have t0:bt (⟨#[62,62]⟩:ByteArray) ((0:Nat):Int)=62:=rfl;have t1:bt (⟨#[62,62]⟩:ByteArray) ((1:Nat):Int)=62:=rfl;unfold KA;rw[z,hz];by_cases h:i+1<s.size
 ·rw[decide_eq_true (show ((2:Nat):Int)<=((s.size-i:Nat):Nat) by omega),Bool.true_and,decide_eq_decide];have hz2:((s.extract i s.size).extract 0 2).size=2:=by rw[Ld _ _ _ oM]
  have b0:=FW (s.extract i s.size) 0 2 0 oM oM;have b1:=FW (s.extract i s.size) 0 2 1 oM oM;have c0:=FW s i s.size 0 (Nat.le_refl _) oM;have c1:=FW s i s.size 1 (Nat.le_refl _) oM;simp only[Nat.zero_add,Nat.add_zero]at b0 b1 c0 c1;rw[c0]at b0;rw[c1]at b1;constructor
  ·intro e;rw[e]at b0 b1;exact⟨by rw[<- b0];exact t0,h,by rw[<- b1];exact t1⟩
  ·rintro⟨e0,_,e1⟩;refine ah5 (by rw[hz2,z]) λj hj=>?_
   rw[hz2]at hj;rcases (show j=0\/j=1 by omega) with rfl|rfl
   ·rw[b0,e0];rfl
   ·rw[b1,e1];rfl
 ·rw[decide_eq_false (show ¬ ((2:Nat):Int)<=((s.size-i:Nat):Nat) by omega),Bool.false_and]
  symm
  apply decide_eq_false;rintro⟨_,h',_⟩;exact h h'
theorem adH:∀ b:Fin 256,decide (0<=Lib.indexByte [61,59,40,41,123,125,44,124,38,45,46,126,42,43,63] ((b.val:Int).toNat.toUInt8))=GA ((b.val:Nat):Int):=by decide +kernel
theorem adG(s:ByteArray)(j:Nat):decide (0<=Lib.indexByte [61,59,40,41,123,125,44,124,38,45,46,126,42,43,63] ((bt s (j:Nat)).toNat.toUInt8))=GA (bt s (j:Nat)):=by
 obtain⟨c0,c1⟩:=te s j;obtain⟨b,hb⟩:=Int.eq_ofNat_of_zero_le c0;have:=adH ⟨b,oM⟩;rw[hb];exact this
def iY(s:ByteArray)(i:Nat)(d:Nat)(op:List Value)(c a:Int)(t:ByteArray):BOut:=
 if xB (bt s (i:Nat))=true then
  if 32<xI s i-i then .ret (.bool false) (tG s (xI s i:Nat) d op 1 (i:Nat) ⟨#[]⟩)
  else .ret (.bool true) (tG s (xI s i:Nat) (d+1) (op++[.int .i64 1,.int .i64 (i:Nat),.string (s.extract i (xI s i))]) c a t)
 else if bt s (i:Nat)=34 then vv s i 2 d op c a t (zA s i)
 else if bt s (i:Nat)=47 then vv s i 3 d op c a t (zZ s i)
 else if GA (bt s (i:Nat))=true then .ret (.bool true) (tG s (i+1:Nat) (d+1) (op++[.int .i64 4,.int .i64 (i:Nat),.string (s.extract i (i+1))]) c a t)
 else if bt s (i:Nat)=62/\i+1<s.size/\bt s ((i+1:Nat):Int)=62 then .ret (.bool true) (tG s (i+2:Nat) (d+1) (op++[.int .i64 4,.int .i64 (i:Nat),.string ⟨#[62,62]⟩]) c a t)
 else .ret (.bool false) (tG s (i:Nat) d op 50 (i:Nat) ⟨#[]⟩)
theorem adU{s:ByteArray}{i d:Nat}{op:List Value}{c a:Int}{t:ByteArray}(h:(cJ s i).2.2.1=0) :
  iY s i d op c a t=.ret (.bool true) (tG s ((cJ s i).2.1:Nat) (d+1) (op++[.int .i64 (cJ s i).1.1,.int .i64 ((cJ s i).1.2.1:Nat),.string (cJ s i).1.2.2]) c a t):=by
 by_cases h0:xB (bt s (i:Nat))=true
 ·by_cases hl:32<xI s i-i
  ·have e:cJ s i=((0,0,mX),0,1,i):=by unfold cJ;rw[if_pos h0,if_pos hl]
   rw[e]at h ⊢;exact absurd h sI
  ·have e:cJ s i=((1,i,s.extract i (xI s i)),xI s i,0,0):=by unfold cJ;rw[if_pos h0,if_neg hl]
   rw[e]at h ⊢;unfold iY;rw[if_pos h0,if_neg hl]
 by_cases h1:bt s (i:Nat)=34
 ·have e:cJ s i=((2,i,(zA s i).1),(zA s i).2.1,(zA s i).2.2.1,(zA s i).2.2.2):=by unfold cJ;rw[if_neg h0,if_pos h1]
  rw[e]at h ⊢;have e2:iY s i d op c a t=vv s i 2 d op c a t (zA s i):=by unfold iY;rw[if_neg h0,if_pos h1]
  dsimp only at h;rw[e2];unfold vv;rw[if_pos h]
 by_cases h2:bt s (i:Nat)=47
 ·have e:cJ s i=((3,i,(zZ s i).1),(zZ s i).2.1,(zZ s i).2.2.1,(zZ s i).2.2.2):=by unfold cJ;rw[if_neg h0,if_neg h1,if_pos h2]
  rw[e]at h ⊢;have e2:iY s i d op c a t=vv s i 3 d op c a t (zZ s i):=by unfold iY;rw[if_neg h0,if_neg h1,if_pos h2]
  dsimp only at h;rw[e2];unfold vv;rw[if_pos h]
 by_cases h3:GA (bt s (i:Nat))=true
 ·have e:cJ s i=((4,i,s.extract i (i+1)),i+1,0,0):=by unfold cJ;rw[if_neg h0,if_neg h1,if_neg h2,if_pos h3]
  rw[e]at h ⊢;unfold iY;rw[if_neg h0,if_neg h1,if_neg h2,if_pos h3]
 by_cases h4:bt s (i:Nat)=62/\i+1<s.size/\bt s ((i+1:Nat):Int)=62
 ·have e:cJ s i=((4,i,⟨#[62,62]⟩),i+2,0,0):=by unfold cJ;rw[if_neg h0,if_neg h1,if_neg h2,if_neg h3,if_pos h4]
  rw[e]at h ⊢;unfold iY;rw[if_neg h0,if_neg h1,if_neg h2,if_neg h3,if_pos h4]
 have e:cJ s i=((0,0,mX),0,50,i):=by unfold cJ;rw[if_neg h0,if_neg h1,if_neg h2,if_neg h3,if_neg h4]
 rw[e]at h ⊢;exact absurd h sI
theorem aiV{s:ByteArray}{i d:Nat}{op:List Value}{c a:Int}{t:ByteArray}(h:(cJ s i).2.2.1≠0) :
  ∃ j:Int,iY s i d op c a t=.ret (.bool false) (tG s j d op (cJ s i).2.2.1 ((cJ s i).2.2.2:Nat) ⟨#[]⟩):=by
 by_cases h0:xB (bt s (i:Nat))=true
 ·by_cases hl:32<xI s i-i
  ·have e:cJ s i=((0,0,mX),0,1,i):=by unfold cJ;rw[if_pos h0,if_pos hl]
   rw[e]at h ⊢;unfold iY;rw[if_pos h0,if_pos hl];exact⟨_,rfl⟩
  ·have e:cJ s i=((1,i,s.extract i (xI s i)),xI s i,0,0):=by unfold cJ;rw[if_pos h0,if_neg hl]
   rw[e]at h ⊢;exact absurd h sI
 by_cases h1:bt s (i:Nat)=34
 ·have e:cJ s i=((2,i,(zA s i).1),(zA s i).2.1,(zA s i).2.2.1,(zA s i).2.2.2):=by unfold cJ;rw[if_neg h0,if_pos h1]
  rw[e]at h ⊢;have e2:iY s i d op c a t=vv s i 2 d op c a t (zA s i):=by unfold iY;rw[if_neg h0,if_pos h1]
  dsimp only at h;rw[e2];unfold vv;rw[if_neg h];split
  ·exact⟨_,rfl⟩
  ·exact⟨_,rfl⟩
 by_cases h2:bt s (i:Nat)=47
 ·have e:cJ s i=((3,i,(zZ s i).1),(zZ s i).2.1,(zZ s i).2.2.1,(zZ s i).2.2.2):=by unfold cJ;rw[if_neg h0,if_neg h1,if_pos h2]
  rw[e]at h ⊢;have e2:iY s i d op c a t=vv s i 3 d op c a t (zZ s i):=by unfold iY;rw[if_neg h0,if_neg h1,if_pos h2]
  dsimp only at h;rw[e2];unfold vv;rw[if_neg h];split
  ·exact⟨_,rfl⟩
  ·exact⟨_,rfl⟩
 by_cases h3:GA (bt s (i:Nat))=true
 ·have e:cJ s i=((4,i,s.extract i (i+1)),i+1,0,0):=by unfold cJ;rw[if_neg h0,if_neg h1,if_neg h2,if_pos h3]
  rw[e]at h ⊢;exact absurd h sI
 by_cases h4:bt s (i:Nat)=62/\i+1<s.size/\bt s ((i+1:Nat):Int)=62
 ·have e:cJ s i=((4,i,⟨#[62,62]⟩),i+2,0,0):=by unfold cJ;rw[if_neg h0,if_neg h1,if_neg h2,if_neg h3,if_pos h4]
  rw[e]at h ⊢;exact absurd h sI
 have e:cJ s i=((0,0,mX),0,50,i):=by unfold cJ;rw[if_neg h0,if_neg h1,if_neg h2,if_neg h3,if_neg h4]
 rw[e]at h ⊢;unfold iY;rw[if_neg h0,if_neg h1,if_neg h2,if_neg h3,if_neg h4];exact⟨_,rfl⟩
theorem aiG{c:Int}(h:xB c=true):nmB c=true:=by unfold nmB;rw[h];rfl
theorem akB{s:ByteArray}{i:Nat}(hi:i<s.size)(h:xB (bt s (i:Nat))=true):nmN s (s.size-i) i=xI s i:=by
 rw[show s.size-i=(s.size-(i+1))+1 by omega,nmN,if_pos hi,if_pos (aiG h)];rfl
theorem YW(s:ByteArray)(i:Nat)(kd:Int)(d:Nat)(op:List Value)(c a:Int)(t:ByteArray)(q:Pc):∃ (b:Bool) (j:Int) (d' : Nat) (op' : List Value) (c' a' : Int) (t' : ByteArray),vv s i kd d op c a t q=.ret (.bool b) (tG s j d' op' c' a' t'):=by
 unfold vv;split
 ·exact⟨_,_,_,_,_,_,_,rfl⟩
 ·split<;>exact⟨_,_,_,_,_,_,_,rfl⟩
noncomputable def jB:Env prog:=⟨λ| 107=>some gK.spec|109=>some vH.spec|165=>some tV.spec|163=>some vL.spec|164=>some z7.spec|138=>some Td.spec|168=>some Qy.spec|166=>some Lw.spec|167=>some Z9.spec|_=>none,λ| _=>none,λ_ _=>none⟩
theorem abc:jB.sp 107=some gK.spec:=rfl
theorem abd:jB.sp 109=some vH.spec:=rfl
theorem abh:jB.sp 165=some tV.spec:=rfl
theorem abf:jB.sp 163=some vL.spec:=rfl
theorem abg:jB.sp 164=some z7.spec:=rfl
theorem abe:jB.sp 138=some Td.spec:=rfl
theorem abk:jB.sp 168=some Qy.spec:=rfl
theorem abi:jB.sp 166=some Lw.spec:=rfl
theorem abj:jB.sp 167=some Z9.spec:=rfl
def eG:=(ae @List.replicate_succ.{0} @List.replicate_zero.{0} @au @ab kH kI kK (ae c8 da db dc dn dr dt (ae du mG mH mI mJ mK ew (ae ez eA eB eC eD oL oN (ae oO oP rR rS rT rU rV (ae rW rX rY rZ r8 r9 sa (ae sb @aV @aw @aD @aG @tG.eq_1 @tF.eq_1 (ae abc abd abh abf abg abe abk (ae abi abj @gr @gp @j8 @pz @pA (ae @vJ @sW @sX @z6 @vN @vM @zj (ae @zi @JK @JJ @Tc @Tb @VE @VF (qG @aeL @aaa @aab @ajj @adG))))))))))))
theorem Z5(s:ByteArray)(i:Nat)(d:Nat)(op:List Value)(c a:Int)(t:ByteArray)(u:Value)(fp:List Nat)(w:World)(hi:i<s.size)(hs:s.size<=4096)(hd:op.length=d*3)(hd2:d<=1000000)(ho:aW w u fp 223 (tG s (i:Nat) d op c a t))(hlt:∀ b∈fp,b<w.heap.size) :
  Calls prog 108 (#[u]++#[]) w λx w' => dA w u fp 223 x w' (iY s i d op c a t):=by
 have wi:IntKind.i64.wrap ((i:Int)+1)=((i+1:Nat):Int):=wW;have wi2:IntKind.i64.wrap ((i:Int)+2)=((i+2:Nat):Int):=wW;obtain⟨c0,c1⟩:=te s i;refine aN (nt:=130) #[] [.tmp 2] (by show 6<=7;omega) ho hlt func108 rfl rfl rfl ?_;refine vR jB eG ?_;refine vR jB eG ?_;refine Wp.seq ?_;refine wR jB eG ?_ ?_
 ·omega
 refine Wp.block ?_;refine vR jB eG ?_;refine wC eG (λhc=>?_) (λhc=>?_)
 ·have hL:xB (bt s (i:Nat))=true:=hc;clear hc;have hnm:=YF hi
  have e0:iY s i d op c a t=if 32<xI s i-i then .ret (.bool false) (tG s (xI s i:Nat) d op 1 (i:Nat) ⟨#[]⟩) else .ret (.bool true) (tG s (xI s i:Nat) (d+1) (op++[.int .i64 1,.int .i64 (i:Nat),.string (s.extract i (xI s i))]) c a t):=by unfold iY;rw[if_pos hL]
  have wni:IntKind.i64.wrap (((xI s i:Nat):Int)-((i:Nat):Int))=((xI s i-i:Nat):Int):=wW;refine Wp.seq (Wp.block ?_)
  refine Wp.loop (λk:Nat=>⟨60,dZ [(0,.is (.own 0 0)),(3,.is (.v (.int .i64 (i:Nat))))],dM [(0,.cells 223 [.v (.string s),.v (.int .i64 (k:Nat)),.hd 3,.v (.int .i64 c),.v (.int .i64 a),.v (.string t)]),(3,.row 225 3 d (op.map .v))]⟩) (λk=>(i<=k/\k<=s.size)/\nmN s (s.size-k) k=xI s i) (λk=>s.size-k) i ?_ ⟨⟨Nat.le_refl _,oM⟩,akB hi hL⟩ ?_
  ·exact wM (λk=>.key k) eG
  rintro k ⟨⟨k1,k2⟩,k3⟩;have wk:IntKind.i64.wrap ((k:Int)+1)=((k+1:Nat):Int):=wW;refine Wp.seq ?_;refine ko jB eG ?_ ?_
  ·refine⟨dE,λh=>?_,λh=>?_⟩
   ·simp at h;omega
   ·simp at h;omega
  refine wC eG (λhc=>?_) (λhc=>?_)
  ·have h:k<s.size/\nmB (bt s (k:Nat))=true:=by
    simp at hc;refine⟨oM,?_⟩;unfold nmB;rw[Bool.or_eq_true];exact hc.2
   rw[show s.size-k=(s.size-(k+1))+1 by omega,nmN,if_pos h.1,if_pos h.2]at k3;refine wK ?_;refine Wp.block ?_;refine vr jB (aa eG wk) ?_;refine⟨k+1,⟨⟨oM,oM⟩,k3⟩,oM,?_⟩;exact wM (λk=>.key k) eG
  ·have h:xI s i=k:=by
    rw[<- k3];by_cases hk:k<s.size
    ·rw[show s.size-k=(s.size-(k+1))+1 by omega,nmN,if_pos hk,if_neg];intro h;unfold nmB at h;simp[hk]at hc;rw[hc.1,hc.2]at h;simp at h
    ·rw[show s.size-k=0 by omega];rfl
   subst h;refine wE ?_;refine Wp.seq ?_;refine vR jB (aa eG wni) ?_;clear hc;refine wC eG (λhc=>?_) (λhc=>?_)
   ·have h32:32<xI s i-i:=by
     simp at hc;omega
    rw[if_pos h32]at e0;rw[e0];refine wR jB eG ?_ ?_
    ·exact⟨dE,λ_ h=>h.elim⟩
    refine wZ eG ?_;exact⟨_,_,rfl,λE=>rfl,_,_,rfl,(ev (aa eG @aq)),dE⟩
   have h32:¬ 32<xI s i-i:=by
    simp at hc;omega
   rw[if_neg h32]at e0;rw[e0];refine wK ?_;refine ko jB eG ?_ ?_
   ·exact⟨⟨oM,oM,oM⟩,⟨hd,hd2⟩,dE,λ_ h=>h.elim⟩
   refine wZ eG ?_;exact⟨_,_,rfl,λE=>rfl,_,_,rfl,(ev (aa eG @aq)),dE⟩
 have n0:¬ xB (bt s (i:Nat))=true:=by rw[show xB (bt s (i:Nat))=false from hc];simp
 clear hc;refine vR jB eG ?_;refine wC eG (λhc=>?_) (λhc=>?_)
 ·have h:bt s (i:Nat)=34:=by simpa using hc
  have e0:iY s i d op c a t=vv s i 2 d op c a t (zA s i):=by unfold iY;rw[if_neg n0,if_pos h]
  obtain⟨b,j,d',op',c',a',t',hP⟩:=YW s i 2 d op c a t (zA s i);rw[e0,hP];refine wR jB (aa eG hP) ?_ ?_
  ·exact⟨⟨⟨⟨oM,oM⟩,hs⟩,hd,hd2⟩,dE,λ_ h=>h.elim⟩
  refine wZ eG ?_;exact⟨_,_,rfl,λE=>rfl,_,_,rfl,(ev (aa eG @aq)),dE⟩
 have n1:¬ bt s (i:Nat)=34:=by simpa using hc
 clear hc;refine vR jB eG ?_;refine wC eG (λhc=>?_) (λhc=>?_)
 ·have h:bt s (i:Nat)=47:=by simpa using hc
  have e0:iY s i d op c a t=vv s i 3 d op c a t (zZ s i):=by unfold iY;rw[if_neg n0,if_neg n1,if_pos h]
  obtain⟨b,j,d',op',c',a',t',hP⟩:=YW s i 3 d op c a t (zZ s i);rw[e0,hP];refine wR jB (aa eG hP) ?_ ?_
  ·exact⟨⟨⟨⟨oM,oM⟩,hs⟩,hd,hd2⟩,dE,λ_ h=>h.elim⟩
  refine wZ eG ?_;exact⟨_,_,rfl,λE=>rfl,_,_,rfl,(ev (aa eG @aq)),dE⟩
 have n2:¬ bt s (i:Nat)=47:=by simpa using hc
 clear hc;refine vR jB eG ?_;refine wC eG (λhc=>?_) (λhc=>?_)
 ·have h:GA (bt s (i:Nat))=true:=hc;have e0:iY s i d op c a t=.ret (.bool true) (tG s (i+1:Nat) (d+1) (op++[.int .i64 4,.int .i64 (i:Nat),.string (s.extract i (i+1))]) c a t):=by unfold iY;rw[if_neg n0,if_neg n1,if_neg n2,if_pos h]
  rw[e0];refine vR jB (aa eG wi) ?_;refine ko jB eG ?_ ?_
  ·exact⟨⟨oM,oM,oM⟩,⟨hd,hd2⟩,dE,λ_ h=>h.elim⟩
  refine wZ eG ?_;exact⟨_,_,rfl,λE=>rfl,_,_,rfl,(ev (aa eG @aq)),dE⟩
 have n3:¬ GA (bt s (i:Nat))=true:=by rw[show GA (bt s (i:Nat))=false from hc];simp
 clear hc;have hp2:=ad2 s hi;refine wR jB (aa eG hp2) ?_ ?_
 ·trace_state
  omega
 refine wC eG (λhc=>?_) (λhc=>?_)
 ·have h:bt s (i:Nat)=62/\i+1<s.size/\bt s ((i+1:Nat):Int)=62:=of_decide_eq_true hc;have e0:iY s i d op c a t=.ret (.bool true) (tG s (i+2:Nat) (d+1) (op++[.int .i64 4,.int .i64 (i:Nat),.string ⟨#[62,62]⟩]) c a t):=by unfold iY;rw[if_neg n0,if_neg n1,if_neg n2,if_neg n3,if_pos h]
  rw[e0];refine vR jB (aa eG wi2) ?_;refine wR jB eG ?_ ?_
  ·exact⟨⟨hd,hd2⟩,dE,λ_ h=>h.elim⟩
  refine wZ eG ?_;exact⟨_,_,rfl,λE=>rfl,_,_,rfl,(ev (aa eG @aq)),dE⟩
 have n4:¬ (bt s (i:Nat)=62/\i+1<s.size/\bt s ((i+1:Nat):Int)=62):=of_decide_eq_false hc;have e0:iY s i d op c a t=.ret (.bool false) (tG s (i:Nat) d op 50 (i:Nat) ⟨#[]⟩):=by unfold iY;rw[if_neg n0,if_neg n1,if_neg n2,if_neg n3,if_neg n4]
 rw[e0];refine wK ?_;refine wR jB eG ?_ ?_
 ·exact⟨dE,λ_ h=>h.elim⟩
 refine wZ eG ?_;exact⟨_,_,rfl,λE=>rfl,_,_,rfl,(ev (aa eG @aq)),dE⟩
def Lu:bI prog 108 where
 T:=223
 pre:=λW bs fs as_=>match fs,as_ with|[.val (.string s),.val (.int .i64 i),.row 225 3 d op,.val (.int .i64 c),.val (.int .i64 a),.val (.string t)],[]=>((0<=i/\i<s.size)/\s.size<=4096)/\op.length=d*3/\d<=1000000|_,_=>False
 out:=λW fs as_=>match fs,as_ with|[.val (.string s),.val (.int .i64 i),.row 225 3 d op,.val (.int .i64 c),.val (.int .i64 a),.val (.string t)],[]=>iY s i.toNat d op c a t|_,_=>.pan [] undef
 enters:=call108
 ok:=by
  intro W w bs u fp us fs as_ hk ho hlt hmine hu hp;split at hp
  ·rename_i s i d op c a t
   match us,hu with
   |[],_=>
    obtain⟨k,rfl⟩:=Int.eq_ofNat_of_zero_le hp.1.1.1;exact Z5 s k d op c a t u fp w oM hp.1.2 hp.2.1 hp.2.2 ho hlt
  ·exact hp.elim
theorem Vy(W:World)(s:ByteArray)(i:Int)(d:Nat)(op:List Value)(c:Int)(a:Int)(t:ByteArray):Lu.out W [.val (.string s),.val (.int .i64 i),.row 225 3 d op,.val (.int .i64 c),.val (.int .i64 a),.val (.string t)] []=iY s i.toNat d op c a t:=rfl
theorem Vz(W:World)(bs:List Nat)(s:ByteArray)(i:Int)(d:Nat)(op:List Value)(c:Int)(a:Int)(t:ByteArray):Lu.pre W bs [.val (.string s),.val (.int .i64 i),.row 225 3 d op,.val (.int .i64 c),.val (.int .i64 a),.val (.string t)] []=(((0<=i/\i<s.size)/\s.size<=4096)/\op.length=d*3/\d<=1000000):=rfl
theorem aeK:Lu.T=223:=rfl
def DO(c a:Int):SV:=.agg [.v (.int .i64 c),.v (.int .i64 a),.v (.string ⟨#[]⟩)]
noncomputable def s5:Env prog:=⟨λ| 106=>some Cf.spec|107=>some gK.spec|108=>some Lu.spec|109=>some vH.spec|_=>none,λ| _=>none,λ_ _=>none⟩
theorem abl:s5.sp 106=some Cf.spec:=rfl
theorem abm:s5.sp 107=some gK.spec:=rfl
theorem abn:s5.sp 108=some Lu.spec:=rfl
theorem abo:s5.sp 109=some vH.spec:=rfl
def kN:=(ae @List.replicate_succ.{0} @List.replicate_zero.{0} @au @ab kH kI kK (ae c8 da db dc dn dr dt (ae du ew ez eA eB eC eD (ae um uo uq ur uu uv uw (ae ux uy uz HS HT HU HV (ae rR rS rT rU rV rW rX (ae rY rZ r8 r9 sa sb p9 (ae qc qd qe qf qg qh qi (ae @aV @aw @aD @aG @tG.eq_1 @tF.eq_1 @wX.eq_1 (ae @wX.eq_2 abl abm abn abo @gr @gp (ae @j8 @PH @PJ @aac @sW @sX @z6 (br @Vy @Vz @aeK))))))))))))
theorem VH(s:ByteArray)(w:World)(fp:List Nat)(E:Nat->Value)(F:Nat->List Nat)(hs:ak w fp E F (dM []) w)(hz:s.size<=9223372036854775807) :
  Calls prog 66 (aj E [.v (.string s)]).toArray w λe w' => ∃ E' F',e=.returned (den E' (.tup [.hd 8,DO (cQ s).2.1 ((cQ s).2.2:Nat)]))/\(∀ k∈([]:List Nat),E' k=E k)/\ak w fp E' F' (dM [(8,.row 225 3 (cQ s).1.length ((wO (cQ s).1).map .v))]) w' := by
 refine Ax (nt:=35) [.tmp 2,.cell 3 39] hs ?_ ?_ func66 rfl rfl rfl ?_
 ·simp[JO,wX,FV.keys,SV.keys]
 ·simp
 refine vR s5 kN ?_;refine Wp.seq ?_;refine vR s5 kN ?_;refine wC kN (λhc=>?_) (λhc=>?_)
 ·have h:4096<s.size:=by
   simp at hc;omega
  have e:cQ s=([],1,0):=by unfold cQ;rw[if_pos h]
  rw[e];refine vR s5 kN ?_;refine wZ kN ?_;exact wN (λk=>.nil) (fP kN @DO.eq_1 @wO.eq_1 @List.flatMap_nil.{0,0})
 have h4:s.size<=4096:=by
  simp at hc;omega
 have e0:cQ s=Mu s s.size (u5 s 0) []:=by unfold cQ;rw[if_neg oM]
 clear hc;have hg0:=zN (Nat.zero_le s.size);refine wK ?_;refine vR s5 kN ?_
 refine Wp.zG (σ' := ⟨60,dZ [(0,.is (.v (.string s))),(3,.is (.own 5 0)),(4,.is (.own 0 0))],dM [(0,.cells 223 [.v (.string s),.v (.int .i64 0),.hd 3,.v (.int .i64 0),.v (.int .i64 0),.v (.string ⟨#[]⟩)]),(3,.row 225 3 0 (([]:List Value).map .v)),(5,.cells 39 [.v (.int .i64 0),.v (.int .i64 0),.v (.string ⟨#[]⟩)])]⟩) ?_ ?_
 ·exact wM (λk=>if k=0 then .key 64 else if k=3 then .nil else if k=5 then .key 16 else .key k) kN
 refine Wp.seq ?_;refine wR s5 kN ?_ ?_
 ·exact⟨⟨oM,oM⟩,dE,λ_ h=>h.elim⟩
 refine Wp.block ?_
 refine Wp.loop (λp:Nat×Nat×List Tk=>⟨100,dZ [(0,.is (.v (.string s))),(3,.is (.own 5 0)),(4,.is (.own 0 0))],dM [(0,.cells 223 [.v (.string s),.v (.int .i64 (p.2.1:Nat)),.hd 3,.v (.int .i64 0),.v (.int .i64 0),.v (.string ⟨#[]⟩)]),(3,.row 225 3 p.2.2.length ((wO p.2.2).map .v)),(5,.cells 39 [.v (.int .i64 0),.v (.int .i64 0),.v (.string ⟨#[]⟩)])]⟩) (λp=>p.2.1<=s.size/\p.2.2.length<=p.2.1/\s.size<=p.2.1+p.1/\Mu s p.1 p.2.1 p.2.2=cQ s) (λp=>p.1) (s.size,u5 s 0,[]) ?_ ⟨hg0.2,Nat.zero_le _,by dsimp only;omega,e0.symm⟩ ?_
 ·exact wM (λk=>if k=3 then .key 490 else .key k) (br kN @wO.eq_1 @List.flatMap_nil.{0,0})
 rintro⟨n,i,l⟩ ⟨g1,g2,g3,g4⟩;dsimp only at g1 g2 g3 g4 ⊢;have hl3:=vK l;refine Wp.seq ?_;refine vR s5 kN ?_;refine wC kN (λhc=>?_) (λhc=>?_)
 rotate_left
 ·have hi:i=s.size:=by
   simp at hc;omega
  subst hi;have e1:cQ s=(l++[(0,s.size,mX)],0,0):=by
   rw[<- g4];cases n with
   |zero=>rfl
   |succ n=>rw[Mu,if_neg oM]
  rw[e1];refine wE ?_;refine wR s5 kN ?_ ?_
  ·exact⟨⟨hl3,oM⟩,dE,λ_ h=>h.elim⟩
  refine vR s5 kN ?_;refine wZ kN ?_;have e2:wO l++[.int .i64 0,.int .i64 (s.size:Nat),.string ⟨#[]⟩]=wO (l++[(0,s.size,mX)]):=Lq l 0 s.size mX;have e3:(l++[((0:Int),s.size,mX)]).length=l.length+1:=by simp
  exact wN (λk=>if k=8 then .key 850 else .key k) (qG kN @DO.eq_1 e2 e3 @Int.natCast_zero)
 have hi:i<s.size:=by
  simp at hc;omega
 clear hc;obtain⟨n,rfl⟩:∃ n',n=n' + 1:=⟨n-1,oM⟩;rw[Mu,if_pos hi]at g4;refine wK ?_;refine Wp.seq (Wp.block ?_);by_cases h0:(cJ s i).2.2.1=0
 ·have hnext:=Fe hi h0;rw[if_pos h0]at g4;have hgl:=zN hnext.2;have hone:=adU (d:=l.length) (op:=wO l) (c:=0) (a:=0) (t:=⟨#[]⟩) h0;refine wR s5 (aa kN hone) ?_ ?_
  ·exact⟨⟨⟨⟨oM,oM⟩,h4⟩,hl3,oM⟩,dE,λ_ h=>h.elim⟩
  refine wC kN (λhc=>?_) (λhc=>?_)
  ·exact absurd hc sI
  refine wK ?_;refine wr s5 kN ?_ ?_
  ·exact⟨⟨⟨oM,oM⟩,oM⟩,dE,λ_ h=>h.elim⟩
  have e2:wO l++[.int .i64 (cJ s i).1.1,.int .i64 ((cJ s i).1.2.1:Nat),.string (cJ s i).1.2.2]=wO (l++[(cJ s i).1]):=Lq l _ _ _;have e3:(l++[(cJ s i).1]).length=l.length+1:=by simp
  refine⟨(n,u5 s (cJ s i).2.1,l++[(cJ s i).1]),⟨hgl.2,by dsimp only;rw[List.length_append,List.length_singleton];omega,by dsimp only;omega,g4⟩,by dsimp only;omega,?_⟩;exact wM (λk=>if k=3 then .key 858 else .key k) (br kN e2 e3)
 ·rw[if_neg h0]at g4;obtain⟨j,hone⟩:=aiV (d:=l.length) (op:=wO l) (c:=0) (a:=0) (t:=⟨#[]⟩) h0;refine wR s5 (aa kN hone) ?_ ?_
  ·exact⟨⟨⟨⟨oM,oM⟩,h4⟩,hl3,oM⟩,dE,λ_ h=>h.elim⟩
  refine wC kN (λhc=>?_) (λhc=>?_)
  rotate_left
  ·exact absurd hc sI
  rw[<- g4];refine yt s5 kN ?_;refine wZ kN ?_;exact wN (λk=>.nil) (fP kN @DO.eq_1 @wO.eq_1 @List.flatMap_nil.{0,0})
def PF(s:ByteArray):Ae prog 66 where
 args:=[.v (.string s)]
 L:=[]
 val:=.tup [.hd 8,DO (cQ s).2.1 ((cQ s).2.2:Nat)]
 L' := [(8,.row 225 3 (cQ s).1.length ((wO (cQ s).1).map .v))]
 fA:=[]
 pre:=λW bs=>s.size<=9223372036854775807
 low:=by simp
 kept:=by simp
 vk:=by intro k hk;right;simp[DO,SV.keys,ay]at hk;unfold fresh;omega
 lk:=by intro p hp;simp only[List.mem_cons,List.not_mem_nil,or_false]at hp;rcases hp with rfl;exact⟨.inr (by unfold fresh;omega),by simp[a6.keys,aR]⟩
 nd:=by simp
 enters:=call66
 ok:=by
  intro W w bs fp E F hk hm hs hp;exact VH s w fp E F hs hp
end
section
open Go.RowKit Go.LE Go.Proofs.Tryz
inductive Ex where
 |name (a:Nat) (s:ByteArray)
 |text (a:Nat) (s:ByteArray)
 |rx (a:Nat) (s:ByteArray)
 |call (a:Nat) (w:ByteArray) (l:Ex)
 |keyed (a:Nat) (x:Ex)
 |unary (a:Nat) (op:ByteArray) (x:Ex)
 |binary (a:Nat) (op:ByteArray) (x y:Ex)
 |nil
 |cons (x l:Ex)
def qH(s:ByteArray):Int:=
 if s=⟨#[99,111,112,121]⟩\/s=⟨#[107,101,121]⟩\/s=⟨#[105,110,115]⟩\/s=⟨#[105,100]⟩\/s=⟨#[102,111,108,100]⟩ then 1
 else if s=⟨#[100,101,108]⟩\/s=⟨#[108,101,102,116]⟩\/s=⟨#[114,105,103,104,116]⟩\/s=⟨#[100,101,102,97,117,108,116]⟩ then 2
 else if s=⟨#[110,111,114,109]⟩ then 3
 else if s=⟨#[108,101,116]⟩ then -1
 else 0
def xV:Nat->ByteArray
 |0=>⟨#[124]⟩
 |1=>⟨#[38,45]⟩
 |2=>⟨#[62,62]⟩
 |3=>⟨#[126]⟩
 |_=>⟨#[46]⟩
def rkB(s:ByteArray)(i:Nat):Bool:=(!decide (s=⟨#[]⟩)&&Lib.contains (xV i).data.toList s.data.toList)&&(decide ((s.size:Int)=2)||!decide (xV i=⟨#[62,62]⟩))
def rkE(s:ByteArray):Int:=match q7 (rkB s) 5 0 with
 |some i=>(i:Nat)
 |none=>-1
def pk:List Tk->Tk
 |t::_=>t
 |[]=>(0,0,mX)
def jJ(r:List Tk)(m:ByteArray):Bool:=decide ((pk r).1=4)&&decide ((pk r).2.2=m)
abbrev PR:=Except (Int×Nat) (Ex×List Tk)
def qu(sub:List Tk->PR)(lev:Int):Nat->Ex->List Tk->PR
 |0,a,r=>.ok (a,r)
 | n+1,a,r=>
  if (pk r).1=4/\rkE (pk r).2.2=lev then match sub r.tail with
   |.error e=>.error e
   |.ok (b,r')=>qu sub lev n (.binary (pk r).2.1 (pk r).2.2 a b) r'
  else .ok (a,r)
def zv(sub:List Tk->PR)(lev:Int)(r:List Tk):PR:=match sub r with
 |.error e=>.error e
 |.ok (a,r')=>qu sub lev r'.length a r'
def oJ:ByteArray:=⟨#[42]⟩
def DV:ByteArray:=⟨#[43]⟩
def ah2:ByteArray:=⟨#[63]⟩
def zz:Nat->Ex->List Tk->Ex×List Tk
 |0,a,r=>(a,r)
 |n+1,a,r=>if ((jJ r oJ||jJ r DV)||jJ r ah2)=true then zz n (.unary (pk r).2.1 (pk r).2.2 a) r.tail else (a,r)
def rz(atom:List Tk->PR)(r:List Tk):PR:=match atom r with
 |.error e=>.error e
 |.ok (a,r')=>.ok (zz r'.length a r')
def Gt(atom:List Tk->PR):Nat->List Tk->PR
 |0=>rz atom
 |k+1=>zv (Gt atom k) (4-(k:Nat))
def yV(atom:List Tk->PR):List Tk->PR:=Gt atom 5
def Kg:ByteArray:=⟨#[40]⟩
def DJ:ByteArray:=⟨#[41]⟩
def obB:ByteArray:=⟨#[123]⟩
def WS:ByteArray:=⟨#[125]⟩
def coB:ByteArray:=⟨#[44]⟩
def dG(m:ByteArray)(f:Ex->Ex):PR->PR
 |.error e=>.error e
 |.ok (a,r)=>if jJ r m=true then .ok (f a,r.tail) else .error (60,(pk r).2.1)
def Lh:Ex->Ex->Ex
 |.cons x l,y=>.cons x (Lh l y)
 |_,y=>.cons y .nil
def nW(ex:List Tk->PR):Nat->Nat->Ex->List Tk->PR
 |0,_,l,r=>.ok (l,r)
 | n+1,k,l,r=>
  if 0<k/\jJ r coB=false then .error (60,(pk r).2.1)
  else match ex (if 0<k then r.tail else r) with
   |.error e=>.error e
   |.ok (a,r')=>nW ex n (k+1) (Lh l a) r'
def gh(m:Option (List Tk->PR))(r:List Tk)(b:ByteArray)(go:(List Tk->PR)->List Tk->PR):PR:=
 if jJ r b=true then match m with
  |none=>.error (23,(pk r).2.1)
  |some ex=>go ex r.tail
 else .error (60,(pk r).2.1)
def fT(m:Option (List Tk->PR))(r:List Tk):PR:=
 if (pk r).1=2 then .ok (.text (pk r).2.1 (pk r).2.2,r.tail)
 else if (pk r).1=3 then .ok (.rx (pk r).2.1 (pk r).2.2,r.tail)
 else if (pk r).1=1/\0<qH (pk r).2.2 then gh m r.tail Kg λex r' => dG DJ (.call (pk r).2.1 (pk r).2.2) (nW ex (qH (pk r).2.2).toNat 0 .nil r')
 else if (pk r).1=1/\qH (pk r).2.2=0 then .ok (.name (pk r).2.1 (pk r).2.2,r.tail)
 else if jJ r obB=true then gh m r obB λex r' => dG WS (.keyed (pk r).2.1) (ex r')
 else if jJ r Kg=true then gh m r Kg λex r' => dG DJ id (ex r')
 else .error (60,(pk r).2.1)
def nX:Nat->List Tk->PR
 |0=>fT none
 |m+1=>fT (some (yV (nX m)))
abbrev Pm:=List (Nat×ByteArray×Ex)×Ex
def Yb:ByteArray:=⟨#[108,101,116]⟩
def eqB:ByteArray:=⟨#[61]⟩
def smB:ByteArray:=⟨#[59]⟩
def lR(ex:List Tk->PR):Nat->List (Nat×ByteArray×Ex)->List Tk->Except (Int×Nat) (Pm×List Tk)
 |0,ds,r=>.error (60,(pk r).2.1)
 | n+1,ds,r=>
  if (pk r).1=1/\(pk r).2.2=Yb then
   if ¬ (pk r.tail).1=1\/¬ qH (pk r.tail).2.2=0 then .error (60,(pk r.tail).2.1)
   else if jJ r.tail.tail eqB=false then .error (60,(pk r.tail.tail).2.1)
   else match ex r.tail.tail.tail with
    |.error e=>.error e
    |.ok (x,r')=>if jJ r' smB=false then .error (60,(pk r').2.1)
     else lR ex n (ds++[((pk r.tail).2.1,(pk r.tail).2.2,x)]) r'.tail
  else match ex r with
   |.error e=>.error e
   |.ok (x,r')=>if (pk r').1=0 then .ok ((ds,x),r') else .error (60,(pk r').2.1)
def tU(s:ByteArray):Except (Int×Nat) Pm:=
 if (cQ s).2.1=0 then match lR (yV (nX 64)) (cQ s).1.length [] (cQ s).1 with
  |.error e=>.error e
  |.ok (p,_)=>.ok p
 else .error ((cQ s).2.1,(cQ s).2.2)
def jF(r:List Tk):Prop:=∃ l e,r=l++[e]/\e.1=0/\∀ t∈l,t.1≠0
theorem jF.ne{r:List Tk}(h:jF r):r≠[]:=by
 obtain⟨l,e,rfl,_⟩:=h;simp
theorem jF.tail{r:List Tk}(h:jF r)(hk:(pk r).1≠0):jF r.tail/\r=pk r::r.tail:=by
 obtain⟨l,e,rfl,h0,hl⟩:=h;cases l with
 |nil=>exact absurd h0 hk
 |cons t l=>exact⟨⟨l,e,rfl,h0,λt ht=>hl t (List.mem_cons_of_mem _ ht)⟩,rfl⟩
theorem jF.pos{r:List Tk}(h:jF r):1<=r.length:=by
 obtain⟨l,e,rfl,_⟩:=h;simp
def Left(r r' : List Tk)(n:Nat):Prop:=jF r' /\ r' <:+ r/\r'.length+n<=r.length
theorem Left.refl{r:List Tk}(h:jF r):Left r r 0:=⟨h,List.suffix_refl _,Nat.le_refl _⟩
theorem Left.trans{r r' r2:List Tk}{n m:Nat}(h:Left r r' n)(h' : Left r' r2 m):Left r r2 (n+m):=⟨h'.1,h'.2.1.trans h.2.1,by have:=h.2.2;have:=h'.2.2;omega⟩
theorem Left.zG{r r' : List Tk}{n m:Nat}(h:Left r r' n)(hm:m<=n):Left r r' m:=⟨h.1,h.2.1,by have:=h.2.2;omega⟩
theorem Left.next{r:List Tk}(h:jF r)(hk:(pk r).1≠0):Left r r.tail 1:=by
 obtain⟨h1,h2⟩:=h.tail hk;refine⟨h1,List.tail_suffix r,?_⟩;have:=h.pos;rw[List.length_tail];omega
theorem kP{r:List Tk}{m:ByteArray}(h:jJ r m=true):(pk r).1≠0:=by
 unfold jJ at h;simp at h;omega
def jG(sub:List Tk->PR)(n:Nat):Prop:=∀ r,jF r->∀ a r',sub r=.ok (a,r')->Left r r' n
theorem Be{sub:List Tk->PR}(h:jG sub 1)(lev:Int):∀ n a r,jF r->∀ b r',qu sub lev n a r=.ok (b,r')->Left r r' 0
 |0,a,r,hr,b,r',he=>by
  cases he;exact .refl hr
 | n+1,a,r,hr,b,r',he=>by
  rw[qu]at he;split at he
  ·rename_i hc;have h1:=Left.next hr oM
   split at he
   ·cases he
   ·rename_i x r2 hs;have h2:=h _ h1.1 _ _ hs;exact ((h1.trans h2).trans (Be h lev n _ _ h2.1 _ _ he)).zG oM
  ·cases he;exact .refl hr
theorem TK{sub:List Tk->PR}(h:jG sub 1)(lev:Int):jG (zv sub lev) 1:=λr hr a r' he=>by
 unfold zv at he;split at he
 ·cases he
 ·rename_i x r2 hs;have h2:=h _ hr _ _ hs;exact (h2.trans (Be h lev _ _ _ h2.1 _ _ he)).zG oM
theorem ET:∀ n a r,jF r->Left r (zz n a r).2 0
 |0,a,r,hr=>.refl hr
 | n+1,a,r,hr=>by
  rw[zz];split
  ·rename_i hc;have hk:(pk r).1≠0:=by
    simp only[Bool.or_eq_true]at hc;rcases hc with (hc|hc)|hc<;>exact kP hc
   have h1:=Left.next hr hk
   exact (h1.trans (ET n _ _ h1.1)).zG oM
  ·exact .refl hr
theorem Od{atom:List Tk->PR}(h:jG atom 1):jG (rz atom) 1:=λr hr a r' he=>by
 unfold rz at he;split at he
 ·cases he
 ·rename_i x r2 hs;have h2:=h _ hr _ _ hs;simp only[Except.ok.injEq]at he;have h3:=ET r2.length x r2 h2.1;rw[he]at h3;exact h2.trans h3
theorem om{atom:List Tk->PR}(h:jG atom 1):∀ k,jG (Gt atom k) 1
 |0=>Od h
 |k+1=>TK (om h k) _
theorem An{ex:List Tk->PR}(h:jG ex 1):∀ n k l r,jF r->∀ a r',nW ex n k l r=.ok (a,r')->Left r r' 0
 |0,k,l,r,hr,a,r',he=>by
  cases he;exact .refl hr
 | n+1,k,l,r,hr,a,r',he=>by
  rw[nW]at he;split at he
  ·cases he
  ·rename_i hc;have h1:Left r (if 0<k then r.tail else r) 0:=by
    split
    ·rename_i hk;have:jJ r coB=true:=by
      cases hm:jJ r coB with
      |true=>rfl
      |false=>exact absurd ⟨hk,hm⟩ hc
     exact (Left.next hr (kP this)).zG oM
    ·exact .refl hr
   split at he
   ·cases he
   ·rename_i x r2 hs;have h2:=h _ h1.1 _ _ hs;exact ((h1.trans h2).trans (An h n _ _ _ h2.1 _ _ he)).zG oM
theorem x9{m:ByteArray}{f:Ex->Ex}{q:PR}{r:List Tk}{n:Nat}(h:∀ a r',q=.ok (a,r')->Left r r' n){a:Ex}{r' : List Tk}(he:dG m f q=.ok (a,r')):Left r r' (n+1):=by
 cases q with
 |error e=>cases he
 | ok p=>
  obtain⟨x,r2⟩:=p;have he' : (if jJ r2 m=true then (.ok (f x,r2.tail):PR) else .error (60,(pk r2).2.1))=.ok (a,r'):=he;by_cases hm:jJ r2 m=true
  ·rw[if_pos hm]at he';cases he';have h1:=h _ _ rfl;exact h1.trans (Left.next h1.1 (kP hm))
  ·rw[if_neg hm]at he';cases he'
theorem yD{m:Option (List Tk->PR)}(hm:∀ ex,m=some ex->jG ex 1):jG (fT m) 1:=λr hr a r' he=>by
 have key:∀ {r1:List Tk} {b:ByteArray} {go:(List Tk->PR)->List Tk->PR} {n:Nat},Left r r1 n->gh m r1 b go=.ok (a,r')->∃ ex,jG ex 1/\Left r r1.tail (n+1)/\go ex r1.tail=.ok (a,r'):=λ{r1 b go n} h1 h=>by
  unfold gh at h;split at h
  ·rename_i hb;cases m with
   |none=>cases h
   |some ex=>exact⟨ex,hm ex rfl,h1.trans (Left.next h1.1 (kP hb)),h⟩
  ·cases h
 unfold fT at he;split at he
 ·cases he;exact Left.next hr oM
 split at he
 ·cases he;exact Left.next hr oM
 split at he
 ·rename_i hc;obtain⟨ex,h1,h2,h3⟩:=key (Left.next hr oM) he;exact (x9 (λx r2 hs=>h2.trans (An h1 _ _ _ _ h2.1 _ _ hs)) h3).zG oM
 split at he
 ·cases he;exact Left.next hr oM
 split at he
 ·obtain⟨ex,h1,h2,h3⟩:=key (.refl hr) he;exact (x9 (λx r2 hs=>h2.trans (h1 _ h2.1 _ _ hs)) h3).zG oM
 split at he
 ·obtain⟨ex,h1,h2,h3⟩:=key (.refl hr) he;exact (x9 (λx r2 hs=>h2.trans (h1 _ h2.1 _ _ hs)) h3).zG oM
 ·cases he
theorem kr:∀ m,jG (nX m) 1
 |0=>yD λex h=>by cases h
 |m+1=>yD λex h=>by
  cases h;exact om (kr m) 5
theorem Rc(s:ByteArray):∀ (n i:Nat) (l:List Tk),(∀ t∈l,t.1≠0)->(Mu s n i l).2.1=0->jF (Mu s n i l).1
 |0,i,l,hl,h=>⟨l,(0,s.size,mX),rfl,rfl,hl⟩
 | n+1,i,l,hl,h=>by
  rw[Mu]at h ⊢;split
  ·rename_i hi;rw[if_pos hi]at h;split
   ·rename_i h0;rw[if_pos h0]at h;refine Rc s n _ _ (λt ht=>?_) h;rcases List.mem_append.1 ht with ht|ht
    ·exact hl t ht
    ·rw[List.mem_singleton.1 ht];unfold cJ at h0 ⊢
     repeat' (split at h0<;>rename_i hh<;>(first|rw[if_pos hh]|rw[if_neg hh]))
     all_goals first|(intro hc;cases hc;done)|(exfalso;simp at h0;done)|(dsimp only;omega)
   ·rename_i h0;rw[if_neg h0]at h;exact absurd h h0
  ·exact⟨l,(0,s.size,mX),rfl,rfl,hl⟩
theorem ZA{s:ByteArray}(h:(cQ s).2.1=0):jF (cQ s).1:=by
 unfold cQ at h ⊢;split
 ·rename_i h4;rw[if_pos h4]at h;cases h
 ·rename_i h4;rw[if_neg h4]at h;exact Rc s _ _ _ (λt ht=>by cases ht) h
end
end Go.Proofs.YtnemkecffmdlnaaGreatDoor
namespace Go.Proofs
section
open Go.Shelf
def Tryz.JR:Go.Shelf.Ren:=⟨λ| 144=>213|143=>85|219=>144|217=>189|225=>197|224=>198|267=>199|266=>231|314=>242|n=>n,λ| 9=>9|4=>4|3=>3|5=>5|46=>158|146=>348|51=>335|n=>n,λ| 1=>1|n=>n⟩
theorem Tryz.adA:Go.Proofs.Lays.n144 Tryz.prog Tryz.JR:={
 mixed:=by kernel_rfl
 f143:=Tryz.func85.trans (congrArg some (by kernel_rfl))
 f144:=Tryz.func213.trans (congrArg some (by kernel_rfl))
 f217:=Tryz.func189.trans (congrArg some (by kernel_rfl))
 f219:=Tryz.func144.trans (congrArg some (by kernel_rfl))
 f224:=Tryz.func198.trans (congrArg some (by kernel_rfl))
 f225:=Tryz.func197.trans (congrArg some (by kernel_rfl))
 f266:=Tryz.func231.trans (congrArg some (by kernel_rfl))
 f267:=Tryz.func199.trans (congrArg some (by kernel_rfl))
 f314:=Tryz.func242.trans (congrArg some (by kernel_rfl))
 t3:=Tryz.underlying3
 a3:=Tryz.isAgg3
 z3:=Tryz.sizeOf3
 v3:=Tryz.zeroValue3
 t4:=Tryz.underlying4
 a4:=Tryz.isAgg4
 z4:=Tryz.sizeOf4
 v4:=Tryz.zeroValue4
 t5:=Tryz.underlying5
 a5:=Tryz.isAgg5
 z5:=Tryz.sizeOf5
 v5:=Tryz.zeroValue5
 t9:=Tryz.underlying9
 a9:=Tryz.isAgg9
 z9:=Tryz.sizeOf9
 v9:=Tryz.zeroValue9
 t46:=Tryz.underlying158
 a46:=Tryz.isAgg158
 z46:=Tryz.sizeOf158
 v46:=Tryz.zeroValue158
 t51:=Tryz.underlying335
 a51:=Tryz.isAgg335
 z51:=Tryz.sizeOf335
 v51:=Tryz.zeroValue335
 t146:=Tryz.underlying348
 a146:=Tryz.isAgg348
 z146:=Tryz.sizeOf348
 v146:=Tryz.zeroValue348
 g1:=by kernel_rfl }
open Go.RowKit Go.Lib in
open Go.RowKit Go.Lib in
theorem Tryz.strings_Contains(s sub:ByteArray)(m:Int)(w:World)(hs:s.size<4294967281)(hm:w.cell? ⟨1,0,none⟩=some (.int .i64 m)) :
  Calls Tryz.prog 213 #[.string s,.string sub] w λe w' => e=.returned (.bool (Lib.contains s.data.toList sub.data.toList))/\w' = w:=Any.strings_Contains Tryz.adA s sub m w hs hm
end
end Go.Proofs
namespace Go.Proofs.YtnemkecffmdlnaaGreatDoor
section
open Go.RowKit Go.LE Go.Proofs.Tryz
set_option maxRecDepth 10000
def Af(W:World)(S:Nat->Prop):Prop:=S 1/\∃ m:Int,W.cell? ⟨1,0,none⟩=some (.int .i64 m)
def IT(W:World)(S:Nat->Prop):Prop:=S 2/\W.cell? ⟨2,0,none⟩=some (.string (xV 0))/\W.cell? ⟨2,0+1,none⟩=some (.string (xV 1))/\W.cell? ⟨2,0+1+1,none⟩=some (.string (xV 2))/\W.cell? ⟨2,0+1+1+1,none⟩=some (.string (xV 3))/\W.cell? ⟨2,0+1+1+1+1,none⟩=some (.string (xV 4))
theorem Af.mono{W W' : World}{S S' : Nat->Prop}(h:Af W S)(hs:aX W S W' S'):Af W' S' := by
 obtain⟨h0,m,h1⟩:=h;have:=XC.mono (b:=1) (o:=0) (v:=.int .i64 m) ⟨h0,h1⟩ hs;exact⟨this.1,m,this.2⟩
theorem IT.mono{W W' : World}{S S' : Nat->Prop}(h:IT W S)(hs:aX W S W' S'):IT W' S' := by
 obtain⟨h0,h1,h2,h3,h4,h5⟩:=h;have g:∀ o v,W.cell? ⟨2,o,none⟩=some v->W'.cell? ⟨2,o,none⟩=some v/\S' 2:=λo v hv=>by
  have:=XC.mono (b:=2) (o:=o) (v:=v) ⟨h0,hv⟩ hs;exact⟨this.2,this.1⟩
 exact⟨(g _ _ h1).2,(g _ _ h1).1,(g _ _ h2).1,(g _ _ h3).1,(g _ _ h4).1,(g _ _ h5).1⟩
def e8(W:World)(S:Nat->Prop):Prop:=Af W S/\IT W S
theorem e8.mono{W W' : World}{S S' : Nat->Prop}(h:e8 W S)(hs:aX W S W' S'):e8 W' S' := ⟨h.1.mono hs,h.2.mono hs⟩
theorem e8.fK{W w:World}{bs fp:List Nat}(h:e8 W (Out bs))(hk:LE.an W bs w)(hm:∀ b∈fp,W.heap.size<=b\/b∈bs):e8 w (Out fp):=
 h.mono λb hb hs=>⟨hk.block b hb hs,λhb' => (hm b hb').elim (λg=>absurd g (Nat.not_le.2 hb)) hs⟩
def acT:aY prog 213 where
 pre:=λW bs=>λ| [.val (.string s),.val (.string p)]=>s.size<4294967281/\Af W (Out bs)|_=>False
 res:=λW=>λ| [.val (.string s),.val (.string p)]=>.bool (Lib.contains s.data.toList p.data.toList)|_=>undef
 enters:=call213
 ok:=by
  intro W w bs us as_ hk hu hp;split at hp
  ·rename_i s p
   match us,hu with
   |[u0,u1],hu=>
    obtain⟨rfl,rfl,_⟩:=hu;obtain⟨m,hm⟩:=(hp.2.mono (S' := Out []) (λb hb hs=>⟨hk.block b hb hs,by simp[Out]⟩)).2;exact (Tryz.strings_Contains s p m w hp.1 hm).mono λe w' ⟨he,hw⟩=>⟨he,by rw[hw];exact LE.an.refl w []⟩
  ·exact hp.elim
theorem W5(W:World)(s:ByteArray)(p:ByteArray):acT.res W [.val (.string s),.val (.string p)]=.bool (Lib.contains s.data.toList p.data.toList):=rfl
theorem WZ(W:World)(bs:List Nat)(s:ByteArray)(p:ByteArray):acT.pre W bs [.val (.string s),.val (.string p)]=(s.size<4294967281/\Af W (Out bs)):=rfl
noncomputable def iJ:Env prog:=⟨λ| 213=>some acT.spec|_=>none,λ| _=>none,λ_ _=>none⟩
theorem abp:iJ.sp 213=some acT.spec:=rfl
def ld:=(ae @List.replicate_succ.{0} @List.replicate_zero.{0} @au @ab kH kI kK (ae c8 da db dc dn dr dt (ae du ew ez eA eB eC eD (ae aax aay aaz aaA @aV @aw @aD (fP @aG @W5 @WZ abp)))))
theorem Ze(s:ByteArray)(w:World)(hg:e8 w (Out [])):Calls prog 171 #[.string s] w λe w' => e=.returned (.int .i64 (rkE s))/\LE.an w [] w' := by
 obtain⟨h0,h1,h2,h3,h4,h5⟩:=hg.2;refine ai (nt:=28) [.tmp 2] func171 rfl rfl rfl ?_;refine vR iJ ld ?_;refine Wp.seq ?_;refine vR iJ (sn ld h1 h2 h3 h4 h5) ?_;refine Wp.block ?_
 refine Wp.loop (λk:Nat=>⟨20,dZ [(0,.is (.v (.string s))),(5,.is (.agg [.v (.string (xV 0)),.v (.string (xV 1)),.v (.string (xV 2)),.v (.string (xV 3)),.v (.string (xV 4))])),(6,.is (.v (.int .i64 (k:Nat))))],dM []⟩) (λk=>k<=5/\∀ i<k,rkB s i=false) (λk=>5-k) 0 ?_ ⟨dE,λi h=>by omega⟩ ?_
 ·exact wM (λk=>.key k) (aa ld @Int.natCast_zero)
 rintro k ⟨k1,k2⟩;refine vR iJ ld ?_;refine Wp.seq ?_;refine wC ld (λhc=>?_) (λhc=>?_)
 ·have hk:k<5:=by
   simp at hc;omega
  clear hc;have wk:IntKind.i64.wrap ((k:Int)+1)=((k+1:Nat):Int):=wW;refine wK ?_;refine Wp.seq (Wp.block ?_)
  refine gR ⟨40,dZ [(3,.is (.v (.int .i64 (k:Nat)))),(4,.is (.v (.string (xV k)))),(0,.is (.v (.string s))),(5,.is (.agg [.v (.string (xV 0)),.v (.string (xV 1)),.v (.string (xV 2)),.v (.string (xV 3)),.v (.string (xV 4))])),(6,.is (.v (.int .i64 (k:Nat))))],dM []⟩ ?_ ?_
  ·have e0:((0:Nat):Int)=0:=rfl;have e1:((1:Nat):Int)=1:=rfl;have e2:((2:Nat):Int)=2:=rfl;have e3:((3:Nat):Int)=3:=rfl;have e4:((4:Nat):Int)=4:=rfl;rcases (show k=0\/k=1\/k=2\/k=3\/k=4 by omega) with rfl|rfl|rfl|rfl|rfl
   ·skip;refine wr iJ (aa ld e0) ?_ ?_
    ·first|trivial|decide|omega
    exact wM (λk=>.key k) (aa ld e0)
   ·skip;refine wr iJ (aa ld e1) ?_ ?_
    ·first|trivial|decide|omega
    exact wM (λk=>.key k) (aa ld e1)
   ·skip;refine wr iJ (aa ld e2) ?_ ?_
    ·first|trivial|decide|omega
    exact wM (λk=>.key k) (aa ld e2)
   ·skip;refine wr iJ (aa ld e3) ?_ ?_
    ·first|trivial|decide|omega
    exact wM (λk=>.key k) (aa ld e3)
   ·skip;refine wr iJ (aa ld e4) ?_ ?_
    ·first|trivial|decide|omega
    exact wM (λk=>.key k) (aa ld e4)
  have hz:(xV k).size<4294967281:=by
   unfold xV;split<;>decide
  have hb:rkB s k=((!decide (s=⟨#[]⟩)&&Lib.contains (xV k).data.toList s.data.toList)&&(decide ((s.size:Int)=2)||!decide (xV k=⟨#[62,62]⟩))):=rfl;generalize xV k=p at *;refine wR iJ ld ?_ ?_
  ·exact λ_=>⟨hz,hg.1⟩
  refine wC ld (λhc=>?_) (λhc=>?_)
  ·have e:rkE s=(k:Nat):=by
    unfold rkE;rw[SZ (rkB s) 5 k hk k2 (hb.trans hc)]
   rw[e];refine vR iJ ld ?_;refine wZ ld ?_;exact λE=>rfl
  refine wK ?_;refine vr iJ (aa ld wk) ?_;refine⟨k+1,⟨oM,λi hi=>?_⟩,oM,?_⟩
  ·rcases Nat.lt_or_ge i k with h|h
   ·exact k2 i h
   ·obtain rfl:i=k:=oM;rw[hb];exact hc
  ·exact wM (λk=>.key k) ld
 ·have hk:k=5:=by
   simp at hc;omega
  subst hk;have e:rkE s=-1:=by
   unfold rkE;rw[JB (rkB s) 5 k2]
  rw[e];refine wE ?_;refine vR iJ ld ?_;refine wZ ld ?_;exact λE=>rfl
def EX:aY prog 171 where
 pre:=λW bs=>λ| [.val (.string s)]=>e8 W (Out bs)|_=>False
 res:=λW=>λ| [.val (.string s)]=>.int .i64 (rkE s)|_=>undef
 enters:=call171
 ok:=by
  intro W w bs us as_ hk hu hp;split at hp
  ·rename_i s
   match us,hu with
   |[u0],hu=>
    obtain⟨rfl,_⟩:=hu;exact Ze s w (hp.mono (λb hb hs=>⟨hk.block b hb hs,by simp[Out]⟩))
  ·exact hp.elim
theorem xU(W:World)(s:ByteArray):EX.res W [.val (.string s)]=.int .i64 (rkE s):=rfl
theorem xS(W:World)(bs:List Nat)(s:ByteArray):EX.pre W bs [.val (.string s)]=(e8 W (Out bs)):=rfl
def eH:=(br ld @xU @xS)
theorem Sg(s:ByteArray)(w:World):Calls prog 112 #[.string s] w λe w' => e=.returned (.int .i64 (qH s))/\LE.an w [] w' := by
 refine ai (nt:=19) [.tmp 2] func112 rfl rfl rfl ?_;refine vR iJ eH ?_;refine Wp.seq ?_;refine vR iJ eH ?_;refine Wp.block ?_
 refine gR ⟨60,dZ [(0,.is (.v (.string s))),(3,.is (.v (.string s))),(4,.is (.v (.bool (decide (s=⟨#[99,111,112,121]⟩\/s=⟨#[107,101,121]⟩\/s=⟨#[105,110,115]⟩\/s=⟨#[105,100]⟩\/s=⟨#[102,111,108,100]⟩)))))],dM []⟩ ?_ ?_
 ·skip;refine vR iJ eH ?_;refine wC eH (λhc=>?_) (λhc=>?_)
  ·have h:s=⟨#[99,111,112,121]⟩:=of_decide_eq_true hc;have e:decide (s=⟨#[99,111,112,121]⟩\/s=⟨#[107,101,121]⟩\/s=⟨#[105,110,115]⟩\/s=⟨#[105,100]⟩\/s=⟨#[102,111,108,100]⟩)=true:=decide_eq_true (Or.inl h);refine wK ?_;exact wM (λk=>.key k) (br eH e hc)
  have n0:¬ s=⟨#[99,111,112,121]⟩:=of_decide_eq_false hc;clear hc;refine vR iJ eH ?_;refine wC eH (λhc=>?_) (λhc=>?_)
  ·have h:s=⟨#[107,101,121]⟩:=of_decide_eq_true hc;have e:decide (s=⟨#[99,111,112,121]⟩\/s=⟨#[107,101,121]⟩\/s=⟨#[105,110,115]⟩\/s=⟨#[105,100]⟩\/s=⟨#[102,111,108,100]⟩)=true:=decide_eq_true (Or.inr (Or.inl h));refine wK ?_;exact wM (λk=>.key k) (br eH e hc)
  have n1:¬ s=⟨#[107,101,121]⟩:=of_decide_eq_false hc;clear hc;refine vR iJ eH ?_;refine wC eH (λhc=>?_) (λhc=>?_)
  ·have h:s=⟨#[105,110,115]⟩:=of_decide_eq_true hc;have e:decide (s=⟨#[99,111,112,121]⟩\/s=⟨#[107,101,121]⟩\/s=⟨#[105,110,115]⟩\/s=⟨#[105,100]⟩\/s=⟨#[102,111,108,100]⟩)=true:=decide_eq_true (Or.inr (Or.inr (Or.inl h)));refine wK ?_;exact wM (λk=>.key k) (br eH e hc)
  have n2:¬ s=⟨#[105,110,115]⟩:=of_decide_eq_false hc;clear hc;refine vR iJ eH ?_;refine wC eH (λhc=>?_) (λhc=>?_)
  ·have h:s=⟨#[105,100]⟩:=of_decide_eq_true hc;have e:decide (s=⟨#[99,111,112,121]⟩\/s=⟨#[107,101,121]⟩\/s=⟨#[105,110,115]⟩\/s=⟨#[105,100]⟩\/s=⟨#[102,111,108,100]⟩)=true:=decide_eq_true (Or.inr (Or.inr (Or.inr (Or.inl h))));refine wK ?_;exact wM (λk=>.key k) (br eH e hc)
  have n3:¬ s=⟨#[105,100]⟩:=of_decide_eq_false hc;clear hc
  have e:decide (s=⟨#[99,111,112,121]⟩\/s=⟨#[107,101,121]⟩\/s=⟨#[105,110,115]⟩\/s=⟨#[105,100]⟩\/s=⟨#[102,111,108,100]⟩)=decide (s=⟨#[102,111,108,100]⟩):=by simp only[eq_false n0,false_or,eq_false n1,false_or,eq_false n2,false_or,eq_false n3,false_or]
  refine vr iJ eH ?_;exact wM (λk=>.key k) (aa eH e)
 refine wC eH (λhc=>?_) (λhc=>?_)
 ·have h:s=⟨#[99,111,112,121]⟩\/s=⟨#[107,101,121]⟩\/s=⟨#[105,110,115]⟩\/s=⟨#[105,100]⟩\/s=⟨#[102,111,108,100]⟩:=of_decide_eq_true hc;have e:qH s=1:=by unfold qH;rw[if_pos h]
  rw[e];refine vR iJ eH ?_;refine wZ eH ?_;exact λE=>rfl
 have m1:¬ (s=⟨#[99,111,112,121]⟩\/s=⟨#[107,101,121]⟩\/s=⟨#[105,110,115]⟩\/s=⟨#[105,100]⟩\/s=⟨#[102,111,108,100]⟩):=of_decide_eq_false hc;clear hc
 refine gR ⟨60,dZ [(0,.is (.v (.string s))),(3,.is (.v (.string s))),(10,.is (.v (.bool (decide (s=⟨#[100,101,108]⟩\/s=⟨#[108,101,102,116]⟩\/s=⟨#[114,105,103,104,116]⟩\/s=⟨#[100,101,102,97,117,108,116]⟩)))))],dM []⟩ ?_ ?_
 ·skip;refine vR iJ eH ?_;refine wC eH (λhc=>?_) (λhc=>?_)
  ·have h:s=⟨#[100,101,108]⟩:=of_decide_eq_true hc;have e:decide (s=⟨#[100,101,108]⟩\/s=⟨#[108,101,102,116]⟩\/s=⟨#[114,105,103,104,116]⟩\/s=⟨#[100,101,102,97,117,108,116]⟩)=true:=decide_eq_true (Or.inl h);refine wK ?_;exact wM (λk=>.key k) (br eH e hc)
  have n0:¬ s=⟨#[100,101,108]⟩:=of_decide_eq_false hc;clear hc;refine vR iJ eH ?_;refine wC eH (λhc=>?_) (λhc=>?_)
  ·have h:s=⟨#[108,101,102,116]⟩:=of_decide_eq_true hc;have e:decide (s=⟨#[100,101,108]⟩\/s=⟨#[108,101,102,116]⟩\/s=⟨#[114,105,103,104,116]⟩\/s=⟨#[100,101,102,97,117,108,116]⟩)=true:=decide_eq_true (Or.inr (Or.inl h));refine wK ?_;exact wM (λk=>.key k) (br eH e hc)
  have n1:¬ s=⟨#[108,101,102,116]⟩:=of_decide_eq_false hc;clear hc;refine vR iJ eH ?_;refine wC eH (λhc=>?_) (λhc=>?_)
  ·have h:s=⟨#[114,105,103,104,116]⟩:=of_decide_eq_true hc;have e:decide (s=⟨#[100,101,108]⟩\/s=⟨#[108,101,102,116]⟩\/s=⟨#[114,105,103,104,116]⟩\/s=⟨#[100,101,102,97,117,108,116]⟩)=true:=decide_eq_true (Or.inr (Or.inr (Or.inl h)));refine wK ?_;exact wM (λk=>.key k) (br eH e hc)
  have n2:¬ s=⟨#[114,105,103,104,116]⟩:=of_decide_eq_false hc;clear hc
  have e:decide (s=⟨#[100,101,108]⟩\/s=⟨#[108,101,102,116]⟩\/s=⟨#[114,105,103,104,116]⟩\/s=⟨#[100,101,102,97,117,108,116]⟩)=decide (s=⟨#[100,101,102,97,117,108,116]⟩):=by simp only[eq_false n0,false_or,eq_false n1,false_or,eq_false n2,false_or]
  refine vr iJ eH ?_;exact wM (λk=>.key k) (aa eH e)
 refine wC eH (λhc=>?_) (λhc=>?_)
 ·have h:s=⟨#[100,101,108]⟩\/s=⟨#[108,101,102,116]⟩\/s=⟨#[114,105,103,104,116]⟩\/s=⟨#[100,101,102,97,117,108,116]⟩:=of_decide_eq_true hc;have e:qH s=2:=by unfold qH;rw[if_neg m1,if_pos h]
  rw[e];refine vR iJ eH ?_;refine wZ eH ?_;exact λE=>rfl
 have m2:¬ (s=⟨#[100,101,108]⟩\/s=⟨#[108,101,102,116]⟩\/s=⟨#[114,105,103,104,116]⟩\/s=⟨#[100,101,102,97,117,108,116]⟩):=of_decide_eq_false hc;clear hc;refine vR iJ eH ?_;refine wC eH (λhc=>?_) (λhc=>?_)
 ·have h:s=⟨#[110,111,114,109]⟩:=of_decide_eq_true hc;have e:qH s=3:=by unfold qH;rw[if_neg m1,if_neg m2,if_pos h]
  rw[e];refine vR iJ eH ?_;refine wZ eH ?_;exact λE=>rfl
 have m3:¬ s=⟨#[110,111,114,109]⟩:=of_decide_eq_false hc;clear hc;refine vR iJ eH ?_;refine wC eH (λhc=>?_) (λhc=>?_)
 ·have h:s=⟨#[108,101,116]⟩:=of_decide_eq_true hc;have e:qH s=-1:=by unfold qH;rw[if_neg m1,if_neg m2,if_neg m3,if_pos h]
  rw[e];refine vR iJ eH ?_;refine wZ eH ?_;exact λE=>rfl
 have m4:¬ s=⟨#[108,101,116]⟩:=of_decide_eq_false hc;have e:qH s=0:=by unfold qH;rw[if_neg m1,if_neg m2,if_neg m3,if_neg m4]
 rw[e];refine wK ?_;refine vR iJ eH ?_;refine wZ eH ?_;exact λE=>rfl
def wY:aY prog 112 where
 pre:=λW bs=>λ| [.val (.string s)]=>True|_=>False
 res:=λW=>λ| [.val (.string s)]=>.int .i64 (qH s)|_=>undef
 enters:=call112
 ok:=by
  intro W w bs us as_ hk hu hp;split at hp
  ·rename_i s
   match us,hu with
   |[u0],hu=>
    obtain⟨rfl,_⟩:=hu;exact Sg s w
  ·exact hp.elim
theorem oW(W:World)(s:ByteArray):wY.res W [.val (.string s)]=.int .i64 (qH s):=rfl
theorem oV(W:World)(bs:List Nat)(s:ByteArray):wY.pre W bs [.val (.string s)]=(True):=rfl
structure Pb where
 b:Nat
 o:Nat
 c:Nat
 L:List Tk
def Pb.at(q:Pb)(r:List Tk):Nat:=q.o+3*(q.L.length-r.length)
def Pb.sl(q:Pb)(r:List Tk):Value:=.slice (some ⟨q.b,q.at r,none⟩) r.length (q.c-(q.L.length-r.length))
def oz(q:Pb)(r:List Tk)(op:Nat):List AV:=[.val (q.sl r),.val (.int .i64 (op:Nat))]
def Pb.ok(q:Pb)(W:World)(S:Nat->Prop):Prop:=jC W S (some ⟨q.b,q.o,none⟩) (wO q.L)/\q.L.length<=q.c/\q.L.length<=1000000
theorem Pb.ok.Bp{q:Pb}{W W' : World}{S S' : Nat->Prop}(h:q.ok W S)(hs:aX W S W' S'):q.ok W' S' := ⟨h.1.mono hs,h.2⟩
def Z2(t:Tk):Value:=.agg #[.int .i64 t.1,.int .i64 (t.2.1:Nat),.string t.2.2]
theorem Lr{W:World}{S:Nat->Prop}{b o:Nat}:∀ {L:List Tk} {r:List Tk},jC W S (some ⟨b,o,none⟩) (wO L)->r <:+ L->r≠[] ->
  W.cell? ⟨b,o+3*(L.length-r.length),none⟩=some (.int .i64 (pk r).1)/\W.cell? ⟨b,o+3*(L.length-r.length)+1,none⟩=some (.int .i64 ((pk r).2.1:Nat))/\W.cell? ⟨b,o+3*(L.length-r.length)+1+1,none⟩=some (.string (pk r).2.2):=by
 intro L r h hr hne;obtain⟨p,rfl⟩:=hr;obtain⟨t,r,rfl⟩:∃ t r',r=t::r' := by
  cases r with
  |nil=>exact absurd rfl hne
  |cons t r=>exact⟨t,r,rfl⟩
 have hl:(p++t::r).length-(t::r).length=p.length:=by
  rw[List.length_append];omega
 rw[hl];have hv:wO (p++t::r)=wO p++([.int .i64 t.1,.int .i64 (t.2.1:Nat),.string t.2.2]++wO r):=by
  unfold wO;rw[List.flatMap_append,List.flatMap_cons]
 have hp:=vK p;rw[hv]at h;rcases h with h|⟨b',o',he,hc⟩
 ·exact absurd (congrArg List.length h) sI
 ·cases he;have g:∀ j v,([.int .i64 t.1,.int .i64 (t.2.1:Nat),.string t.2.2]:List Value)[j]?=some v->W.cell? ⟨b,o+(3*p.length+j),none⟩=some v:=λj v hv=>by
   have hj:j<3:=by
    rcases Nat.lt_or_ge j 3 with h|h
    ·exact h
    ·rw[List.getElem?_eq_none (by simpa using h)]at hv;cases hv
   have:=(hc (3*p.length+j) (by rw[List.length_append,List.length_append,hp];simp only[List.length_cons,List.length_nil];omega)).2;rw[this]
   congr 1
   have h2:(wO p++([.int .i64 t.1,.int .i64 (t.2.1:Nat),.string t.2.2]++wO r))[3*p.length+j]?=some v:=by
    rw[List.getElem?_append_right oM,hp,show 3*p.length+j-p.length*3=j by omega,List.getElem?_append_left (by simpa using hj)];exact hv
   rw[List.getElem?_eq_getElem (by rw[List.length_append,List.length_append,hp];simp only[List.length_cons,List.length_nil];omega)]at h2;exact Option.some.inj h2
  refine⟨?_,?_,?_⟩
  ·have:=g 0 _ rfl
   rwa [Nat.add_zero]at this
  ·exact g 1 _ rfl
  ·exact g 2 _ rfl
theorem EU{w:World}{u:Value}{fp:List Nat}{q:Pb}{r:List Tk}{op:Nat}(h:aW w u fp 143 (oz q r op)) :
  ∃ b,u=.pointer (some ⟨b,0,none⟩)/\w.cell? ⟨b,0,none⟩=some (q.sl r)/\w.cell? ⟨b,0+1,none⟩=some (.int .i64 (op:Nat)):=by
 obtain⟨b,us,h1,h2,h3⟩:=xJ h
 match us,h2 with
 |[x,y],h2=>
  obtain⟨rfl,rfl,_⟩:=h2;exact⟨b,h1,h3 0 sI,h3 1 sI⟩
def acF:=(ae @List.replicate_succ.{0} @List.replicate_zero.{0} @au @ab kH kI kK (ae c8 da db dc dn dr dt (ae du ew ez eA eB eC eD (ae IC ID IE IF oL oN oO (ae oP um uo uq ur uu uv (ae uw ux uy uz HS HT HU (ae HV tX tY tZ ua ub uc (ae ud ue uf ui uj p9 qc (ae qd qe qf qg qh qi @aV (br @aw @aD @aG))))))))))
theorem FC(q:Pb)(r:List Tk)(b:Nat)(w:World)(hq:q.ok w (Out []))(hr:r <:+ q.L)(hne:r≠[])(g1:w.cell? ⟨b,0,none⟩=some (q.sl r)) :
  Calls prog 110 #[.pointer (some ⟨b,0,none⟩)] w λe w' => e=.returned (Z2 (pk r))/\an w [] w' := by
 obtain⟨x1,x2,x3⟩:=Lr hq.1 hr hne;have hat:q.o+3*(q.L.length-r.length)=q.at r:=rfl;rw[hat]at x1 x2 x3;unfold Pb.sl at g1;have hl:0<r.length:=by
  rcases r with _|⟨t,r⟩
  ·exact absurd rfl hne
  ·simp
 refine ai (nt:=9) [.cell 2 225] func110 rfl rfl rfl ?_;refine vR Γ0 acF ?_;refine wR Γ0 (qG acF g1 x1 x2 x3) ?_ ?_
 ·omega
 refine wZ acF ?_;exact λE=>rfl
def Pb.st(q:Pb)(W:World)(S:Nat->Prop)(r:List Tk):Prop:=q.ok W S/\r <:+ q.L/\jF r
theorem Pb.st.bS{q:Pb}{r:List Tk}{W W' : World}{S S' : Nat->Prop}(h:q.st W S r)(hs:aX W S W' S'):q.st W' S' r:=⟨h.1.Bp hs,h.2⟩
def fO(q:Pb)(r:List Tk)(op:Nat):yz prog 110 where
 T:=143
 pre:=λW bs fs as_=>(fs=oz q r op/\as_=[])/\q.st W (Out bs) r
 res:=λW fs as_=>Z2 (pk r)
 enters:=call110
 ok:=by
  intro W w bs u fp us fs as_ hk ho hu hp;obtain⟨⟨rfl,rfl⟩,h1,h2,h3⟩:=hp
  match us,hu with
  |[],_=>
   obtain⟨b,rfl,g1,g2⟩:=EU ho;exact FC q r b w (h1.Bp λb hb hs=>⟨hk.block b hb hs,by simp[Out]⟩) h2 h3.ne g1
def P9(q:Pb)(r:List Tk)(b:Nat):aY prog 110 where
 pre:=λW bs as_=>as_=[.val (.pointer (some ⟨b,0,none⟩))]/\(b∉bs/\W.cell? ⟨b,0,none⟩=some (q.sl r))/\q.st W (Out bs) r
 res:=λW as_=>Z2 (pk r)
 enters:=call110
 ok:=by
  intro W w bs us as_ hk hu hp;obtain⟨rfl,⟨g0,g1⟩,h1,h2,h3⟩:=hp
  match us,hu with
  |[x],hu=>
   obtain⟨rfl,_⟩:=hu;have hs:aX W (Out bs) w (Out []):=λb hb hs=>⟨hk.block b hb hs,by simp[Out]⟩
   exact FC q r b w (h1.Bp hs) h2 h3.ne (XC.mono (b:=b) (o:=0) ⟨g0,g1⟩ hs).2
section
variable (q:Pb)(r:List Tk)(b:Nat)
noncomputable def akY:Env prog:=⟨λ| 110=>some (P9 q r b).spec|_=>none,λ_=>none,λ_ _=>none⟩
theorem abq:(akY q r b).sp 110=some (P9 q r b).spec:=rfl
end
def acG:=(qG acF @abq @P9.eq_1 @oz.eq_1 @Z2.eq_1)
theorem ae1(q:Pb)(r:List Tk)(m:ByteArray)(b:Nat)(w:World)(hq:q.st w (Out []) r)(g1:w.cell? ⟨b,0,none⟩=some (q.sl r)) :
  Calls prog 169 #[.pointer (some ⟨b,0,none⟩),.string m] w λe w' => e=.returned (.bool (jJ r m))/\an w [] w' := by
 have hb:b∉([]:List Nat):=by simp
 refine ai (nt:=16) [.tmp 4] func169 rfl rfl rfl ?_;refine vR Γ0 acG ?_;refine wR (akY q r b) acG ?_ ?_
 ·exact⟨⟨g1,hq⟩,λ_=>⟨g1,hq⟩⟩
 refine wZ acG ?_;exact λE=>rfl
def uB(q:Pb)(r:List Tk)(op:Nat):yz prog 169 where
 T:=143
 pre:=λW bs fs as_=>(fs=oz q r op/\∃ m,as_=[.val (.string m)])/\q.st W (Out bs) r
 res:=λW fs as_=>match as_ with
  |[.val (.string m)]=>.bool (jJ r m)
  |_=>undef
 enters:=call169
 ok:=by
  intro W w bs u fp us fs as_ hk ho hu hp;obtain⟨⟨rfl,m,rfl⟩,h1⟩:=hp
  match us,hu with
  |[x],hu=>
   obtain⟨rfl,_⟩:=hu;obtain⟨b,rfl,g1,g2⟩:=EU ho;exact ae1 q r m b w (h1.bS λb hb hs=>⟨hk.block b hb hs,by simp[Out]⟩) g1
section
variable (q:Pb)(r:List Tk)(op:Nat)
noncomputable def ajB:Env prog:=⟨λ| 110=>some (fO q r op).spec|169=>some (uB q r op).spec|_=>none,λ_=>none,λ_ _=>none⟩
theorem abr:(ajB q r op).sp 110=some (fO q r op).spec:=rfl
theorem abt:(ajB q r op).sp 169=some (uB q r op).spec:=rfl
end
theorem acA{q:Pb}{r:List Tk}(hr:r <:+ q.L)(h:jF r)(hk:(pk r).1≠0):q.at r+3=q.at r.tail/\r.length-1=r.tail.length/\(q.c-(q.L.length-r.length))-1=q.c-(q.L.length-r.tail.length):=by
 have h1:=h.pos;have h2:=hr.length_le;have h3:=List.length_tail (l:=r);unfold Pb.at;refine⟨oM,oM,oM⟩
def I8:=(qG acG @abr @abt @fO.eq_1 @uB.eq_1)
theorem VV(q:Pb)(r:List Tk)(op:Nat)(u:Value)(fp:List Nat)(w:World)(hq:q.st w (Out fp) r)(hk:(pk r).1≠0)(ho:aW w u fp 143 (oz q r op))(hlt:∀ b∈fp,b<w.heap.size) :
  Calls prog 111 (#[u]++#[]) w λx w' => dA w u fp 143 x w' (.ret (Z2 (pk r)) (oz q r.tail op)):=by
 obtain⟨h1,h2,h3⟩:=hq;obtain⟨x1,x2,x3⟩:=Lr h1.1 h2 h3.ne;have hat:q.o+3*(q.L.length-r.length)=q.at r:=rfl;rw[hat]at x1 x2 x3;obtain⟨n1,n2,n3⟩:=acA h2 h3 hk;have hl:=h3.pos;have hle:=h2.length_le;have hc:=h1.2.1;have hout:¬ q.b∈fp:=by
  rcases h1.1 with h|⟨b',o',he,hx⟩
  ·have:=vK q.L;rw[h]at this;simp at this;omega
  ·cases he;exact (hx 0 (by rw[vK];omega)).1
 have hsl:Hw (some ⟨q.b,q.at r,none⟩) 1 3 (q.c-(q.L.length-r.length))=some ⟨q.b,q.at r.tail,none⟩:=by
  have:=(h3.tail hk).1.pos;unfold Hw;rw[if_neg oM,<- n1];rfl
 refine aN (nt:=19) #[] [.cell 2 225] (by show 2<=7;omega) ho hlt func111 rfl rfl rfl ?_;refine vR Γ0 (aa I8 @Pb.sl.eq_1) ?_;refine wR Γ0 (qG I8 x1 x2 x3 @Pb.sl.eq_1) ?_ ?_
 ·exact⟨oM,hout⟩
 refine wR Γ0 (aa I8 @Pb.sl.eq_1) ?_ ?_
 ·exact⟨oM,oM⟩
 refine vR Γ0 (aa I8 @Pb.sl.eq_1) ?_;refine wZ (qG I8 @Pb.sl.eq_1 hsl n2 n3) ?_;exact⟨_,_,rfl,λE=>rfl,_,_,rfl,(ev (aa I8 @aq)),dE⟩
def gS(q:Pb)(r:List Tk)(op:Nat):bI prog 111 where
 T:=143
 pre:=λW bs fs as_=>(fs=oz q r op/\as_=[])/\q.st W (Out bs) r/\(pk r).1≠0
 out:=λW fs as_=>.ret (Z2 (pk r)) (oz q r.tail op)
 enters:=call111
 ok:=by
  intro W w bs u fp us fs as_ hk ho hlt hmine hu hp;obtain⟨⟨rfl,rfl⟩,h1,h2⟩:=hp
  match us,hu with
  |[],_=>
   exact VV q r op u fp w (h1.bS λb hb hs=>⟨hk.block b hb hs,λhb' => (hmine b hb').elim (λg=>absurd g (Nat.not_le.2 hb)) hs⟩) h2 ho hlt
def Wc(c:Int)(r:List Tk):List PanicEntry:=bb c ((pk r).2.1:Nat)
theorem VU(q:Pb)(r:List Tk)(op:Nat)(c:Int)(u:Value)(fp:List Nat)(w:World)(hq:q.st w (Out fp) r)(ho:aW w u fp 143 (oz q r op))(hlt:∀ b∈fp,b<w.heap.size) :
  Calls prog 113 (#[u]++#[.int .i64 c]) w λx w' => dA w u fp 143 x w' (.pan (Wc c r) (.tuple #[])):=by
 refine aN (nt:=10) #[.int .i64 c] [] (by show 2<=7;omega) ho hlt func113 rfl rfl rfl ?_;refine Wp.dz (ajB q r op) aM (ev (fP I8 @Wc.eq_1 @bb.eq_1 @nS.eq_1)) ?_ ?_
 ·exact⟨dE,hq⟩
 refine qq ?_;exact⟨_,rfl⟩
def nO(q:Pb)(r:List Tk)(op:Nat):bI prog 113 where
 T:=143
 pre:=λW bs fs as_=>(fs=oz q r op/\∃ c,as_=[.val (.int .i64 c)])/\q.st W (Out bs) r
 out:=λW fs as_=>match as_ with
  |[.val (.int _ c)]=>.pan (Wc c r) (.tuple #[])
  |_=>.pan [] undef
 enters:=call113
 ok:=by
  intro W w bs u fp us fs as_ hk ho hlt hmine hu hp;obtain⟨⟨rfl,c,rfl⟩,h1⟩:=hp
  match us,hu with
  |[x],hu=>
   obtain⟨rfl,_⟩:=hu;exact VU q r op c u fp w (h1.bS λb hb hs=>⟨hk.block b hb hs,λhb' => (hmine b hb').elim (λg=>absurd g (Nat.not_le.2 hb)) hs⟩) ho hlt
section
variable (q:Pb)(r:List Tk)(op:Nat)
noncomputable def Qa:Env prog:=⟨λ| 110=>some (fO q r op).spec|169=>some (uB q r op).spec|111=>some (gS q r op).spec|113=>some (nO q r op).spec|_=>none,λ_=>none,λ_ _=>none⟩
theorem abu:(Qa q r op).sp 110=some (fO q r op).spec:=rfl
theorem abx:(Qa q r op).sp 169=some (uB q r op).spec:=rfl
theorem abv:(Qa q r op).sp 111=some (gS q r op).spec:=rfl
theorem abw:(Qa q r op).sp 113=some (nO q r op).spec:=rfl
end
def eE(q:Pb)(r:List Tk)(op op' : Nat)(m:ByteArray):BOut:=if jJ r m=true then .ret (.tuple #[]) (oz q r.tail op') else .pan (Wc 60 r) (.tuple #[])
def MH:=(IL I8 @abu @abx @abv @abw @gS.eq_1 @nO.eq_1)
theorem VW(q:Pb)(r:List Tk)(op:Nat)(m:ByteArray)(u:Value)(fp:List Nat)(w:World)(hq:q.st w (Out fp) r)(ho:aW w u fp 143 (oz q r op))(hlt:∀ b∈fp,b<w.heap.size) :
  Calls prog 114 (#[u]++#[.string m]) w λx w' => dA w u fp 143 x w' (eE q r op op m):=by
 refine aN (nt:=12) #[.string m] [] (by show 2<=7;omega) ho hlt func114 rfl rfl rfl ?_;refine Wp.seq ?_;refine wR (Qa q r op) MH ?_ ?_
 ·exact⟨dE,⟨_,rfl⟩,hq⟩
 refine wC MH (λhc=>?_) (λhc=>?_)
 ·have h:¬ jJ r m=true:=by simpa using hc
  rw[eE,if_neg h];refine Wp.dz (Qa q r op) aM (ev MH) ?_ ?_
  ·exact⟨⟨⟨_,rfl⟩,hq⟩,dE,λ_ h=>h.elim⟩
  refine qq ?_;exact⟨_,rfl⟩
 have h:jJ r m=true:=by simpa using hc
 rw[eE,if_pos h];refine wK ?_;refine wr (Qa q r op) MH ?_ ?_
 ·exact⟨⟨hq,kP h⟩,dE,λ_ h=>h.elim⟩
 refine wS MH ?_;exact⟨_,_,rfl,λE=>rfl,_,_,rfl,(ev (aa MH @aq)),dE⟩
theorem Ya{q:Pb}{r:List Tk}{W w:World}{bs fp:List Nat}(h:q.st W (Out bs) r)(hk:LE.an W bs w)(hm:∀ b∈fp,W.heap.size<=b\/b∈bs):q.st w (Out fp) r:=
 h.bS λb hb hs=>⟨hk.block b hb hs,λhb' => (hm b hb').elim (λg=>absurd g (Nat.not_le.2 hb)) hs⟩
def sf(q:Pb)(r:List Tk)(op:Nat):bI prog 114 where
 T:=143
 pre:=λW bs fs as_=>(fs=oz q r op/\∃ m,as_=[.val (.string m)])/\q.st W (Out bs) r
 out:=λW fs as_=>match as_ with
  |[.val (.string m)]=>eE q r op op m
  |_=>.pan [] undef
 enters:=call114
 ok:=by
  intro W w bs u fp us fs as_ hk ho hlt hmine hu hp;obtain⟨⟨rfl,m,rfl⟩,h1⟩:=hp
  match us,hu with
  |[x],hu=>
   obtain⟨rfl,_⟩:=hu;exact VW q r op m u fp w (Ya h1 hk hmine) ho hlt
section
variable (q:Pb)(r:List Tk)(op:Nat)
noncomputable def yx:Env prog:=⟨λ| 110=>some (fO q r op).spec|169=>some (uB q r op).spec|111=>some (gS q r op).spec|113=>some (nO q r op).spec|114=>some (sf q r op).spec|112=>some wY.spec|171=>some EX.spec|_=>none,λ_=>none,λ_ _=>none⟩
theorem aby:(yx q r op).sp 110=some (fO q r op).spec:=rfl
theorem abD:(yx q r op).sp 169=some (uB q r op).spec:=rfl
theorem abz:(yx q r op).sp 111=some (gS q r op).spec:=rfl
theorem abB:(yx q r op).sp 113=some (nO q r op).spec:=rfl
theorem abC:(yx q r op).sp 114=some (sf q r op).spec:=rfl
theorem abA:(yx q r op).sp 112=some wY.spec:=rfl
theorem abE:(yx q r op).sp 171=some EX.spec:=rfl
end
def DL(q:Pb)(r:List Tk)(op:Nat)(m:ByteArray):BOut:=if jJ r m=true/\64<=op then .pan (Wc 23 r) (.tuple #[]) else eE q r op (op+1) m
def w5:=(ae MH @aby @abD @abz @abB @abC @abA (sn @abE @sf.eq_1 @oW @oV @xU @xS))
theorem P7(q:Pb)(r:List Tk)(op:Nat)(m:ByteArray)(u:Value)(fp:List Nat)(w:World)(hq:q.st w (Out fp) r)(hop:op<=64)(ho:aW w u fp 143 (oz q r op))(hlt:∀ b∈fp,b<w.heap.size) :
  Calls prog 247 (#[u]++#[.string m]) w λx w' => dA w u fp 143 x w' (DL q r op m):=by
 have wo:IntKind.i64.wrap ((op:Int)+1)=((op+1:Nat):Int):=wW;refine aN (nt:=26) #[.string m] [] (by show 2<=7;omega) ho hlt func247 rfl rfl rfl ?_;refine Wp.seq ?_;refine wR (yx q r op) w5 ?_ ?_
 ·exact⟨dE,⟨_,rfl⟩,hq⟩
 refine wC w5 (λhc=>?_) (λhc=>?_)
 ·have h:jJ r m=true/\64<=op:=by
   simp at hc;exact⟨hc.1,oM⟩
  rw[DL,if_pos h];refine Wp.dz (yx q r op) aM (ev w5) ?_ ?_
  ·exact⟨⟨⟨_,rfl⟩,hq⟩,dE,λ_ h=>h.elim⟩
  refine qq ?_;exact⟨_,rfl⟩
 have h:¬ (jJ r m=true/\64<=op):=by
  rintro⟨h1,h2⟩;simp[h1]at hc;omega
 rw[DL,if_neg h];refine wK ?_;by_cases hm:jJ r m=true
 ·have hw:eE q r op op m=.ret (.tuple #[]) (oz q r.tail op):=by rw[eE,if_pos hm]
  have hw' : eE q r op (op+1) m=.ret (.tuple #[]) (oz q r.tail (op+1)):=by rw[eE,if_pos hm]
  rw[hw'];refine wR (yx q r op) (aa w5 hw) ?_ ?_
  ·exact⟨⟨⟨_,rfl⟩,hq⟩,dE,λ_ h=>h.elim⟩
  refine vr Γ0 (aa w5 wo) ?_;refine wS w5 ?_;exact⟨_,_,rfl,λE=>rfl,_,_,rfl,(ev (aa w5 @aq)),dE⟩
 ·have hw:eE q r op op m=.pan (Wc 60 r) (.tuple #[]):=by rw[eE,if_neg hm]
  have hw' : eE q r op (op+1) m=.pan (Wc 60 r) (.tuple #[]):=by rw[eE,if_neg hm]
  rw[hw'];refine Wp.bm (yx q r op) aM (ev (aa w5 hw)) ?_ ?_
  ·exact⟨⟨⟨_,rfl⟩,hq⟩,dE,λ_ h=>h.elim⟩
  refine qq ?_;exact⟨_,rfl⟩
def wB(q:Pb)(r:List Tk)(op:Nat):bI prog 247 where
 T:=143
 pre:=λW bs fs as_=>(fs=oz q r op/\∃ m,as_=[.val (.string m)])/\q.st W (Out bs) r/\op<=64
 out:=λW fs as_=>match as_ with
  |[.val (.string m)]=>DL q r op m
  |_=>.pan [] undef
 enters:=call247
 ok:=by
  intro W w bs u fp us fs as_ hk ho hlt hmine hu hp;obtain⟨⟨rfl,m,rfl⟩,h1,h2⟩:=hp
  match us,hu with
  |[x],hu=>
   obtain⟨rfl,_⟩:=hu;exact P7 q r op m u fp w (Ya h1 hk hmine) h2 ho hlt
theorem P8(q:Pb)(r:List Tk)(op:Nat)(m:ByteArray)(u:Value)(fp:List Nat)(w:World)(hq:q.st w (Out fp) r)(hop:op+1<=64)(ho:aW w u fp 143 (oz q r (op+1)))(hlt:∀ b∈fp,b<w.heap.size) :
  Calls prog 248 (#[u]++#[.string m]) w λx w' => dA w u fp 143 x w' (eE q r (op+1) op m):=by
 have wo:IntKind.i64.wrap (((op+1:Nat):Int)-1)=((op:Nat):Int):=wW;refine aN (nt:=14) #[.string m] [] (by show 2<=7;omega) ho hlt func248 rfl rfl rfl ?_;by_cases hm:jJ r m=true
 ·have hw:eE q r (op+1) (op+1) m=.ret (.tuple #[]) (oz q r.tail (op+1)):=by rw[eE,if_pos hm]
  have hw' : eE q r (op+1) op m=.ret (.tuple #[]) (oz q r.tail op):=by rw[eE,if_pos hm]
  rw[hw'];refine wR (yx q r (op+1)) (aa w5 hw) ?_ ?_
  ·exact⟨⟨⟨_,rfl⟩,hq⟩,dE,λ_ h=>h.elim⟩
  refine vr Γ0 (aa w5 wo) ?_;refine wS w5 ?_;exact⟨_,_,rfl,λE=>rfl,_,_,rfl,(ev (aa w5 @aq)),dE⟩
 ·have hw:eE q r (op+1) (op+1) m=.pan (Wc 60 r) (.tuple #[]):=by rw[eE,if_neg hm]
  have hw' : eE q r (op+1) op m=.pan (Wc 60 r) (.tuple #[]):=by rw[eE,if_neg hm]
  rw[hw'];refine Wp.bm (yx q r (op+1)) aM (ev (aa w5 hw)) ?_ ?_
  ·exact⟨⟨⟨_,rfl⟩,hq⟩,dE,λ_ h=>h.elim⟩
  refine qq ?_;exact⟨_,rfl⟩
def wD(q:Pb)(r:List Tk)(op:Nat):bI prog 248 where
 T:=143
 pre:=λW bs fs as_=>(fs=oz q r (op+1)/\∃ m,as_=[.val (.string m)])/\q.st W (Out bs) r/\op+1<=64
 out:=λW fs as_=>match as_ with
  |[.val (.string m)]=>eE q r (op+1) op m
  |_=>.pan [] undef
 enters:=call248
 ok:=by
  intro W w bs u fp us fs as_ hk ho hlt hmine hu hp;obtain⟨⟨rfl,m,rfl⟩,h1,h2⟩:=hp
  match us,hu with
  |[x],hu=>
   obtain⟨rfl,_⟩:=hu;exact P8 q r op m u fp w (Ya h1 hk hmine) h2 ho hlt
inductive nQ (W:World) (S:Nat->Prop):Bool->List Value->Ex->Prop where
 |name (a:Nat) (s:ByteArray):nQ W S true [.iface 205 (.agg #[.int .i64 (a:Nat),.string s])] (.name a s)
 |text (a:Nat) (s:ByteArray):nQ W S true [.iface 206 (.agg #[.int .i64 (a:Nat),.string s])] (.text a s)
 |rx (a:Nat) (s:ByteArray):nQ W S true [.iface 207 (.agg #[.int .i64 (a:Nat),.string s])] (.rx a s)
 |call (a:Nat) (s:ByteArray) (ao:Option Addr) (c:Nat) (vs:List Value) (l:Ex):jC W S ao vs->vs.length<=c->nQ W S false vs l->nQ W S true [.iface 219 (.agg #[.int .i64 (a:Nat),.string s,.slice ao vs.length c])] (.call a s l)
 |keyed (a:Nat) (v:Value) (x:Ex):nQ W S true [v] x->nQ W S true [.iface 209 (.agg #[.int .i64 (a:Nat),v])] (.keyed a x)
 |unary (a:Nat) (s:ByteArray) (v:Value) (x:Ex):nQ W S true [v] x->nQ W S true [.iface 212 (.agg #[.int .i64 (a:Nat),.string s,v])] (.unary a s x)
 |binary (a:Nat) (s:ByteArray) (v u:Value) (x y:Ex):nQ W S true [v] x->nQ W S true [u] y->nQ W S true [.iface 215 (.agg #[.int .i64 (a:Nat),.string s,v,u])] (.binary a s x y)
 |nil:nQ W S false [] .nil
 |cons (v:Value) (vs:List Value) (x l:Ex):nQ W S true [v] x->nQ W S false vs l->nQ W S false (v::vs) (.cons x l)
theorem nQ.mono{W W' : World}{S S' : Nat->Prop}{k:Bool}{vs:List Value}{x:Ex}(h:nQ W S k vs x)(hs:aX W S W' S'):nQ W' S' k vs x:=by
 induction h with
 |name a s=>exact .name a s
 |text a s=>exact .text a s
 |rx a s=>exact .rx a s
 |call a s ao c vs l h1 h2 _ ih=>exact .call a s ao c vs l (h1.mono hs) h2 ih
 |keyed a v x _ ih=>exact .keyed a v x ih
 |unary a s v x _ ih=>exact .unary a s v x ih
 |binary a s v u x y _ _ i1 i2=>exact .binary a s v u x y i1 i2
 |nil=>exact .nil
 |cons v vs x l _ _ i1 i2=>exact .cons v vs x l i1 i2
abbrev Ac (W:World)(S:Nat->Prop)(v:Value)(x:Ex):Prop:=nQ W S true [v] x
theorem nQ.iface{W:World}{S:Nat->Prop}{v:Value}{x:Ex}(h:Ac W S v x):∃ t u,v=.iface t u:=by
 cases h<;>exact⟨_,_,rfl⟩
theorem nQ.one{W:World}{S:Nat->Prop}{v:Value}{x:Ex}(h:Ac W S v x):v.oneCell' = true:=by
 obtain⟨t,u,rfl⟩:=h.iface;rfl
theorem nQ.hv{W:World}{S:Nat->Prop}{v:Value}{x:Ex}(h:Ac W S v x):hv v=v:=fz h.one
theorem nQ.parts{W:World}{S:Nat->Prop}{v:Value}{x:Ex}(h:Ac W S v x):partsOf (.v v)=[.v v]:=by
 obtain⟨t,u,rfl⟩:=h.iface;rfl
def exF(x:Ex):FK:=⟨λcs W S=>∃ v,cs=[v]/\Ac W S v x,λhs ⟨v,h1,h2⟩=>⟨v,h1,h2.mono hs⟩⟩
theorem ti{W:World}{S:Nat->Prop}{x:Ex}{cs:List Value}(h:(exF x).Φ cs W S):∃ v,cs=[v]/\Ac W S v x/\hv v=v:=by
 obtain⟨v,h1,h2⟩:=h;exact⟨v,h1,h2,h2.hv⟩
theorem sM{v:Value}(h:hv v=v):Sh.one.val [v]=v:=by
 show hv v=v;exact h
theorem ki{x:Ex}{W1:World}{bs1 fp:List Nat}{w:World}{S:Nat->Prop}{v:Value}{T:TypeId}{h:Hp}{vs:List SV}{fs' : List AV}{ks:List Nat}(hg:Ac W1 (bE (af w S fp) bs1) v x)
  (h0:h 0=some (.cells T vs)) (hv:aB h vs=some (fs',ks)) (hn:(0::ks).Nodup):Mx w S fp T W1 bs1 (.v v) h (.fact Sh.one (exF x) fs'):=
 ⟨⟨[v],λE=>(sM hg.hv).symm,v,rfl,hg⟩,vs,ks,h0,hv,hn⟩
def Ug(q:Pb)(op:Nat):PR->GOut
 |.ok (x,r)=>.fact Sh.one (exF x) (oz q r op)
 |.error (c,a)=>.pan (bb c (a:Nat)) .nilIface
theorem fg(q:Pb)(op:Nat)(x:Ex)(r:List Tk):Ug q op (.ok (x,r))=.fact Sh.one (exF x) (oz q r op):=rfl
theorem bj(q:Pb)(op:Nat)(c:Int)(a:Nat):Ug q op (.error (c,a))=.pan (bb c (a:Nat)) .nilIface:=rfl
def nV(f:FuncId)(as_:List Value)(op:Nat)(sub:List Tk->PR):Prop:=∀ (q:Pb) (r:List Tk) (u:Value) (fp:List Nat) (w:World) (S:Nat->Prop),q.st w S r->e8 w S->aW w u fp 143 (oz q r op)->(∀ b∈fp,b<w.heap.size)->(∀ b∈fp,¬ S b) ->
 Calls prog f (#[u]++as_.toArray) w λe w' => u4 w S u fp 143 e w' (Ug q op (sub r))
theorem AQ{w:World}{S:Nat->Prop}:∀ {as_ us:List Value},AP w S (as_.map λ_=>none) us (as_.map AV.val)->us=as_
 |[],[],_=>rfl
 |[],_::_,h=>h.elim
 |a::r,[],h=>h.elim
 |a::r,u::us,h=>by
  obtain⟨h1,h2⟩:=h;have h1:u=a:=h1;rw[h1,AQ h2]
def yc(f:FuncId)(as_:List Value)(op:Nat)(sub:List Tk->PR)(he:∀ args w,(callFunc f args).run prog w=.ok (.enter f args) w)(h:nV f as_ op sub)(q:Pb)(r:List Tk):uG prog f where
 T:=143
 kinds:=as_.map λ_=>none
 pre:=λfs bs_ W S=>(fs=oz q r op/\bs_=as_.map AV.val)/\q.st W S r/\e8 W S
 premono:=λfs bs_ W S W' S' hs ⟨h1,h2,h3⟩=>⟨h1,h2.bS hs,h3.mono hs⟩
 out:=λ_ _=>Ug q op (sub r)
 enters:=he
 ok:=by
  intro w S u fp us fs bs_ ho hlt hS hu hp;obtain⟨⟨rfl,rfl⟩,h1,h2⟩:=hp;obtain rfl:=AQ hu;have:=h q r u fp w S h1 h2 ho hlt hS;simpa using this
structure PI where
 W:World
 bs:List Nat
 v:Value
 x:Ex
 r:List Tk
 n:Nat
section
variable (G:Nat->Prop)(q:Pb)(r:List Tk)(op:Nat)(atom:List Tk->PR)(h:nV 212 [] op atom)
noncomputable def Mh:Env prog:=⟨λ| 110=>some (fO q r op).spec|169=>some (uB q r op).spec|111=>some (gS q r op).spec|212=>some ((yc 212 [] op atom call212 h q r).spec G)|_=>none,λ_=>none,λ_ _=>none⟩
theorem abF:(Mh G q r op atom h).sp 110=some (fO q r op).spec:=rfl
theorem abH:(Mh G q r op atom h).sp 169=some (uB q r op).spec:=rfl
theorem abG:(Mh G q r op atom h).sp 111=some (gS q r op).spec:=rfl
theorem abI:(Mh G q r op atom h).sp 212=some ((yc 212 [] op atom call212 h q r).spec G):=rfl
end
theorem Pb.st.out{q:Pb}{r:List Tk}{w:World}{S:Nat->Prop}{fp:List Nat}(h:q.st w (bE S fp) r):q.st w (Out fp) r:=h.bS λb _ hb=>⟨rfl,hb.2⟩
def w6:=(ae @List.replicate_succ.{0} @List.replicate_zero.{0} @au @ab kH kI kK (ae c8 da db dc dn dr dt (ae du ew ez eA eB eC eD (ae ny nz nA nB nC tX tY (ae tZ ua ub uc ud ue uf (ae ui uj Ct Cu Cv Cw Cx (ae Cy Cz CA CB CC p9 qc (ae qd qe qf qg qh qi @aV (ae @aw @aD @aG @eX @abF @abH @abG (ae @abI @fO.eq_1 @uB.eq_1 @gS.eq_1 @oz.eq_1 @Z2.eq_1 @yc.eq_1 (aa @fg @bj)))))))))))
theorem Y8(op:Nat)(atom:List Tk->PR)(hT:jG atom 1)(hA:nV 212 [] op atom):nV 170 [] op (rz atom):=by
 intro q r u fp w S hq hsy ho hlt hS;have u0:=af.up w S fp;have q0:=hq.bS (af.eO w S fp hS);have s0:=hsy.mono (af.eO w S fp hS);refine dh (nt:=27) S #[] [.tmp 2] (by show 2<=7;omega) ho hlt func170 rfl rfl rfl ?_;refine vR Γ0 w6 ?_;cases hF:atom r with
 |error e=>
  obtain⟨c,j⟩:=e;have hE:rz atom r=.error (c,j):=by rw[rz,hF]
  rw[hE,bj];refine Wp.bm (Mh (af w S fp) q r op atom hA) aM (ev (aa w6 hF)) ?_ ?_
  ·exact⟨⟨q0,s0⟩,dE,λ_ h=>h.elim⟩
  refine qq ?_;exact⟨_,rfl⟩
 | ok p=>
  obtain⟨x0,r0⟩:=p;have hL:=hT r hq.2.2 _ _ hF;have hE:rz atom r=.ok (zz r0.length x0 r0):=by rw[rz,hF]
  rw[hE];generalize hR:zz r0.length x0 r0=R;refine wR (Mh (af w S fp) q r op atom hA) (aa w6 hF) ?_ ?_
  ·exact⟨⟨q0,s0⟩,dE,(λ_ h=>h.elim),u0⟩
  refine Wp.cV 31 (ev w6) (aX.refl _ _) λW1 bs1 cs hx1 hΦ=>?_
  obtain⟨v0,rfl,hg0,hv0⟩:=ti hΦ;have q1:q.st W1 (bE (af w S fp) bs1) r0:=⟨(q0.bS hx1.dN).1,hL.2.1.trans hq.2.1,hL.1⟩;refine Wp.seq (Wp.block ?_);refine Wp.qv (λp:PI=>⟨20,dZ [(0,.is (.own 0 0)),(3,.is (.v p.v))],dM [(0,.cells 143 [.v (q.sl p.r),.v (.int .i64 (op:Nat))])]⟩)
   PI.W PI.bs (λp=>q.st p.W (bE (af w S fp) p.bs) p.r/\Ac p.W (bE (af w S fp) p.bs) p.v p.x/\p.r.length<=p.n/\zz p.n p.x p.r=R) (λp=>p.n) ⟨W1,bs1,v0,x0,r0,r0.length⟩ rfl rfl ?_ ⟨q1,hg0,Nat.le_refl _,hR⟩ ?_
  ·exact wM (λk=>.key k) (aa w6 hv0)
  rintro⟨W2,bs2,v,x,r2,n⟩ ⟨q2,hg,hn,hR2⟩ hx2;simp only at q2 hg hn hR2 hx2;dsimp only;have hpos:=q2.2.2.pos;obtain⟨n,rfl⟩:∃ m,n=m+1:=⟨n-1,oM⟩;refine Wp.seq ?_;refine wR (Mh (af w S fp) q r2 op atom hA) w6 ?_ ?_
  ·exact⟨⟨dE,⟨_,rfl⟩,q2.out⟩,λ_=>⟨dE,⟨_,rfl⟩,q2.out⟩,λ_=>⟨dE,⟨_,rfl⟩,q2.out⟩⟩
  refine wC w6 (λhc=>?_) (λhc=>?_)
  ·have h:((jJ r2 oJ||jJ r2 DV)||jJ r2 ah2)=true:=hc;rw[zz,if_pos h]at hR2;have hk:(pk r2).1≠0:=by
    simp only[Bool.or_eq_true]at h;rcases h with (h|h)|h<;>exact kP h
   refine wK ?_;refine Wp.block ?_;refine wR (Mh (af w S fp) q r2 op atom hA) w6 ?_ ?_
   ·exact⟨⟨q2.out,hk⟩,dE,λ_ h=>h.elim⟩
   refine vr Γ0 (aa w6 hg.parts) ?_;have hnx:=Left.next q2.2.2 hk
   refine⟨⟨W2,bs2,.iface 212 (.agg #[.int .i64 ((pk r2).2.1:Nat),.string (pk r2).2.2,v]),.unary (pk r2).2.1 (pk r2).2.2 x,r2.tail,n⟩,⟨⟨q2.1,hnx.2.1.trans q2.2.1,hnx.1⟩,.unary _ _ _ _ hg,by have:=hnx.2.2;dsimp only;omega,hR2⟩,by dsimp only;omega,rfl,rfl,?_⟩;exact wM (λk=>.key k) w6
  ·have h:((jJ r2 oJ||jJ r2 DV)||jJ r2 ah2)=false:=hc;rw[zz,if_neg (by rw[h];simp)]at hR2;rw[<- hR2,fg];refine wE ?_;refine vR Γ0 w6 ?_;refine wZ w6 ?_;exact ki hg rfl ((ev (aa w6 @aq))) dE
theorem gf(P:Program)(T:TypeId)(l:List SV):miK P T l none=⟨P.concrete T=true,.mU T (.agg l),[],none,[],[]⟩:=rfl
theorem eP(k i:Nat)(r:List SV):cS (.part k i::r)=none:=rfl
theorem Le.const{W:World}{bs:List Nat}{nt:Nat}{ds:Aux}{σ σ' : St}(t:Nat){x:SV}{v:Value}(hx:σ.φ t=.is x)(hc:cG x=some v)(h:Le W bs nt ds ⟨σ.n,bn σ.φ t (.is (.v v)),σ.h⟩ σ'):Le W bs nt ds σ σ' := by
 rintro a w ⟨⟨E,F,hφ,hs,hp⟩,h1,h2,h3,h4,h5⟩;refine h a w ⟨⟨E,F,λj=>?_,hs,hp⟩,h1,h2,h3,λj k hk=>?_,h5⟩
 ·show fits E (bn σ.φ t (.is (.v v)) j) _;by_cases hj:j=t
  ·subst hj;rw[ah];have:=hφ j;rw[hx]at this;rw[<- oY (E:=E) hc];exact this
  ·rw[al _ _ hj];exact hφ j
 ·show k / 8<σ.n;have hk:k∈(bn σ.φ t (.is (.v v)) j).keys:=hk;by_cases hj:j=t
  ·subst hj;rw[ah]at hk;cases hk
  ·rw[al _ _ hj]at hk;exact h4 j k hk
section
variable (G:Nat->Prop)(q:Pb)(r:List Tk)(op:Nat)(sub:List Tk->PR)(as_:List Value)(h:nV 170 [] op sub)(h' : nV 115 as_ op sub)
noncomputable def ajC:Env prog:=⟨λ| 170=>some ((yc 170 [] op sub call170 h q r).spec G)|_=>none,λ_=>none,λ_ _=>none⟩
noncomputable def D6:Env prog:=⟨λ| 110=>some (fO q r op).spec|111=>some (gS q r op).spec|171=>some EX.spec|115=>some ((yc 115 as_ op sub call115 h' q r).spec G)|_=>none,λ_=>none,λ_ _=>none⟩
theorem abJ:(ajC G q r op sub h).sp 170=some ((yc 170 [] op sub call170 h q r).spec G):=rfl
theorem abK:(D6 G q r op sub as_ h').sp 110=some (fO q r op).spec:=rfl
theorem abL:(D6 G q r op sub as_ h').sp 111=some (gS q r op).spec:=rfl
theorem abN:(D6 G q r op sub as_ h').sp 171=some EX.spec:=rfl
theorem abM:(D6 G q r op sub as_ h').sp 115=some ((yc 115 as_ op sub call115 h' q r).spec G):=rfl
end
theorem e8.out{w:World}{S:Nat->Prop}{fp:List Nat}(h:e8 w (bE S fp)):e8 w (Out fp):=h.mono λb _ hb=>⟨rfl,hb.2⟩
def jN:=(ae @List.replicate_succ.{0} @List.replicate_zero.{0} @au @ab kH kI kK (ae c8 da db dc dn dr dt (ae du ew ez eA eB eC eD (ae ny nz nA nB nC tX tY (ae tZ ua ub uc ud ue uf (ae ui uj CD CE CF CG CH (ae CI CJ CK CL CM CN p9 (ae qc qd qe qf qg qh qi (ae @gf @eP @aV @aw @aD @aG @eX (ae @abJ @abK @abL @abN @abM @fO.eq_1 @gS.eq_1 (IL @oz.eq_1 @Z2.eq_1 @yc.eq_1 @fg @bj @xU @xS)))))))))))
theorem Yc(op:Nat)(atom:List Tk->PR)(hA:nV 170 [] op (rz atom)):nV 115 [.int .i64 5] op (Gt atom 0):=by
 intro q r u fp w S hq hsy ho hlt hS;have u0:=af.up w S fp;have q0:=hq.bS (af.eO w S fp hS);have s0:=hsy.mono (af.eO w S fp hS);have hE:Gt atom 0 r=rz atom r:=rfl;rw[hE];refine dh (nt:=41) S #[.int .i64 5] [.tmp 4] (by show 2<=7;omega) ho hlt func115 rfl rfl rfl ?_;refine vR Γ0 jN ?_
 refine Wp.seq ?_;refine vR Γ0 jN ?_;refine wC jN (λhc=>?_) (λhc=>?_)
 rotate_left
 ·exact absurd hc sI
 cases hF:rz atom r with
 |error e=>
  obtain⟨c,j⟩:=e;rw[bj];refine Wp.bm (ajC (af w S fp) q r op (rz atom) hA) aM (ev (aa jN hF)) ?_ ?_
  ·exact⟨⟨q0,s0⟩,dE,λ_ h=>h.elim⟩
  refine qq ?_;exact⟨_,rfl⟩
 |ok p=>
  obtain⟨x0,r0⟩:=p;rw[fg];refine wR (ajC (af w S fp) q r op (rz atom) hA) (aa jN hF) ?_ ?_
  ·exact⟨⟨q0,s0⟩,dE,(λ_ h=>h.elim),u0⟩
  refine Wp.cV 47 (ev jN) (aX.refl _ _) λW1 bs1 cs hx1 hΦ=>?_
  obtain⟨v0,rfl,hg0,hv0⟩:=ti hΦ;refine wZ (aa jN hv0) ?_;exact ki hg0 rfl ((ev (aa jN @aq))) dE
theorem adC(op k:Nat)(hk:k<=4)(sub:List Tk->PR)(hT:jG sub 1)(hA:nV 115 [.int .i64 (5-(k:Nat))] op sub):nV 115 [.int .i64 (4-(k:Nat))] op (zv sub (4-(k:Nat))):=by
 intro q r u fp w S hq hsy ho hlt hS;have u0:=af.up w S fp;have q0:=hq.bS (af.eO w S fp hS);have s0:=hsy.mono (af.eO w S fp hS);have wl:IntKind.i64.wrap (4-(k:Int)+1)=5-(k:Nat):=wW;have hd:decide (4-(k:Int)=5)=false:=decide_eq_false oM
 refine dh (nt:=41) S #[.int .i64 (4-(k:Nat))] [.tmp 4] (by show 2<=7;omega) ho hlt func115 rfl rfl rfl ?_;refine vR Γ0 jN ?_;refine Wp.seq ?_;refine vR Γ0 (aa jN hd) ?_;refine wC jN (λhc=>?_) (λhc=>?_)
 ·exact absurd hc sI
 refine wK ?_;cases hF:sub r with
 |error e=>
  obtain⟨c,j⟩:=e;have hE:zv sub (4-(k:Nat)) r=.error (c,j):=by rw[zv,hF]
  rw[hE,bj];refine Wp.bm (D6 (af w S fp) q r op sub _ hA) aM (ev (br jN hF wl)) ?_ ?_
  ·exact⟨⟨q0,s0⟩,dE,λ_ h=>h.elim⟩
  refine qq ?_;exact⟨_,rfl⟩
 | ok p=>
  obtain⟨x0,r0⟩:=p;have hL:=hT r hq.2.2 _ _ hF;have hE:zv sub (4-(k:Nat)) r=qu sub (4-(k:Nat)) r0.length x0 r0:=by rw[zv,hF]
  rw[hE];generalize hR:qu sub (4-(k:Nat)) r0.length x0 r0=R;refine wR (D6 (af w S fp) q r op sub _ hA) (br jN hF wl) ?_ ?_
  ·exact⟨⟨q0,s0⟩,dE,(λ_ h=>h.elim),u0⟩
  refine Wp.cV 63 (ev jN) (aX.refl _ _) λW1 bs1 cs hx1 hΦ=>?_
  obtain⟨v0,rfl,hg0,hv0⟩:=ti hΦ;have q1:q.st W1 (bE (af w S fp) bs1) r0:=⟨(q0.bS hx1.dN).1,hL.2.1.trans hq.2.1,hL.1⟩;refine Wp.seq (Wp.block ?_)
  refine Wp.qv (λp:PI=>⟨20,dZ [(0,.is (.own 0 0)),(1,.is (.v (.int .i64 (4-(k:Nat))))),(5,.is (.v p.v))],dM [(0,.cells 143 [.v (q.sl p.r),.v (.int .i64 (op:Nat))])]⟩)
   PI.W PI.bs (λp=>q.st p.W (bE (af w S fp) p.bs) p.r/\e8 p.W (bE (af w S fp) p.bs)/\Ac p.W (bE (af w S fp) p.bs) p.v p.x/\p.r.length<=p.n/\qu sub (4-(k:Nat)) p.n p.x p.r=R) (λp=>p.n) ⟨W1,bs1,v0,x0,r0,r0.length⟩ rfl rfl ?_ ⟨q1,s0.mono hx1.dN,hg0,Nat.le_refl _,hR⟩ ?_
  ·exact wM (λk=>.key k) (aa jN hv0)
  rintro⟨W2,bs2,v,x,r2,n⟩ ⟨q2,s2,hg,hn,hR2⟩ hx2;simp only at q2 s2 hg hn hR2 hx2;dsimp only;have hx02:=hx1.trans hx2;have u2:=u0.ext hx02;have hpos:=q2.2.2.pos;obtain⟨n,rfl⟩:∃ m,n=m+1:=⟨n-1,oM⟩;rw[qu]at hR2;refine Wp.seq ?_;refine wR (D6 (af w S fp) q r2 op sub _ hA) jN ?_ ?_
  ·exact⟨⟨dE,q2.out⟩,λ_=>⟨dE,q2.out⟩,λ_=>s2.out⟩
  refine wC jN (λhc=>?_) (λhc=>?_)
  ·have h:(pk r2).1=4/\rkE (pk r2).2.2=4-(k:Nat):=by
    simp at hc;exact hc
   rw[if_pos h]at hR2;have hk0:(pk r2).1≠0:=oM;have hnx:=Left.next q2.2.2 hk0
   have q3:q.st W2 (bE (af w S fp) bs2) r2.tail:=⟨q2.1,hnx.2.1.trans q2.2.1,hnx.1⟩;refine wK ?_;refine Wp.block ?_;refine wR (D6 (af w S fp) q r2 op sub _ hA) jN ?_ ?_
   ·exact⟨⟨q2.out,hk0⟩,dE,λ_ h=>h.elim⟩
   cases hF2:sub r2.tail with
   |error e=>
    obtain⟨c,j⟩:=e;rw[hF2]at hR2;simp only at hR2;rw[<- hR2,bj];refine Wp.qx (D6 (af w S fp) q r2.tail op sub _ hA) aM (ev (fP jN hF2 wl hg.parts)) rfl (by kernel_rfl) ?_ ?_
    ·exact⟨⟨q3,s2⟩,dE,λ_ h=>h.elim⟩
    refine qq ?_;exact⟨_,rfl⟩
   |ok p=>
    obtain⟨y,r3⟩:=p;rw[hF2]at hR2;simp only at hR2;have hL2:=hT _ hnx.1 _ _ hF2;refine Wp.more ?_;refine IN (D6 (af w S fp) q r2.tail op sub _ hA) (fP jN hF2 wl hg.parts) ?_ ?_
    ·exact⟨⟨q3,s2⟩,dE,(λ_ h=>h.elim),u2⟩
    refine dd ?_;refine Pw.cV 359 (ev jN) (aX.refl _ _) λW3 bs3 cs hx3 hΦ3=>?_
    obtain⟨v3,rfl,hg3,hv3⟩:=ti hΦ3;refine Pw.here ?_;refine qq ?_
    refine⟨⟨W3,bs3,.iface 215 (.agg #[.int .i64 ((pk r2).2.1:Nat),.string (pk r2).2.2,v,v3]),.binary (pk r2).2.1 (pk r2).2.2 x y,r3,n⟩,⟨⟨(q2.bS hx3.dN).1,hL2.2.1.trans (hnx.2.1.trans q2.2.1),hL2.1⟩,s2.mono hx3.dN,.binary _ _ _ _ _ _ (hg.mono hx3.dN) hg3,by have:=hnx.2.2;have:=hL2.2.2;dsimp only;omega,hR2⟩,by dsimp only;omega,rfl,rfl,?_⟩
    refine Le.const 5 ((ev (aa jN hv3))) ((ev (aa jN hv3))) ?_;exact wM (λk=>.key k) (aa jN hv3)
  ·have h:¬ ((pk r2).1=4/\rkE (pk r2).2.2=4-(k:Nat)):=by
    intro h;simp at hc;exact hc h.1 h.2
   rw[if_neg h]at hR2;rw[<- hR2,fg];refine wE ?_;refine vR Γ0 jN ?_;refine wZ jN ?_;exact ki hg rfl ((ev (aa jN @aq))) dE
theorem QM(op:Nat)(atom:List Tk->PR)(hT:jG atom 1)(hA:nV 212 [] op atom):∀ k,k<=5->nV 115 [.int .i64 (5-(k:Nat))] op (Gt atom k)
 |0,_=>Yc op atom (Y8 op atom hT hA)
 |k+1,h=>by
  have:=adC op k oM (Gt atom k) (om hT k) (QM op atom hT hA k oM);rw[show (5-((k+1:Nat):Int))=4-(k:Nat) by omega];exact this
theorem Jz(op:Nat)(atom:List Tk->PR)(hT:jG atom 1)(hA:nV 212 [] op atom):nV 115 [.int .i64 0] op (yV atom):=QM op atom hT hA 5 (Nat.le_refl _)
def ahW(f:FuncId)(as_:List Value)(op:Nat)(sub:List Tk->PR)(P:List Tk->Prop):Prop:=∀ (q:Pb) (r:List Tk) (u:Value) (fp:List Nat) (w:World) (S:Nat->Prop),P r->q.st w S r->e8 w S->aW w u fp 143 (oz q r op)->(∀ b∈fp,b<w.heap.size)->(∀ b∈fp,¬ S b) ->
 Calls prog f (#[u]++as_.toArray) w λe w' => u4 w S u fp 143 e w' (Ug q op (sub r))
def ajd(f:FuncId)(as_:List Value)(op:Nat)(sub:List Tk->PR)(P:List Tk->Prop)(he:∀ args w,(callFunc f args).run prog w=.ok (.enter f args) w)(h:ahW f as_ op sub P)(q:Pb)(r:List Tk):uG prog f where
 T:=143
 kinds:=as_.map λ_=>none
 pre:=λfs bs_ W S=>(fs=oz q r op/\bs_=as_.map AV.val)/\P r/\q.st W S r/\e8 W S
 premono:=λfs bs_ W S W' S' hs ⟨h1,h0,h2,h3⟩=>⟨h1,h0,h2.bS hs,h3.mono hs⟩
 out:=λ_ _=>Ug q op (sub r)
 enters:=he
 ok:=by
  intro w S u fp us fs bs_ ho hlt hS hu hp;obtain⟨⟨rfl,rfl⟩,h0,h1,h2⟩:=hp;obtain rfl:=AQ hu;have:=h q r u fp w S h0 h1 h2 ho hlt hS;simpa using this
def qp(mo:Option (List Tk->PR))(r:List Tk):PR:=gh mo r.tail Kg λex r' => dG DJ (.call (pk r).2.1 (pk r).2.2) (nW ex (qH (pk r).2.2).toNat 0 .nil r')
def MoT(op:Nat)(mo:Option (List Tk->PR)):Prop:=op<=64/\(mo=none->op=64)/\∀ ex,mo=some ex->op<64/\jG ex 1/\nV 115 [.int .i64 0] (op+1) ex
section
variable (G:Nat->Prop)(q:Pb)(r:List Tk)(op:Nat)(sub:List Tk->PR)(h:nV 115 [.int .i64 0] op sub)
noncomputable def dS:Env prog:=⟨λ| 111=>some (gS q r op).spec|112=>some wY.spec|114=>some (sf q r op).spec|247=>some (wB q r op).spec|248=>some (wD q r op).spec|110=>some (fO q r op).spec|169=>some (uB q r op).spec|113=>some (nO q r op).spec|_=>none,λ_=>none,λ_ _=>none⟩
noncomputable def Dz:Env prog:=⟨λ| 115=>some ((yc 115 [.int .i64 0] op sub call115 h q r).spec G)|_=>none,λ_=>none,λ_ _=>none⟩
theorem Ds:(dS q r op).sp 111=some (gS q r op).spec:=rfl
theorem Dt:(dS q r op).sp 112=some wY.spec:=rfl
theorem Dv:(dS q r op).sp 114=some (sf q r op).spec:=rfl
theorem Dx:(dS q r op).sp 247=some (wB q r op).spec:=rfl
theorem Dy:(dS q r op).sp 248=some (wD q r op).spec:=rfl
theorem Dr:(dS q r op).sp 110=some (fO q r op).spec:=rfl
theorem Dw:(dS q r op).sp 169=some (uB q r op).spec:=rfl
theorem Du:(dS q r op).sp 113=some (nO q r op).spec:=rfl
theorem DA:(Dz G q r op sub h).sp 115=some ((yc 115 [.int .i64 0] op sub call115 h q r).spec G):=rfl
end
theorem aif{q:Pb}{r:List Tk}{op:Nat}{m:ByteArray}(h:jJ r m=false):DL q r op m=.pan (Wc 60 r) (.tuple #[]):=by
 unfold DL eE;rw[if_neg (by rw[h];simp),if_neg (by rw[h];simp)]
theorem AG{q:Pb}{r:List Tk}{m:ByteArray}(h:jJ r m=true):DL q r 64 m=.pan (Wc 23 r) (.tuple #[]):=by
 unfold DL;rw[if_pos ⟨h,Nat.le_refl _⟩]
theorem F8{q:Pb}{r:List Tk}{op:Nat}{m:ByteArray}(h:jJ r m=true)(ho:op<64):DL q r op m=.ret (.tuple #[]) (oz q r.tail (op+1)):=by
 unfold DL eE;rw[if_neg oM,if_pos h]
theorem oR{q:Pb}{r:List Tk}{op op' : Nat}{m:ByteArray}(h:jJ r m=true):eE q r op op' m=.ret (.tuple #[]) (oz q r.tail op'):=by rw[eE,if_pos h]
theorem sY{q:Pb}{r:List Tk}{op op' : Nat}{m:ByteArray}(h:jJ r m=false):eE q r op op' m=.pan (Wc 60 r) (.tuple #[]):=by rw[eE,if_neg (by rw[h];simp)]
theorem nQ.snc{W:World}{S:Nat->Prop}{v:Value}{x:Ex}(hx:Ac W S v x):∀ {k:Bool} {vs:List Value} {l:Ex},nQ W S k vs l->k=false->nQ W S false (vs++[v]) (Lh l x):=by
 intro k vs l h
 induction h with
 |nil=>exact λ_=>.cons _ _ _ _ hx .nil
 |cons v' vs x' l h1 h2 i1 i2=>exact λ_=>.cons _ _ _ _ h1 (i2 rfl)
 |_=>exact λe=>by cases e
structure PA where
 W:World
 bs:List Nat
 vs:List Value
 l:Ex
 r:List Tk
 k:Nat
 n:Nat
theorem ahc(s:ByteArray):qH s<=3:=by
 unfold qH
 repeat' split
 all_goals decide
def iV:=(ae @List.replicate_succ.{0} @List.replicate_zero.{0} @au @ab kH kI Ri (ae Rm RN kK c8 da db dc (ae dn dr dt du ew ez eA (ae eB eC eD ny nz nA nB (ae nC tX tY tZ ua ub uc (ae ud ue uf ui uj PW PX (ae PY PZ yh yi yj yk yl (ae ym yn yo yp yq p9 qc (ae qd qe qf qg qh qi @gf (ae @eP @aV @aw @aD @aG @eX @Ds (ae @Dt @Dv @Dx @Dy @Dr @Dw @Du (ae @DA @gS.eq_1 @sf.eq_1 @wB.eq_1 @wD.eq_1 @fO.eq_1 @uB.eq_1 (ae @nO.eq_1 @oW @oV @oz.eq_1 @Z2.eq_1 @yc.eq_1 @fg @bj)))))))))))))
theorem WN(op:Nat)(mo:Option (List Tk->PR))(hm:MoT op mo):ahW 246 [] op (qp mo) (λr=>(pk r).1=1/\0<qH (pk r).2.2):=by
 intro q r u fp w S hP hq hsy ho hlt hS;obtain⟨hop,hm0,hm1⟩:=hm;obtain⟨hP1,hP2⟩:=hP;have u0:=af.up w S fp;have q0:=hq.bS (af.eO w S fp hS);have s0:=hsy.mono (af.eO w S fp hS);have hk:(pk r).1≠0:=oM;have hnx:=Left.next hq.2.2 hk
 have q1:q.st w (bE (af w S fp) fp) r.tail:=⟨q0.1,hnx.2.1.trans q0.2.1,hnx.1⟩;refine dh (nt:=37) S #[] [.tmp 2] (by show 2<=7;omega) ho hlt func246 rfl rfl rfl ?_;refine vR Γ0 iV ?_;refine wR (dS q r op) iV ?_ ?_
 ·exact⟨⟨q0.out,hk⟩,dE,λ_ h=>h.elim⟩
 refine vR Γ0 iV ?_;by_cases hb:jJ r.tail Kg=true
 rotate_left
 ·have hb' : jJ r.tail Kg=false:=by simpa using hb
  have hE:qp mo r=.error (60,(pk r.tail).2.1):=by unfold qp gh;rw[if_neg hb]
  have hen:=aif (q:=q) (op:=op) hb';unfold Kg at hen;rw[hE,bj];refine Wp.bm (dS q r.tail op) aM (ev (aa iV hen)) ?_ ?_
  ·exact⟨⟨⟨_,rfl⟩,q1.out,hop⟩,dE,λ_ h=>h.elim⟩
  refine qq ?_;exact⟨_,rfl⟩
 cases mo with
 |none=>
  have ho64:=hm0 rfl;subst ho64;have hE:qp none r=.error (23,(pk r.tail).2.1):=by unfold qp gh;rw[if_pos hb]
  have hen:=AG (q:=q) hb;unfold Kg at hen;rw[hE,bj];refine Wp.bm (dS q r.tail 64) aM (ev (aa iV hen)) ?_ ?_
  ·exact⟨⟨⟨_,rfl⟩,q1.out⟩,dE,λ_ h=>h.elim⟩
  refine qq ?_;exact⟨_,rfl⟩
 | some ex=>
  obtain⟨hop2,hT,hA⟩:=hm1 ex rfl;have hE:qp (some ex) r=dG DJ (.call (pk r).2.1 (pk r).2.2) (nW ex (qH (pk r).2.2).toNat 0 .nil r.tail.tail):=by unfold qp gh;rw[if_pos hb]
  have hen:=F8 (q:=q) hb hop2;unfold Kg at hen;have hnx2:=Left.next q1.2.2 (kP hb)
  have q2:q.st w (bE (af w S fp) fp) r.tail.tail:=⟨q0.1,hnx2.2.1.trans q1.2.1,hnx2.1⟩;rw[hE];refine wR (dS q r.tail op) (aa iV hen) ?_ ?_
  ·exact⟨⟨⟨_,rfl⟩,q1.out,hop⟩,dE,λ_ h=>h.elim⟩
  refine Wp.seq ?_;refine vR (dS q r op) iV ?_;have ha3:=ahc (pk r).2.2;obtain⟨N,hN⟩:=Int.eq_ofNat_of_zero_le (show 0<=qH (pk r).2.2 by omega);rw[hN,Int.toNat_natCast];rw[hN]at ha3 hP2;generalize hR:nW ex N 0 .nil r.tail.tail=R;refine Wp.block ?_
  refine Wp.qv (λp:PA=>⟨60,dZ [(0,.is (.own 0 0)),(4,.is (.own 4 0)),(17,.is (.v (.int .i64 (N:Nat)))),(18,.is (.v (.int .i64 (p.k:Nat))))],dM [(0,.cells 143 [.v (q.sl p.r),.v (.int .i64 ((op+1:Nat):Int))]),(4,.cells 219 [.v (.int .i64 ((pk r).2.1:Nat)),.v (.string (pk r).2.2),.hd 5]),(5,.row 77 1 p.vs.length (p.vs.map .v))]⟩)
   PA.W PA.bs (λp=>q.st p.W (bE (af w S fp) p.bs) p.r/\e8 p.W (bE (af w S fp) p.bs)/\nQ p.W (bE (af w S fp) p.bs) false p.vs p.l/\(p.vs.length=p.k/\p.k+p.n=N)/\nW ex p.n p.k p.l p.r=R) (λp=>p.n) ⟨w,fp,[],.nil,r.tail.tail,0,N⟩ rfl rfl ?_ ⟨q2,s0,.nil,⟨rfl,Nat.zero_add N⟩,hR⟩ ?_
  ·exact wM (λk=>if k=4 then .key 88 else if k=5 then .nil else .key k) (br iV @Int.natCast_zero hN)
  rintro⟨W1,bs1,vs,l,r1,k,n⟩ ⟨q3,s3,hv,⟨hvk,hkn⟩,hR1⟩ hx1;simp only at q3 s3 hv hvk hkn hR1 hx1;dsimp only;have u1:=u0.ext hx1;refine vR Γ0 iV ?_;refine Wp.seq ?_;refine wC iV (λhc=>?_) (λhc=>?_)
  ·have hk1:k<N:=by
    simp at hc;omega
   clear hc;obtain⟨n,rfl⟩:∃ m,n=m+1:=⟨n-1,oM⟩;rw[nW]at hR1;have wk:IntKind.i64.wrap ((k:Int)+1)=((k+1:Nat):Int):=wW;refine wK ?_;refine Wp.seq (Wp.block ?_);refine vR Γ0 iV ?_
   refine Aa (λ_:Unit=>⟨80,dZ [(0,.is (.own 0 0)),(4,.is (.own 4 0)),(17,.is (.v (.int .i64 (N:Nat)))),(18,.is (.v (.int .i64 (k:Nat))))],dM [(0,.cells 143 [.v (q.sl (if 0<k then r1.tail else r1)),.v (.int .i64 ((op+1:Nat):Int))]),(4,.cells 219 [.v (.int .i64 ((pk r).2.1:Nat)),.v (.string (pk r).2.2),.hd 5]),(5,.row 77 1 vs.length (vs.map .v))]⟩) (λ_=>W1) (λ_=>bs1) (λ_=>0<k->jJ r1 coB=true) ?_ ?_
   ·skip;refine vR Γ0 iV ?_;refine wC iV (λhc=>?_) (λhc=>?_)
    ·have hkp:0<k:=by
      simp at hc;exact hc
     cases hcm:jJ r1 coB with
     |false=>
      rw[if_pos ⟨hkp,hcm⟩]at hR1;have hw:=sY (q:=q) (op:=op+1) (op' := op+1) hcm;unfold coB at hw;rw[<- hR1];show Wp prog W1 bs1 _ _ _ _ _;have hs1:dG DJ (.call (pk r).2.1 (pk r).2.2) (.error (60,(pk r1).2.1))=.error (60,(pk r1).2.1):=rfl;rw[hs1,bj]
      refine Wp.dz (dS q r1 (op+1)) aM (ev (aa iV hw)) ?_ ?_
      ·exact⟨⟨⟨_,rfl⟩,q3.out⟩,dE,λ_ h=>h.elim⟩
      refine qq ?_;exact⟨_,rfl⟩
     |true=>
      have hw:=oR (q:=q) (op:=op+1) (op' := op+1) hcm;unfold coB at hw;refine wr (dS q r1 (op+1)) (aa iV hw) ?_ ?_
      ·exact⟨⟨⟨_,rfl⟩,q3.out⟩,dE,λ_ h=>h.elim⟩
      refine⟨(),λ_=>rfl,rfl,rfl,?_⟩
      exact Le.mk (λk=>.key k) ⟨by simp[FV.keys,SV.keys,ay],by simp[a6.keys,ay,SV.keys,aR,aT]⟩ (by simp only[iC,Op.operands,Value.cells,σ0,σB,Nat.reduceEqDiff,Nat.reduceAdd,Nat.reduceMul,Nat.reduceLT,Nat.reduceLeDiff,Nat.reduceBEq,av,Int.reduceToNat,Int.reduceLT,Int.reduceLE,Nat.reduceDiv,Nat.reduceMod,Nat.reduceSub,Int.reducePow,Nat.reducePow,σP,σB3,iV,if_pos hkp,Gc,Ge,jW,y7]<;>trivial) (by simp only[iC,Op.operands,Value.cells,σ0,σB,Nat.reduceEqDiff,Nat.reduceAdd,Nat.reduceMul,Nat.reduceLT,Nat.reduceLeDiff,Nat.reduceBEq,av,Int.reduceToNat,Int.reduceLT,Int.reduceLE,Nat.reduceDiv,Nat.reduceMod,Nat.reduceSub,Int.reducePow,Nat.reducePow,σP,σB3,iV,if_pos hkp,vc,mQ,gY,gi,jE,jW]<;>trivial) (by simp[dQ]) sI
    ·have hkp:¬ 0<k:=by
      simp at hc;omega
     refine wK ?_;refine⟨(),λh=>absurd h hkp,rfl,rfl,?_⟩
     exact Le.mk (λk=>.key k) ⟨by simp[FV.keys,SV.keys,ay],by simp[a6.keys,ay,SV.keys,aR,aT]⟩ (by simp only[iC,Op.operands,Value.cells,σ0,σB,Nat.reduceEqDiff,Nat.reduceAdd,Nat.reduceMul,Nat.reduceLT,Nat.reduceLeDiff,Nat.reduceBEq,av,Int.reduceToNat,Int.reduceLT,Int.reduceLE,Nat.reduceDiv,Nat.reduceMod,Nat.reduceSub,Int.reducePow,Nat.reducePow,σP,σB3,iV,if_neg hkp,Gc,Ge,jW,y7]<;>trivial) (by simp only[iC,Op.operands,Value.cells,σ0,σB,Nat.reduceEqDiff,Nat.reduceAdd,Nat.reduceMul,Nat.reduceLT,Nat.reduceLeDiff,Nat.reduceBEq,av,Int.reduceToNat,Int.reduceLT,Int.reduceLE,Nat.reduceDiv,Nat.reduceMod,Nat.reduceSub,Int.reducePow,Nat.reducePow,σP,σB3,iV,if_neg hkp,vc,mQ,gY,gi,jE,jW]<;>trivial) (by simp[dQ]) sI
   rintro-hcm hx1';have hcn:¬ (0<k/\jJ r1 coB=false):=λ⟨h,h'⟩=>by
    rw[hcm h]at h';cases h'
   rw[if_neg hcn]at hR1;have hnx3:Left r1 (if 0<k then r1.tail else r1) 0:=by
    split
    ·rename_i h;exact (Left.next q3.2.2 (kP (hcm h))).zG oM
    ·exact .refl q3.2.2
   generalize (if 0<k then r1.tail else r1)=r2 at *;have q4:q.st W1 (bE (af w S fp) bs1) r2:=⟨q3.1,hnx3.2.1.trans q3.2.1,hnx3.1⟩;cases hF:ex r2 with
   |error e=>
    obtain⟨c,j⟩:=e;rw[hF]at hR1;simp only at hR1;have hs1:dG DJ (.call (pk r).2.1 (pk r).2.2) (.error (c,j))=.error (c,j):=rfl;rw[<- hR1,hs1,bj];refine Wp.qx (Dz (af w S fp) q r2 (op+1) ex hA) aM (ev (aa iV hF)) rfl (by kernel_rfl) ?_ ?_
    ·exact⟨⟨⟨q4,s3⟩,dE,λ_ h=>h.elim⟩,by unfold maxLen;omega,oM⟩
    refine qq ?_;exact⟨_,rfl⟩
   |ok p=>
    obtain⟨y,r3⟩:=p;rw[hF]at hR1;simp only at hR1;have hL2:=hT _ hnx3.1 _ _ hF;refine Wp.more ?_;refine IN (Dz (af w S fp) q r2 (op+1) ex hA) (aa iV hF) ?_ ?_
    ·exact⟨⟨⟨q4,s3⟩,dE,(λ_ h=>h.elim),u1⟩,by unfold maxLen;omega,oM⟩
    refine dd ?_;refine Pw.cV 671 (ev iV) (aX.refl _ _) λW3 bs3 cs hx3 hΦ3=>?_
    obtain⟨v3,rfl,hg3,hv3⟩:=ti hΦ3;refine Pw.here ?_;refine qq ?_;refine vr Γ0 (aa iV wk) ?_;have em:List.map SV.v vs++[.v v3]=List.map SV.v (vs++[v3]):=by simp
    have el:(vs++[v3]).length=vs.length+1:=by simp
    refine⟨⟨W3,bs3,vs++[v3],Lh l y,r3,k+1,n⟩,⟨⟨(q4.bS hx3.dN).1,hL2.2.1.trans q4.2.1,hL2.1⟩,s3.mono hx3.dN,nQ.snc hg3 (hv.mono hx3.dN) rfl,⟨by dsimp only;omega,by dsimp only;omega⟩,hR1⟩,by dsimp only;omega,rfl,rfl,?_⟩;exact wM (λk=>if k=5 then .key 680 else .key k) (fP iV hv3 em el)
  ·have hkN:k=N:=by
    simp at hc;omega
   obtain rfl:n=0:=oM;have hR2:R=.ok (l,r1):=hR1.symm;rw[hR2];refine wE ?_;cases hcl:jJ r1 DJ with
   | false=>
    have hs1:dG DJ (.call (pk r).2.1 (pk r).2.2) (.ok (l,r1))=.error (60,(pk r1).2.1):=by
     unfold dG;dsimp only;rw[if_neg (by rw[hcl];simp)]
    have hw:=sY (q:=q) (op:=op+1) (op' := op) hcl;unfold DJ at hw;rw[hs1,bj];refine Wp.bm (dS q r1 op) aM (ev (aa iV hw)) ?_ ?_
    ·exact⟨⟨⟨_,rfl⟩,q3.out,oM⟩,dE,λ_ h=>h.elim⟩
    refine qq ?_;exact⟨_,rfl⟩
   | true=>
    have hs1:dG DJ (.call (pk r).2.1 (pk r).2.2) (.ok (l,r1))=.ok (.call (pk r).2.1 (pk r).2.2 l,r1.tail):=by
     unfold dG;dsimp only;rw[if_pos hcl]
    have hw:=oR (q:=q) (op:=op+1) (op' := op) hcl;unfold DJ at hw;rw[hs1,fg];refine Wp.zk 5 (ev (aa iV @aS)) (λE=>by simp only[aj,den,aS];exact rfl) λW2 bs2 ao2 c2 hx2 hs2 hd2=>?_
    have u2:=u1.ext hx2;have q5:q.st W2 (bE (af w S fp) bs2) r1:=q3.bS hx2.dN;refine wR (dS q r1 op) (aa iV hw) ?_ ?_
    ·exact⟨⟨⟨_,rfl⟩,q5.out,oM⟩,dE,λ_ h=>h.elim⟩
    refine vR Γ0 iV ?_;refine wZ iV ?_;have hS2:jC W2 (bE (af w S fp) bs2) ao2 vs:=hs2.out λb hb=>⟨u1 b hb.2,hb.1⟩
    exact ki (.call (pk r).2.1 (pk r).2.2 ao2 c2 vs l hS2 hd2 (hv.mono hx2.dN)) rfl ((ev (aa iV @aq))) dE
section
variable (G:Nat->Prop)(q:Pb)(r:List Tk)(op:Nat)(sub:List Tk->PR)(h:ahW 246 [] op sub (λr=>(pk r).1=1/\0<qH (pk r).2.2))
noncomputable def ajD:Env prog:=⟨λ| 246=>some ((ajd 246 [] op sub _ call246 h q r).spec G)|_=>none,λ_=>none,λ_ _=>none⟩
theorem abO:(ajD G q r op sub h).sp 246=some ((ajd 246 [] op sub _ call246 h q r).spec G):=rfl
end
def cZ:=(ae @List.replicate_succ.{0} @List.replicate_zero.{0} @au @ab kH kI kK (ae c8 da db dc dn dr dt (ae du ew ez eA eB eC eD (ae oL oN oO oP ny nz nA (ae nB nC tX tY tZ ua ub (ae uc ud ue uf ui uj HW (ae HX HY HZ H0 H2 H3 H4 (ae H5 H6 H7 H8 H9 Ia Ib (ae Ic Ie Ig Ih Ii Ij Ik (ae Il Im Io Ip Iq Ir Is (ae It Iu Iv Iw Ix Iy Iz (ae p9 qc qd qe qf qg qh (ae qi @gf @eP @aV @aw @aD @aG (ae @eX @Ds @Dt @Dv @Dx @Dy @Dr (ae @Dw @Du @DA @abO @gS.eq_1 @sf.eq_1 @wB.eq_1 (ae @wD.eq_1 @fO.eq_1 @uB.eq_1 @nO.eq_1 @oW @oV @oz.eq_1 (qG @Z2.eq_1 @yc.eq_1 @ajd.eq_1 @fg @bj)))))))))))))))))
theorem Ef(op:Nat)(mo:Option (List Tk->PR))(hm:MoT op mo):nV 212 [] op (fT mo):=by
 intro q r u fp w S hq hsy ho hlt hS;have hcall:=WN op mo hm;obtain⟨hop,hm0,hm1⟩:=hm;have u0:=af.up w S fp;have q0:=hq.bS (af.eO w S fp hS);have s0:=hsy.mono (af.eO w S fp hS);have qo:=q0.out;refine dh (nt:=88) S #[] [.tmp 2] (by show 2<=7;omega) ho hlt func212 rfl rfl rfl ?_;refine vR Γ0 cZ ?_
 refine wR (dS q r op) cZ ?_ ?_
 ·exact⟨dE,qo⟩
 refine Wp.seq (Wp.block ?_);refine vR Γ0 cZ ?_;refine wC cZ (λhc=>?_) (λhc=>?_)
 ·have hk:(pk r).1=2:=by simpa using hc
  have hE:fT mo r=.ok (.text (pk r).2.1 (pk r).2.2,r.tail):=by unfold fT;rw[if_pos hk]
  rw[hE,fg];refine wR (dS q r op) cZ ?_ ?_
  ·exact⟨⟨qo,oM⟩,dE,λ_ h=>h.elim⟩
  refine vR Γ0 cZ ?_;refine wZ cZ ?_;exact ki (.text (pk r).2.1 (pk r).2.2) rfl ((ev (aa cZ @aq))) dE
 have n0:¬ (pk r).1=2:=by simpa using hc
 clear hc;refine vR Γ0 cZ ?_;refine wC cZ (λhc=>?_) (λhc=>?_)
 ·have hk:(pk r).1=3:=by simpa using hc
  have hE:fT mo r=.ok (.rx (pk r).2.1 (pk r).2.2,r.tail):=by unfold fT;rw[if_neg n0,if_pos hk]
  rw[hE,fg];refine wR (dS q r op) cZ ?_ ?_
  ·exact⟨⟨qo,oM⟩,dE,λ_ h=>h.elim⟩
  refine vR Γ0 cZ ?_;refine wZ cZ ?_;exact ki (.rx (pk r).2.1 (pk r).2.2) rfl ((ev (aa cZ @aq))) dE
 have n1:¬ (pk r).1=3:=by simpa using hc
 clear hc;refine vR (dS q r op) cZ ?_;refine wC cZ (λhc=>?_) (λhc=>?_)
 ·have hk:(pk r).1=1/\0<qH (pk r).2.2:=by
   simp at hc;exact hc
  have hE:fT mo r=qp mo r:=by unfold fT qp;rw[if_neg n0,if_neg n1,if_pos hk]
  rw[hE];cases hF:qp mo r with
  |error e=>
   obtain⟨c,j⟩:=e;rw[bj];refine Wp.bm (ajD (af w S fp) q r op (qp mo) hcall) aM (ev (aa cZ hF)) ?_ ?_
   ·exact⟨⟨hk,q0,s0⟩,dE,λ_ h=>h.elim⟩
   refine qq ?_;exact⟨_,rfl⟩
  |ok p=>
   obtain⟨x0,r0⟩:=p;rw[fg];refine wR (ajD (af w S fp) q r op (qp mo) hcall) (aa cZ hF) ?_ ?_
   ·exact⟨⟨hk,q0,s0⟩,dE,(λ_ h=>h.elim),u0⟩
   refine Wp.cV 207 (ev cZ) (aX.refl _ _) λW1 bs1 cs hx1 hΦ=>?_
   obtain⟨v0,rfl,hg0,hv0⟩:=ti hΦ;refine wZ (aa cZ hv0) ?_;exact ki hg0 rfl ((ev (aa cZ @aq))) dE
 have n2:¬ ((pk r).1=1/\0<qH (pk r).2.2):=by
  intro h;simp at hc;have:=hc h.1;omega
 clear hc;refine vR (dS q r op) cZ ?_;refine wC cZ (λhc=>?_) (λhc=>?_)
 ·have hk:(pk r).1=1/\qH (pk r).2.2=0:=by
   simp at hc;exact hc
  have hE:fT mo r=.ok (.name (pk r).2.1 (pk r).2.2,r.tail):=by unfold fT;rw[if_neg n0,if_neg n1,if_neg n2,if_pos hk]
  rw[hE,fg];refine wR (dS q r op) cZ ?_ ?_
  ·exact⟨⟨qo,oM⟩,dE,λ_ h=>h.elim⟩
  refine vR Γ0 cZ ?_;refine wZ cZ ?_;exact ki (.name (pk r).2.1 (pk r).2.2) rfl ((ev (aa cZ @aq))) dE
 have n3:¬ ((pk r).1=1/\qH (pk r).2.2=0):=by
  intro h;simp at hc;exact hc h.1 h.2
 clear hc;refine wR (dS q r op) cZ ?_ ?_
 ·exact⟨dE,⟨_,rfl⟩,qo⟩
 refine wC cZ (λhc=>?_) (λhc=>?_)
 ·have hb:jJ r obB=true:=hc;clear hc;have hE:fT mo r=gh mo r obB λex r' => dG WS (.keyed (pk r).2.1) (ex r'):=by unfold fT;rw[if_neg n0,if_neg n1,if_neg n2,if_neg n3,if_pos hb]
  rw[hE];cases mo with
  |none=>
   have ho64:=hm0 rfl;subst ho64;have hE2:gh none r obB (λex r' => dG WS (.keyed (pk r).2.1) (ex r'))=.error (23,(pk r).2.1):=by unfold gh;rw[if_pos hb]
   have hen:=AG (q:=q) hb;unfold obB at hen;rw[hE2,bj];refine Wp.bm (dS q r 64) aM (ev (aa cZ hen)) ?_ ?_
   ·exact⟨⟨⟨_,rfl⟩,qo⟩,dE,λ_ h=>h.elim⟩
   refine qq ?_;exact⟨_,rfl⟩
  | some ex=>
   obtain⟨hop2,hT,hA⟩:=hm1 ex rfl;have hE2:gh (some ex) r obB (λex r' => dG WS (.keyed (pk r).2.1) (ex r'))=dG WS (.keyed (pk r).2.1) (ex r.tail):=by unfold gh;rw[if_pos hb]
   have hen:=F8 (q:=q) hb hop2;unfold obB at hen;have hnx:=Left.next hq.2.2 (kP hb)
   have q1:q.st w (bE (af w S fp) fp) r.tail:=⟨q0.1,hnx.2.1.trans q0.2.1,hnx.1⟩;rw[hE2];refine wR (dS q r op) (aa cZ hen) ?_ ?_
   ·exact⟨⟨⟨_,rfl⟩,qo,hop⟩,dE,λ_ h=>h.elim⟩
   cases hF:ex r.tail with
   |error e=>
    obtain⟨c,j⟩:=e;have hs1:dG WS (.keyed (pk r).2.1) (.error (c,j))=.error (c,j):=rfl;rw[hs1,bj];refine Wp.bm (Dz (af w S fp) q r.tail (op+1) ex hA) aM (ev (aa cZ hF)) ?_ ?_
    ·exact⟨⟨q1,s0⟩,dE,λ_ h=>h.elim⟩
    refine qq ?_;exact⟨_,rfl⟩
   | ok p=>
    obtain⟨x0,r0⟩:=p;have hL:=hT _ hnx.1 _ _ hF;refine wR (Dz (af w S fp) q r.tail (op+1) ex hA) (aa cZ hF) ?_ ?_
    ·exact⟨⟨q1,s0⟩,dE,(λ_ h=>h.elim),u0⟩
    refine Wp.cV 327 (ev cZ) (aX.refl _ _) λW1 bs1 cs hx1 hΦ=>?_
    obtain⟨v0,rfl,hg0,hv0⟩:=ti hΦ;have q2:q.st W1 (bE (af w S fp) bs1) r0:=⟨(q1.bS hx1.dN).1,hL.2.1.trans q1.2.1,hL.1⟩;cases hcl:jJ r0 WS with
    | false=>
     have hs1:dG WS (.keyed (pk r).2.1) (.ok (x0,r0))=.error (60,(pk r0).2.1):=by
      unfold dG;dsimp only;rw[if_neg (by rw[hcl];simp)]
     have hw:=sY (q:=q) (op:=op+1) (op' := op) hcl;unfold WS at hw;rw[hs1,bj];refine Wp.bm (dS q r0 op) aM (ev (aa cZ hw)) ?_ ?_
     ·exact⟨⟨⟨_,rfl⟩,q2.out,oM⟩,dE,λ_ h=>h.elim⟩
     refine qq ?_;exact⟨_,rfl⟩
    | true=>
     have hs1:dG WS (.keyed (pk r).2.1) (.ok (x0,r0))=.ok (.keyed (pk r).2.1 x0,r0.tail):=by
      unfold dG;dsimp only;rw[if_pos hcl]
      try rfl
     have hw:=oR (q:=q) (op:=op+1) (op' := op) hcl;unfold WS at hw;rw[hs1,fg];refine wR (dS q r0 op) (aa cZ hw) ?_ ?_
     ·exact⟨⟨⟨_,rfl⟩,q2.out,oM⟩,dE,λ_ h=>h.elim⟩
     refine vR Γ0 (br cZ hg0.parts hv0) ?_;refine wZ (aa cZ hv0) ?_;exact ki (.keyed _ _ _ hg0) rfl ((ev (aa cZ @aq))) dE
 have n4:¬ jJ r obB=true:=by
  have:jJ r obB=false:=hc;rw[this];simp
 clear hc;refine wR (dS q r op) cZ ?_ ?_
 ·exact⟨dE,⟨_,rfl⟩,qo⟩
 refine wC cZ (λhc=>?_) (λhc=>?_)
 ·have hb:jJ r Kg=true:=hc;clear hc;have hE:fT mo r=gh mo r Kg λex r' => dG DJ id (ex r'):=by unfold fT;rw[if_neg n0,if_neg n1,if_neg n2,if_neg n3,if_neg n4,if_pos hb]
  rw[hE];cases mo with
  |none=>
   have ho64:=hm0 rfl;subst ho64;have hE2:gh none r Kg (λex r' => dG DJ id (ex r'))=.error (23,(pk r).2.1):=by unfold gh;rw[if_pos hb]
   have hen:=AG (q:=q) hb;unfold Kg at hen;rw[hE2,bj];refine Wp.bm (dS q r 64) aM (ev (aa cZ hen)) ?_ ?_
   ·exact⟨⟨⟨_,rfl⟩,qo⟩,dE,λ_ h=>h.elim⟩
   refine qq ?_;exact⟨_,rfl⟩
  | some ex=>
   obtain⟨hop2,hT,hA⟩:=hm1 ex rfl;have hE2:gh (some ex) r Kg (λex r' => dG DJ id (ex r'))=dG DJ id (ex r.tail):=by unfold gh;rw[if_pos hb]
   have hen:=F8 (q:=q) hb hop2;unfold Kg at hen;have hnx:=Left.next hq.2.2 (kP hb)
   have q1:q.st w (bE (af w S fp) fp) r.tail:=⟨q0.1,hnx.2.1.trans q0.2.1,hnx.1⟩;rw[hE2];refine wR (dS q r op) (aa cZ hen) ?_ ?_
   ·exact⟨⟨⟨_,rfl⟩,qo,hop⟩,dE,λ_ h=>h.elim⟩
   cases hF:ex r.tail with
   |error e=>
    obtain⟨c,j⟩:=e;have hs1:dG DJ id (.error (c,j))=.error (c,j):=rfl;rw[hs1,bj];refine Wp.bm (Dz (af w S fp) q r.tail (op+1) ex hA) aM (ev (aa cZ hF)) ?_ ?_
    ·exact⟨⟨q1,s0⟩,dE,λ_ h=>h.elim⟩
    refine qq ?_;exact⟨_,rfl⟩
   | ok p=>
    obtain⟨x0,r0⟩:=p;have hL:=hT _ hnx.1 _ _ hF;refine wR (Dz (af w S fp) q r.tail (op+1) ex hA) (aa cZ hF) ?_ ?_
    ·exact⟨⟨q1,s0⟩,dE,(λ_ h=>h.elim),u0⟩
    refine Wp.cV 351 (ev cZ) (aX.refl _ _) λW1 bs1 cs hx1 hΦ=>?_
    obtain⟨v0,rfl,hg0,hv0⟩:=ti hΦ;have q2:q.st W1 (bE (af w S fp) bs1) r0:=⟨(q1.bS hx1.dN).1,hL.2.1.trans q1.2.1,hL.1⟩;cases hcl:jJ r0 DJ with
    | false=>
     have hs1:dG DJ id (.ok (x0,r0))=.error (60,(pk r0).2.1):=by
      unfold dG;dsimp only;rw[if_neg (by rw[hcl];simp)]
     have hw:=sY (q:=q) (op:=op+1) (op' := op) hcl;unfold DJ at hw;rw[hs1,bj];refine Wp.bm (dS q r0 op) aM (ev (aa cZ hw)) ?_ ?_
     ·exact⟨⟨⟨_,rfl⟩,q2.out,oM⟩,dE,λ_ h=>h.elim⟩
     refine qq ?_;exact⟨_,rfl⟩
    | true=>
     have hs1:dG DJ id (.ok (x0,r0))=.ok (x0,r0.tail):=by
      unfold dG;dsimp only;rw[if_pos hcl]
      try rfl
     have hw:=oR (q:=q) (op:=op+1) (op' := op) hcl;unfold DJ at hw;rw[hs1,fg];refine wR (dS q r0 op) (aa cZ hw) ?_ ?_
     ·exact⟨⟨⟨_,rfl⟩,q2.out,oM⟩,dE,λ_ h=>h.elim⟩
     refine vR Γ0 (br cZ hg0.parts hv0) ?_;refine wZ (aa cZ hv0) ?_;exact ki (hg0) rfl ((ev (aa cZ @aq))) dE
 have n5:¬ jJ r Kg=true:=by
  have:jJ r Kg=false:=hc;rw[this];simp
 clear hc;have hE:fT mo r=.error (60,(pk r).2.1):=by unfold fT;rw[if_neg n0,if_neg n1,if_neg n2,if_neg n3,if_neg n4,if_neg n5]
 rw[hE,bj];refine wK ?_;refine Wp.bm (dS q r op) aM (ev cZ) ?_ ?_
 ·exact⟨⟨⟨_,rfl⟩,qo⟩,dE,λ_ h=>h.elim⟩
 refine qq ?_;exact⟨_,rfl⟩
theorem Ee:∀ m,m<=64->nV 212 [] (64-m) (nX m)
 |0,_=>Ef 64 none ⟨Nat.le_refl _,λ_=>rfl,λex h=>by cases h⟩
 |m+1,h=>by
  refine Ef (64-(m+1)) (some (yV (nX m))) ⟨oM,(λh=>by cases h),λex he=>?_⟩;cases he;refine⟨oM,om (kr m) 5,?_⟩;rw[show 64-(m+1)+1=64-m by omega];exact Jz (64-m) (nX m) (kr m) (Ee m oM)
theorem SX:nV 115 [.int .i64 0] 0 (yV (nX 64)):=Jz 0 (nX 64) (kr 64) (Ee 64 (Nat.le_refl _))
inductive Qf (W:World) (S:Nat->Prop):List Value->List (Nat×ByteArray×Ex)->Prop where
 |nil:Qf W S [] []
 |cons (a:Nat) (s:ByteArray) (v:Value) (x:Ex) (vs:List Value) (ds:List (Nat×ByteArray×Ex)):Ac W S v x->Qf W S vs ds->Qf W S (.int .i64 (a:Nat)::.string s::v::vs) ((a,s,x)::ds)
theorem Qf.mono{W W' : World}{S S' : Nat->Prop}{vs:List Value}{ds:List (Nat×ByteArray×Ex)}(h:Qf W S vs ds)(hs:aX W S W' S'):Qf W' S' vs ds:=by
 induction h with
 |nil=>exact .nil
 |cons a s v x vs ds h1 _ ih=>exact .cons a s v x vs ds (h1.mono hs) ih
theorem Qf.snoc{W:World}{S:Nat->Prop}{vs:List Value}{ds:List (Nat×ByteArray×Ex)}(h:Qf W S vs ds){a:Nat}{s:ByteArray}{v:Value}{x:Ex}(hx:Ac W S v x):Qf W S (vs++[.int .i64 (a:Nat),.string s,v]) (ds++[(a,s,x)]):=by
 induction h with
 |nil=>exact .cons _ _ _ _ _ _ hx .nil
 |cons a' s' v' x' vs' ds' h1 _ ih=>exact .cons _ _ _ _ _ _ h1 ih
theorem Qf.len{W:World}{S:Nat->Prop}{vs:List Value}{ds:List (Nat×ByteArray×Ex)}(h:Qf W S vs ds):vs.length=ds.length*3:=by
 induction h with
 |nil=>rfl
 |cons a s v x vs ds _ _ ih=>simp only[List.length_cons,ih];omega
def PmV(W:World)(S:Nat->Prop)(v:Value)(p:Pm):Prop:=∃ (b:Nat) (ao:Option Addr) (c:Nat) (vs:List Value) (u:Value),v=.pointer (some ⟨b,0,none⟩)/\XC W S b 0 (.slice ao p.1.length c)/\XC W S b 1 u/\(jC W S ao vs/\Qf W S vs p.1/\p.1.length<=c)/\Ac W S u p.2
theorem PmV.mono{W W' : World}{S S' : Nat->Prop}{v:Value}{p:Pm}(h:PmV W S v p)(hs:aX W S W' S'):PmV W' S' v p:=by
 obtain⟨b,ao,c,vs,u,h1,h2,h3,⟨h4,h5,h6⟩,h7⟩:=h;exact⟨b,ao,c,vs,u,h1,h2.mono hs,h3.mono hs,⟨h4.mono hs,h5.mono hs,h6⟩,h7.mono hs⟩
theorem PmV.hv{W:World}{S:Nat->Prop}{v:Value}{p:Pm}(h:PmV W S v p):hv v=v:=by
 obtain⟨b,ao,c,vs,u,rfl,_⟩:=h;rfl
def pmF(p:Pm):FK:=⟨λcs W S=>∃ v,cs=[v]/\PmV W S v p,λhs ⟨v,h1,h2⟩=>⟨v,h1,h2.mono hs⟩⟩
def ad0(q:Pb)(op:Nat):Except (Int×Nat) (Pm×List Tk)->GOut
 |.ok (x,r)=>.fact Sh.one (pmF x) (oz q r op)
 |.error (c,a)=>.pan (bb c (a:Nat)) (.pointer none)
theorem QZ(q:Pb)(op:Nat)(x:Pm)(r:List Tk):ad0 q op (.ok (x,r))=.fact Sh.one (pmF x) (oz q r op):=rfl
theorem iE(q:Pb)(op:Nat)(c:Int)(a:Nat):ad0 q op (.error (c,a))=.pan (bb c (a:Nat)) (.pointer none):=rfl
structure PD where
 W:World
 bs:List Nat
 vs:List Value
 ds:List (Nat×ByteArray×Ex)
 r:List Tk
 n:Nat
def iW:=(ae @List.replicate_succ.{0} @List.replicate_zero.{0} @au @ab kH kI Ri (ae Rm RN kK c8 da db dc (ae dn dr dt du ew ez eA (ae eB eC eD oL oN oO oP (ae Ch Ci Cj Ck Cl aae aaf (ae aag aah ny nz nA nB nC (ae Cm Co Cp Cq Cr Cs aai (ae aaj aak aal aam aan aao aap (ae tX tY tZ ua ub uc ud (ae ue uf ui uj p9 qc qd (ae qe qf qg qh qi @gf @eP (ae @aV @aw @aD @aG @eX @Ds @Dt (ae @Dv @Dx @Dy @Dr @Dw @Du @DA (ae @gS.eq_1 @sf.eq_1 @wB.eq_1 @wD.eq_1 @fO.eq_1 @uB.eq_1 @nO.eq_1 (IL @oW @oV @oz.eq_1 @Z2.eq_1 @yc.eq_1 @fg @bj)))))))))))))))
theorem Zb(op:Nat)(ex:List Tk->PR)(hT:jG ex 1)(hA:nV 115 [.int .i64 0] op ex)(q:Pb)(r:List Tk)(u:Value)(fp:List Nat)(w:World)(S:Nat->Prop)(hq:q.st w S r)(hsy:e8 w S)(ho:aW w u fp 143 (oz q r op))(hlt:∀ b∈fp,b<w.heap.size)(hS:∀ b∈fp,¬ S b) :
  Calls prog 68 (#[u]++#[]) w λe w' => u4 w S u fp 143 e w' (ad0 q op (lR ex r.length [] r)):=by
 have u0:=af.up w S fp;have q0:=hq.bS (af.eO w S fp hS);have s0:=hsy.mono (af.eO w S fp hS);have hmax:=q0.1.2.2;generalize hR:lR ex r.length [] r=R;refine dh (nt:=66) S #[] [.tmp 2] (by show 2<=7;omega) ho hlt func68 rfl rfl rfl ?_;refine vR Γ0 iW ?_;refine vR Γ0 iW ?_;refine Wp.seq (Wp.block ?_)
 refine Wp.qv (λp:PD=>⟨20,dZ [(0,.is (.own 0 0)),(3,.is (.own 4 0))],dM [(0,.cells 143 [.v (q.sl p.r),.v (.int .i64 (op:Nat))]),(4,.cells 79 [.hd 5,.v .nilIface]),(5,.row 134 3 p.ds.length (p.vs.map .v))]⟩)
  PD.W PD.bs (λp=>q.st p.W (bE (af w S fp) p.bs) p.r/\e8 p.W (bE (af w S fp) p.bs)/\Qf p.W (bE (af w S fp) p.bs) p.vs p.ds/\(p.r.length<=p.n/\p.ds.length+p.r.length<=q.L.length)/\lR ex p.n p.ds p.r=R) (λp=>p.n) ⟨w,fp,[],[],r,r.length⟩ rfl rfl ?_ ⟨q0,s0,.nil,⟨Nat.le_refl _,by have:=q0.2.1.length_le;simpa using this⟩,hR⟩ ?_
 ·exact wM (λk=>if k=4 then .key 24 else if k=5 then .nil else .key k) iW
 rintro⟨W1,bs1,vs,ds,r1,n⟩ ⟨q1,s1,hd,⟨hn,hdl⟩,hR1⟩ hx1;simp only at q1 s1 hd hn hdl hR1 hx1;dsimp only;have u1:=u0.ext hx1;have hpos:=q1.2.2.pos;have hle:=q1.2.1.length_le;have hvl:=hd.len;obtain⟨n,rfl⟩:∃ m,n=m+1:=⟨n-1,oM⟩;rw[lR]at hR1;refine Wp.seq ?_;refine wR (dS q r1 op) iW ?_ ?_
 ·exact⟨⟨dE,q1.out⟩,λ_=>⟨dE,q1.out⟩⟩
 refine wC iW (λhc=>?_) (λhc=>?_)
 ·have hl:(pk r1).1=1/\(pk r1).2.2=Yb:=by
   simp at hc;exact hc
  clear hc;rw[if_pos hl]at hR1;have hk:(pk r1).1≠0:=oM;have hnx:=Left.next q1.2.2 hk
  have q2:q.st W1 (bE (af w S fp) bs1) r1.tail:=⟨q1.1,hnx.2.1.trans q1.2.1,hnx.1⟩;refine wK ?_;refine Wp.block ?_;refine wR (dS q r1 op) iW ?_ ?_
  ·exact⟨⟨q1.out,hk⟩,dE,λ_ h=>h.elim⟩
  refine wR (dS q r1.tail op) iW ?_ ?_
  ·exact⟨dE,q2.out⟩
  refine Wp.seq ?_;refine vR (dS q r1.tail op) iW ?_;refine wC iW (λhc=>?_) (λhc=>?_)
  ·have hb:¬ (pk r1.tail).1=1\/¬ qH (pk r1.tail).2.2=0:=by
    simp at hc;exact hc
   rw[if_pos hb]at hR1;rw[<- hR1,iE];refine Wp.dz (dS q r1.tail op) aM (ev iW) ?_ ?_
   ·exact⟨⟨⟨_,rfl⟩,q2.out⟩,dE,λ_ h=>h.elim⟩
   refine qq ?_;exact⟨_,rfl⟩
  have hb:¬ (¬ (pk r1.tail).1=1\/¬ qH (pk r1.tail).2.2=0):=by
   intro h;simp at hc;rcases h with h|h
   ·exact h hc.1
   ·exact h hc.2
  clear hc;rw[if_neg hb]at hR1;have hk2:(pk r1.tail).1≠0:=λh=>hb (.inl oM)
  have hnx2:=Left.next q2.2.2 hk2
  have q3:q.st W1 (bE (af w S fp) bs1) r1.tail.tail:=⟨q1.1,hnx2.2.1.trans q2.2.1,hnx2.1⟩;refine wK ?_;refine wR (dS q r1.tail op) iW ?_ ?_
  ·exact⟨⟨q2.out,hk2⟩,dE,λ_ h=>h.elim⟩
  cases hq1:jJ r1.tail.tail eqB with
  |false=>
   rw[if_pos hq1]at hR1;have hw:=sY (q:=q) (op:=op) (op' := op) hq1;unfold eqB at hw;rw[<- hR1,iE];refine Wp.bm (dS q r1.tail.tail op) aM (ev (aa iW hw)) ?_ ?_
   ·exact⟨⟨⟨_,rfl⟩,q3.out⟩,dE,λ_ h=>h.elim⟩
   refine qq ?_;exact⟨_,rfl⟩
  | true=>
   rw[if_neg (by rw[hq1];simp)]at hR1;have hw:=oR (q:=q) (op:=op) (op' := op) hq1;unfold eqB at hw;have hnx3:=Left.next q3.2.2 (kP hq1)
   have q4:q.st W1 (bE (af w S fp) bs1) r1.tail.tail.tail:=⟨q1.1,hnx3.2.1.trans q3.2.1,hnx3.1⟩;refine wR (dS q r1.tail.tail op) (aa iW hw) ?_ ?_
   ·exact⟨⟨⟨_,rfl⟩,q3.out⟩,dE,λ_ h=>h.elim⟩
   cases hF:ex r1.tail.tail.tail with
   |error e=>
    obtain⟨c,j⟩:=e;rw[hF]at hR1;simp only at hR1;rw[<- hR1,iE];refine Wp.Hx (Dz (af w S fp) q r1.tail.tail.tail op ex hA) aM (ev (aa iW hF)) rfl (by kernel_rfl) ?_ ?_
    ·exact⟨⟨⟨q4,s1⟩,dE,λ_ h=>h.elim⟩,by unfold maxLen;omega,oM⟩
    refine qq ?_;exact⟨_,rfl⟩
   | ok p=>
    obtain⟨y,r2⟩:=p;rw[hF]at hR1;simp only at hR1;have hL2:=hT _ hnx3.1 _ _ hF;refine ko (Dz (af w S fp) q r1.tail.tail.tail op ex hA) (aa iW hF) ?_ ?_
    ·exact⟨⟨⟨q4,s1⟩,dE,(λ_ h=>h.elim),u1⟩,by unfold maxLen;omega,oM⟩
    refine Wp.cV 479 (ev iW) (aX.refl _ _) λW2 bs2 cs hx2 hΦ=>?_
    obtain⟨v0,rfl,hg0,hv0⟩:=ti hΦ;have q5:q.st W2 (bE (af w S fp) bs2) r2:=⟨(q4.bS hx2.dN).1,hL2.2.1.trans q4.2.1,hL2.1⟩;cases hq2:jJ r2 smB with
    |false=>
     rw[if_pos hq2]at hR1;have hw2:=sY (q:=q) (op:=op) (op' := op) hq2;unfold smB at hw2;rw[<- hR1,iE];refine Wp.dz (dS q r2 op) aM (ev (aa iW hw2)) ?_ ?_
     ·exact⟨⟨⟨_,rfl⟩,q5.out⟩,dE,λ_ h=>h.elim⟩
     refine qq ?_;exact⟨_,rfl⟩
    |true=>
     rw[if_neg (by rw[hq2];simp)]at hR1;have hw2:=oR (q:=q) (op:=op) (op' := op) hq2;unfold smB at hw2;have hnx4:=Left.next q5.2.2 (kP hq2)
     have q6:q.st W2 (bE (af w S fp) bs2) r2.tail:=⟨q5.1,hnx4.2.1.trans q5.2.1,hnx4.1⟩;refine wr (dS q r2 op) (aa iW hw2) ?_ ?_
     ·exact⟨⟨⟨_,rfl⟩,q5.out⟩,dE,λ_ h=>h.elim⟩
     have em:List.map SV.v vs++[.v (.int .i64 ((pk r1.tail).2.1:Nat)),.v (.string (pk r1.tail).2.2),.v v0]=List.map SV.v (vs++[.int .i64 ((pk r1.tail).2.1:Nat),.string (pk r1.tail).2.2,v0]):=by simp
     have el:(ds++[((pk r1.tail).2.1,(pk r1.tail).2.2,y)]).length=ds.length+1:=by simp
     have l1:=hnx.2.2;have l2:=hnx2.2.2;have l3:=hnx3.2.2;have l4:=hL2.2.2;have l5:=hnx4.2.2
     refine⟨⟨W2,bs2,vs++[.int .i64 ((pk r1.tail).2.1:Nat),.string (pk r1.tail).2.2,v0],ds++[((pk r1.tail).2.1,(pk r1.tail).2.2,y)],r2.tail,n⟩,⟨q6,s1.mono hx2.dN,(hd.mono hx2.dN).snoc hg0,⟨by dsimp only;omega,by dsimp only;rw[el];omega⟩,hR1⟩,by dsimp only;omega,rfl,rfl,?_⟩
     exact wM (λk=>if k=5 then .key 496 else .key k) (fP iW hv0 em el)
 have hl:¬ ((pk r1).1=1/\(pk r1).2.2=Yb):=by
  intro h;simp at hc;exact hc h.1 h.2
 clear hc;rw[if_neg hl]at hR1;refine wE ?_;cases hF:ex r1 with
 |error e=>
  obtain⟨c,j⟩:=e;rw[hF]at hR1;simp only at hR1;rw[<- hR1,iE];refine Wp.bm (Dz (af w S fp) q r1 op ex hA) aM (ev (aa iW hF)) ?_ ?_
  ·exact⟨⟨q1,s1⟩,dE,λ_ h=>h.elim⟩
  refine qq ?_;exact⟨_,rfl⟩
 | ok p=>
  obtain⟨y,r2⟩:=p;rw[hF]at hR1;simp only at hR1;have hL2:=hT _ q1.2.2 _ _ hF;refine wR (Dz (af w S fp) q r1 op ex hA) (aa iW hF) ?_ ?_
  ·exact⟨⟨q1,s1⟩,dE,(λ_ h=>h.elim),u1⟩
  refine Wp.cV 263 (ev iW) (aX.refl _ _) λW2 bs2 cs hx2 hΦ=>?_
  obtain⟨v0,rfl,hg0,hv0⟩:=ti hΦ;have q5:q.st W2 (bE (af w S fp) bs2) r2:=⟨(q1.bS hx2.dN).1,hL2.2.1.trans q1.2.1,hL2.1⟩;refine Wp.seq ?_;refine wR (dS q r2 op) iW ?_ ?_
  ·exact⟨dE,q5.out⟩
  refine wC iW (λhc=>?_) (λhc=>?_)
  ·have hz:¬ (pk r2).1=0:=by simpa using hc
   rw[if_neg hz]at hR1;rw[<- hR1,iE];refine Wp.dz (dS q r2 op) aM (ev iW) ?_ ?_
   ·exact⟨⟨⟨_,rfl⟩,q5.out⟩,dE,λ_ h=>h.elim⟩
   refine qq ?_;exact⟨_,rfl⟩
  have hz:(pk r2).1=0:=by simpa using hc
  rw[if_pos hz]at hR1;rw[<- hR1,QZ];refine wK ?_;have u2:=u1.ext hx2;refine Wp.zk 5 (ev (br iW @aS hv0)) (λE=>by simp only[aj,den,aS,hv0];exact rfl) λW3 bs3 ao3 c3 hx3 hs3 hd3=>?_
  have u3:=u2.ext hx3;refine Wp.cR 4 (ev (aa iW hv0)) (λE=>by simp only[aj,den,hv0];exact rfl) λW4 bs4 b4 hx4 hb4 hn4 hc4=>?_
  refine vR Γ0 iW ?_;refine wZ iW ?_;have hx24:=hx2.trans (hx3.trans hx4);have hS3:jC W4 (bE (af w S fp) bs4) ao3 vs:=(hs3.out λb hb=>⟨u2 b hb.2,hb.1⟩).mono hx4.dN;have x0:XC W4 (bE (af w S fp) bs4) b4 0 (.slice ao3 ds.length c3):=⟨⟨u3 b4 hn4,hb4⟩,cell_of hc4 0 sI⟩
  have x1:XC W4 (bE (af w S fp) bs4) b4 1 v0:=⟨⟨u3 b4 hn4,hb4⟩,cell_of hc4 1 sI⟩;refine⟨⟨[_],λE=>rfl,_,rfl,b4,ao3,c3,vs,v0,rfl,x0,x1,⟨hS3,hd.mono hx24.dN,hd3⟩,hg0.mono (hx3.trans hx4).dN⟩,_,_,rfl,(ev (aa iW @aq)),dE⟩
theorem qU{P:Program}{fn:Func}{nt:Nat}{f:FuncId}{c:Code}{args:Array Value}{w:World}{out:FOut}(S:Nat->Prop)(hf:P.funcs[f]?=some fn)(hb:fn.body=some c)(hnt:args.size+(fn.ntmps-args.size)=nt)
  (h:gN P fn nt [] (λW' bs' x _=>FF w S W' bs' x out) (λc _=>∃ v,out=.pan c v) w [] c (σ0 args.toList)):Calls P f args w λe w' => kA w S e w' out:=by
 refine (Eg hf hb (sR args hnt) h).mono λe w' he=>?_
 cases e with
 | returned u=>
  obtain⟨W',bs',E,F,x,h,hx,hok,rfl,hs,_⟩:=he;cases out with
  |val v=>exact⟨by rw[hok E],hx.fA hs.keeps⟩
  |fact sh Φ=>
   obtain⟨cs,hd,hΦ⟩:=hok;exact⟨cs,by rw[hd E],Φ.mono (λb hb hr=>⟨hs.keeps.block b hb hr.2,hr.1⟩) hΦ,hx.fA hs.keeps⟩
  |pan c v=>exact hok.elim
 |panicked c=>
  obtain⟨W',bs',E,F,h',hx,⟨v,rfl⟩,hs,_⟩:=he;exact⟨rfl,hx.fA hs.keeps⟩
 |outgrown=>exact he.elim
theorem Re(s:ByteArray):∀ (n i:Nat) (l:List Tk),i<=s.size->l.length<=i->(Mu s n i l).1.length<=s.size+1
 |0,i,l,hi,hl=>by
  show (l++[_]).length<=_;rw[List.length_append,List.length_singleton];omega
 | n+1,i,l,hi,hl=>by
  rw[Mu];split
  ·rename_i hlt;split
   ·rename_i h0;have h1:=Fe hlt h0;have h2:=zN h1.2;exact Re s n _ _ h2.2 (by rw[List.length_append,List.length_singleton];omega)
   ·exact Nat.zero_le _
  ·show (l++[_]).length<=_;rw[List.length_append,List.length_singleton];omega
theorem KU(s:ByteArray):(cQ s).1.length<=4097:=by
 unfold cQ;split
 ·exact Nat.zero_le _
 ·have:=Re s s.size (u5 s 0) [] (zN (Nat.zero_le _)).2 (Nat.zero_le _);omega
theorem KT(s:ByteArray):∀ (n i:Nat) (l:List Tk),(Mu s n i l).2.1=0->(Mu s n i l).2.2=0
 |0,i,l,h=>rfl
 | n+1,i,l,h=>by
  rw[Mu]at h ⊢;split
  ·rename_i hi;rw[if_pos hi]at h;split
   ·rename_i h0;rw[if_pos h0]at h;exact KT s n _ _ h
   ·rename_i h0;rw[if_neg h0]at h;exact absurd h h0
  ·rfl
theorem UW{s:ByteArray}(h:(cQ s).2.1=0):(cQ s).2.2=0:=by
 unfold cQ at h ⊢;split
 ·rfl
 ·rename_i h4;rw[if_neg h4]at h;exact KT s _ _ _ h
def Sh.pf:Sh:=⟨λk=>.tup [.part k 0,.agg [.part k 1,.part k 2,.part k 3]],λ_ _=>rfl,λk j hj=>by simpa [SV.keys,ay] using hj⟩
theorem N7{v:Value}(h:hv v=v):Sh.pf.val [v,.int .i64 0,.int .i64 0,.string ⟨#[]⟩]=.tuple #[v,nS 0 0 ⟨#[]⟩]:=by
 show Value.tuple #[hv v,.agg #[.int .i64 0,.int .i64 0,.string ⟨#[]⟩]]=_;rw[h];rfl
def akK(p:Pm):FK:=⟨λcs W S=>∃ v,cs=[v,.int .i64 0,.int .i64 0,.string ⟨#[]⟩]/\PmV W S v p,λhs ⟨v,h1,h2⟩=>⟨v,h1,h2.mono hs⟩⟩
def aeG:Except (Int×Nat) Pm->FOut
 |.ok p=>.fact Sh.pf (akK p)
 |.error (c,a)=>.val (.tuple #[.pointer none,nS c (a:Nat) ⟨#[]⟩])
theorem HA(p:Pm):aeG (.ok p)=.fact Sh.pf (akK p):=rfl
theorem py(c:Int)(a:Nat):aeG (.error (c,a))=.val (.tuple #[.pointer none,nS c (a:Nat) ⟨#[]⟩]):=rfl
def Za(q:Pb)(r:List Tk):uG prog 68 where
 T:=143
 kinds:=[]
 pre:=λfs bs_ W S=>(fs=oz q r 0/\bs_=[])/\q.st W S r/\e8 W S
 premono:=λfs bs_ W S W' S' hs ⟨h1,h2,h3⟩=>⟨h1,h2.bS hs,h3.mono hs⟩
 out:=λ_ _=>ad0 q 0 (lR (yV (nX 64)) r.length [] r)
 enters:=call68
 ok:=by
  intro w S u fp us fs bs_ ho hlt hS hu hp;obtain⟨⟨rfl,rfl⟩,h1,h2⟩:=hp
  match us,hu with
  |[],_=>exact Zb 0 _ (om (kr 64) 5) SX q r u fp w S h1 h2 ho hlt hS
section
variable (s:ByteArray)(G:Nat->Prop)(q:Pb)(r:List Tk)
noncomputable def VX:Env prog:=⟨λ| 66=>some ((PF s).spec [])|_=>none,λ| 39=>some qC|_=>none,λ_ _=>none⟩
noncomputable def ajE:Env prog:=⟨λ| 68=>some ((Za q r).spec G)|_=>none,λ| 39=>some qC|_=>none,λ_ _=>none⟩
theorem afr:(VX s).sp 66=some ((PF s).spec []):=rfl
theorem VY:(VX s).eqs 39=some qC:=rfl
theorem afs:(ajE G q r).sp 68=some ((Za q r).spec G):=rfl
end
def ku:=(ae @List.replicate_succ.{0} @List.replicate_zero.{0} @au @ab kH kI Ri (ae Rm RN dn dr dt du ew (ae ez eA eB eC eD IC ID (ae IE IF um uo uq ur uu (ae uv uw ux uy uz Ch Ci (ae Cj Ck Cl Cm Co Cp Cq (ae Cr Cs HS HT HU HV ajl (ae ajm tX tY tZ ua ub uc (ae ud ue uf ui uj p9 qc (ae qd qe qf qg qh qi @aV (ae @aw @aD @aG @eX @Yi @y2.eq_1 @jE.eq_1 (ae @jE.eq_2 @jW.eq_1 @jW.eq_2 @jW.eq_3 @jW.eq_4 @jW.eq_5 @jW.eq_6 (ae @jW.eq_7 @jW.eq_8 @rk.eq_1 @rk.eq_2 @iM.eq_1 @iM.eq_2 @kU.eq_1 (ae @kU.eq_2 @gY.eq_1 @gY.eq_2 @gY.eq_3 @gY.eq_4 @wL.eq_1 @mp.eq_1 (ae @gi @xq @tC @tE @afr @VY @afs (ae @PF.eq_1 @Za.eq_1 @QZ @iE @DO.eq_1 @y7.eq_1 @nS.eq_1 (sn @σR.eq_1 @σL.eq_1 @lM.eq_1 @lM.eq_2 @rj.eq_1 @rj.eq_2)))))))))))))))))
noncomputable def acR:CatchC prog 67 where
 Ts:=[72,39]
 enters:=call67
 pre:=λvss pv=>(∃ a f g h,vss=[[a],[f,g,h]])/\∃ c i t,pv=.iface 39 (nS c i t)
 out:=λvss pv=>[[.pointer none],match pv with|.iface _ (.agg x)=>x.toList|_=>[]]
 oQ:=λvss pv=>[.pointer none,match pv with|.iface _ x=>x|_=>undef]
 vals_ok:=by
  rintro vss pv ⟨_,c,i,t,rfl⟩
  refine⟨.inr ⟨by simp only[iC,Op.operands,Value.cells,σ0,σB,Nat.reduceEqDiff,Nat.reduceAdd,Nat.reduceMul,Nat.reduceLT,Nat.reduceLeDiff,Nat.reduceBEq,av,Int.reduceToNat,Int.reduceLT,Int.reduceLE,Nat.reduceDiv,Nat.reduceMod,Nat.reduceSub,Int.reducePow,Nat.reducePow,σP,σB3,ku],rfl⟩,.inl ⟨by simp only[iC,Op.operands,Value.cells,σ0,σB,Nat.reduceEqDiff,Nat.reduceAdd,Nat.reduceMul,Nat.reduceLT,Nat.reduceLeDiff,Nat.reduceBEq,av,Int.reduceToNat,Int.reduceLT,Int.reduceLE,Nat.reduceDiv,Nat.reduceMod,Nat.reduceSub,Int.reducePow,Nat.reducePow,σP,σB3,ku]<;>rfl,by simp only[iC,Op.operands,Value.cells,σ0,σB,Nat.reduceEqDiff,Nat.reduceAdd,Nat.reduceMul,Nat.reduceLT,Nat.reduceLeDiff,Nat.reduceBEq,av,Int.reduceToNat,Int.reduceLT,Int.reduceLE,Nat.reduceDiv,Nat.reduceMod,Nat.reduceSub,Int.reducePow,Nat.reducePow,σP,σB3,ku],rfl⟩,trivial⟩
 quiet:=λw us hl=>by
  match us,hl with
  | [u0,u1],_=>
   refine lg (nt:=8) w _ func67 rfl rfl oM oM rfl ?_;refine vR Γ0 ku ?_;refine wC ku (λhc=>?_) (λhc=>?_)
   ·simp at hc
   ·refine wK ?_;simp only[iC,Op.operands,Value.cells,σ0,σB,Nat.reduceEqDiff,Nat.reduceAdd,Nat.reduceMul,Nat.reduceLT,Nat.reduceLeDiff,Nat.reduceBEq,av,Int.reduceToNat,Int.reduceLT,Int.reduceLE,Nat.reduceDiv,Nat.reduceMod,Nat.reduceSub,Int.reducePow,Nat.reducePow,σP,σB3,mM,fS,kp,iw,ku]
    done
 caught:=λw us bl vss pv hl hn hlt hp=>by
  obtain⟨⟨a,f,g,h,rfl⟩,k,i,t,rfl⟩:=hp;have h3:=hl.len.1;refine kf (nt:=8) func67 rfl rfl oM oM ?_ hl hn hlt ?_ ?_
  ·rw[h3];rfl
  ·rw[h3];decide
  intro us _;refine vR Γ0 ku ?_;refine wC ku (λhc=>?_) (λhc=>?_)
  ·skip;refine vrD Γ0 (aa ku @nS.eq_1) ?_;refine wS ku ?_;exact⟨rfl,rfl,trivial⟩
  ·cases hc
theorem aeH(s:ByteArray)(w:World)(S:Nat->Prop)(hs:s.size<=9223372036854775807)(hg:e8 w S) :
  Calls prog 28 #[.string s] w λe w' => kA w S e w' (aeG (tU s)):=by
 have u0:=aE.up w S;have s0:=hg.mono (aE.eO w S);have hlen:=KU s;refine qU (nt:=22) S func28 rfl rfl ?_;refine gN.seq' (rs:=[.cell 2 72,.cell 3 39]) rfl ?_;refine vr Γ0 ku ?_;refine gN.seq' (rs:=[.cell 2 72,.cell 3 39]) rfl ?_;by_cases h0:(cQ s).2.1=0
 rotate_left
 ·have he:tU s=.error ((cQ s).2.1,(cQ s).2.2):=by rw[tU,if_neg h0]
  have hd0:decide ((cQ s).2.1=0)=false:=decide_eq_false h0;rw[he,py];refine wr (VX s) ku ?_ ?_
  ·exact⟨dE,hs⟩
  refine gN.seq' (rs:=[.cell 2 72,.cell 3 39]) rfl ?_;refine vR (VX s) (aa ku hd0) ?_;refine wC ku (λhc=>?_) (λhc=>?_)
  ·skip;refine yt Γ0 ku ?_;refine wZ ku ?_;exact λE=>rfl
  ·exact absurd hc sI
 ·have hE:=ZA h0;have hz:=UW h0;have he:tU s=match lR (yV (nX 64)) (cQ s).1.length [] (cQ s).1 with
    |.error e=>.error e
    |.ok (p,_)=>.ok p:=by rw[tU,if_pos h0];all_goals rfl
  rw[he];generalize hL:(cQ s).1=L at *;refine wr (VX s) (qG ku h0 hz hL @Int.natCast_zero) ?_ ?_
  ·exact⟨dE,hs⟩
  refine gN.seq' (rs:=[.cell 2 72,.cell 3 39]) rfl ?_;refine Wp.zk 24 (ev (aa ku @aS)) (λE=>by simp only[aj,den,aS];exact rfl) λW1 bs1 ao c hx1 hs1 hd1=>?_
  have u1:=u0.ext hx1;have hS1:jC W1 (bE (aE w S) bs1) ao (wO L):=hs1.out λb hb=>⟨u0 b hb.2,hb.1⟩
  obtain⟨b,o,rfl⟩:∃ b o,ao=some ⟨b,o,none⟩:=by
   rcases hS1 with h|⟨b,o,rfl,_⟩
   ·have:=vK L;rw[h]at this;have:=hE.pos;simp at *;omega
   ·exact⟨b,o,rfl⟩
  have hq:(Pb.mk b o c L).st W1 (bE (aE w S) bs1) L:=⟨⟨hS1,hd1,by dsimp only;omega⟩,List.suffix_refl _,hE⟩;have hsl:(Pb.mk b o c L).sl L=.slice (some ⟨b,o,none⟩) L.length c:=by
   unfold Pb.sl Pb.at;simp
  refine vR (VX s) ku ?_;refine wC ku (λhc=>?_) (λhc=>?_)
  ·exact absurd hc sI
  refine wK ?_;refine gN.F4 (rs:=[.cell 2 72,.cell 3 39]) rfl acR [2,3] [0,8] rfl dE rfl dE rfl rfl ?_ ?_ λus hus=>?_
  ·rintro p hp;simp only[List.zip_cons_cons,List.zip_nil_right,List.mem_cons,List.not_mem_nil,or_false]at hp;rcases hp with rfl|rfl<;>rfl
  ·rintro k hk;simp only[List.mem_cons,List.not_mem_nil,or_false]at hk;rcases hk with rfl|rfl<;>exact⟨_,_,rfl⟩
  refine vR Γ0 ku ?_
  match us,hus with
  |[u0',u1'],_=>
  have s1:=s0.mono hx1.dN;have hfs:[AV.val (.slice (some ⟨b,o,none⟩) L.length c),AV.val (.int .i64 0)]=oz (Pb.mk b o c L) L 0:=by
   unfold oz;rw[hsl];rfl
  cases hF:lR (yV (nX 64)) L.length [] L with
  |error e=>
   obtain⟨e,j⟩:=e;simp only;rw[py];refine Wp.bm (ajE (aE w S) (Pb.mk b o c L) L) aM (ev (aa ku hF)) ?_ ?_
   ·exact⟨⟨hfs,hq,s1⟩,dE,λ_ h=>h.elim⟩
   refine qq ?_;refine wS ku ?_;refine⟨.iface 39 (nS e j ⟨#[]⟩),[[.pointer none],[.int .i64 0,.int .i64 0,.string ⟨#[]⟩]],rfl,⟨?_,?_,?_,?_,trivial⟩,⟨⟨_,_,_,_,rfl⟩,e,j,⟨#[]⟩,rfl⟩,λE=>rfl⟩
   all_goals rfl
  |ok p=>
   obtain⟨p,r2⟩:=p;simp only;rw[HA];refine wR (ajE (aE w S) (Pb.mk b o c L) L) (br ku hF @oz.eq_1) ?_ ?_
   ·exact⟨⟨hfs,hq,s1⟩,dE,(λ_ h=>h.elim),u1⟩
   refine Wp.cV 159 (ev ku) (aX.refl _ _) λW2 bs2 cs hx2 hΦ=>?_
   obtain⟨v,rfl,hv⟩:=hΦ;have hvv:LE.hv v=v:=hv.hv;refine wZ (aa ku hvv) ?_;exact⟨[v,.int .i64 0,.int .i64 0,.string ⟨#[]⟩],λE=>(N7 hvv).symm,v,rfl,hv⟩
def Vq(s:ByteArray):kS prog 28 where
 kinds:=[none]
 pre:=λas_ W S=>as_=[.val (.string s)]/\s.size<=9223372036854775807/\e8 W S
 premono:=λas_ W S W' S' hs h=>⟨h.1,h.2.1,h.2.2.mono hs⟩
 out:=λ_=>aeG (tU s)
 enters:=call28
 ok:=by
  intro w S us as_ hu hp;obtain⟨rfl,h1,h2⟩:=hp
  match us,hu with
  |[u],hu=>
   obtain⟨rfl,_⟩:=hu;exact aeH s w S h1 h2
section
variable (p:ByteArray)(h2:p.size<=2)(v:Nat)(hv:aiC p=some (v:Int))
end
def wQ(W:World)(S:Nat->Prop):Prop:=(Ai W S/\bg W S)/\mN W S/\Ad W S
theorem wQ.mono{W W' : World}{S S' : Nat->Prop}(h:wQ W S)(hs:aX W S W' S'):wQ W' S' := ⟨⟨h.1.1.mono hs,h.1.2.mono hs⟩,h.2.1.mono hs,h.2.2.mono hs⟩
theorem wQ.fK{W w:World}{bs fp:List Nat}(h:wQ W (Out bs))(hk:LE.an W bs w)(hm:∀ b∈fp,W.heap.size<=b\/b∈bs):wQ w (Out fp):=
 h.mono λb hb hs=>⟨hk.block b hb hs,λhb' => (hm b hb').elim (λg=>absurd g (Nat.not_le.2 hb)) hs⟩
def zV:aY prog 38 where
 pre:=λW bs as_=>∃ s,as_=[.val (.string s)]/\s.size<=16777216
 res:=λ_ as_=>match as_ with
  |[.val (.string s)]=>.string (eM s)
  |_=>undef
 enters:=call38
 ok:=by
  intro W w bs us as_ hk hu hp;obtain⟨s,rfl,h1⟩:=hp
  match us,hu with
  |[x],hu=>
   obtain⟨rfl,_⟩:=hu;exact UA s h1 w
theorem KF(W:World)(bs:List Nat)(s:ByteArray):zV.pre W bs [.val (.string s)]=(s.size<=16777216):=
 propext ⟨λ⟨s',h,h2⟩=>by
  cases h
  exact h2,λh=>⟨s,rfl,h⟩⟩
theorem KG(W:World)(s:ByteArray):zV.res W [.val (.string s)]=.string (eM s):=rfl
section
variable (p:ByteArray)(h2:p.size<=2)(v:Nat)(hv:aiC p=some (v:Int))(hn:aiC p=none)(ev:Value)
end
end
end Go.Proofs.YtnemkecffmdlnaaGreatDoor
namespace Go.LE
section
open Go.RowKit
section
variable {P:Program}(Γ:Env P){W:World}{bs:List Nat}{κ:Nat}{h:Hp}
theorem ze(T:TypeId)(l:List SV):dW Γ W bs κ h (.makeMap T none) l=j5 κ l:=rfl
theorem pw(T:TypeId)(x y:Operand)(ok:Bool)(l:List SV):dW Γ W bs κ h (.lookup T x y ok) l=iS P h T ok l:=rfl
theorem D3(T:TypeId)(x y z:Operand)(l:List SV):dW Γ W bs κ h (.mapUpdate T x y z) l=eg P h T l:=rfl
theorem O8(T:TypeId)(x y z:Operand)(l:List SV):dW Γ W bs κ h (.insert T x y z) l=eg P h T l:=rfl
end
section
variable {P:Program}{W:World}{bs:List Nat}{κ:Nat}{h:Hp}
theorem rF:j5 κ []=⟨True,.hd (8*κ),[(8*κ,some (.mp [] []))],none,[],[]⟩:=rfl
theorem lu(T:TypeId)(ok:Bool)(k:Nat)(s:ByteArray):iS P h T ok [.hd k,.v (.string s)]=lkM P k ok s (Gv P (P.underlying T)) (h k):=rfl
theorem Bg(kt et:TypeId):Gv P (some (.map kt et))=adF et (P.underlying kt):=rfl
theorem Bf(et:TypeId):adF et (some .string)=some et:=rfl
theorem Gq(k:Nat)(ok:Bool)(s:ByteArray)(et:TypeId)(ks:List ByteArray)(vs:List SV):lkM P k ok s (some et) (some (.mp ks vs))=lkE k ok (Bc ks vs s) (qM P et):=rfl
theorem vj(k:Nat)(ok:Bool)(o:Option SV)(z:Value):lkE k ok o (some z)=⟨True,V8 ok z o,[],none,[],[k]⟩:=rfl
theorem Gr(z:Value)(x:SV):V8 true z (some x)=.tup [x,.v (.bool true)]:=rfl
theorem NL(z:Value):V8 true z none=.tup [.v z,.v (.bool false)]:=rfl
theorem vD(T:TypeId)(k:Nat)(s:ByteArray)(x:SV):eg P h T [.hd k,.v (.string s),x]=upM k s x (Gv P (P.underlying T)) (h k):=rfl
theorem aaU(k:Nat)(s:ByteArray)(x:SV)(et:TypeId)(ks:List ByteArray)(vs:List SV):upM k s x (some et) (some (.mp ks vs))=⟨s∉ks,.v undef,[(k,some (.mp (ks++[s]) (vs++[x])))],none,[],[k]⟩:=rfl
theorem cf(k:Nat)(ks:List ByteArray)(us:List SV):fC k (some (.mp ks us))=(cS us).map λvs=>(.mp ks vs,[k]):=rfl
theorem vA(k:Nat)(ks:List ByteArray)(vs:List Value)(r:List AV):bf k (.mp ks vs::r)=(k,.mp ks (vs.map .v))::bf (k+1) r:=rfl
theorem sw(k:Nat)(ks:List ByteArray)(vs:List Value)(r:List AV):aO k (.mp ks vs::r)=.hd k::aO (k+1) r:=rfl
theorem eN(k:Nat)(u:Value)(ks:List ByteArray)(vs:List SV):Wa k u (.mp ks vs)=.mp ks (vC k u vs):=rfl
theorem zW(m:Nat->Src)(ks:List ByteArray)(vs:List SV):gY m (.mp ks vs)=.mp ks (jE m vs):=rfl
theorem pc :
  (∀ (T:TypeId) (r:Option Operand),cz (.makeMap T r)=false) /\
  (∀ (T:TypeId) (x y:Operand) (ok:Bool),cz (.lookup T x y ok)=false) /\
  (∀ (T:TypeId) (x y z:Operand),cz (.mapUpdate T x y z)=false) /\
  (∀ (T:TypeId) (x y z:Operand),cz (.insert T x y z)=false):=by
 refine⟨?_,?_,?_,?_⟩<;>(intros;rfl)
theorem kj(T:TypeId):(Op.makeMap T none).operands=#[]:=rfl
theorem lq(T:TypeId)(x y:Operand)(ok:Bool):(Op.lookup T x y ok).operands=#[x,y]:=rfl
theorem zw(T:TypeId)(x y z:Operand):(Op.mapUpdate T x y z).operands=#[x,y,z]:=rfl
theorem lp(T:TypeId)(x y z:Operand):(Op.insert T x y z).operands=#[x,y,z]:=rfl
end
end
end Go.LE
namespace Go.Proofs.YtnemkecffmdlnaaGreatDoor
section
open Go.RowKit Go.LE Go.Proofs.Tryz
inductive Cn where
 |nil
 |mk (at_:Nat) (op:ByteArray) (n:Option Rx) (to bk:ByteArray) (a b:Cn)
inductive Ln where
 |nil
 |mk (at_:Nat) (op:ByteArray) (n:Option Rx) (tx:ByteArray) (q:Cn) (a b:Ln)
inductive Tm where
 |text (at_:Nat) (s:ByteArray)
 |rx (at_:Nat) (r:Rx)
 |canon (c:Cn)
 |lens (l:Ln)
def jo:ByteArray:=⟨#[110,111,114,109]⟩
def lK:ByteArray:=⟨#[105,110,115]⟩
def QA:ByteArray:=⟨#[105,100]⟩
def qs:ByteArray:=⟨#[102,111,108,100]⟩
def gn:ByteArray:=⟨#[115,116,97,114]⟩
def jh:ByteArray:=⟨#[99,111,112,121]⟩
def zu:ByteArray:=⟨#[107,101,121]⟩
def F5:ByteArray:=⟨#[100,101,108]⟩
def iD:ByteArray:=⟨#[107,101,121,101,100]⟩
def vf:ByteArray:=⟨#[108,101,102,116]⟩
def pq:ByteArray:=⟨#[114,105,103,104,116]⟩
def uU:ByteArray:=⟨#[100,101,102,97,117,108,116]⟩
def wV:ByteArray:=⟨#[97,108,116]⟩
def w9:ByteArray:=⟨#[99,97,116]⟩
def Ll:ByteArray:=⟨#[115,119,97,112]⟩
def AA:ByteArray:=⟨#[99,104,97,105,110]⟩
def Rh:ByteArray:=⟨#[116,101,120,116]⟩
def GU:ByteArray:=⟨#[114,101,103,101,120]⟩
def mF(s:ByteArray):Nat:=max 1 (2*s.size-1)
def dX:Option Rx->Nat
 |none=>0
 |some r=>bP r
def dY:Cn->Nat
 |.nil=>0
 |.mk _ op n to _ a b=>1+dX n+dY a+dY b+(if op=jo then mF to else 0)
def ia:Ln->Nat
 |.nil=>0
 |.mk _ op n tx q a b=>1+dX n+dY q+ia a+ia b+(if op=lK then mF tx else 0)
def cj:Tm->Nat
 |.text _ s=>mF s
 |.rx _ r=>bP r
 |.canon c=>dY c
 |.lens l=>ia l
def ZL:ByteArray:=⟨#[47]⟩
def atB:ByteArray:=⟨#[64]⟩
def aiY:ByteArray:=⟨#[40]⟩
def aib:ByteArray:=⟨#[41]⟩
def Jp:ByteArray:=⟨#[44]⟩
def dR:Option Rx->ByteArray
 |none=>ZL++⟨#[91,93]⟩++ZL
 |some r=>ZL++cX r++ZL
def cY(l:List ByteArray):ByteArray:=⟨(Lib.join (l.map (·.data.toList)) Jp.data.toList).toArray⟩
def cP(a:Nat)(w:ByteArray)(l:List ByteArray):ByteArray:=w++atB++NS (a:Nat)++aiY++cY l++aib
def mz:Cn->ByteArray
 |.nil=>⟨#[]⟩
 |.mk a op n to bk x y=>
  if op=QA\/op=qs then cP a op [dR n]
  else if op=jo then cP a op [dR n,eM to,eM bk]
  else if op=gn then cP a op [mz x]
  else cP a op [mz x,mz y]
def gT:Ln->ByteArray
 |.nil=>⟨#[]⟩
 |.mk a op n tx q x y=>
  if op=jh\/op=zu then cP a op [dR n]
  else if op=F5 then cP a op [dR n,eM tx]
  else if op=lK then cP a op [eM tx]
  else if op=gn\/op=iD then cP a op [gT x]
  else if op=vf then cP a op [mz q,gT x]
  else if op=pq then cP a op [gT x,mz q]
  else if op=uU then cP a op [gT x,eM tx]
  else cP a op [gT x,gT y]
def uD:Tm->ByteArray
 |.text a s=>cP a Rh [eM s]
 |.rx a r=>cP a GU [dR (some r)]
 |.canon c=>mz c
 |.lens l=>gT l
def atT:Tm->Nat
 |.text a _=>a
 |.rx a _=>a
 |.canon (.mk a ..)=>a
 |.lens (.mk a ..)=>a
 |_=>0
def kdT:Tm->Nat
 |.text ..=>1
 |.rx ..=>2
 |.canon _=>3
 |.lens _=>4
def akD(s:ByteArray)(i:Nat):Rx:=.cls (T9 (s.extract i (i+1)) 1)
def qB(s:ByteArray):Nat->Rx
 |0=>.eps
 |1=>akD s 0
 |n+2=>.cat (qB s (n+1)) (akD s (n+1))
def Lo(s:ByteArray):Rx:=qB s s.size
def w4:Tm->Option Rx
 |.text _ s=>some (Lo s)
 |.rx _ r=>some r
 |_=>none
abbrev TE:=Except (Int×Int) Tm
def gM(a:Nat):TE:=.error (72,(a:Nat))
def Fx(a:Nat)(op:ByteArray)(t:Tm):TE:=match w4 t with
 |some n=>.ok (.rx a (if op=oJ then .star n else if op=DV then .cat n (.star n) else .alt n .eps))
 |none=>match t with
  |.canon c=>if op=oJ then .ok (.canon (.mk a gn none ⟨#[]⟩ ⟨#[]⟩ c .nil)) else gM a
  | .lens l=>.ok (.lens (if op=oJ then .mk a gn none ⟨#[]⟩ .nil l .nil
    else if op=DV then .mk a w9 none ⟨#[]⟩ .nil l (.mk a gn none ⟨#[]⟩ .nil l .nil)
    else .mk a wV none ⟨#[]⟩ .nil l (.mk a jh (some .eps) ⟨#[]⟩ .nil .nil .nil)))
  |_=>gM a
def MJ:ByteArray:=⟨#[124]⟩
def Nj:ByteArray:=⟨#[46]⟩
def Wo:ByteArray:=⟨#[38]⟩
def Yo:ByteArray:=⟨#[45]⟩
def akL:ByteArray:=⟨#[126]⟩
def akb:ByteArray:=⟨#[62,62]⟩
def GF(op:ByteArray):Nat:=if op=MJ then 1 else if op=Nj then 2 else if op=akL then 3 else if op=akb then 4 else 0
def Uf:Nat->ByteArray
 |1=>wV
 |2=>w9
 |3=>Ll
 |4=>AA
 |_=>⟨#[]⟩
def US(op:ByteArray)(x y:Rx):Option Rx:=if op=MJ then some (.alt x y) else if op=Nj then some (.cat x y) else if op=Wo then some (.and x y) else if op=Yo then some (.minus x y) else none
def qQ(a:Nat)(op:ByteArray):Tm->Tm->TE
 |.lens p,.lens q=>if 0<GF op then .ok (.lens (.mk a (Uf (GF op)) none ⟨#[]⟩ .nil p q)) else gM a
 |.canon p,.canon q=>if GF op=1\/GF op=2 then .ok (.canon (.mk a (Uf (GF op)) none ⟨#[]⟩ ⟨#[]⟩ p q)) else gM a
 |_,_=>gM a
def WE(a:Nat)(op:ByteArray)(t u:Tm):TE:=match w4 t,w4 u with
 |some x,some y=>match US op x y with
  |some r=>.ok (.rx a r)
  |none=>qQ a op t u
 |_,_=>qQ a op t u
def J6(ts:List Tm)(ps:List Nat)(i:Nat):Except (Int×Int) Rx:=match (ts[i]?).bind w4 with
 |some r=>.ok r
 |none=>.error (72,((ps.getD i 0:Nat)))
def D5(ts:List Tm)(ps:List Nat)(i:Nat):Except (Int×Int) ByteArray:=match ts[i]? with
 |some (.text _ s)=>.ok s
 |_=>.error (72,((ps.getD i 0:Nat)))
def Mr(ts:List Tm)(ps:List Nat)(i:Nat):Except (Int×Int) Cn:=match ts[i]? with
 |some (.canon c)=>.ok c
 |_=>.error (72,((ps.getD i 0:Nat)))
def IM(ts:List Tm)(ps:List Nat)(i:Nat):Except (Int×Int) Ln:=match ts[i]? with
 |some (.lens l)=>.ok l
 |_=>.error (72,((ps.getD i 0:Nat)))
def b9{α:Type}(x:Except (Int×Int) α)(f:α->TE):TE:=match x with
 |.error e=>.error e
 |.ok a=>f a
def bp(a:Nat)(w:ByteArray)(ts:List Tm)(ps:List Nat):TE:=
 if w=QA\/w=qs then b9 (J6 ts ps 0) λn=>.ok (.canon (.mk a w (some n) ⟨#[]⟩ ⟨#[]⟩ .nil .nil))
 else if w=jo then b9 (J6 ts ps 0) λn=>b9 (D5 ts ps 1) λs=>b9 (D5 ts ps 2) λt=>.ok (.canon (.mk a w (some n) s t .nil .nil))
 else if w=F5 then b9 (J6 ts ps 0) λn=>b9 (D5 ts ps 1) λs=>.ok (.lens (.mk a w (some n) s .nil .nil .nil))
 else if w=lK then b9 (D5 ts ps 0) λs=>.ok (.lens (.mk a w none s .nil .nil .nil))
 else if w=jh\/w=zu then b9 (J6 ts ps 0) λn=>.ok (.lens (.mk a w (some n) ⟨#[]⟩ .nil .nil .nil))
 else if w=vf then b9 (Mr ts ps 0) λc=>b9 (IM ts ps 1) λl=>.ok (.lens (.mk a w none ⟨#[]⟩ c l .nil))
 else if w=pq then b9 (IM ts ps 0) λl=>b9 (Mr ts ps 1) λc=>.ok (.lens (.mk a w none ⟨#[]⟩ c l .nil))
 else if w=uU then b9 (IM ts ps 0) λl=>b9 (D5 ts ps 1) λs=>.ok (.lens (.mk a w none s .nil l .nil))
 else .ok (.lens (.mk a w none ⟨#[]⟩ .nil .nil .nil))
def lF(a:Nat)(t:Tm):TE:=if 2000<cj t then .error (24,(a:Nat)) else .ok t
def SW:Ex->Nat
 |.name a _=>a
 |.text a _=>a
 |.rx a _=>a
 |.call a _ _=>a
 |.keyed a _=>a
 |.unary a _ _=>a
 |.binary a _ _ _=>a
 |_=>0
def cx:Ex->List Nat
 |.cons x l=>SW x::cx l
 |_=>[]
abbrev En:=List (ByteArray×Tm)
def Mt:En->ByteArray->Option Tm
 |[],_=>none
 |(k,t)::r,s=>if k=s then some t else Mt r s
def Gm(a:Nat):Tm->TE
 |.lens l=>.ok (.lens (.mk a iD none ⟨#[]⟩ .nil l .nil))
 |_=>gM a
mutual
def aQ(v:En):Ex->TE
 |.name a s=>match Mt v s with
  |some t=>.ok t
  |none=>.error (70,(a:Nat))
 |.text a s=>.ok (.text a s)
 |.rx a s=>match rB s with
  |.ok r=>.ok (.rx a r)
  |.error (c,j)=>.error (c,IntKind.i64.wrap ((a:Nat)+1+j))
 |.keyed a x=>b9 (aQ v x) λt=>b9 (Gm a t) (lF a)
 |.unary a op x=>b9 (aQ v x) λt=>b9 (Fx a op t) (lF a)
 |.binary a op x y=>b9 (aQ v x) λt=>b9 (aQ v y) λu=>b9 (WE a op t u) (lF a)
 |.call a w l=>match gX v l with
  |.error e=>.error e
  |.ok ts=>b9 (bp a w ts (cx l)) (lF a)
 |.nil=>.error (0,0)
 |.cons _ _=>.error (0,0)
def gX(v:En):Ex->Except (Int×Int) (List Tm)
 | .cons x l=>match aQ v x with
  |.error e=>.error e
  |.ok t=>match gX v l with
   |.error e=>.error e
   |.ok ts=>.ok (t::ts)
 |_=>.ok []
end
def yR:En->List (Nat×ByteArray×Ex)->Except (Int×Int) En
 |v,[]=>.ok v
 | v,(a,s,x)::r=>match Mt v s with
  |some _=>.error (71,(a:Nat))
  |none=>match aQ v x with
   |.error e=>.error e
   |.ok t=>yR (v++[(s,t)]) r
def qW(p:Pm):TE:=match yR [] p.1 with
 |.error e=>.error e
 |.ok v=>aQ v p.2
def iF(s:ByteArray):TE:=match tU s with
 |.error (c,a)=>.error (c,(a:Nat))
 |.ok p=>qW p
end
section
open Go Go.RowKit Go.LE
set_option maxRecDepth 10000
theorem Ym{P:Program}{t:TypeId}{name:String}{f:FuncId}{i:TypeInfo}{m:Method}{d:TypeDesc}{b:Bool}(hi:P.info? t=some i)(hm:i.methods.find? (·.name == name)=some m)(hp:m.path=#[])(hf:m.func=some (f,b))
  (hd:P.underlying t=some d) (hb:b=match d with|.pointer _=>true|_=>false) (n:Nat) (v:Value) (w:World) :
  (method (n+1) t v name).run P w=.ok (f,v) w:=by
 subst hb;simp only[method,Sem.run_bind,typeInfo];simp[hi,hm,hp,hf,follow,receiverAt,run_underlying hd];cases d<;>simp[Place.get]
def Yl(P:Program)(t:TypeId)(name:String):Option (FuncId×Bool):=match P.info? t with
 | some i=>match i.methods.find? (·.name == name) with
  |some m=>match m.path.isEmpty,m.func with
   |true,some x=>some x
   |_,_=>none
  |none=>none
 |none=>none
def ai1:Option TypeDesc->Option Bool
 |some (.pointer _)=>some true
 |some _=>some false
 |none=>none
theorem TW{P:Program}{t:TypeId}{name:String}{f:FuncId}{b:Bool}(hq:Yl P t name=some (f,b))(hd:ai1 (P.underlying t)=some b)(v:Value)(w:World) :
  (method (P.types.size+Made.depth) t v name).run P w=.ok (f,v) w:=by
 unfold Yl at hq;split at hq
 ·rename_i i hi;split at hq
  ·rename_i m hm;split at hq
   ·rename_i x hp hf;cases hq;cases hu:P.underlying t with
    |none=>rw[hu]at hd;cases hd
    |some d=>
     rw[hu]at hd;have:Made.depth=(Made.depth-1)+1:=rfl;rw[this,<- Nat.add_assoc];refine Ym hi hm (by simpa using hp) hf hu ?_ _ v w;cases d<;>simp[ai1]at hd<;>simp[hd]
   ·cases hq
  ·cases hq
 ·cases hq
def b6{P:Program}{t:TypeId}{name:String}(f:FuncId)(b:Bool)(hq:Yl P t name=some (f,b))(hd:ai1 (P.underlying t)=some b):MethSpec P t name:=⟨f,TW hq hd⟩
def akq:MethSpec Tryz.prog 279 "Size":=b6 311 false (by kernel_rfl) (by kernel_rfl)
def akr:MethSpec Tryz.prog 281 "Size":=b6 314 false (by kernel_rfl) (by kernel_rfl)
def aks:MethSpec Tryz.prog 283 "Size":=b6 316 false (by kernel_rfl) (by kernel_rfl)
def akt:MethSpec Tryz.prog 284 "Size":=b6 318 false (by kernel_rfl) (by kernel_rfl)
def aku:MethSpec Tryz.prog 285 "Size":=b6 320 false (by kernel_rfl) (by kernel_rfl)
def akv:MethSpec Tryz.prog 286 "Size":=b6 322 false (by kernel_rfl) (by kernel_rfl)
def akw:MethSpec Tryz.prog 311 "Size":=b6 324 false (by kernel_rfl) (by kernel_rfl)
def fnS:TypeId->Option FuncId
 |279=>some 311
 |281=>some 314
 |283=>some 316
 |284=>some 318
 |285=>some 320
 |286=>some 322
 |311=>some 324
 |_=>none
abbrev Mz (n:Nat):Prop:=∀ (r:Rx) (t:TypeId) (x:Value) (f:FuncId),ax r=.iface t x->fnS t=some f->bP r<n->bP r<=1152921504606846976->∀ w:World,Calls Tryz.prog f #[x] w λe w' => e=.returned (.int .i64 (bP r))/\an w [] w'
noncomputable def D4(t:TypeId)(f:FuncId)(he:∀ args w,(callFunc f args).run Tryz.prog w=.ok (.enter f args) w)(hf:fnS t=some f)(n:Nat)(h:Mz n):aY Tryz.prog f where
 pre:=λW bs as_=>∃ (r:Rx) (x:Value),ax r=.iface t x/\as_=[.val x]/\bP r<n/\bP r<=1152921504606846976
 res:=λ_ as_=>match as_ with
  |[.val x]=>(match dec ax (.iface t x) with
   |some r=>.int .i64 (bP r)
   |_=>undef)
  |_=>undef
 enters:=he
 ok:=by
  intro W w bs us as_ hk hu hp;obtain⟨r,x,h0,rfl,h1,h2⟩:=hp
  match us,hu with
  |[y],hu=>
   obtain⟨rfl,_⟩:=hu;simp only[<- h0,bU a8];exact h r t _ f h0 hf h1 h2 w
section
variable (n:Nat)(h:Mz n)
noncomputable def ZN:(f:FuncId)->Option (LE.Spec Tryz.prog f)
 |311=>some (D4 279 311 Tryz.call311 rfl n h).spec
 |314=>some (D4 281 314 Tryz.call314 rfl n h).spec
 |316=>some (D4 283 316 Tryz.call316 rfl n h).spec
 |318=>some (D4 284 318 Tryz.call318 rfl n h).spec
 |320=>some (D4 285 320 Tryz.call320 rfl n h).spec
 |322=>some (D4 286 322 Tryz.call322 rfl n h).spec
 |324=>some (D4 311 324 Tryz.call324 rfl n h).spec
 |_=>none
def YC:(t:TypeId)->(name:String)->Option (MethSpec Tryz.prog t name)
 |279, "Size"=>some akq
 |281, "Size"=>some akr
 |283, "Size"=>some aks
 |284, "Size"=>some akt
 |285, "Size"=>some aku
 |286, "Size"=>some akv
 |311, "Size"=>some akw
 |_,_=>none
end
theorem A0{Γ:Env Tryz.prog}{W:World}{bs:List Nat}{κ:Nat}{hh:Hp}(n:Nat)(h:Mz n)(hm:Γ.mt=YC)(hs:∀ t f,fnS t=some f->Γ.sp f=ZN n h f)(r:Rx) :
  aI Γ W bs κ hh "Size" [.v (ax r)]=⟨bP r<n/\bP r<=1152921504606846976,.v (.int .i64 (bP r)),[],none,[],[]⟩:=by
 have key:∀ (t:TypeId) (f:FuncId) (he:∀ args w,(callFunc f args).run Tryz.prog w=.ok (.enter f args) w) (hf:fnS t=some f) (x:Value),ax r=.iface t x ->
   (D4 t f he hf n h).spec.ev W bs κ hh [.v x]=⟨bP r<n/\bP r<=1152921504606846976,.v (.int .i64 (bP r)),[],none,[],[]⟩:=λt f he hf x hx=>by
  have h1:(D4 t f he hf n h).pre W bs [.val x]=(bP r<n/\bP r<=1152921504606846976):=by
   apply propext;constructor
   ·rintro⟨r',x',g1,g2,g3⟩;cases g2;obtain rfl:=a8 _ _ (hx.trans g1.symm);exact g3
   ·exact λg=>⟨r,x,hx,rfl,g⟩
  have h2:(D4 t f he hf n h).res W [.val x]=.int .i64 (bP r):=by
   show (match dec ax (.iface t x) with|some r=>Value.int .i64 (bP r)|_=>undef)=_;rw[<- hx,bU a8]
  rw[aD];show EV _ _ W bs (some ([.val x],[]))=_;rw[BK,h1,h2]
 cases r with
 |eps=>simp only[ax,aI,hm,YC,aks,b6,eY,hs 283 316 rfl,ZN];exact key 283 316 _ rfl _ rfl
 |cls S=>simp only[ax,aI,hm,YC,akw,b6,eY,hs 311 324 rfl,ZN];exact key 311 324 _ rfl _ rfl
 |cat a b=>simp only[ax,aI,hm,YC,akr,b6,eY,hs 281 314 rfl,ZN];exact key 281 314 _ rfl _ rfl
 |alt a b=>simp only[ax,aI,hm,YC,akt,b6,eY,hs 284 318 rfl,ZN];exact key 284 318 _ rfl _ rfl
 |star a=>simp only[ax,aI,hm,YC,akq,b6,eY,hs 279 311 rfl,ZN];exact key 279 311 _ rfl _ rfl
 |and a b=>simp only[ax,aI,hm,YC,aku,b6,eY,hs 285 320 rfl,ZN];exact key 285 320 _ rfl _ rfl
 |minus a b=>simp only[ax,aI,hm,YC,akv,b6,eY,hs 286 322 rfl,ZN];exact key 286 322 _ rfl _ rfl
theorem AJ{eqs:(T:TypeId)->Option (EqSpec Tryz.prog T)}{hh:Hp}(T:TypeId)(X Y:Operand)(r:Rx):bV Tryz.prog eqs hh .eql T X Y [.v (ax r),.v .nilIface]=⟨isIface Tryz.prog T=some true,.v (.bool false),[],none,[],[]⟩:=by
 cases r<;>rfl
def Sm:=(ae @List.replicate_succ.{0} @List.replicate_zero.{0} @au @ab kH kI kK (ae c8 da db dc dn dr dt (ae du ib ic ie ig LA LB (ae LC LD LF LG LH LI C1 (ae C2 C3 C4 C5 C6 C7 C8 (ae C9 Da Db Dc Dd De Df (ae Dg Fi Fj Fk Fl Fo Fp (ae Fq Fs Ft LJ LK LL LM (ae LN LO LP LQ LR LS LU (ae LV LW LX LY LZ L0 L1 (ae Rn Ro Rq Rs Rt Ru Rv (ae Rw @aV @aw @aD @aG @AJ @aL (br @fm @dj @cM)))))))))))))
theorem ZW(r:Rx)(w:World):Calls Tryz.prog 312 #[ax r] w λe w' => e=.returned (ax r)/\an w [] w' := by
 refine ai (nt:=8) [.tmp 2] Tryz.func312 rfl rfl rfl ?_;refine vR Γ0 Sm ?_;refine Wp.seq ?_;refine vR Γ0 Sm ?_;refine wC Sm (λhc=>?_) (λhc=>?_)
 ·cases hc
 ·refine wK ?_;refine vR Γ0 Sm ?_;refine wZ Sm ?_;exact λE=>rfl
noncomputable def Fb:aY Tryz.prog 312 where
 pre:=λW bs=>λ| [.val y0]=>(match dec ax y0 with|some r=>True|_=>False)|_=>False
 res:=λW=>λ| [.val y0]=>(match dec ax y0 with|some r=>ax r|_=>undef)|_=>undef
 enters:=Tryz.call312
 ok:=by
  intro W w bs us as_ hk hu hp;split at hp
  ·rename_i y0;split at hp
   ·rename_i r h0
    match us,hu with
    |[u0],hu=>
     obtain⟨rfl,_⟩:=hu;obtain rfl:=fV h0
     try dsimp only
     try simp only[bU a8]
     exact ZW r w
   ·exact hp.elim
  ·exact hp.elim
theorem Vp(W:World)(r:Rx):Fb.res W [.val (ax r)]=ax r:=by simp only[Fb,bU a8]
theorem Vo(W:World)(bs:List Nat)(r:Rx):Fb.pre W bs [.val (ax r)]=(True):=by simp only[Fb,bU a8]
section
variable (n:Nat)(h:Mz n)
noncomputable def Qb:Env Tryz.prog:=⟨λ| 312=>some Fb.spec|f=>ZN n h f,λ_=>none,YC⟩
theorem abP:(Qb n h).sp 312=some Fb.spec:=rfl
theorem abQ{W:World}{bs:List Nat}{κ:Nat}{hh:Hp}(r:Rx):aI (Qb n h) W bs κ hh "Size" [.v (ax r)]=⟨bP r<n/\bP r<=1152921504606846976,.v (.int .i64 (bP r)),[],none,[],[]⟩:=
 A0 n h rfl (λt f hf=>by
  unfold fnS at hf
  split at hf<;>cases hf<;>rfl) r
end
def nm:=(qG Sm Vp Vo @abP @abQ)
theorem NQ(n:Nat)(h:Mz n):Mz (n+1):=by
 intro r t x f hr hf hlt hsz w;cases r with
 |eps=>
  cases hr;cases hf;refine ai (nt:=3) [.tmp 2] Tryz.func316 rfl rfl rfl ?_;refine vR Γ0 nm ?_;refine vR Γ0 nm ?_;refine wZ nm ?_;exact λE=>rfl
 |cls S=>
  cases hr;cases hf;refine ai (nt:=3) [.tmp 2] Tryz.func324 rfl rfl rfl ?_;refine vR Γ0 nm ?_;refine vR Γ0 nm ?_;refine wZ nm ?_;exact λE=>rfl
 |cat a b=>
  cases hr;cases hf;simp only[bP]at hlt hsz;refine ai (nt:=13) [.tmp 2] Tryz.func314 rfl rfl rfl ?_;refine vR Γ0 nm ?_;refine yt (Qb n h) (aa nm @aA) ?_;refine wZ nm ?_;refine λE=>?_
  simp only[den,bP];have:=vB a;rw[aA (n:=1+(bP a:Int)) oM oM]
  try rw[aA oM oM]
  congr 1
  omega
 |alt a b=>
  cases hr;cases hf;simp only[bP]at hlt hsz;refine ai (nt:=13) [.tmp 2] Tryz.func318 rfl rfl rfl ?_;refine vR Γ0 nm ?_;refine yt (Qb n h) (aa nm @aA) ?_;refine wZ nm ?_;refine λE=>?_
  simp only[den,bP];have:=vB a;rw[aA (n:=1+(bP a:Int)) oM oM]
  try rw[aA oM oM]
  congr 1
  omega
 |and a b=>
  cases hr;cases hf;simp only[bP]at hlt hsz;refine ai (nt:=13) [.tmp 2] Tryz.func320 rfl rfl rfl ?_;refine vR Γ0 nm ?_;refine yt (Qb n h) (aa nm @aA) ?_;refine wZ nm ?_;refine λE=>?_
  simp only[den,bP];have:=vB a;rw[aA (n:=1+(bP a:Int)) oM oM]
  try rw[aA oM oM]
  congr 1
  omega
 |minus a b=>
  cases hr;cases hf;simp only[bP]at hlt hsz;refine ai (nt:=13) [.tmp 2] Tryz.func322 rfl rfl rfl ?_;refine vR Γ0 nm ?_;refine yt (Qb n h) (aa nm @aA) ?_;refine wZ nm ?_;refine λE=>?_
  simp only[den,bP];have:=vB a;rw[aA (n:=1+(bP a:Int)) oM oM]
  try rw[aA oM oM]
  congr 1
  omega
 |star a=>
  cases hr;cases hf;simp only[bP]at hlt hsz;refine ai (nt:=8) [.tmp 2] Tryz.func311 rfl rfl rfl ?_;refine vR Γ0 nm ?_;refine vR (Qb n h) (aa nm @aA) ?_;refine wZ nm ?_;refine λE=>?_
  simp only[den,bP];have:=vB a;rw[aA (n:=1+(bP a:Int)) oM oM]
  try rw[aA oM oM]
  congr 1
  omega
theorem ou:∀ n,Mz n
 |0=>λr t x f _ _ h=>absurd h (Nat.not_lt_zero _)
 |n+1=>NQ n (ou n)
def ov:Option Rx->Value
 |none=>.nilIface
 |some r=>ax r
theorem rp:∀ a b:Option Rx,ov a=ov b->a=b
 |none,none,_=>rfl
 |none,some r,h=>by cases r<;>cases h
 |some r,none,h=>by cases r<;>cases h
 |some r,some r',h=>by rw[a8 r r' h]
inductive zI (W:World) (S:Nat->Prop):Value->Cn->Prop where
 |nil:zI W S (.pointer none) .nil
 | mk (b a:Nat) (op:ByteArray) (n:Option Rx) (to bk:ByteArray) (va vb:Value) (x y:Cn):XC W S b 0 (.int .i64 (a:Nat))->XC W S b 1 (.string op)->XC W S b 2 (ov n)->XC W S b 3 (.string to)->XC W S b 4 (.string bk) ->
   XC W S b 5 va->XC W S b 6 vb->zI W S va x->zI W S vb y->zI W S (.pointer (some ⟨b,0,none⟩)) (.mk a op n to bk x y)
inductive yy (W:World) (S:Nat->Prop):Value->Ln->Prop where
 |nil:yy W S (.pointer none) .nil
 | mk (b a:Nat) (op:ByteArray) (n:Option Rx) (tx:ByteArray) (vq va vb:Value) (q:Cn) (x y:Ln):XC W S b 0 (.int .i64 (a:Nat))->XC W S b 1 (.string op)->XC W S b 2 (ov n)->XC W S b 3 (.string tx)->XC W S b 4 vq ->
   XC W S b 5 va->XC W S b 6 vb->zI W S vq q->yy W S va x->yy W S vb y->yy W S (.pointer (some ⟨b,0,none⟩)) (.mk a op n tx q x y)
theorem zI.mono{W W' : World}{S S' : Nat->Prop}{v:Value}{c:Cn}(h:zI W S v c)(hs:aX W S W' S'):zI W' S' v c:=by
 induction h with
 |nil=>exact .nil
 |mk b a op n to bk va vb x y h0 h1 h2 h3 h4 h5 h6 _ _ i1 i2=>exact .mk b a op n to bk va vb x y (h0.mono hs) (h1.mono hs) (h2.mono hs) (h3.mono hs) (h4.mono hs) (h5.mono hs) (h6.mono hs) i1 i2
theorem yy.mono{W W' : World}{S S' : Nat->Prop}{v:Value}{l:Ln}(h:yy W S v l)(hs:aX W S W' S'):yy W' S' v l:=by
 induction h with
 |nil=>exact .nil
 |mk b a op n tx vq va vb q x y h0 h1 h2 h3 h4 h5 h6 hq _ _ i1 i2=>exact .mk b a op n tx vq va vb q x y (h0.mono hs) (h1.mono hs) (h2.mono hs) (h3.mono hs) (h4.mono hs) (h5.mono hs) (h6.mono hs) (hq.mono hs) i1 i2
theorem xcDet{W:World}{S S' : Nat->Prop}{b o:Nat}{v v' : Value}(h:XC W S b o v)(h' : XC W S' b o v'):v=v' := Option.some.inj (h.2.symm.trans h'.2)
theorem QP{a b:Nat}(h:Value.int .i64 (a:Int)=.int .i64 (b:Int)):a=b:=by
 cases h;rfl
theorem zI.DK{W:World}{S:Nat->Prop}{v:Value}{c:Cn}(h:zI W S v c):∀ {S' : Nat->Prop} {c' : Cn},zI W S' v c' -> c=c' := by
 induction h with
 |nil=>intro S' c' h';cases h';rfl
 | mk b a op n to bk va vb x y h0 h1 h2 h3 h4 h5 h6 _ _ i1 i2=>
  intro S' c' h';cases h' with
  |mk _ a' op' n' to' bk' va' vb' x' y' g0 g1 g2 g3 g4 g5 g6 gx gy=>
   obtain rfl:=QP (xcDet h0 g0);obtain rfl:=Value.string.inj (xcDet h1 g1);obtain rfl:=rp _ _ (xcDet h2 g2);obtain rfl:=Value.string.inj (xcDet h3 g3);obtain rfl:=Value.string.inj (xcDet h4 g4);obtain rfl:=xcDet h5 g5;obtain rfl:=xcDet h6 g6;rw[i1 gx,i2 gy]
theorem yy.DK{W:World}{S:Nat->Prop}{v:Value}{l:Ln}(h:yy W S v l):∀ {S' : Nat->Prop} {l' : Ln},yy W S' v l' -> l=l' := by
 induction h with
 |nil=>intro S' c' h';cases h';rfl
 | mk b a op n tx vq va vb q x y h0 h1 h2 h3 h4 h5 h6 hq _ _ i1 i2=>
  intro S' c' h';cases h' with
  |mk _ a' op' n' tx' vq' va' vb' q' x' y' g0 g1 g2 g3 g4 g5 g6 gq gx gy=>
   obtain rfl:=QP (xcDet h0 g0);obtain rfl:=Value.string.inj (xcDet h1 g1);obtain rfl:=rp _ _ (xcDet h2 g2);obtain rfl:=Value.string.inj (xcDet h3 g3);obtain rfl:=xcDet h4 g4;obtain rfl:=xcDet h5 g5;obtain rfl:=xcDet h6 g6;rw[hq.DK gq,i1 gx,i2 gy]
def eQ(W:World)(S:Nat->Prop)(v:Value):Tm->Prop
 |.text a s=>v=.iface 190 (.agg #[.int .i64 (a:Nat),.string s])
 |.rx a r=>v=.iface 192 (.agg #[.int .i64 (a:Nat),ax r])
 |.canon c=>∃ p,v=.iface 193 p/\zI W S p c
 |.lens l=>∃ p,v=.iface 197 p/\yy W S p l
theorem eQ.mono{W W' : World}{S S' : Nat->Prop}{v:Value}{t:Tm}(h:eQ W S v t)(hs:aX W S W' S'):eQ W' S' v t:=by
 cases t with
 |text a s=>exact h
 |rx a r=>exact h
 |canon c=>obtain⟨p,h1,h2⟩:=h;exact⟨p,h1,h2.mono hs⟩
 |lens l=>obtain⟨p,h1,h2⟩:=h;exact⟨p,h1,h2.mono hs⟩
theorem eQ.iface{W:World}{S:Nat->Prop}{v:Value}{t:Tm}(h:eQ W S v t):∃ k u,v=.iface k u:=by
 cases t with
 |text a s=>exact⟨_,_,h⟩
 |rx a r=>exact⟨_,_,h⟩
 |canon c=>obtain⟨p,h1,h2⟩:=h;exact⟨_,_,h1⟩
 |lens l=>obtain⟨p,h1,h2⟩:=h;exact⟨_,_,h1⟩
theorem eQ.one{W:World}{S:Nat->Prop}{v:Value}{t:Tm}(h:eQ W S v t):v.oneCell' = true:=by
 obtain⟨k,u,rfl⟩:=h.iface;rfl
theorem eQ.hv{W:World}{S:Nat->Prop}{v:Value}{t:Tm}(h:eQ W S v t):hv v=v:=fz h.one
theorem eQ.DK{W:World}{S S' : Nat->Prop}{v:Value}{t t' : Tm}(h:eQ W S v t)(h' : eQ W S' v t'):t=t' := by
 cases t with
 | text a s=>
  cases h;cases t' with
  |text a' s' =>
   have h' : Value.iface _ _=Value.iface _ _:=h';simp only[Value.iface.injEq,Value.agg.injEq,true_and,Array.mk.injEq,List.cons.injEq,Value.int.injEq,Value.string.injEq,and_true]at h';obtain⟨h1,rfl⟩:=h';have:a=a' := oM;rw[this]
  |rx a' r=>exact absurd h' (by intro h';cases h')
  |canon c=>obtain⟨p,h1,_⟩:=h';cases h1
  |lens c=>obtain⟨p,h1,_⟩:=h';cases h1
 | rx a r=>
  cases h;cases t' with
  |rx a' r' =>
   have h' : Value.iface _ _=Value.iface _ _:=h';simp only[Value.iface.injEq,Value.agg.injEq,true_and,Array.mk.injEq,List.cons.injEq,Value.int.injEq,and_true]at h';obtain⟨h1,h2⟩:=h';have:a=a' := oM;rw[this,a8 _ _ h2]
  |text a' r=>exact absurd h' (by intro h';cases h')
  |canon c=>obtain⟨p,h1,_⟩:=h';cases h1
  |lens c=>obtain⟨p,h1,_⟩:=h';cases h1
 | canon c=>
  obtain⟨p,rfl,h2⟩:=h;cases t' with
  |canon c' =>
   obtain⟨p',h1',h2'⟩:=h';cases h1';rw[h2.DK h2']
  |text a s=>exact absurd h' (by intro h';cases h')
  |rx a r=>exact absurd h' (by intro h';cases h')
  |lens l=>obtain⟨p',h1',h2'⟩:=h';cases h1'
 | lens l=>
  obtain⟨p,rfl,h2⟩:=h;cases t' with
  |lens l' =>
   obtain⟨p',h1',h2'⟩:=h';cases h1';rw[h2.DK h2']
  |text a s=>exact absurd h' (by intro h';cases h')
  |rx a r=>exact absurd h' (by intro h';cases h')
  |canon l=>obtain⟨p',h1',h2'⟩:=h';cases h1'
noncomputable def qL(W:World)(v:Value):Tm:=by
 classical exact if h:∃ t,eQ W (λ_=>True) v t then h.choose else .text 0 ⟨#[]⟩
theorem eQ.all{W:World}{S:Nat->Prop}{v:Value}{t:Tm}(h:eQ W S v t):eQ W (λ_=>True) v t:=h.mono λb _ _=>⟨rfl,trivial⟩
theorem cg{W:World}{S:Nat->Prop}{v:Value}{t:Tm}(h:eQ W S v t):qL W v=t:=by
 have hex:∃ t,eQ W (λ_=>True) v t:=⟨t,h.all⟩;unfold qL;rw[dif_pos hex];exact hex.choose_spec.DK h
def dC:Cn->Nat
 |.nil=>0
 |.mk _ _ _ _ _ a b=>dC a+dC b+1
def dL:Ln->Nat
 |.nil=>0
 |.mk _ _ _ _ q a b=>dC q+dL a+dL b+1
def dT:Tm->Nat
 |.canon c=>dC c
 |.lens l=>dL l
 |_=>0
abbrev fw:Nat:=1152921504606846976
def acH:=(ae @List.replicate_succ.{0} @List.replicate_zero.{0} @au @ab kH kI kK (ae c8 da db dc dn dr dt (ae du ew ez eA eB eC eD (ae jw jx jy jz jA ib ic (ae ie ig pD pE pF pG pH (ae pI pJ pK pL nD nE nF (ae nG nH nI nJ nL nM pM (ae pN pO pP pQ pR pS pT (ae pU pV pW pX pY pZ p4 (ae p5 p6 p7 p8 lX lY lZ (ae l6 l7 l8 l9 ma mb mc (ae me mf mg mh mi mj ml (ae mm mn @aV @aw @aD @aG @AJ (aa @aL @fm))))))))))))))
theorem aeO(s:ByteArray)(hs:s.size<=2305843009213693952)(w:World):Calls Tryz.prog 97 #[.string s] w λe w' => e=.returned (.int .i64 (mF s))/\an w [] w' := by
 refine ai (nt:=8) [.tmp 2] Tryz.func97 rfl rfl rfl ?_;refine vR Γ0 acH ?_;refine vR Γ0 acH ?_;refine wZ acH ?_;refine λE=>?_
 simp only[den,mF]
 congr 1
 rw[aA (n:=2*(s.size:Int)) oM oM,aA oM oM];omega
def aeN:aY Tryz.prog 97 where
 pre:=λW bs=>λ| [.val (.string s)]=>s.size<=2305843009213693952|_=>False
 res:=λW=>λ| [.val (.string s)]=>.int .i64 (mF s)|_=>undef
 enters:=Tryz.call97
 ok:=by
  intro W w bs us as_ hk hu hp;split at hp
  ·rename_i s
   match us,hu with
   |[u0],hu=>
    obtain⟨rfl,_⟩:=hu;exact aeO s hp w
  ·exact hp.elim
theorem Lz(W:World)(s:ByteArray):aeN.res W [.val (.string s)]=.int .i64 (mF s):=rfl
theorem Ly(W:World)(bs:List Nat)(s:ByteArray):aeN.pre W bs [.val (.string s)]=(s.size<=2305843009213693952):=rfl
noncomputable def akZ(n:Nat):Env Tryz.prog:=⟨λf=>ZN n (ou n) f,λ_=>none,YC⟩
theorem abR{n:Nat}{W:World}{bs:List Nat}{κ:Nat}{hh:Hp}(r:Rx):aI (akZ n) W bs κ hh "Size" [.v (ax r)]=⟨bP r<n/\bP r<=1152921504606846976,.v (.int .i64 (bP r)),[],none,[],[]⟩:=
 A0 n (ou n) rfl (λt f hf=>rfl) r
def DD:=(fP acH @Lz @Ly @abR)
theorem adR(n:Option Rx)(hs:dX n<=fw)(w:World):Calls Tryz.prog 98 #[ov n] w λe w' => e=.returned (.int .i64 (dX n))/\an w [] w' := by
 cases n with
 | none=>
  refine ai (nt:=7) [.tmp 2] Tryz.func98 rfl rfl rfl ?_;refine vR Γ0 (br DD @ov.eq_1 @ov.eq_2) ?_;refine Wp.seq ?_;refine vR Γ0 DD ?_;refine wC DD (λhc=>?_) (λhc=>?_)
  ·skip;refine vR Γ0 DD ?_;refine wZ DD ?_;exact λE=>rfl
  ·cases hc
 | some r=>
  refine ai (nt:=7) [.tmp 2] Tryz.func98 rfl rfl rfl ?_;refine vR Γ0 (br DD @ov.eq_1 @ov.eq_2) ?_;refine Wp.seq ?_;refine vR Γ0 DD ?_;refine wC DD (λhc=>?_) (λhc=>?_)
  ·cases hc
  ·refine wK ?_;refine wR (akZ (bP r+1)) DD ?_ ?_
   ·exact⟨Nat.lt_succ_self _,hs⟩
   refine wZ DD ?_;exact λE=>rfl
noncomputable def T6:aY Tryz.prog 98 where
 pre:=λW bs=>λ| [.val y0]=>(match dec ov y0 with|some n=>dX n<=fw|_=>False)|_=>False
 res:=λW=>λ| [.val y0]=>(match dec ov y0 with|some n=>.int .i64 (dX n)|_=>undef)|_=>undef
 enters:=Tryz.call98
 ok:=by
  intro W w bs us as_ hk hu hp;split at hp
  ·rename_i y0;split at hp
   ·rename_i n h0
    match us,hu with
    |[u0],hu=>
     obtain⟨rfl,_⟩:=hu;obtain rfl:=fV h0
     try dsimp only
     try simp only[bU rp]
     exact adR n hp w
   ·exact hp.elim
  ·exact hp.elim
theorem YI(W:World)(n:Option Rx):T6.res W [.val (ov n)]=.int .i64 (dX n):=by simp only[T6,bU rp]
theorem YH(W:World)(bs:List Nat)(n:Option Rx):T6.pre W bs [.val (ov n)]=(dX n<=fw):=by simp only[T6,bU rp]
end
end Go.Proofs.YtnemkecffmdlnaaGreatDoor
