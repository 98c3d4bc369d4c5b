/-
 CodeChecksUptoCardSaid: CodeChecks returns true for every tape whose bulk is at most 1048576, and leaves it as it was; the listed tables are tied to the program's text.
-/
import Derived.Test.YtnemkecffmdlnaaGreatDoorA5
import Derived.Shelf.LaysM
import Derived.Shelf.Strconv.Itoa3
import Derived.Test.YtnemkecffmdlnaaGreatDoorProg
import Derived.Lib.AppendIntMem
import Derived.Shelf.Strings.Builder1
import Derived.Shelf.RegionOpenPlain
import Derived.Test.YtnemkecffmdlnaaGreatDoorCards
import Derived.Test.YtnemkecffmdlnaaGreatDoorTie
import Derived.WalkKit
import Derived.ProofKit
import Derived.OpenShut
import Derived.Deep.DeepHandedRow
import Derived.Lib.LaidTab
import Derived.Lib.LaidU8
import Derived.Lay
import Derived.Test.YtnemkecffmdlnaaGreatDoorRows
import Derived.JoinedCond
set_option linter.unusedSimpArgs false
set_option linter.unusedVariables false
set_option linter.defProp false
namespace Go.Proofs
section
open Go.Shelf
def Tryz.AM : Go.Shelf.Ren := ⟨fun | 171 => 39 | 243 => 76 | 246 => 131 | 283 => 183 | 284 => 184 | 285 => 185 | 286 => 186 | 129 => 227 | 317 => 226 | 318 => 228 | 319 => 229 | 320 => 230 | 337 => 254 | 338 => 255 | n => n, fun | 3 => 3 | 9 => 9 | 2 => 2 | 4 => 4 | 171 => 313 | 0 => 0 | 53 => 203 | 37 => 89 | 5 => 5 | 173 => 316 | 212 => 334 | 51 => 335 | 20 => 20 | 213 => 336 | 46 => 158 | 232 => 363 | 233 => 364 | n => n, fun | 17 => 3 | 18 => 7 | 19 => 8 | n => n⟩
theorem Tryz.S4 : Go.Proofs.LaysM.n171 Tryz.prog Tryz.AM := {
 mixed := by kernel_rfl
 f129 := Tryz.func227.trans (congrArg some (by kernel_rfl))
 f171 := Tryz.func39.trans (congrArg some (by kernel_rfl))
 f243 := Tryz.func76.trans (congrArg some (by kernel_rfl))
 f246 := Tryz.func131.trans (congrArg some (by kernel_rfl))
 f283 := Tryz.func183.trans (congrArg some (by kernel_rfl))
 f284 := Tryz.func184.trans (congrArg some (by kernel_rfl))
 f285 := Tryz.func185.trans (congrArg some (by kernel_rfl))
 f286 := Tryz.func186.trans (congrArg some (by kernel_rfl))
 f317 := Tryz.func226.trans (congrArg some (by kernel_rfl))
 f318 := Tryz.func228.trans (congrArg some (by kernel_rfl))
 f319 := Tryz.func229.trans (congrArg some (by kernel_rfl))
 f320 := Tryz.func230.trans (congrArg some (by kernel_rfl))
 f337 := Tryz.func254.trans (congrArg some (by kernel_rfl))
 f338 := Tryz.func255.trans (congrArg some (by kernel_rfl))
 t0 := Tryz.underlying0
 a0 := Tryz.isAgg0
 z0 := Tryz.sizeOf0
 v0 := Tryz.zeroValue0
 t2 := Tryz.underlying2
 a2 := Tryz.isAgg2
 z2 := Tryz.sizeOf2
 v2 := Tryz.zeroValue2
 t3 := Tryz.underlying3
 a3 := Tryz.isAgg3
 z3 := Tryz.sizeOf3
 v3 := Tryz.zeroValue3
 t4 := Tryz.underlying4
 a4 := Tryz.isAgg4
 z4 := Tryz.sizeOf4
 v4 := Tryz.zeroValue4
 t5 := Tryz.underlying5
 a5 := Tryz.isAgg5
 z5 := Tryz.sizeOf5
 v5 := Tryz.zeroValue5
 t9 := Tryz.underlying9
 a9 := Tryz.isAgg9
 z9 := Tryz.sizeOf9
 v9 := Tryz.zeroValue9
 t20 := Tryz.underlying20
 a20 := Tryz.isAgg20
 z20 := Tryz.sizeOf20
 v20 := Tryz.zeroValue20
 t37 := Tryz.underlying89
 a37 := Tryz.isAgg89
 z37 := Tryz.sizeOf89
 v37 := Tryz.zeroValue89
 t46 := Tryz.underlying158
 a46 := Tryz.isAgg158
 z46 := Tryz.sizeOf158
 v46 := Tryz.zeroValue158
 t51 := Tryz.underlying335
 a51 := Tryz.isAgg335
 z51 := Tryz.sizeOf335
 v51 := Tryz.zeroValue335
 t53 := Tryz.underlying203
 a53 := Tryz.isAgg203
 z53 := Tryz.sizeOf203
 v53 := Tryz.zeroValue203
 t171 := Tryz.underlying313
 a171 := Tryz.isAgg313
 z171 := Tryz.sizeOf313
 v171 := Tryz.zeroValue313
 t173 := Tryz.underlying316
 a173 := Tryz.isAgg316
 z173 := Tryz.sizeOf316
 v173 := Tryz.zeroValue316
 t212 := Tryz.underlying334
 a212 := Tryz.isAgg334
 z212 := Tryz.sizeOf334
 v212 := Tryz.zeroValue334
 t213 := Tryz.underlying336
 a213 := Tryz.isAgg336
 z213 := Tryz.sizeOf336
 t232 := Tryz.underlying363
 a232 := Tryz.isAgg363
 z232 := Tryz.sizeOf363
 v232 := Tryz.zeroValue363
 t233 := Tryz.underlying364
 a233 := Tryz.isAgg364
 z233 := Tryz.sizeOf364
 v233 := Tryz.zeroValue364
 g17 := by kernel_rfl
 g18 := by kernel_rfl
 g19 := by kernel_rfl
 i0 := by kernel_rfl
 i2 := by kernel_rfl
 i3 := by kernel_rfl
 i4 := by kernel_rfl
 i5 := by kernel_rfl
 i9 := by kernel_rfl
 i20 := by kernel_rfl
 i37 := by kernel_rfl
 i46 := by kernel_rfl
 i51 := by kernel_rfl
 i53 := by kernel_rfl
 i171 := by kernel_rfl
 i173 := by kernel_rfl
 i212 := by kernel_rfl
 i232 := by kernel_rfl
 i233 := by kernel_rfl
 m17 := by kernel_rfl
 m18 := by kernel_rfl
 m19 := by kernel_rfl }
end
end Go.Proofs
namespace Go.Proofs.YtnemkecffmdlnaaGreatDoor
section
open Go.RowKit Go.LE
set_option maxRecDepth 10000
theorem y8 (s : ByteArray) : jK ((byteCells s).map SV.v) = some (s.data.toList.map fun c => (c.toNat : Int)) := by
 have h : (byteCells s).map SV.v = (s.data.toList.map fun c => (c.toNat : Int)).map fun n => SV.v (.int .u8 n) := by simp [byteCells]
 rw [h, ml]
theorem ER (s : ByteArray) : gu (s.data.toList.map fun c => (c.toNat : Int)) = s := by
 rcases s with ⟨⟨l⟩⟩
 unfold gu
 rw [List.map_map]
 have h : (fun n : Int => UInt8.ofNat n.toNat) ∘ (fun c : UInt8 => (c.toNat : Int)) = id := by
  funext c
  show UInt8.ofNat ((c.toNat : Int).toNat) = c
  rw [Int.toNat_natCast, UInt8.ofNat_toNat]
 rw [h, List.map_id]
theorem Jl (s : ByteArray) : ((byteCells s).map SV.v).all cq = true := by
 rw [List.all_eq_true]
 intro x hx
 obtain ⟨v, hv, rfl⟩ := List.mem_map.1 hx
 obtain ⟨c, _, rfl⟩ := List.mem_map.1 hv
 rfl
theorem xU (s : ByteArray) (l : List Int) (h : ∀ c ∈ l, 0 <= c /\ c < 256) : (byteCells s).map SV.v ++ l.map (fun c => SV.v (.int .u8 c)) = (byteCells (s ++ gu l)).map SV.v := by
 unfold byteCells gu
 rw [ByteArray.data_append, Array.toList_append, List.map_append, List.map_append]
 congr 1
 simp only [List.map_map]
 refine List.map_congr_left fun c hc => ?_
 obtain ⟨h0, h1⟩ := h c hc
 simp only [Function.comp, UInt8.toNat_ofNat']
 rw [Nat.mod_eq_of_lt (by omega)]
 congr 2
 omega
theorem nT (s t : ByteArray) : (byteCells s).map SV.v ++ (byteCells t).map SV.v = (byteCells (s ++ t)).map SV.v := by
 unfold byteCells
 rw [ByteArray.data_append, Array.toList_append, List.map_append, List.map_append]
theorem KK : ∀ b : Fin 256, (0 <= ((b.val : Nat) : Int).fdiv 16 /\ ((b.val : Nat) : Int).fdiv 16 < 16) /\ (0 <= bU .and .u8 ((b.val : Nat) : Int) 15 /\ bU .and .u8 ((b.val : Nat) : Int) 15 < 16) /\
  ((b.val : Nat) : Int).fdiv 16 = ((b.val : Nat) : Int) / 16 /\ bU .and .u8 ((b.val : Nat) : Int) 15 = ((b.val : Nat) : Int) % 16 := by decide +kernel
theorem EH (s : ByteArray) : (s.data.toList.map fun c => (c.toNat : Int)).length = s.size := by rw [List.length_map]; rfl
theorem dU (l : List Int) : (gu l).size = l.length := by simp [gu, ByteArray.size]
def Ae : ByteArray := ⟨#[48, 49, 50, 51, 52, 53, 54, 55, 56, 57, 97, 98, 99, 100, 101, 102]⟩
def mc (c : Int) : List Int :=
 if c = 34 \/ c = 92 then [92, c] else if 32 <= c /\ c <= 126 then [c] else if c = 10 then [92, 110] else if c = 13 then [92, 114] else if c = 9 then [92, 116] else [92, 120, bt Ae (c / 16), bt Ae (c % 16)]
def gq (s : ByteArray) : Nat -> ByteArray
 | 0 => gu [34]
 | k + 1 => gq s k ++ gu (mc (bt s k))
def vV (s : ByteArray) : ByteArray := gq s s.size ++ gu [34]
theorem Py (c : Int) : (mc c).length <= 4 := by
 unfold mc
 repeat' split
 all_goals simp
theorem mL (s : ByteArray) : ∀ k, (gq s k).size <= 1 + 4 * k
 | 0 => by show (gu [34]).size <= _; rw [dU]; simp
 | k + 1 => by
  show (gq s k ++ gu (mc (bt s k))).size <= _
  rw [ByteArray.size_append, dU]
  have := mL s k
  have := Py (bt s k)
  omega
theorem xF (s : ByteArray) : (vV s).size <= 2 + 4 * s.size := by
 show (gq s s.size ++ gu [34]).size <= _
 rw [ByteArray.size_append, dU]
 have := mL s s.size
 simp only [List.length_cons, List.length_nil]
 omega
theorem Ol (s : ByteArray) (i : Int) : 0 <= bt s i /\ bt s i < 256 := by
 unfold bt
 have := (s.data[i.toNat]?.getD 0).toNat_lt
 omega
def eJ := (aq @List.replicate_succ.{0} @List.replicate_zero.{0} @aw @ah Mv Mq Mr (aq X9 Yj XP Yk jn cQ cV (aq cX cS da c9 c8 db iv (aq ie ig ir iw eW eV eX (aq eZ e8 e9 Oa Ny Q3 Nj (Ci @aO @au @aB @aC @y8 @ER @Jl))))))
set_option maxHeartbeats 2000000 in
theorem Lo (s : ByteArray) (hs : s.size <= 1048576) (w : World) : Calls Tryz.prog 38 #[.string s] w fun e w' => e = .returned (.string (vV s)) /\ ai w [] w' := by
 refine al (nt := 66) [.tmp 2] Tryz.func38 rfl rfl rfl ?_
 refine vR Γ0 eJ ?_
 refine vR Γ0 eJ ?_
 refine Wp.seq ?_
 refine vR Γ0 eJ ?_
 refine Wp.block ?_
 refine Wp.loop (fun k : Nat => ⟨20, bV [(0, .is (.v (.string s))), (3, .is (.hd 8)), (8, .is (.v (.int .i64 s.size))), (9, .is (.v (.int .i64 (k : Nat))))], cd [(8, .row 5 1 (gq s k).size ((byteCells (gq s k)).map .v))]⟩) (fun k => k <= s.size) (fun k => s.size - k) 0 ?_ (Nat.zero_le _) ?_
 ·exact wM (fun k => .key k) eJ
 rintro k hk
 refine vR Γ0 eJ ?_
 refine Wp.seq ?_
 refine wC eJ (fun hc => ?_) (fun hc => ?_)
 ·have hlt : k < s.size := by
   simp at hc
   omega
  obtain ⟨c0, c1⟩ := Ol s k
  have hq := mL s k
  have ha := fun l hl => xU (gq s k) l hl
  have hb : gq s (k + 1) = gq s k ++ gu (mc (bt s k)) := rfl
  have wk : IntKind.i64.wrap ((k : Int) + 1) = ((k + 1 : Nat) : Int) := by rw [aa (by omega) (by omega)]; omega
  refine wK ?_
  refine bx ⟨20, bV [(0, .is (.v (.string s))), (8, .is (.v (.int .i64 s.size))), (9, .is (.v (.int .i64 (k : Nat)))), (3, .is (.hd 8))], cd [(8, .row 5 1 (gq s (k + 1)).size ((byteCells (gq s (k + 1))).map .v))]⟩ ?_ ?_
  ·refine Wp.block ?_
   refine vR Γ0 eJ ?_
   refine wR Γ0 eJ ?_ ?_
   ·first | omega | exact ⟨by omega, by omega⟩
   refine Wp.block ?_
   refine vR Γ0 eJ ?_
   refine wC eJ (fun hc => ?_) (fun hc => ?_)
   ·have hv : bt s k = 34 \/ bt s k = 92 := by simpa using hc
    have e0 : mc (bt s k) = [92, bt s k] := by rw [mc, if_pos hv]
    rw [e0] at hb
    have e1 := ha _ (fun c (hc : c ∈ [92, bt s k]) => by simp at hc; omega)
    rw [<- hb] at e1
    simp only [List.map_cons, List.map_nil] at e1
    have e2 : (gq s (k + 1)).size = (gq s k).size + 2 := by rw [hb, ByteArray.size_append, dU]; rfl
    refine wr Γ0 eJ ?_ ?_
    ·exact by unfold maxLen; omega
    exact wM (fun k => if k = 8 then .key 296 else .key k) (dk eJ e1 e2)
   have n0 : ¬ (bt s k = 34 \/ bt s k = 92) := by simpa using hc
   refine vR Γ0 eJ ?_
   refine wC eJ (fun hc => ?_) (fun hc => ?_)
   ·have hv : 32 <= bt s k /\ bt s k <= 126 := by simpa using hc
    have e0 : mc (bt s k) = [bt s k] := by rw [mc, if_neg n0, if_pos hv]
    rw [e0] at hb
    have e1 := ha _ (fun c (hc : c ∈ [bt s k]) => by simp at hc; omega)
    rw [<- hb] at e1
    simp only [List.map_cons, List.map_nil] at e1
    have e2 : (gq s (k + 1)).size = (gq s k).size + 1 := by rw [hb, ByteArray.size_append, dU]; rfl
    refine wr Γ0 eJ ?_ ?_
    ·exact by unfold maxLen; omega
    exact wM (fun k => if k = 8 then .key 352 else .key k) (dk eJ e1 e2)
   have n1 : ¬ (32 <= bt s k /\ bt s k <= 126) := by simpa using hc
   refine vR Γ0 eJ ?_
   refine wC eJ (fun hc => ?_) (fun hc => ?_)
   ·have hv : bt s k = 10 := by simpa using hc
    have e0 : mc (bt s k) = [92, 110] := by rw [mc, if_neg n0, if_neg n1, if_pos hv]
    rw [e0] at hb
    have e1 := nT (gq s k) (gu [92, 110])
    rw [<- hb] at e1
    have e2 : (gq s (k + 1)).size = (gq s k).size + 2 := by rw [hb, ByteArray.size_append, dU]; rfl
    have e3 : (⟨#[92, 110]⟩ : ByteArray) = gu [92, 110] := rfl
    have e4 : (gu [92, 110]).size = 2 := rfl
    refine wr Γ0 (dk eJ e3 e4) ?_ ?_
    ·unfold maxLen; omega
    exact wM (fun k => if k = 8 then .key 360 else .key k) (dk eJ e1 e2)
   have n2 : ¬ bt s k = 10 := by simpa using hc
   refine vR Γ0 eJ ?_
   refine wC eJ (fun hc => ?_) (fun hc => ?_)
   ·have hv : bt s k = 13 := by simpa using hc
    have e0 : mc (bt s k) = [92, 114] := by rw [mc, if_neg n0, if_neg n1, if_neg n2, if_pos hv]
    rw [e0] at hb
    have e1 := nT (gq s k) (gu [92, 114])
    rw [<- hb] at e1
    have e2 : (gq s (k + 1)).size = (gq s k).size + 2 := by rw [hb, ByteArray.size_append, dU]; rfl
    have e3 : (⟨#[92, 114]⟩ : ByteArray) = gu [92, 114] := rfl
    have e4 : (gu [92, 114]).size = 2 := rfl
    refine wr Γ0 (dk eJ e3 e4) ?_ ?_
    ·unfold maxLen; omega
    exact wM (fun k => if k = 8 then .key 384 else .key k) (dk eJ e1 e2)
   have n3 : ¬ bt s k = 13 := by simpa using hc
   refine vR Γ0 eJ ?_
   refine wC eJ (fun hc => ?_) (fun hc => ?_)
   ·have hv : bt s k = 9 := by simpa using hc
    have e0 : mc (bt s k) = [92, 116] := by rw [mc, if_neg n0, if_neg n1, if_neg n2, if_neg n3, if_pos hv]
    rw [e0] at hb
    have e1 := nT (gq s k) (gu [92, 116])
    rw [<- hb] at e1
    have e2 : (gq s (k + 1)).size = (gq s k).size + 2 := by rw [hb, ByteArray.size_append, dU]; rfl
    have e3 : (⟨#[92, 116]⟩ : ByteArray) = gu [92, 116] := rfl
    have e4 : (gu [92, 116]).size = 2 := rfl
    refine wr Γ0 (dk eJ e3 e4) ?_ ?_
    ·unfold maxLen; omega
    exact wM (fun k => if k = 8 then .key 408 else .key k) (dk eJ e1 e2)
   have n4 : ¬ bt s k = 9 := by simpa using hc
   have e0 : mc (bt s k) = [92, 120, bt Ae (bt s k / 16), bt Ae (bt s k % 16)] := by rw [mc, if_neg n0, if_neg n1, if_neg n2, if_neg n3, if_neg n4]
   obtain ⟨x, hx⟩ := Int.eq_ofNat_of_zero_le c0
   have x1 : x < 256 := by omega
   obtain ⟨f1, f2, f3, f4⟩ := KK ⟨x, x1⟩
   simp only at f1 f2 f3 f4
   rw [hx] at e0
   rw [hx, e0] at hb
   have b1 := Ol Ae ((x : Int) / 16)
   have b2 := Ol Ae ((x : Int) % 16)
   have e1 := ha _ (fun c (hc : c ∈ [92, 120, bt Ae ((x : Int) / 16), bt Ae ((x : Int) % 16)]) => by simp at hc; omega)
   rw [<- hb] at e1
   simp only [List.map_cons, List.map_nil] at e1
   have e2 : (gq s (k + 1)).size = (gq s k).size + 4 := by rw [hb, ByteArray.size_append, dU]; rfl
   have hxe : (⟨#[48, 49, 50, 51, 52, 53, 54, 55, 56, 57, 97, 98, 99, 100, 101, 102]⟩ : ByteArray) = Ae := rfl
   refine rX Γ0 (p8 eJ hx f3 f4 hxe) ?_ ?_
   ·rw [f3] at f1
    rw [f4] at f2
    exact ⟨f1, f2, by unfold maxLen; omega, by omega⟩
   exact wM (fun k => if k = 8 then .key 464 else .key k) (Ci eJ hx f3 f4 hxe e1 e2)
  refine wr Γ0 (ab eJ wk) ?_ ?_
  ·first | trivial | omega
  refine ⟨k + 1, hlt, by omega, ?_⟩
  exact wM (fun k => .key k) eJ
 ·have hk' : k = s.size := by
   simp at hc
   omega
  subst hk'
  have ha := xU (gq s s.size) [34] (fun c hc => by simp at hc; omega)
  simp only [List.map_cons, List.map_nil] at ha
  have hq := mL s s.size
  have e2 : (vV s).size = (gq s s.size).size + 1 := by rw [vV, ByteArray.size_append, dU]; rfl
  refine wE ?_
  refine wR Γ0 (ab eJ ha) ?_ ?_
  ·exact ⟨⟨by unfold maxLen; omega, by omega⟩, by rw [EH, <- vV, e2]⟩
  refine wZ eJ ?_
  exact fun E => rfl
end
section
open Go.RowKit Go.LE
set_option maxRecDepth 10000
def nV (n : Int) : ByteArray := ⟨(Lib.itoa n).toArray⟩
theorem MG (n : Nat) : nV n = ⟨(Lib.decDigits n).toArray⟩ := by
 unfold nV Lib.itoa
 rw [if_neg (by omega), Int.toNat_natCast]
theorem uU : ∀ (k u : Nat), u < 10 ^ (k + 1) -> Lib.nDigits u <= k + 1
 | 0, u, h => by rw [Lib.nDigits_small (by omega)]; omega
 | k + 1, u, h => by
  by_cases h1 : u < 10
  ·rw [Lib.nDigits_small h1]; omega
  ·rw [Lib.nDigits_big h1]
   have := uU k (u / 10) (by rw [Nat.pow_succ] at h; omega)
   omega
theorem eR {n : Int} (h0 : 0 <= n) (h1 : n <= 9223372036854775807) : (nV n).size <= 19 := by
 obtain ⟨m, rfl⟩ := Int.eq_ofNat_of_zero_le h0
 rw [MG]
 show (Lib.decDigits m).length <= 19
 rw [Lib.decDigits_length]
 exact uU 18 m (by omega)
def gw (W : World) (S : Nat -> Prop) : Prop := S 3 /\ Lib.TabIs Tryz.prog W "internal/strconv.uint64pow10" .u64 Lib.pow10Tab
theorem Nf : Tryz.prog.globalNamed "internal/strconv.uint64pow10" = some 3 := by kernel_rfl
theorem gw.mono {W W' : World} {S S' : Nat -> Prop} (h : gw W S) (hs : cr W S W' S') : gw W' S' := by
 obtain ⟨h0, h1⟩ := h
 unfold Lib.TabIs World.var? at h1
 rw [Nf, Option.bind_some] at h1
 have hlt : 3 < W.heap.size := by
  refine Decidable.byContradiction fun hn => ?_
  rw [Array.getElem?_eq_none (by omega)] at h1
  cases h1
 obtain ⟨g1, g2⟩ := hs 3 hlt h0
 refine ⟨g2, ?_⟩
 unfold Lib.TabIs World.var?
 rw [Nf, Option.bind_some, g1]
 exact h1
theorem gw.fD {W w : World} {bs fp : List Nat} (h : gw W (Out bs)) (hk : ai W bs w) (hm : ∀ b ∈ fp, W.heap.size <= b \/ b ∈ bs) : gw w (Out fp) :=
 h.mono fun b hb hs => ⟨hk.block b hb hs, fun hb' => (hm b hb').elim (fun g => absurd g (Nat.not_le.2 hb)) hs⟩
theorem MA (n : Int) (h0 : 0 <= n) (h1 : n <= 9223372036854775807) (w : World) (ht : gw w (Out [])) : Calls Tryz.prog 39 #[.int .i64 n] w fun e w' => e = .returned (.string (nV n)) /\ LE.ai w [] w' := by
 refine (Any.strconv_Itoa Tryz.S4 n (by omega) h1 w ht.2).mono ?_
 rintro e w' ⟨rfl, k, os, rfl⟩
 exact ⟨rfl, LE.ai.Qd (Lib.below_grow _ w (Nat.le_refl _) k os)⟩
def xY : a7 Tryz.prog 39 where
 pre := fun W bs => fun | [.val (.int .i64 n)] => (0 <= n /\ n <= 9223372036854775807) /\ gw W (Out bs) | _ => False
 res := fun W => fun | [.val (.int .i64 n)] => .string (nV n) | _ => undef
 enters := Tryz.call39
 ok := by
  intro W w bs us as_ hk hu hp
  split at hp
  ·rename_i n
   match us, hu with
   | [u0], hu =>
    obtain ⟨rfl, _⟩ := hu
    exact MA n hp.1.1 hp.1.2 w (hp.2.fD hk (by simp))
  ·exact hp.elim
theorem yb (W : World) (n : Int) : xY.res W [.val (.int .i64 n)] = .string (nV n) := rfl
theorem ym (W : World) (bs : List Nat) (n : Int) : xY.pre W bs [.val (.int .i64 n)] = ((0 <= n /\ n <= 9223372036854775807) /\ gw W (Out bs)) := rfl
end
section
open Go.RowKit Go.LE
set_option maxRecDepth 10000
structure rP (op k a b : Int) : Prop where
 op0 : 0 <= op
 op1 : op < 21
 kk : k = 0 \/ ((lV op.toNat).2.1 = true /\ k = 1)
 a0 : 0 <= a
 a1 : a <= 9223372036854775807
 b0 : 0 <= b
 b1 : b <= 9223372036854775807
theorem Qj {n1 n2 n3 : Nat} {u n : Int} (h : pe n1 n2 n3 u n = true) (h1 : n1 <= 140737488351232) (h2 : n2 <= 140737488351232) (h3 : n3 <= 140737488351232) : 0 <= n /\ n <= 9223372036854775807 := by
 unfold pe at h
 repeat' split at h
 all_goals first
  | (simp [lq] at h; omega)
  | (simp at h; omega)
theorem rP.of {n1 n2 n3 : Nat} {op k a b : Int} (h : lr n1 n2 n3 op k a b = true) (h1 : n1 <= 140737488351232) (h2 : n2 <= 140737488351232) (h3 : n3 <= 140737488351232) : rP op k a b := by
 unfold lr at h
 simp only [Bool.and_eq_true, Bool.or_eq_true, decide_eq_true_eq] at h
 obtain ⟨⟨⟨o0, o1⟩, hk⟩, ha, hb⟩ := h
 have ha := Qj ha h1 h2 h3
 have hb := Qj hb h1 h2 h3
 exact ⟨o0, o1, hk, ha.1, ha.2, hb.1, hb.2⟩
def Rg (k : Int) : ByteArray := if k = 0 then ⟨#[115]⟩ else ⟨#[118]⟩
def J9 (n : Int) (wd : ByteArray) : ByteArray := nV n ++ ⟨#[32]⟩ ++ wd
def Rk (st : Bool) (k : Int) (o : ByteArray) : ByteArray := bif st then o ++ (⟨#[32]⟩ ++ Rg k) else o
def Dy (u a : Int) (o : ByteArray) : ByteArray := if u = 0 then o else o ++ (⟨#[32]⟩ ++ nV a)
def nM (n op k a b : Int) : ByteArray := Dy (lV op.toNat).2.2.2 b (Dy (lV op.toNat).2.2.1 a (Rk (lV op.toNat).2.1 k (J9 n (lV op.toNat).1)))
theorem Bf {n : Int} {wd : ByteArray} (h0 : 0 <= n) (h1 : n <= 9223372036854775807) (hw : wd.size <= 5) : (J9 n wd).size <= 25 := by
 have := eR h0 h1
 have e : (⟨#[32]⟩ : ByteArray).size = 1 := rfl
 unfold J9
 rw [ByteArray.size_append, ByteArray.size_append, e]
 omega
theorem BB (st : Bool) (k : Int) (o : ByteArray) : (Rk st k o).size <= o.size + 2 := by
 have e : (⟨#[32]⟩ : ByteArray).size = 1 := rfl
 have e2 : (Rg k).size = 1 := by unfold Rg; split <;> rfl
 cases st
 ·show o.size <= _; omega
 ·show (o ++ (⟨#[32]⟩ ++ Rg k)).size <= _
  rw [ByteArray.size_append, ByteArray.size_append, e, e2]
  omega
theorem uF {u a : Int} {o : ByteArray} (h0 : 0 <= a) (h1 : a <= 9223372036854775807) : (Dy u a o).size <= o.size + 20 := by
 have := eR h0 h1
 have e : (⟨#[32]⟩ : ByteArray).size = 1 := rfl
 unfold Dy
 split
 ·omega
 ·rw [ByteArray.size_append, ByteArray.size_append, e]
  omega
theorem BE (m : Nat) (hm : m < 21) : (lV m).1.size <= 5 := by
 have : ∀ b : Fin 21, (lV b.val).1.size <= 5 := by decide +kernel
 exact this ⟨m, hm⟩
theorem uV {n op k a b : Int} (h0 : 0 <= n) (h1 : n <= 9223372036854775807) (hi : rP op k a b) : (nM n op k a b).size <= 67 := by
 have g1 := Bf (wd := (lV op.toNat).1) h0 h1 (BE _ (by have := hi.op0; have := hi.op1; omega))
 have g2 := BB (lV op.toNat).2.1 k (J9 n (lV op.toNat).1)
 have g3 := uF (u := (lV op.toNat).2.2.1) (o := Rk (lV op.toNat).2.1 k (J9 n (lV op.toNat).1)) hi.a0 hi.a1
 have g4 := uF (u := (lV op.toNat).2.2.2) (o := Dy (lV op.toNat).2.2.1 a (Rk (lV op.toNat).2.1 k (J9 n (lV op.toNat).1))) hi.b0 hi.b1
 unfold nM
 omega
noncomputable def Γ96 : Env Tryz.prog := ⟨fun | 39 => some xY.spec | _ => none, fun | _ => none, fun _ _ => none⟩
theorem Gt96c39 : Γ96.sp 39 = some xY.spec := rfl
def jQ := (aq @List.replicate_succ.{0} @List.replicate_zero.{0} @aw @ah jS jP jn (aq cQ cV cX cS da c9 c8 (aq db eW eV eX eZ e8 e9 (aq C1 BF Dt CC Dh B3 Dw (aq Cn rK Hg HH Iz IG Un (aq Uk Um UI Ut UJ Uu Ux (aq UM Ul UA @aO @au @aB @aC (dk @yb @ym Gt96c39))))))))
set_option maxHeartbeats 2000000 in
theorem PF (n op k a b : Int) (h0 : 0 <= n) (h1 : n <= 9223372036854775807) (hi : rP op k a b) (w : World) (hg : dF w (Out [])) (ht : gw w (Out [])) : Calls Tryz.prog 40 #[.int .i64 n, V5 op k a b] w fun e w' => e = .returned (.string (nM n op k a b)) /\ LE.ai w [] w' := by
 obtain ⟨o0, o1, hk, a0, a1, b0, b1⟩ := hi
 obtain ⟨m, rfl⟩ := Int.eq_ofNat_of_zero_le o0
 obtain ⟨g1, g2, g3, g4⟩ := hg.2 m (by omega)
 unfold nM
 rw [Int.toNat_natCast] at hk ⊢
 have hwd := BE m (by omega)
 have hnn := eR h0 h1
 have hna := eR a0 a1
 have hnb := eR b0 b1
 have z32 : (⟨#[32]⟩ : ByteArray).size = 1 := rfl
 have zsv : ∀ k, (Rg k).size = 1 := fun k => by unfold Rg; split <;> rfl
 have z2 : (⟨#[115, 118]⟩ : ByteArray).size = 2 := rfl
 generalize (lV m).1 = wd at *
 generalize (lV m).2.1 = st at *
 generalize (lV m).2.2.1 = u1 at *
 generalize (lV m).2.2.2 = u2 at *
 refine al (nt := 47) [.tmp 4] Tryz.func40 rfl rfl rfl ?_
 refine vR Γ96 jQ ?_
 refine wR Γ96 (p8 jQ g1 g2 g3 g4) ?_ ?_
 ·omega
 refine kY Γ96 jQ ?_ ?_
 ·exact ⟨⟨⟨h0, h1⟩, ht⟩, by rw [z32]; omega, by rw [ByteArray.size_append, z32]; omega⟩
 have f1 := Bf (wd := wd) h0 h1 hwd
 have f2 := BB st k (J9 n wd)
 have f3 := uF (u := u1) (o := Rk st k (J9 n wd)) a0 a1
 refine bx ⟨60, bV [(3, .is (.own 0 0)), (5, .is (.own 48 0)), (6, .is (.v (.string (Rk st k (J9 n wd)))))], cd [(0, .cells 50 [.v (.int .i64 m), .v (.int .i64 k), .v (.int .i64 a), .v (.int .i64 b)]), (48, .cells 160 [.v (.string wd), .v (.bool st), .v (.int .i64 u1), .v (.int .i64 u2)])]⟩ ?_ ?_
 ·skip
  refine vR Γ96 jQ ?_
  refine wC jQ (fun hc => ?_) (fun hc => ?_)
  ·rcases hk with rfl | ⟨_, rfl⟩
   ·have e2 : Rk st 0 (J9 n wd) = nV n ++ ⟨#[32]⟩ ++ wd ++ (⟨#[32]⟩ ++ Rg 0) := by rw [hc]; rfl
    have e3 : (⟨#[115, 118]⟩ : ByteArray).extract 0 1 = Rg 0 := by decide +kernel
    have w1 : IntKind.i64.wrap (0 + 1) = 1 := by decide +kernel
    refine wr Γ96 (dk jQ w1 e3) ?_ ?_
    ·rw [ByteArray.size_append, ByteArray.size_append, ByteArray.size_append, z2, z32, zsv]; exact ⟨by decide, by omega, by omega⟩
    exact wM (fun k => .key k) (ab jQ e2)
   ·have e2 : Rk st 1 (J9 n wd) = nV n ++ ⟨#[32]⟩ ++ wd ++ (⟨#[32]⟩ ++ Rg 1) := by rw [hc]; rfl
    have e3 : (⟨#[115, 118]⟩ : ByteArray).extract 1 2 = Rg 1 := by decide +kernel
    have w1 : IntKind.i64.wrap (1 + 1) = 2 := by decide +kernel
    refine wr Γ96 (dk jQ w1 e3) ?_ ?_
    ·rw [ByteArray.size_append, ByteArray.size_append, ByteArray.size_append, z2, z32, zsv]; exact ⟨by decide, by omega, by omega⟩
    exact wM (fun k => .key k) (ab jQ e2)
  ·have e2 : Rk st k (J9 n wd) = nV n ++ ⟨#[32]⟩ ++ wd := by rw [hc]; rfl
   refine wK ?_
   exact wM (fun k => .key k) (ab jQ e2)
 generalize Rk st k (J9 n wd) = o2 at *
 refine bx ⟨100, bV [(3, .is (.own 0 0)), (5, .is (.own 48 0)), (6, .is (.v (.string (Dy u1 a o2))))], cd [(0, .cells 50 [.v (.int .i64 m), .v (.int .i64 k), .v (.int .i64 a), .v (.int .i64 b)]), (48, .cells 160 [.v (.string wd), .v (.bool st), .v (.int .i64 u1), .v (.int .i64 u2)])]⟩ ?_ ?_
 ·skip
  refine vR Γ96 jQ ?_
  refine wC jQ (fun hc => ?_) (fun hc => ?_)
  ·have e2 : Dy u1 a o2 = o2 ++ (⟨#[32]⟩ ++ nV a) := by rw [Dy, if_neg (by simpa using hc)]
   refine wr Γ96 jQ ?_ ?_
   ·exact ⟨⟨⟨a0, a1⟩, ht⟩, by rw [z32]; omega, by rw [ByteArray.size_append, z32]; omega⟩
   exact wM (fun k => .key k) (ab jQ e2)
  ·have e2 : Dy u1 a o2 = o2 := by rw [Dy, if_pos (by simpa using hc)]
   refine wK ?_
   exact wM (fun k => .key k) (ab jQ e2)
 generalize Dy u1 a o2 = o3 at *
 refine bx ⟨140, bV [(3, .is (.own 0 0)), (5, .is (.own 48 0)), (6, .is (.v (.string (Dy u2 b o3))))], cd [(0, .cells 50 [.v (.int .i64 m), .v (.int .i64 k), .v (.int .i64 a), .v (.int .i64 b)]), (48, .cells 160 [.v (.string wd), .v (.bool st), .v (.int .i64 u1), .v (.int .i64 u2)])]⟩ ?_ ?_
 ·skip
  refine vR Γ96 jQ ?_
  refine wC jQ (fun hc => ?_) (fun hc => ?_)
  ·have e2 : Dy u2 b o3 = o3 ++ (⟨#[32]⟩ ++ nV b) := by rw [Dy, if_neg (by simpa using hc)]
   refine wr Γ96 jQ ?_ ?_
   ·exact ⟨⟨⟨b0, b1⟩, ht⟩, by rw [z32]; omega, by rw [ByteArray.size_append, z32]; omega⟩
   exact wM (fun k => .key k) (ab jQ e2)
  ·have e2 : Dy u2 b o3 = o3 := by rw [Dy, if_pos (by simpa using hc)]
   refine wK ?_
   exact wM (fun k => .key k) (ab jQ e2)
 refine vR Γ96 jQ ?_
 refine wZ jQ ?_
 exact fun E => rfl
end
section
open Go.RowKit
set_option maxRecDepth 10000
theorem US : liesAt Tryz.prog Tryz.prog.depth 91 (2 / Tryz.prog.cellsOf 91) 0 91 1 = true := by kernel_rfl
theorem MN : (Tryz.prog.info? 91).map (·.size) = some 2 := by kernel_rfl
theorem XB : (Tryz.prog.info? 5).map (fun i => (i.zero, i.size, i.bytes)) = some (some (.int .u8 0), 1, 1) := by kernel_rfl
set_option maxHeartbeats 1000000 in
theorem tI (b : Nat) (w : World) (h0 : w.cell? ⟨b, 0, none⟩ = some (.pointer (some ⟨b, 0, none⟩))) :
  Calls Tryz.prog 75 #[.pointer (some ⟨b, 0, none⟩)] w fun e w' => e = .returned (.tuple #[]) /\ w' = w := by
 obtain ⟨j, hj, _⟩ := Option.map_eq_some_iff.1 MN
 go_enter Tryz.func75, Tryz.ntmps75
 go_wp2
 rw [Lib.run_neq_ptr_same w _ Tryz.underlying88 hj]
 go_wp2
 go_end0
 exact ⟨rfl, rfl⟩
set_option maxHeartbeats 1000000 in
theorem sk (b : Nat) (w : World) (h0 : w.cell? ⟨b, 0, none⟩ = some (.pointer none)) (hsh : w.shape? b = some (91, 2)) (hfz : w.frozen? ⟨b, 0, none⟩ = false) :
  Calls Tryz.prog 75 #[.pointer (some ⟨b, 0, none⟩)] w fun e w' => e = .returned (.tuple #[]) /\ w' = w.setCell ⟨b, 0, none⟩ (.pointer (some ⟨b, 0, none⟩)) := by
 obtain ⟨j, hj, hjs⟩ := Option.map_eq_some_iff.1 MN
 go_enter Tryz.func75, Tryz.ntmps75
 go_wp2
 rw [Lib.run_to_unsafe w ⟨b, 0, none⟩ Tryz.underlying88 Tryz.underlying257 hj (by rw [hjs]; decide) hsh (Nat.zero_lt_succ 1)]
 simp only [Result.andThen]
 rw [Oper.upon_value]
 go_wp2
 rw [run_callFunc_extern Tryz.func130 (by kernel_rfl) (by kernel_rfl) (by kernel_rfl) (e := Extern.AbiNoEscape.same) (by kernel_rfl)]
 rw [Lib.run_noEscape]
 simp only [Result.andThen]
 rw [Oper.upon_value]
 go_wp2
 rw [Lib.run_from_unsafe w ⟨b, 0, none⟩ Tryz.underlying257 Tryz.underlying88 hj hsh US]
 simp only [Result.andThen]
 rw [Oper.upon_value]
 go_wp2
 go_end0
 exact ⟨rfl, rfl⟩
theorem nG {w : World} {b : Nat} {T : TypeId} {x y : Value} (h : w.heap[b]? = some (.cells #[x, y] T (0, 0))) (i : Nat) (v : Value) : (w.setCell ⟨b, i, none⟩ v).heap[b]? = some (.cells (#[x, y].setIfInBounds i v) T (0, 0)) := by
 have hlt : b < w.heap.size := (Array.getElem?_eq_some_iff.1 h).1
 have h' : w.heap[b] = .cells #[x, y] T (0, 0) := (Array.getElem?_eq_some_iff.1 h).2
 show (w.heap.modify b _)[b]? = _
 rw [Array.getElem?_eq_getElem (by simpa using hlt), Array.getElem_modify_self, h']
 rfl
theorem ka {w : World} (a : Addr) (v : Value) (k : Nat) (hk : k ≠ a.block) : (w.setCell a v).heap[k]? = w.heap[k]? := Below.heap_setCell w a v k hk
theorem vK (b : Nat) (p v : Value) (w : World) (hbk : w.heap[b]? = some (.cells #[p, v] 91 (0, 0))) (hp : p = .pointer none \/ p = .pointer (some ⟨b, 0, none⟩)) :
  Calls Tryz.prog 75 #[.pointer (some ⟨b, 0, none⟩)] w fun e w' => e = .returned (.tuple #[]) /\ w'.heap[b]? = some (.cells #[.pointer (some ⟨b, 0, none⟩), v] 91 (0, 0)) /\ w'.heap.size = w.heap.size /\ LE.ai w [b] w' := by
 rcases hp with rfl | rfl
 ·refine (sk b w (by rw [Lib.cell_of_heap hbk]; rfl) (by simp [World.shape?, hbk]) (Lib.frozen_of_heap hbk 0)).mono ?_
  rintro e w' ⟨rfl, rfl⟩
  exact ⟨rfl, nG hbk 0 _, by simp, ⟨rfl, rfl, rfl, by simp, fun k _ hk => ka _ _ k (by simpa using hk)⟩⟩
 ·refine (tI b w (by rw [Lib.cell_of_heap hbk]; rfl)).mono ?_
  rintro e w' ⟨rfl, rfl⟩
  exact ⟨rfl, hbk, rfl, LE.ai.refl _ _⟩
theorem p9 {w : World} (t u ty e : TypeId) (i : TypeInfo) (ht : Tryz.prog.underlying t = some (.slice e)) (hu : Tryz.prog.underlying u = some .string) (hi : Tryz.prog.info? e = some i) (hz : i.zero = some (.int .u8 0))
  (hsize : i.size = 1) (hby : i.bytes = 1) (v : Value) (n : Nat) (xs : List Value) (hown : w.ownsRow 0 e 1 v n xs) (s : ByteArray) (h63 : n + s.size <= maxLen) (hbytes : n + s.size <= 140737488355328) :
  ∃ v' w', (Builtin.append_ #[t, u] ty #[v, .string s]).run Tryz.prog w = .ok v' w' /\ w'.ownsRow 0 e 1 v' (n + s.size) (xs ++ Lib.strCells s) /\ w.grownBy w' v.ownBlock /\
   (v'.ownBlock = v.ownBlock \/ v'.ownBlock = some w.heap.size) := by
 obtain ⟨v', w', hr, h1, h2, h3⟩ := Lib.run_append_own_string (P := Tryz.prog) w 0 t u ty e i ht hu hi hz hsize hby v n xs hown s h63 hbytes (Nat.zero_le _)
 refine ⟨v', w', hr, h1, h2, ?_⟩
 have hxl : xs.length = n := by simpa using hown.1
 rcases hown.2 with ⟨rfl, rfl⟩ | ⟨g, cap, cur, rfl, hbg, hg, hnc, hcm, hcs, htake⟩
 ·by_cases hm : s.size = 0
  ·rw [h3.2 ⟨rfl, hm⟩]; exact .inl rfl
  ·have hr2 := run_append_nil_string (P := Tryz.prog) w t u ty e i (.int .u8 0) ht hu hi hz s (by omega) (by simp only [maxLen] at h63; omega) (by rw [hby]; omega)
   rw [hr] at hr2
   cases hr2
   exact .inr rfl
 ·by_cases hroom : n + s.size <= cap
  ·have hr2 := Lib.run_append_room_string (P := Tryz.prog) w t u ty e i ht hu hi hsize g n cap cur hg s hroom (by rw [hcs]; omega)
   rw [hr] at hr2
   cases hr2
   exact .inl rfl
  ·have holds : ∀ j u, xs[j]? = some u -> w.cell? ((⟨g, 0, none⟩ : Addr).add j) = some u := hown.cells (g := g) rfl
   have hr2 := Lib.run_append_grow_string (P := Tryz.prog) w t u ty e i (.int .u8 0) ht hu hi hz ⟨g, 0, none⟩ n cap xs (by rw [hsize]; simpa using hxl) holds s (by omega) (by simp only [maxLen] at h63; omega) (by rw [hby]; exact growslice_fits (by omega) (by omega))
   rw [hr] at hr2
   cases hr2
   exact .inr rfl
theorem nD {ops : Array Oper} {rest : List Oper} {o : Oper} {a : Act} {w : World} {Q : Exit -> Act -> World -> Prop} (hgd : o.guard = none) (sl x : Operand) (t u : TypeId)
  (ho : o.op = .call { callee := .builtin .append, args := #[sl, x], argTypes := #[t, u] })
  (e : TypeId) (i : TypeInfo) (ht : Tryz.prog.underlying t = some (.slice e)) (hu : Tryz.prog.underlying u = some .string) (hi : Tryz.prog.info? e = some i) (hz : i.zero = some (.int .u8 0))
  (hsize : i.size = 1) (hby : i.bytes = 1)
  (v : Value) (n : Nat) (xs : List Value) (hs : a.eval sl = v) (hown : w.ownsRow 0 e 1 v n xs) (s : ByteArray) (hx : a.eval x = .string s)
  (h63 : n + s.size <= maxLen) (hbytes : n + s.size <= 140737488355328)
  (h : ∀ v' w', w'.ownsRow 0 e 1 v' (n + s.size) (xs ++ Lib.strCells s) -> w.grownBy w' v.ownBlock -> (v'.ownBlock = v.ownBlock \/ v'.ownBlock = some w.heap.size) -> wpList Tryz.prog ops Q rest (a.put o.dst v') w') : wpList Tryz.prog ops Q (o :: rest) a w := by
 refine wpList_plain hgd fun K hK => ?_
 obtain ⟨v', w', hr, h2, h3, h4⟩ := p9 (w := w) t u o.type e i ht hu hi hz hsize hby v n xs hown s h63 hbytes
 unfold Oper.wp execOp
 simp only [ho, resolve, invoke, builtin, Sem.run_bind, Sem.run_pure, Result.andThen_ok, List.map_toArray, List.map_cons, List.map_nil, hs, hx, hr]
 exact hK _ _ (h v' w' h2 h3 h4)
def lx (d : List Value) (u : Value) (fp : List Nat) (w : World) : Prop :=
 ∃ s b v p, d = [.string s] /\ u = .pointer (some ⟨b, 0, none⟩) /\ fp = b :: v.ownBlock.toList /\ w.heap[b]? = some (.cells #[p, v] 91 (0, 0)) /\ w.ownsRow 0 5 1 v s.size (Lib.strCells s) /\ v.ownBlock ≠ some b /\
  (p = .pointer none \/ p = .pointer (some ⟨b, 0, none⟩))
theorem lx.local {d : List Value} {u : Value} {fp : List Nat} {w w' : World} (h : lx d u fp w) (hl : ∀ b ∈ fp, w'.heap[b]? = w.heap[b]?) : lx d u fp w' := by
 obtain ⟨s, b, v, p, h1, h2, h3, h4, h5, h6, h7⟩ := h
 refine ⟨s, b, v, p, h1, h2, h3, by rw [hl b (by simp [h3])]; exact h4, ⟨h5.1, ?_⟩, h6, h7⟩
 rcases h5.2 with h | ⟨g, cap, cur, hv, hb, hg, r⟩
 ·exact .inl h
 ·exact .inr ⟨g, cap, cur, hv, hb, by rw [hl g (by rw [h3, hv]; simp [Value.ownBlock])]; exact hg, r⟩
theorem Qt {w : World} {v : Value} {n : Nat} {xs : List Value} (h : w.ownsRow 0 5 1 v n xs) : ∀ g, v.ownBlock = some g -> g < w.heap.size := by
 intro g hg
 rcases h.2 with ⟨rfl, _⟩ | ⟨g', cap, cur, rfl, _, hh, _⟩
 ·cases hg
 ·cases hg
  exact (Array.getElem?_eq_some_iff.1 hh).1
set_option maxHeartbeats 2000000 in
theorem rT (u : Value) (fp : List Nat) (s0 s : ByteArray) (w : World) (h : lx [.string s0] u fp w) (hlen : s0.size + s.size <= 140737488355328) :
  Calls Tryz.prog 37 #[u, .string s] w fun e w' => ∃ fp', e = .returned (.tuple #[.int .i64 s.size, .nilIface]) /\ lx [.string (s0 ++ s)] u fp' w' /\ (∀ b ∈ fp', b ∈ fp \/ w.heap.size <= b) /\ (∀ b ∈ fp', b < w'.heap.size) /\ LE.ai w fp w' := by
 obtain ⟨s0', b, v, p, hd, rfl, rfl, hbk, hown, hne, hp⟩ := h
 cases hd
 obtain ⟨i0, hi, hz0, hz1, hz2⟩ := info_parts XB
 have hbs : (Lib.strCells s0).length = s0.size := Lib.strCells_length s0
 have hcc := vK b p v w hbk hp
 go_enter Tryz.func37, Tryz.ntmps37
 go_wp2_with (refine hcc.mono ?_)
 rintro e w1 ⟨rfl, hbk1, hs1, hk1⟩
 have hg1 : ∀ g, v.ownBlock = some g -> w1.heap[g]? = w.heap[g]? := fun g hg => hk1.block g (Qt hown g hg) (by rintro h; simp at h; subst h; exact hne hg)
 have hown1 : w1.ownsRow 0 5 1 v s0.size (Lib.strCells s0) := by
  refine ⟨hown.1, ?_⟩
  rcases hown.2 with h | ⟨g, cap, cur, hv, hb, hg, r⟩
  ·exact .inl h
  ·exact .inr ⟨g, cap, cur, hv, hb, by rw [hg1 g (by rw [hv]; rfl)]; exact hg, r⟩
 have c0 : w1.cell? ⟨b, 0, none⟩ = some (.pointer (some ⟨b, 0, none⟩)) := by rw [Lib.cell_of_heap hbk1]; rfl
 have c1 : w1.cell? ⟨b, 1, none⟩ = some v := by rw [Lib.cell_of_heap hbk1]; rfl
 clear hg1 hcc
 go_wp2_with (at_builtin; refine nD rfl _ _ 89 9 rfl 5 i0 Tryz.underlying89 Tryz.underlying9 hi hz0 hz1 hz2 _ _ _ rfl hown1 s rfl ?c3 ?c4 ?_)
 case c3 => unfold maxLen; omega
 case c4 => omega
 intro v' w2 hown' hgrow htold
 have hlt : b < w1.heap.size := (Array.getElem?_eq_some_iff.1 hbk1).1
 have hb2 : w2.heap[b]? = some (.cells #[.pointer (some ⟨b, 0, none⟩), v] 91 (0, 0)) := by
  rw [hgrow.block b hlt (fun e => hne e.symm)]
  exact hbk1
 have d0 : w2.cell? ⟨b, 0, none⟩ = some (.pointer (some ⟨b, 0, none⟩)) := by rw [Lib.cell_of_heap hb2]; rfl
 have d1 : w2.cell? ⟨b, 1, none⟩ = some v := by rw [Lib.cell_of_heap hb2]; rfl
 have f1 : w2.frozen? ⟨b, 1, none⟩ = false := Lib.frozen_of_heap hb2 1
 obtain ⟨ao, n', cap, rfl⟩ : ∃ ao n' cap, v' = .slice ao n' cap := by
  rcases hown'.2 with ⟨hv, _⟩ | ⟨g, cap, cur, hv, _⟩
  ·exact ⟨_, _, _, hv⟩
  ·exact ⟨_, _, _, hv⟩
 have hgs := hgrow.size
 have hne' : (Value.slice ao n' cap).ownBlock ≠ some b := by
  rcases htold with h | h
  ·rw [h]; exact hne
  ·rw [h]; rintro h; cases h; omega
 have hkeep : LE.ai w (b :: v.ownBlock.toList) (w2.setCell ⟨b, 1, none⟩ (.slice ao n' cap)) := by
  refine ⟨hgrow.os.trans hk1.os, hgrow.tape.trans hk1.tape, hgrow.output.trans hk1.output, by simp; omega, fun k hk hkn => ?_⟩
  simp only [List.mem_cons, not_or] at hkn
  rw [ka _ _ k hkn.1, hgrow.block k (by omega) (by rintro h; exact hkn.2 (by rw [<- h]; simp)), hk1.block k hk (by simpa using hkn.1)]
 go_wp2
 go_ret2
 refine ⟨b :: (Value.slice ao n' cap).ownBlock.toList, rfl, ?_, fun k hk => ?_, fun k hk => ?_, hkeep⟩
 ·refine ⟨s0 ++ s, b, .slice ao n' cap, _, rfl, rfl, rfl, nG hb2 1 _, ?_, hne', .inr rfl⟩
  have e1 : Lib.strCells (s0 ++ s) = Lib.strCells s0 ++ Lib.strCells s := by simp [Lib.strCells, ByteArray.data_append]
  have e2 : (s0 ++ s).size = s0.size + s.size := ByteArray.size_append
  rw [e1, e2]
  refine ⟨hown'.1, ?_⟩
  rcases hown'.2 with h | ⟨g, c, cur, hv, hb, hg, r⟩
  ·exact .inl h
  ·refine .inr ⟨g, c, cur, hv, hb, ?_, r⟩
   rw [ka _ _ g (by rintro h; rw [hv] at hne'; exact hne' (by rw [h]; rfl))]
   exact hg
 ·simp only [List.mem_cons] at hk ⊢
  rcases hk with rfl | hk
  ·exact .inl (.inl rfl)
  ·rcases htold with h | h
   ·rw [h] at hk; exact .inl (.inr hk)
   ·rw [h] at hk; simp at hk; right; omega
 ·simp only [List.mem_cons] at hk
  rcases hk with rfl | hk
  ·simp; omega
  ·have := Qt hown' k (by simpa using hk)
   simpa using this
end
section
open Go.RowKit
theorem oq (w : World) (bs : List Nat) : LE.ai w bs w.drew := ⟨rfl, rfl, rfl, Nat.le_refl _, fun _ _ _ => rfl⟩
theorem zp (w : World) (g n : Nat) : LE.ai w [g] (w.drew.freeze ⟨g, 0, none⟩ n) := by
 unfold World.freeze
 split
 ·exact oq w _
 ·refine ⟨rfl, rfl, rfl, by simp, fun k hk hkn => ?_⟩
  have hne : g ≠ k := fun e => hkn (by simp [e])
  show (w.drew.heap.modify g _)[k]? = _
  rw [Array.getElem?_modify, if_neg hne]
  rfl
set_option maxHeartbeats 2000000 in
theorem B5 (b g cap : Nat) (p : Value) (cur : Array Value) (l : List UInt8) (w : World) (hbk : w.heap[b]? = some (.cells #[p, .slice (some ⟨g, 0, none⟩) l.length cap] 91 (0, 0))) (h0 : l ≠ [])
  (hg : w.heap[g]? = some (.cells cur 5 (0, 0))) (hcm : cap <= maxLen) (hcs : cur.size = cap) (hlc : l.length <= cap) (hcells : ∀ j x, l[j]? = some x -> w.cell? ⟨g, j, none⟩ = some (.int .u8 x.toNat)) :
  Calls Tryz.prog 41 #[.pointer (some ⟨b, 0, none⟩)] w fun e w' => e = .returned (.string ⟨l.toArray⟩) /\ LE.ai w [g] w' := by
 have hl0 : l.length ≠ 0 := by simpa using h0
 have c1 : w.drew.cell? ⟨b, 1, none⟩ = some (.slice (some ⟨g, 0, none⟩) l.length cap) := by
  have : w.drew.heap[b]? = some (.cells #[p, .slice (some ⟨g, 0, none⟩) l.length cap] 91 (0, 0)) := hbk
  rw [Lib.cell_of_heap this]; rfl
 have hSD : (Builtin.unsafeSliceData_ #[89] 162 #[.slice (some ⟨g, 0, none⟩) l.length cap]).run Tryz.prog w.drew = .ok (.pointer (some ⟨g, 0, none⟩)) w.drew :=
  Lib.run_unsafeSliceData_row _ _ _ _ _ _ (by omega)
 have hUS : (Builtin.unsafeString_ #[162, 3] 9 #[.pointer (some ⟨g, 0, none⟩), .int .i64 l.length]).run Tryz.prog w.drew = .ok (.string ⟨l.toArray⟩) (w.drew.freeze ⟨g, 0, none⟩ l.length) := by
  refine Lib.run_unsafeString_row w.drew 162 3 9 5 Tryz.underlying162 (by kernel_rfl) g cur.size (by have hg' : w.drew.heap[g]? = some (.cells cur 5 (0, 0)) := hg; simp [World.shape?, hg']) l h0 (by omega) (by unfold maxLen at hcm; omega) ?_
  intro j x hx
  rw [Addr.add_lit, Nat.zero_add]
  exact hcells j x hx
 clear hcells
 have mixed := bP
 go_enter Tryz.func41, Tryz.ntmps41
 go_wp2
 go_region_o
 all_goals (go_wp2; go_ret; exact ⟨rfl, zp w g _⟩)
set_option maxHeartbeats 2000000 in
theorem En (b : Nat) (p : Value) (w : World) (hbk : w.heap[b]? = some (.cells #[p, .slice none 0 0] 91 (0, 0))) :
  Calls Tryz.prog 41 #[.pointer (some ⟨b, 0, none⟩)] w fun e w' => e = .returned (.string ⟨#[]⟩) /\ LE.ai w [] w' := by
 have hUS := fun (W : World) (q : Option Addr) => Lib.run_unsafeString_none (P := Tryz.prog) W 162 3 9 q
 have c1 : w.drew.cell? ⟨b, 1, none⟩ = some (.slice none 0 0) := by
  have : w.drew.heap[b]? = some (.cells #[p, .slice none 0 0] 91 (0, 0)) := hbk
  rw [Lib.cell_of_heap this]; rfl
 have hSD : (Builtin.unsafeSliceData_ #[89] 162 #[.slice none 0 0]).run Tryz.prog w.drew = .ok (.pointer none) w.drew := rfl
 have mixed := bP
 go_enter Tryz.func41, Tryz.ntmps41
 go_wp2
 go_region_o
 all_goals (go_wp2; go_ret; exact ⟨rfl, oq w _⟩)
set_option maxHeartbeats 2000000 in
theorem vT (b g : Nat) (p : Value) (cur : Array Value) (w : World) (hbk : w.heap[b]? = some (.cells #[p, .slice (some ⟨g, 0, none⟩) 0 0] 91 (0, 0))) (hg : w.heap[g]? = some (.cells cur 5 (0, 0))) :
  Calls Tryz.prog 41 #[.pointer (some ⟨b, 0, none⟩)] w fun e w' => e = .returned (.string ⟨#[]⟩) /\ LE.ai w [] w' := by
 have hUS := fun (W : World) (q : Option Addr) => Lib.run_unsafeString_none (P := Tryz.prog) W 162 3 9 q
 have hlt : b < w.heap.size := (Array.getElem?_eq_some_iff.1 hbk).1
 have c1 : w.drew.cell? ⟨b, 1, none⟩ = some (.slice (some ⟨g, 0, none⟩) 0 0) := by
  have : w.drew.heap[b]? = some (.cells #[p, .slice (some ⟨g, 0, none⟩) 0 0] 91 (0, 0)) := hbk
  rw [Lib.cell_of_heap this]; rfl
 have hSD : (Builtin.unsafeSliceData_ #[89] 162 #[.slice (some ⟨g, 0, none⟩) 0 0]).run Tryz.prog w.drew = .ok (.pointer (some ⟨w.drew.heap.size, 0, none⟩)) (w.drew.alloc (.view ⟨g, 0, none⟩ 5)) :=
  Lib.run_unsafeSliceData_zero w.drew _ _ 5 Tryz.underlying162 ⟨g, 0, none⟩ 0 (5, cur.size) (by have hg' : w.drew.heap[g]? = some (.cells cur 5 (0, 0)) := hg; simp [World.shape?, hg'])
 have c2 : (w.drew.alloc (.view ⟨g, 0, none⟩ 5)).cell? ⟨b, 1, none⟩ = some (.slice (some ⟨g, 0, none⟩) 0 0) := by
  have : (w.drew.alloc (.view ⟨g, 0, none⟩ 5)).heap[b]? = _ := (Lib.alloc_old w.drew _ b hlt).trans hbk
  rw [Lib.cell_of_heap this]; rfl
 have c3 : (w.alloc (.view ⟨g, 0, none⟩ 5)).drew.cell? ⟨b, 1, none⟩ = some (.slice (some ⟨g, 0, none⟩) 0 0) := c2
 have c0 : w.cell? ⟨b, 1, none⟩ = some (.slice (some ⟨g, 0, none⟩) 0 0) := c1
 have mixed := bP
 go_enter Tryz.func41, Tryz.ntmps41
 go_wp2
 go_region_o
 all_goals (go_wp2; go_ret; exact ⟨rfl, ⟨rfl, rfl, rfl, by simp, fun k hk _ => Lib.alloc_old w.drew _ k hk⟩⟩)
set_option maxHeartbeats 2000000 in
theorem Dg (b g cap : Nat) (p : Value) (w : World) (hc0 : cap ≠ 0) (hbk : w.heap[b]? = some (.cells #[p, .slice (some ⟨g, 0, none⟩) 0 cap] 91 (0, 0))) :
  Calls Tryz.prog 41 #[.pointer (some ⟨b, 0, none⟩)] w fun e w' => e = .returned (.string ⟨#[]⟩) /\ LE.ai w [] w' := by
 have hUS := fun (W : World) (q : Option Addr) => Lib.run_unsafeString_none (P := Tryz.prog) W 162 3 9 q
 have c1 : w.drew.cell? ⟨b, 1, none⟩ = some (.slice (some ⟨g, 0, none⟩) 0 cap) := by
  have : w.drew.heap[b]? = some (.cells #[p, .slice (some ⟨g, 0, none⟩) 0 cap] 91 (0, 0)) := hbk
  rw [Lib.cell_of_heap this]; rfl
 have hSD : (Builtin.unsafeSliceData_ #[89] 162 #[.slice (some ⟨g, 0, none⟩) 0 cap]).run Tryz.prog w.drew = .ok (.pointer (some ⟨g, 0, none⟩)) w.drew :=
  Lib.run_unsafeSliceData_row _ _ _ _ _ _ hc0
 clear hc0
 have mixed := bP
 go_enter Tryz.func41, Tryz.ntmps41
 go_wp2
 go_region_o
 all_goals (go_wp2; go_ret; exact ⟨rfl, oq w _⟩)
theorem DQ (u : Value) (fp : List Nat) (s : ByteArray) (w : World) (h : lx [.string s] u fp w) :
  Calls Tryz.prog 41 #[u] w fun e w' => e = .returned (.string s) /\ LE.ai w fp w' := by
 obtain ⟨s', b, v, p, hd, rfl, rfl, hbk, hown, hne, hp⟩ := h
 cases hd
 rcases s with ⟨⟨l⟩⟩
 have hsz : (ByteArray.mk ⟨l⟩).size = l.length := rfl
 rw [hsz] at hown
 rcases hown.2 with ⟨rfl, hz⟩ | ⟨g, cap, cur, rfl, hbg, hg, hnc, hcm, hcs, htake⟩
 ·have hl : l = [] := List.eq_nil_of_length_eq_zero hz
  subst hl
  exact (En b p w hbk).mono fun e w' ⟨h1, h2⟩ => ⟨h1, h2.mono (by simp)⟩
 ·by_cases hl : l = []
  ·subst hl
   by_cases hc : cap = 0
   ·subst hc
    exact (vT b g p cur w hbk hg).mono fun e w' ⟨h1, h2⟩ => ⟨h1, h2.mono (by simp)⟩
   ·exact (Dg b g cap p w hc hbk).mono fun e w' ⟨h1, h2⟩ => ⟨h1, h2.mono (by simp)⟩
  ·refine (B5 b g cap p cur l w hbk hl hg hcm (by rw [hcs]; omega) hnc fun j x hx => ?_).mono fun e w' ⟨h1, h2⟩ => ⟨h1, h2.mono (by simp [Value.ownBlock])⟩
   have := hown.cells (g := g) rfl j (.int .u8 x.toNat) (by simp [Lib.strCells, hx])
   rwa [Addr.add_lit, Nat.zero_add] at this
end
section
open Go.RowKit Go.LE
def Re : ByteArray := ⟨#[10]⟩
theorem IM (t : ByteArray) : (t ++ Re).size = t.size + 1 := by rw [ByteArray.size_append]; rfl
set_option maxHeartbeats 2000000 in
theorem Qk (u : Value) (fp : List Nat) (s0 s : ByteArray) (w : World) (h : lx [.string s0] u fp w) (hlen : s0.size + s.size + 1 <= 140737488355328) :
  Calls Tryz.prog 36 #[.string s, u] w fun e w' => ∃ fp', e = .returned (.tuple #[]) /\ lx [.string (s0 ++ (s ++ Re))] u fp' w' /\ (∀ b ∈ fp', b ∈ fp \/ w.heap.size <= b) /\ (∀ b ∈ fp', b < w'.heap.size) /\ LE.ai w fp w' := by
 have hw := rT u fp s0 (s ++ Re) w h (by rw [IM]; omega)
 go_enter Tryz.func36, Tryz.ntmps36
 go_wp2_with (refine hw.mono ?_)
 rintro e w1 ⟨fp', rfl, h1, h2, h3, h4⟩
 go_wp2
 go_end0
 exact ⟨fp', rfl, h1, h2, h3, h4⟩
def rV : Option bm -> Option (ByteArray × Prop)
 | some (.obj [.string s] R) => some (s, R = lx)
 | some (.cells T [.v (.pointer none), .v (.slice none 0 0)]) => some (⟨#[]⟩, T = 91)
 | _ => none
theorem tu {E : Nat -> Value} {u : Value} {fp : List Nat} {w : World} {e : bm} {s : ByteArray} {p : Prop} (h : rV (some e) = some (s, p)) (hp : p) (he : bn E u fp w e) : lx [.string s] u fp w := by
 unfold rV at h
 split at h
 ·rename_i s' R heq
  cases h; cases heq
  subst hp
  exact he.1.1
 ·rename_i T heq
  cases h; cases heq
  subst hp
  obtain ⟨b, rfl, rfl, hh⟩ := he
  exact ⟨_, b, .slice none 0 0, .pointer none, rfl, rfl, rfl, hh, World.ownsRow_nil w 0 5 1, by simp [Value.ownBlock], .inl rfl⟩
 ·cases h
def X7 (k : Nat) (t : ByteArray) : Option (ByteArray × Prop) -> R
 | some (s, p) => ⟨p /\ s.size + t.size + 1 <= 140737488355328, .tup [], [(k, some (.obj [.string (s ++ (t ++ Re))] lx))], none, [], [k]⟩
 | none => .bad
def ND (h : Hp) : List SV -> R
 | [.v (.string t), .own k 0] => X7 k t (rV (h k))
 | _ => .bad
theorem kB (h : Hp) (k : Nat) (t : ByteArray) : ND h [.v (.string t), .own k 0] = X7 k t (rV (h k)) := rfl
theorem oL (k : Nat) (t s : ByteArray) (p : Prop) : X7 k t (some (s, p)) = ⟨p /\ s.size + t.size + 1 <= 140737488355328, .tup [], [(k, some (.obj [.string (s ++ (t ++ Re))] lx))], none, [], [k]⟩ := rfl
theorem Oc (s : ByteArray) (R : List Value -> Value -> List Nat -> World -> Prop) : rV (some (.obj [.string s] R)) = some (s, R = lx) := rfl
theorem vv (T : TypeId) : rV (some (.cells T [.v (.pointer none), .v (.slice none 0 0)])) = some (⟨#[]⟩, T = 91) := rfl
theorem Ax {E : Nat -> Value} {k : Nat} {w : World} {fp : List Nat} {d : List Value} (h : lx d (E k) fp w) : den E (.own k 0) = E k := by
 obtain ⟨_, b, _, _, _, hu, _⟩ := h
 simp [den, hu, base, cx]
theorem s8 {h : Hp} {args : List SV} (hs : (ND h args).side) : ∃ k t s p, args = [.v (.string t), .own k 0] /\ rV (h k) = some (s, p) /\ p /\ s.size + t.size + 1 <= 140737488355328 := by
 unfold ND at hs
 split at hs
 ·rename_i t k
  cases hb : rV (h k) with
  | none => rw [hb] at hs; exact hs.elim
  | some q =>
   obtain ⟨s, p⟩ := q
   rw [hb] at hs
   exact ⟨k, t, s, p, rfl, hb, hs.1, hs.2⟩
 ·exact hs.elim
def FC : LE.Spec Tryz.prog 36 where
 ev := fun _ _ _ h args => ND h args
 good := by
  intro W bs κ E F h w K args hs hK hk hx hside
  rw [Tryz.call36]
  obtain ⟨k, t, s, p, rfl, hb, hp, hlen⟩ := s8 hside
  rw [kB, hb, oL]
  cases hkk : h k with
  | none => rw [hkk] at hb; cases hb
  | some e =>
   rw [hkk] at hb
   have hB := tu hb hp (hs.ent k e hkk)
   have hargs : (an E [.v (.string t), .own k 0]).toArray = #[.string t, E k] := by
    show #[.string t, den E (.own k 0)] = _
    rw [Ax hB]
   rw [hargs]
   refine CV (e' := .obj [.string (s ++ (t ++ Re))] lx) hs hkk ((Qk (E k) (F k) s t w hB hlen).mono fun en w' he => ?_) rfl rfl
   obtain ⟨fp', rfl, h1, h2, h3, h4⟩ := he
   refine ⟨_, fp', rfl, ⟨⟨h1, ?_⟩, fun w'' hl => h1.local hl⟩, h2, h3, h4, ?_⟩
   ·obtain ⟨_, b, _, _, _, hu, _⟩ := h1
    rw [hu]; rfl
   ·simp [den, an]
 keys := by
  intro W bs κ h K args hK hx hside
  obtain ⟨k, t, s, p, rfl, hb, hp, hlen⟩ := s8 hside
  rw [kB, hb, oL]
  refine ⟨fun j hj => by simp [SV.keys, ax] at hj, fun q hq => ?_⟩
  simp only [List.mem_singleton] at hq
  subst hq
  exact ⟨.inl (hx k (by simp [ax, SV.keys])), fun e he j hj => by simp at he; subst he; cases hj⟩
 loc := by
  intro W bs κ h h' args hside hr
  obtain ⟨k, t, s, p, rfl, hb, hp, hlen⟩ := s8 hside
  rw [kB, hb, oL] at hr
  rw [kB, kB, hr k (by simp)]
def XT (k : Nat) : Option (ByteArray × Prop) -> R
 | some (s, p) => ⟨p, .v (.string s), [(k, none)], none, [], [k]⟩
 | none => .bad
def Ov (h : Hp) : List SV -> R
 | [.own k 0] => XT k (rV (h k))
 | _ => .bad
theorem kV (h : Hp) (k : Nat) : Ov h [.own k 0] = XT k (rV (h k)) := rfl
theorem o4 (k : Nat) (s : ByteArray) (p : Prop) : XT k (some (s, p)) = ⟨p, .v (.string s), [(k, none)], none, [], [k]⟩ := rfl
theorem tQ {h : Hp} {args : List SV} (hs : (Ov h args).side) : ∃ k s p, args = [.own k 0] /\ rV (h k) = some (s, p) /\ p := by
 unfold Ov at hs
 split at hs
 ·rename_i k
  cases hb : rV (h k) with
  | none => rw [hb] at hs; exact hs.elim
  | some q =>
   obtain ⟨s, p⟩ := q
   rw [hb] at hs
   exact ⟨k, s, p, rfl, hb, hs⟩
 ·exact hs.elim
def D5 : LE.Spec Tryz.prog 41 where
 ev := fun _ _ _ h args => Ov h args
 good := by
  intro W bs κ E F h w K args hs hK hk hx hside
  rw [Tryz.call41]
  obtain ⟨k, s, p, rfl, hb, hp⟩ := tQ hside
  rw [kV, hb, o4]
  cases hkk : h k with
  | none => rw [hkk] at hb; cases hb
  | some e =>
   rw [hkk] at hb
   have hB := tu hb hp (hs.ent k e hkk)
   have hargs : (an E [.own k 0]).toArray = #[E k] := by simp only [an, Ax hB]
   rw [hargs]
   refine (DQ (E k) (F k) s w hB).mono fun en w' he => ?_
   obtain ⟨rfl, hkeep⟩ := he
   exact ⟨rfl, E, F, fun _ _ => rfl, rfl, hs.X2 hkk hkeep⟩
 keys := by
  intro W bs κ h K args hK hx hside
  obtain ⟨k, s, p, rfl, hb, hp⟩ := tQ hside
  rw [kV, hb, o4]
  refine ⟨fun j hj => by simp [SV.keys] at hj, fun q hq => ?_⟩
  simp only [List.mem_singleton] at hq
  subst hq
  exact ⟨.inl (hx k (by simp [ax, SV.keys])), fun e he => by cases he⟩
 loc := by
  intro W bs κ h h' args hside hr
  obtain ⟨k, s, p, rfl, hb, hp⟩ := tQ hside
  rw [kV, hb, o4] at hr
  rw [kV, kV, hr k (by simp)]
end
section
open Go.RowKit Go.LE
def V9 (t : ByteArray) : ByteArray := ⟨#[116, 121, 112, 101, 32, 47]⟩ ++ t ++ ⟨#[47]⟩
def Wa (t : ByteArray) : ByteArray := ⟨#[116, 101, 120, 116, 32]⟩ ++ vV t
def ve (s v : Int) : ByteArray := ⟨#[109, 97, 105, 110, 32]⟩ ++ nV s ++ ⟨#[32]⟩ ++ nV v
def Yo (p : Pg) (i : Nat) : ByteArray := nM i (p.co.getD i (0, 0, 0, 0)).1 (p.co.getD i (0, 0, 0, 0)).2.1 (p.co.getD i (0, 0, 0, 0)).2.2.1 (p.co.getD i (0, 0, 0, 0)).2.2.2
def tP (p : Pg) (k : Nat) : List ByteArray := (p.ty.take k).map V9
def qE (p : Pg) (k : Nat) : List ByteArray := tP p p.ty.length ++ (p.tx.take k).map Wa
def vx (p : Pg) (k : Nat) : List ByteArray := (qE p p.tx.length ++ [ve p.src p.vw]) ++ (List.range k).map (Yo p)
def Vn (p : Pg) : List ByteArray := vx p p.co.length
def uA (l : List ByteArray) : ByteArray := l.foldl (fun o s => o ++ (s ++ Re)) ⟨#[]⟩
theorem mO (l : List ByteArray) (s : ByteArray) : uA (l ++ [s]) = uA l ++ (s ++ Re) := by simp [uA]
def Ug (p : Pg) : ByteArray := uA (Vn p)
def AL (p : Pg) : ByteArray := if jT p = (0, 0, ⟨#[]⟩) then Ug p else ⟨#[]⟩
theorem Lg {p : Pg} {k : Nat} (hk : k < p.ty.length) : tP p (k + 1) = tP p k ++ [V9 p.ty[k]] := by
 rw [tP, List.take_succ_eq_append_getElem hk, List.map_append]; rfl
theorem JF (p : Pg) : qE p 0 = tP p p.ty.length := by rw [qE, List.take_zero, List.map_nil, List.append_nil]
theorem Kf {p : Pg} {k : Nat} (hk : k < p.tx.length) : qE p (k + 1) = qE p k ++ [Wa p.tx[k]] := by
 rw [qE, List.take_succ_eq_append_getElem hk, List.map_append, <- List.append_assoc]; rfl
theorem K6 (p : Pg) : vx p 0 = qE p p.tx.length ++ [ve p.src p.vw] := by rw [vx]; simp
theorem M9 {p : Pg} {k : Nat} (hk : k < p.co.length) : Yo p k = nM k p.co[k].1 p.co[k].2.1 p.co[k].2.2.1 p.co[k].2.2.2 := by
 rw [Yo, List.getD_eq_getElem?_getD, List.getElem?_eq_getElem hk]; rfl
theorem Ja {p : Pg} {k : Nat} (hk : k < p.co.length) : vx p (k + 1) = vx p k ++ [nM k p.co[k].1 p.co[k].2.1 p.co[k].2.2.1 p.co[k].2.2.2] := by
 rw [vx, List.range_succ, List.map_append, <- List.append_assoc, <- M9 hk]; rfl
theorem BC {p : Pg} {k : Nat} (hk : k <= p.ty.length) : (tP p k).length = k := by rw [tP, List.length_map, List.length_take]; omega
theorem vz {p : Pg} {k : Nat} (hk : k <= p.tx.length) : (qE p k).length = p.ty.length + k := by rw [qE, List.length_append, BC (Nat.le_refl _), List.length_map, List.length_take]; omega
theorem PH (p : Pg) (k : Nat) : (vx p k).length = p.ty.length + p.tx.length + 1 + k := by
 rw [vx, List.length_append, List.length_append, vz (Nat.le_refl _), List.length_map, List.length_range]; rfl
def Rh (l : List ByteArray) : Prop := ∀ s ∈ l, s.size <= 4194399
theorem Lf : ∀ l : List ByteArray, Rh l -> (uA l).size <= l.length * 4194400 := by
 intro l
 suffices h : ∀ (l : List ByteArray) (o : ByteArray), Rh l -> (l.foldl (fun o s => o ++ (s ++ Re)) o).size <= o.size + l.length * 4194400 by
  intro hl
  have := h l ⟨#[]⟩ hl
  have e : (⟨#[]⟩ : ByteArray).size = 0 := rfl
  rw [e] at this
  unfold uA
  omega
 intro l
 induction l with
 | nil => intro o _; simp
 | cons s r ih =>
  intro o hl
  have h1 := ih (o ++ (s ++ Re)) fun x hx => hl x (List.mem_cons_of_mem _ hx)
  have h2 := hl s (List.mem_cons_self ..)
  rw [ByteArray.size_append, IM] at h1
  rw [List.foldl_cons, List.length_cons]
  omega
structure Rl (p : Pg) : Prop where
 l1 : p.ty.length <= 1048576
 l2 : p.tx.length <= 1048576
 l3 : p.co.length <= 1048576
 z1 : ∀ s ∈ p.ty, s.size <= 1048576
 z2 : ∀ s ∈ p.tx, s.size <= 1048576
theorem Rl.b {p : Pg} (h : Rl p) : PgB p := ⟨by have := h.l1; omega, by have := h.l2; omega, by have := h.l3; omega, fun s hs => by have := h.z1 s hs; omega⟩
theorem Cb (t : ByteArray) : (V9 t).size = t.size + 7 := by
 have e1 : (⟨#[116, 121, 112, 101, 32, 47]⟩ : ByteArray).size = 6 := rfl
 have e2 : (⟨#[47]⟩ : ByteArray).size = 1 := rfl
 unfold V9
 rw [ByteArray.size_append, ByteArray.size_append, e1, e2]
 omega
theorem Cp (t : ByteArray) : (Wa t).size <= 4 * t.size + 7 := by
 have e1 : (⟨#[116, 101, 120, 116, 32]⟩ : ByteArray).size = 5 := rfl
 have := xF t
 unfold Wa
 rw [ByteArray.size_append, e1]
 omega
structure W9 (p : Pg) : Prop where
 s0 : 0 <= p.src
 s1 : p.src < p.ty.length
 v0 : 0 <= p.vw
 v1 : p.vw < p.ty.length
 ty : ∀ (i : Nat) (h : i < p.ty.length), ya p.ty[i] = true
 co : ∀ (i : Nat) (h : i < p.co.length), lr p.ty.length p.tx.length p.co.length p.co[i].1 p.co[i].2.1 p.co[i].2.2.1 p.co[i].2.2.2 = true
theorem oc (P : Nat -> Bool) : ∀ k j, ee P k j = none -> ∀ i, j <= i -> i < j + k -> P i = false
 | 0, j, _, i, h1, h2 => by omega
 | k + 1, j, h, i, h1, h2 => by
  unfold ee at h
  cases hp : P j with
  | true => rw [hp] at h; cases h
  | false =>
   rw [hp] at h
   by_cases e : i = j
   ·rw [e]; exact hp
   ·exact oc P k (j + 1) h i (by omega) (by omega)
theorem JO {p : Pg} (h : (jT p).1 = 0) : jT p = (0, 0, ⟨#[]⟩) /\ W9 p /\ p.ty.length <= 131072 /\ p.tx.length <= 131072 /\ p.co.length <= 131072 := by
 unfold jT at h ⊢
 split at h
 ·cases h
 ·rename_i h0
  cases ht : ee (nE p) p.ty.length 0 with
  | some i => rw [ht] at h; cases h
  | none =>
   rw [ht] at h
   rw [if_neg h0]
   dsimp only at h ⊢
   unfold jf at h ⊢
   split at h
   ·cases h
   ·rename_i hw
    cases hc : ee (nY p) p.co.length 0 with
    | some i => rw [hc] at h; cases h
    | none =>
     rw [if_neg hw]
     have g1 := oc _ _ _ ht
     have g2 := oc _ _ _ hc
     simp [lq] at hw
     refine ⟨rfl, ⟨by omega, by omega, by omega, by omega, fun i hi => ?_, fun i hi => ?_⟩, by omega, by omega, by omega⟩
     ·have := g1 i (by omega) (by omega)
      rw [nE, List.getD_eq_getElem?_getD, List.getElem?_eq_getElem hi] at this
      simpa using this
     ·have := g2 i (by omega) (by omega)
      rw [nY, List.getD_eq_getElem?_getD, List.getElem?_eq_getElem hi] at this
      simpa using this
theorem W9.ins {p : Pg} (h : W9 p) (hb : PgB p) (i : Nat) (hi : i < p.co.length) : rP p.co[i].1 p.co[i].2.1 p.co[i].2.2.1 p.co[i].2.2.2 := rP.of (h.co i hi) hb.l1 hb.l2 hb.l3
theorem uQ {p : Pg} (h : W9 p) (hz : PgB p) : (ve p.src p.vw).size <= 44 := by
 have e1 : (⟨#[109, 97, 105, 110, 32]⟩ : ByteArray).size = 5 := rfl
 have e2 : (⟨#[32]⟩ : ByteArray).size = 1 := rfl
 have := h.s1
 have := h.v1
 have := hz.l1
 have := eR h.s0 (by omega)
 have := eR h.v0 (by omega)
 unfold ve
 rw [ByteArray.size_append, ByteArray.size_append, ByteArray.size_append, e1, e2]
 omega
theorem Rh.app {l m : List ByteArray} (h : Rh l) (h' : Rh m) : Rh (l ++ m) := fun s hs => (List.mem_append.1 hs).elim (h s) (h' s)
theorem G8 {p : Pg} (hz : Rl p) (k : Nat) : Rh (tP p k) := fun s hs => by
 obtain ⟨t, ht, rfl⟩ := List.mem_map.1 hs
 have := hz.z1 t (List.mem_of_mem_take ht)
 rw [Cb]
 omega
theorem yI {p : Pg} (hz : Rl p) (k : Nat) : Rh (qE p k) := (G8 hz _).app fun s hs => by
 obtain ⟨t, ht, rfl⟩ := List.mem_map.1 hs
 have := hz.z2 t (List.mem_of_mem_take ht)
 have := Cp t
 omega
theorem S3 {p : Pg} (hz : Rl p) (h : W9 p) {k : Nat} (hk : k <= p.co.length) : Rh (vx p k) := by
 refine ((yI hz _).app fun s hs => ?_).app fun s hs => ?_
 ·rw [List.mem_singleton.1 hs]
  have := uQ h hz.b
  omega
 ·obtain ⟨i, hi, rfl⟩ := List.mem_map.1 hs
  have hi' : i < p.co.length := by have := List.mem_range.1 hi; omega
  rw [M9 hi']
  have := hz.l3
  have := uV (n := i) (by omega) (by omega) (h.ins hz.b i hi')
  omega
theorem sJ {l : List ByteArray} (h : Rh l) (hl : l.length <= 3145729) : (uA l).size <= 13194645717600 := by
 have := Lf l h
 omega
end
section
open Go.RowKit Go.LE
set_option maxRecDepth 10000
def Ar : a7 Tryz.prog 38 where
 pre := fun W bs => fun | [.val (.string s)] => s.size <= 1048576 | _ => False
 res := fun W => fun | [.val (.string s)] => .string (vV s) | _ => undef
 enters := Tryz.call38
 ok := by
  intro W w bs us as_ hk hu hp
  split at hp
  ·rename_i s
   match us, hu with
   | [u0], hu =>
    obtain ⟨rfl, _⟩ := hu
    exact Lo s hp w
  ·exact hp.elim
theorem EZ (W : World) (s : ByteArray) : Ar.res W [.val (.string s)] = .string (vV s) := rfl
theorem EJ (W : World) (bs : List Nat) (s : ByteArray) : Ar.pre W bs [.val (.string s)] = (s.size <= 1048576) := rfl
end
section
open Go.RowKit Go.LE
set_option maxRecDepth 10000
def Sj : a7 Tryz.prog 40 where
 pre := fun W bs as_ => (∃ n op k a b : Int, as_ = [.val (.int .i64 n), .val (V5 op k a b)] /\ 0 <= n /\ n <= 9223372036854775807 /\ rP op k a b) /\ dF W (Out bs) /\ gw W (Out bs)
 res := fun _ as_ => match as_ with
  | [.val (.int _ n), .val (.agg ins)] => (match ins.toList with
   | [.int _ op, .int _ k, .int _ a, .int _ b] => .string (nM n op k a b)
   | _ => undef)
  | _ => undef
 enters := Tryz.call40
 ok := by
  intro W w bs us as_ hk hu hp
  obtain ⟨⟨n, op, k, a, b, rfl, h0, h1, hi⟩, hg, ht⟩ := hp
  match us, hu with
  | [x, y], hu =>
   obtain ⟨rfl, rfl, _⟩ := hu
   exact PF n op k a b h0 h1 hi w (hg.fD hk (by simp)) (ht.fD hk (by simp))
section
variable (W : World) (bs : List Nat) (n op k a b : Int)
theorem O3 : Sj.pre W bs [.val (.int .i64 n), .val (.agg #[.int .i64 op, .int .i64 k, .int .i64 a, .int .i64 b])] = ((0 <= n /\ n <= 9223372036854775807 /\ rP op k a b) /\ dF W (Out bs) /\ gw W (Out bs)) :=
 propext ⟨fun ⟨⟨n', op', k', a', b', h, h0, h1, hi⟩, h2⟩ => by
  cases h
  exact ⟨⟨h0, h1, hi⟩, h2⟩, fun h => ⟨⟨n, op, k, a, b, rfl, h.1⟩, h.2⟩⟩
theorem QR : Sj.res W [.val (.int .i64 n), .val (.agg #[.int .i64 op, .int .i64 k, .int .i64 a, .int .i64 b])] = .string (nM n op k a b) := rfl
end
theorem Jo (W : World) (bs : List Nat) (κ : Nat) (h : Hp) (l : List SV) : FC.ev W bs κ h l = ND h l := rfl
theorem Ji (W : World) (bs : List Nat) (κ : Nat) (h : Hp) (l : List SV) : D5.ev W bs κ h l = Ov h l := rfl
section
variable (p : Pg) (a1 a2 a3 : Option Addr) (c1 c2 c3 : Nat) (hb : PgB p)
noncomputable def Γ98 : Env Tryz.prog := ⟨fun | 15 => some (mU p a1 a2 a3 c1 c2 c3 hb).spec | 36 => some FC | 38 => some Ar.spec | 39 => some xY.spec | 40 => some Sj.spec | 41 => some D5 | _ => none, fun | 39 => some tU | _ => none, fun _ _ => none⟩
theorem Gt98c15 : (Γ98 p a1 a2 a3 c1 c2 c3 hb).sp 15 = some (mU p a1 a2 a3 c1 c2 c3 hb).spec := rfl
theorem Gt98c36 : (Γ98 p a1 a2 a3 c1 c2 c3 hb).sp 36 = some FC := rfl
theorem Gt98c38 : (Γ98 p a1 a2 a3 c1 c2 c3 hb).sp 38 = some Ar.spec := rfl
theorem Gt98c39 : (Γ98 p a1 a2 a3 c1 c2 c3 hb).sp 39 = some xY.spec := rfl
theorem Gt98c40 : (Γ98 p a1 a2 a3 c1 c2 c3 hb).sp 40 = some Sj.spec := rfl
theorem Gt98c41 : (Γ98 p a1 a2 a3 c1 c2 c3 hb).sp 41 = some D5 := rfl
theorem Gt98ceq39 : (Γ98 p a1 a2 a3 c1 c2 c3 hb).eqs 39 = some tU := rfl
end
def eF := (aq @List.replicate_succ.{0} @List.replicate_zero.{0} @aw @ah jS jP jn (aq cQ cV cX cS da c9 c8 (aq db eW eV eX eZ e8 e9 (aq C7 Dq B6 B7 K5 Ld LY (aq Mb BX Dd Bi Ck BH BK (aq BP Ce Ct vY vC vZ vD (aq vX vH wG vQ vW vS C1 (aq BF Dt CC Dh B3 Dw Cn (aq rK W8 WB Xt Wd Xj WQ (aq WR WC WI @aO @au @aB @aC (aq @pZ @y9.eq_1 @sF.eq_1 @Gt98c15 @Gt98c36 @Gt98c38 @Gt98c39 (aq @Gt98c40 @Gt98c41 @Gt98ceq39 @mU.eq_1 @EZ @EJ @yb (aq @ym @O3 @QR @Jo @Ji @kB @oL (fj @Oc @vv @kV @o4))))))))))))))
set_option maxHeartbeats 4000000 in
theorem F6 (p : Pg) (a1 a2 a3 : Option Addr) (c1 c2 c3 : Nat) (w : World) (hp : oM p w a1 a2 a3) (hz : Rl p) (hg : dF w (Out [])) (he : bc w (Out [])) (ht : gw w (Out [])) :
  Calls Tryz.prog 17 #[DA p a1 a2 a3 c1 c2 c3] w fun e w' => e = .returned (.string (AL p)) /\ LE.ai w [] w' := by
 have hx := hp.x
 have hb := hz.b
 refine al (nt := 68) [.tmp 2] Tryz.func17 rfl rfl rfl ?_
 refine vR (Γ98 p a1 a2 a3 c1 c2 c3 hb) eF ?_
 refine Wp.seq ?_
 refine wR (Γ98 p a1 a2 a3 c1 c2 c3 hb) eF ?_ ?_
 ·exact ⟨hx, hg, he⟩
 refine wC eF (fun hc => ?_) (fun hc => ?_)
 ·have h : ¬ jT p = (0, 0, ⟨#[]⟩) := by
   intro h
   rw [h] at hc
   simp at hc
  have e : AL p = ⟨#[]⟩ := by rw [AL, if_neg h]
  rw [e]
  refine vR (Γ98 p a1 a2 a3 c1 c2 c3 hb) eF ?_
  refine wZ eF ?_
  exact fun E => rfl
 have h : jT p = (0, 0, ⟨#[]⟩) := by
  simp at hc
  exact Prod.ext hc.1.1 (Prod.ext hc.1.2 hc.2)
 have e : AL p = Ug p := by rw [AL, if_pos h]
 rw [e]
 obtain ⟨_, hs, _⟩ := JO (congrArg Prod.fst h)
 have l1 := hz.l1
 have l2 := hz.l2
 have l3 := hz.l3
 refine wK ?_
 refine vR (Γ98 p a1 a2 a3 c1 c2 c3 hb) eF ?_
 refine vR (Γ98 p a1 a2 a3 c1 c2 c3 hb) eF ?_
 refine Wp.seq ?_
 refine vR (Γ98 p a1 a2 a3 c1 c2 c3 hb) eF ?_
 refine Wp.Wq (Le.conv (k := 48) (e' := .obj [.string ⟨#[]⟩] lx) (by simp only [Pr, if_true]; rfl) (fun E u fp w' h => ?_) (fun j hj => by cases hj)) ?_
 ·have := tu (vv 91) rfl h
  refine ⟨⟨this, ?_⟩, fun w'' hl => this.local hl⟩
  obtain ⟨_, b, _, _, _, hu, _⟩ := this
  rw [hu]; rfl
 refine Wp.block ?_
 refine Wp.loop (fun k : Nat => ⟨40, bV [(1, .is (.own 0 0)), (3, .is (.own 48 0)), (4, .is (.fn (.func 36) [] [.own 48 0])), (17, .is (.v (.slice a1 p.ty.length c1))), (18, .is (.v (.int .i64 p.ty.length))), (19, .is (.v (.int .i64 (k : Nat))))], cd [(0, .cells 29 [.v (.slice a1 p.ty.length c1), .v (.slice a2 p.tx.length c2), .v (.slice a3 p.co.length c3), .v (.int .i64 p.src), .v (.int .i64 p.vw)]), (48, .obj [.string (uA (tP p k))] lx)]⟩) (fun k => k <= p.ty.length) (fun k => p.ty.length - k) 0 ?_ (Nat.zero_le _) ?_
 ·exact wM (fun k => .key k) (ab eF (show uA (tP p 0) = ⟨#[]⟩ from rfl))
 rintro k hk
 refine vR (Γ98 p a1 a2 a3 c1 c2 c3 hb) eF ?_
 refine Wp.seq ?_
 refine wC eF (fun hc => ?_) (fun hc => ?_)
 ·have hlt : k < p.ty.length := by
   simp at hc
   omega
  have wk : IntKind.i64.wrap ((k : Int) + 1) = ((k + 1 : Nat) : Int) := by rw [aa (by omega) (by omega)]; omega
  obtain ⟨b, o, hao, x1⟩ := km hp.ty hlt
  have hsn := Lg hlt
  have hcat := sJ (G8 hz k) (by rw [BC hk]; omega)
  have hst : (⟨#[116, 121, 112, 101, 32, 47]⟩ ++ p.ty[k] ++ ⟨#[47]⟩ : ByteArray).size = p.ty[k].size + 7 := Cb p.ty[k]
  have hs1 := hz.z1 _ (List.getElem_mem hlt)
  have z6 : (⟨#[116, 121, 112, 101, 32, 47]⟩ : ByteArray).size = 6 := rfl
  have z1 : (⟨#[47]⟩ : ByteArray).size = 1 := rfl
  have e1 := mO (tP p k) (V9 p.ty[k])
  rw [<- hsn] at e1
  have e2 : V9 p.ty[k] = ⟨#[116, 121, 112, 101, 32, 47]⟩ ++ p.ty[k] ++ ⟨#[47]⟩ := rfl
  generalize p.ty[k] = x at *
  refine wK ?_
  refine Wp.seq (Wp.block ?_)
  refine wR (Γ98 p a1 a2 a3 c1 c2 c3 hb) (dk eF hao x1) ?_ ?_
  ·omega
  refine wr (Γ98 p a1 a2 a3 c1 c2 c3 hb) eF ?_ ?_
  ·rw [ByteArray.size_append, ByteArray.size_append, ByteArray.size_append]
   omega
  refine vr (Γ98 p a1 a2 a3 c1 c2 c3 hb) (ab eF wk) ?_
  refine ⟨k + 1, by omega, by omega, ?_⟩
  exact wM (fun k => .key k) (fj eF e1 e2 hao)
 have hk' : k = p.ty.length := by
  simp at hc
  omega
 subst hk'
 rw [<- JF]
 refine wE ?_
 refine Wp.seq ?_
 refine vR (Γ98 p a1 a2 a3 c1 c2 c3 hb) eF ?_
 refine Wp.block ?_
 refine Wp.loop (fun k : Nat => ⟨100, bV [(1, .is (.own 0 0)), (3, .is (.own 48 0)), (4, .is (.fn (.func 36) [] [.own 48 0])), (30, .is (.v (.slice a2 p.tx.length c2))), (31, .is (.v (.int .i64 p.tx.length))), (32, .is (.v (.int .i64 (k : Nat))))], cd [(0, .cells 29 [.v (.slice a1 p.ty.length c1), .v (.slice a2 p.tx.length c2), .v (.slice a3 p.co.length c3), .v (.int .i64 p.src), .v (.int .i64 p.vw)]), (48, .obj [.string (uA (qE p k))] lx)]⟩) (fun k => k <= p.tx.length) (fun k => p.tx.length - k) 0 ?_ (Nat.zero_le _) ?_
 ·exact wM (fun k => .key k) eF
 rintro k hk
 refine vR (Γ98 p a1 a2 a3 c1 c2 c3 hb) eF ?_
 refine Wp.seq ?_
 refine wC eF (fun hc => ?_) (fun hc => ?_)
 ·have hlt : k < p.tx.length := by
   simp at hc
   omega
  have wk : IntKind.i64.wrap ((k : Int) + 1) = ((k + 1 : Nat) : Int) := by rw [aa (by omega) (by omega)]; omega
  obtain ⟨b, o, hao, x1⟩ := km hp.tx hlt
  have hsn := Kf hlt
  have hcat := sJ (yI hz k) (by rw [vz hk]; omega)
  have hst : (⟨#[116, 101, 120, 116, 32]⟩ ++ vV p.tx[k] : ByteArray).size <= 4 * p.tx[k].size + 7 := Cp p.tx[k]
  have hs1 := hz.z2 _ (List.getElem_mem hlt)
  have e1 := mO (qE p k) (Wa p.tx[k])
  rw [<- hsn] at e1
  have e2 : Wa p.tx[k] = ⟨#[116, 101, 120, 116, 32]⟩ ++ vV p.tx[k] := rfl
  generalize p.tx[k] = x at *
  refine wK ?_
  refine Wp.seq (Wp.block ?_)
  refine wR (Γ98 p a1 a2 a3 c1 c2 c3 hb) (dk eF hao x1) ?_ ?_
  ·omega
  refine wr (Γ98 p a1 a2 a3 c1 c2 c3 hb) eF ?_ ?_
  ·have z5 : (⟨#[116, 101, 120, 116, 32]⟩ : ByteArray).size = 5 := rfl
   have := xF x
   exact ⟨hs1, by omega, by omega⟩
  refine vr (Γ98 p a1 a2 a3 c1 c2 c3 hb) (ab eF wk) ?_
  refine ⟨k + 1, by omega, by omega, ?_⟩
  exact wM (fun k => .key k) (fj eF e1 e2 hao)
 have hk' : k = p.tx.length := by
  simp at hc
  omega
 subst hk'
 have hcat := sJ (yI hz p.tx.length) (by rw [vz (Nat.le_refl _)]; omega)
 have e1 := mO (qE p p.tx.length) (ve p.src p.vw)
 rw [<- K6] at e1
 have hms := uQ hs hb
 refine wE ?_
 refine kY (Γ98 p a1 a2 a3 c1 c2 c3 hb) eF ?_ ?_
 ·have z5 : (⟨#[109, 97, 105, 110, 32]⟩ : ByteArray).size = 5 := rfl
  have z1 : (⟨#[32]⟩ : ByteArray).size = 1 := rfl
  have := hs.s0
  have := hs.s1
  have := hs.v0
  have := hs.v1
  have := eR hs.s0 (by omega)
  have := eR hs.v0 (by omega)
  unfold ve at hms
  repeat rw [ByteArray.size_append]
  exact ⟨⟨⟨by omega, by omega⟩, ht⟩, by omega, by omega, ⟨⟨by omega, by omega⟩, ht⟩, by omega, by omega⟩
 refine Wp.seq ?_
 refine vR (Γ98 p a1 a2 a3 c1 c2 c3 hb) eF ?_
 refine Wp.block ?_
 refine Wp.loop (fun k : Nat => ⟨200, bV [(1, .is (.own 0 0)), (3, .is (.own 48 0)), (4, .is (.fn (.func 36) [] [.own 48 0])), (54, .is (.v (.slice a3 p.co.length c3))), (55, .is (.v (.int .i64 p.co.length))), (56, .is (.v (.int .i64 (k : Nat))))], cd [(0, .cells 29 [.v (.slice a1 p.ty.length c1), .v (.slice a2 p.tx.length c2), .v (.slice a3 p.co.length c3), .v (.int .i64 p.src), .v (.int .i64 p.vw)]), (48, .obj [.string (uA (vx p k))] lx)]⟩) (fun k => k <= p.co.length) (fun k => p.co.length - k) 0 ?_ (Nat.zero_le _) ?_
 ·exact wM (fun k => .key k) (dk eF e1 @ve.eq_1)
 rintro k hk
 refine vR (Γ98 p a1 a2 a3 c1 c2 c3 hb) eF ?_
 refine Wp.seq ?_
 refine wC eF (fun hc => ?_) (fun hc => ?_)
 ·have hlt : k < p.co.length := by
   simp at hc
   omega
  have wk : IntKind.i64.wrap ((k : Int) + 1) = ((k + 1 : Nat) : Int) := by rw [aa (by omega) (by omega)]; omega
  obtain ⟨b, o, hao, x1, x2, x3, x4⟩ := jy hp.co hlt
  have hsn := Ja hlt
  have hcat := sJ (S3 hz hs hk) (by rw [PH]; omega)
  have hin := hs.ins hb k hlt
  have hst := uV (n := k) (by omega) (by omega) hin
  have e1 := mO (vx p k) (nM k p.co[k].1 p.co[k].2.1 p.co[k].2.2.1 p.co[k].2.2.2)
  rw [<- hsn] at e1
  generalize p.co[k] = x at *
  refine wK ?_
  refine Wp.seq (Wp.block ?_)
  refine wR (Γ98 p a1 a2 a3 c1 c2 c3 hb) (nC eF hao x1 x2 x3 x4) ?_ ?_
  ·omega
  refine wr (Γ98 p a1 a2 a3 c1 c2 c3 hb) eF ?_ ?_
  ·exact ⟨⟨⟨by omega, by omega, hin⟩, hg, ht⟩, by omega⟩
  refine vr (Γ98 p a1 a2 a3 c1 c2 c3 hb) (ab eF wk) ?_
  refine ⟨k + 1, by omega, by omega, ?_⟩
  exact wM (fun k => .key k) (dk eF e1 hao)
 have hk' : k = p.co.length := by
  simp at hc
  omega
 subst hk'
 refine wE ?_
 refine vR (Γ98 p a1 a2 a3 c1 c2 c3 hb) eF ?_
 refine wZ eF ?_
 exact fun E => rfl
end
section
open Go.RowKit Go.LE
set_option maxRecDepth 10000
def pK : Pg := ⟨[⟨#[97, 42]⟩], [], [(1, 0, 2, 0), (0, 0, 0, 0), (4, 0, 0, 0), (2, 0, 0, 0)], 0, 0⟩
theorem Yx : ya ⟨#[97, 42]⟩ = true := by decide +kernel
theorem Xg : jT pK = (0, 0, ⟨#[]⟩) := by
 have h : jT pK = jf pK := by
  unfold jT
  rw [if_neg (by decide)]
  rw [gW]
  intro i hi
  have : i = 0 := by simp [pK] at hi; omega
  subst this
  show (!ya ⟨#[97, 42]⟩) = false
  rw [Yx]; rfl
 rw [h]
 decide +kernel
def Yc : ByteArray := ⟨#[116, 121, 112, 101, 32, 47, 97, 42, 47, 10, 109, 97, 105, 110, 32, 48, 32, 48, 10, 48, 32, 99, 97, 108, 108, 32, 50, 10, 49, 32, 104, 97, 108, 116, 10, 50, 32, 101, 109, 105, 116, 32, 115, 10, 51, 32, 114, 101, 116, 10]⟩
theorem XY : AL pK = Yc := by
 rw [AL, if_pos Xg]
 decide +kernel
theorem RQ : Rl pK := ⟨by decide, by decide, by decide, by decide, by decide⟩
section
variable (a1 a2 a3 : Option Addr) (c1 c2 c3 : Nat)
def yD (p : Pg) (hz : Rl p) : a7 Tryz.prog 17 where
 pre := fun W bs as_ => as_ = [.val (DA p a1 a2 a3 c1 c2 c3)] /\ Cx p W (Out bs) a1 a2 a3 /\ dF W (Out bs) /\ bc W (Out bs) /\ gw W (Out bs)
 res := fun _ _ => .string (AL p)
 enters := Tryz.call17
 ok := by
  intro W w bs us as_ hk hu hp
  obtain ⟨rfl, h1, h2, h3, h4⟩ := hp
  match us, hu with
  | [x], hu =>
   obtain ⟨rfl, _⟩ := hu
   exact F6 p a1 a2 a3 c1 c2 c3 w (h1.ok hz.b hk) hz (h2.fD hk (by simp)) (h3.fD hk (by simp)) (h4.fD hk (by simp))
noncomputable def Γ99 : Env Tryz.prog := ⟨fun | 15 => some (mU pK a1 a2 a3 c1 c2 c3 RQ.b).spec | 17 => some (yD a1 a2 a3 c1 c2 c3 pK RQ).spec | _ => none, fun | 39 => some tU | _ => none, fun _ _ => none⟩
theorem Gt99c15 : (Γ99 a1 a2 a3 c1 c2 c3).sp 15 = some (mU pK a1 a2 a3 c1 c2 c3 RQ.b).spec := rfl
theorem Gt99c17 : (Γ99 a1 a2 a3 c1 c2 c3).sp 17 = some (yD a1 a2 a3 c1 c2 c3 pK RQ).spec := rfl
theorem Gt99ceq39 : (Γ99 a1 a2 a3 c1 c2 c3).eqs 39 = some tU := rfl
end
def KB := (aq @List.replicate_succ.{0} @List.replicate_zero.{0} @aw @ah jS jP Mv (aq Mq Mr da c9 c8 db eW (aq eV eX eZ e8 e9 C7 Dq (aq B6 B7 K5 Ld LY Mb BX (aq Dd Bi Ck BH BK BP Ce (aq Ct vY vC vZ vD vX vH (aq wG vQ vW vS C1 BF Dt (aq CC Dh B3 Dw Cn rK @aO (aq @au @aB @aC @pZ @y9.eq_1 @sF.eq_1 @Gt99c15 (fj @Gt99c17 @Gt99ceq39 @mU.eq_1 @yD.eq_1))))))))))
set_option maxHeartbeats 2000000 in
theorem F7 (w : World) (hg : dF w (Out [])) (he : bc w (Out [])) (ht : gw w (Out [])) : Calls Tryz.prog 11 #[] w fun e w' => e = .returned (.bool true) /\ LE.ai w [] w' := by
 refine al (nt := 18) [.tmp 0] Tryz.func11 rfl rfl rfl ?_
 refine vR Γ0 KB ?_
 refine vR Γ0 KB ?_
 refine Wp.ku 8 (ev (ab KB @az)) (fun E => by simp only [an, den, az]; exact rfl) fun W1 bs1 ao1 d1 hx1 hs1 hd1 => ?_
 refine Wp.ku 48 (ev (ab KB @az)) (fun E => by simp only [an, den, az]; exact rfl) fun W2 bs2 ao2 d2 hx2 hs2 hd2 => ?_
 have r1 : ej W2 (Out bs2) ao1 (fC pK.ty) := (hs1.out fun b hb => hb.out).mono hx2.gT
 have r2 : ej W2 (Out bs2) none (fC pK.tx) := .inl rfl
 have r3 : ej W2 (Out bs2) ao2 (jR pK.co) := hs2.out fun b hb => hb.out
 have g1 := (hg.mono hx1.gT).mono hx2.gT
 have g2 := (he.mono hx1.gT).mono hx2.gT
 have g3 := (ht.mono hx1.gT).mono hx2.gT
 refine wR (Γ99 ao1 none ao2 d1 0 d2) (dk KB @Xg @XY) ?_ ?_
 ·exact ⟨⟨rfl, ⟨r1, r2, r3⟩, g1, g2⟩, fun _ => ⟨rfl, ⟨r1, r2, r3⟩, g1, g2, g3⟩⟩
 refine wZ KB ?_
 exact fun E => rfl
end
section
open Go.RowKit Go.LE
set_option maxRecDepth 10000
theorem zM {p : Pg} {W : World} {S : Nat -> Prop} {u : Value} (h : ∃ cs, u = Sh.wy.val cs /\ (SZ p).Φ cs W S) : ∃ (b1 b2 b3 : Option Addr) (d1 d2 d3 : Nat), u = DA p b1 b2 b3 d1 d2 d3 /\ Cx p W S b1 b2 b3 := by
 obtain ⟨cs, rfl, b1, b2, b3, d1, d2, d3, rfl, h⟩ := h
 exact ⟨b1, b2, b3, d1, d2, d3, rfl, h⟩
theorem FX {w : World} {S : Nat -> Prop} {sh : Sh} {Φ : FK} {us : List Value} {as_ : List AV} (h : rl w S [some (sh, Φ)] us as_) : ∃ x a, us = [x] /\ as_ = [a] /\ ∃ cs, x = sh.val cs /\ Φ.Φ cs w S := by
 rcases us with _ | ⟨x, us⟩
 ·exact h.elim
 rcases as_ with _ | ⟨a, as_⟩
 ·exact h.elim
 obtain ⟨h1, h2⟩ := h
 rcases us with _ | ⟨y, us⟩
 ·rcases as_ with _ | ⟨b, as_⟩
  ·exact ⟨x, a, rfl, rfl, h1⟩
  ·exact h2.elim
 ·exact h2.elim
theorem Sm {w : World} {S : Nat -> Prop} {sh : Sh} {Φ : FK} {ks : List Kd} {us : List Value} {as_ : List AV} (h : rl w S (some (sh, Φ) :: ks) us as_) : ∃ x us' a as', us = x :: us' /\ as_ = a :: as' /\ (∃ cs, x = sh.val cs /\ Φ.Φ cs w S) /\ rl w S ks us' as' := by
 rcases us with _ | ⟨x, us⟩
 ·exact h.elim
 rcases as_ with _ | ⟨a, as_⟩
 ·exact h.elim
 exact ⟨x, us, a, as_, rfl, rfl, h.1, h.2⟩
theorem TN {w : World} {S : Nat -> Prop} (h : dF w S) : dF w (Out []) := h.mono fun b _ _ => ⟨rfl, by simp [Out]⟩
theorem Rq {w : World} {S : Nat -> Prop} (h : bc w S) : bc w (Out []) := h.mono fun b _ _ => ⟨rfl, by simp [Out]⟩
section
variable (p : Pg) (hb : PgB p)
def u6 : j8 Tryz.prog 15 where
 kinds := [some (Sh.wy, SZ p)]
 pre := fun _ W S => dF W S /\ bc W S
 premono := fun as_ W S W' S' hs h => ⟨h.1.mono hs, h.2.mono hs⟩
 out := fun _ => .val (y9 (jT p))
 enters := Tryz.call15
 ok := by
  intro w S us as_ hg hp
  obtain ⟨x, a, rfl, rfl, h1⟩ := FX hg
  obtain ⟨b1, b2, b3, d1, d2, d3, rfl, hx⟩ := zM h1
  exact td p b1 b2 b3 d1 d2 d3 w (hx.is hb) (TN hp.1) (Rq hp.2)
def tM : j8 Tryz.prog 13 where
 kinds := [some (Sh.wy, SZ p)]
 pre := fun _ W S => True
 premono := fun as_ W S W' S' hs h => trivial
 out := fun _ => .val (Ow (jT p))
 enters := Tryz.call13
 ok := by
  intro w S us as_ hg hp
  obtain ⟨x, a, rfl, rfl, h1⟩ := FX hg
  obtain ⟨b1, b2, b3, d1, d2, d3, rfl, hx⟩ := zM h1
  exact Ez p b1 b2 b3 d1 d2 d3 w (hx.is hb)
def yt : j8 Tryz.prog 16 where
 kinds := [some (Sh.wy, SZ p), some (Sh.wy, SZ p)]
 pre := fun _ W S => True
 premono := fun as_ W S W' S' hs h => trivial
 out := fun _ => .val (.bool true)
 enters := Tryz.call16
 ok := by
  intro w S us as_ hg hp
  obtain ⟨x, us', a, as', rfl, rfl, h1, hg⟩ := Sm hg
  obtain ⟨y, b, rfl, rfl, h2⟩ := FX hg
  obtain ⟨b1, b2, b3, d1, d2, d3, rfl, hx⟩ := zM h1
  obtain ⟨e1, e2, e3, f1, f2, f3, rfl, hy⟩ := zM h2
  exact M3 p b1 b2 b3 e1 e2 e3 d1 d2 d3 f1 f2 f3 w (hx.is hb) (hy.is hb)
end
def zW : a7 Tryz.prog 11 where
 pre := fun W bs as_ => as_ = [] /\ dF W (Out bs) /\ bc W (Out bs) /\ gw W (Out bs)
 res := fun _ _ => .bool true
 enters := Tryz.call11
 ok := by
  intro W w bs us as_ hk hu hp
  obtain ⟨rfl, h1, h2, h3⟩ := hp
  match us, hu with
  | [], _ => exact F7 w (h1.fD hk (by simp)) (h2.fD hk (by simp)) (h3.fD hk (by simp))
section
variable (p : Pg) (a1 a2 a3 : Option Addr) (c1 c2 c3 : Nat) (hb : PgB p) (hn : p.ty.length <= 1048576 /\ p.tx.length <= 1048576 /\ p.co.length <= 1048576) (G : Nat -> Prop)
noncomputable def Γ95 : Env Tryz.prog := ⟨fun | 11 => some (zW).spec | 12 => some ((tV p a1 a2 a3 c1 c2 c3 hb hn).spec G) | 13 => some ((tM p hb).spec G) | 14 => some ((U8 p a1 a2 a3 c1 c2 c3 hb hn).spec G) | 15 => some ((u6 p hb).spec G) | 16 => some ((yt p hb).spec G) | _ => none, fun | 39 => some tU | _ => none, fun _ _ => none⟩
theorem Gt95c11 : (Γ95 p a1 a2 a3 c1 c2 c3 hb hn G).sp 11 = some (zW).spec := rfl
theorem Gt95c12 : (Γ95 p a1 a2 a3 c1 c2 c3 hb hn G).sp 12 = some ((tV p a1 a2 a3 c1 c2 c3 hb hn).spec G) := rfl
theorem Gt95c13 : (Γ95 p a1 a2 a3 c1 c2 c3 hb hn G).sp 13 = some ((tM p hb).spec G) := rfl
theorem Gt95c14 : (Γ95 p a1 a2 a3 c1 c2 c3 hb hn G).sp 14 = some ((U8 p a1 a2 a3 c1 c2 c3 hb hn).spec G) := rfl
theorem Gt95c15 : (Γ95 p a1 a2 a3 c1 c2 c3 hb hn G).sp 15 = some ((u6 p hb).spec G) := rfl
theorem Gt95c16 : (Γ95 p a1 a2 a3 c1 c2 c3 hb hn G).sp 16 = some ((yt p hb).spec G) := rfl
theorem Gt95ceq39 : (Γ95 p a1 a2 a3 c1 c2 c3 hb hn G).eqs 39 = some tU := rfl
end
def Eb := (aq @List.replicate_succ.{0} @List.replicate_zero.{0} @aw @ah jS jP jn (aq cQ cV cX cS da c9 c8 (aq db eW eV eX eZ e8 e9 (aq WJ Xe Wx Xr Xn Xz Wt (aq Xd Xl BX Dd Bi Ck BH (aq BK BP Ce Ct Ym Yd PM (aq Nr Nn OK P8 PN Oe Nb (aq OI vY vC vZ vD vX vH (aq wG vQ vW vS @aO @au @aB (aq @aC @fe @pZ @Gt95c11 @Gt95c12 @Gt95c13 @Gt95c14 (aq @Gt95c15 @Gt95c16 @Gt95ceq39 @zW.eq_1 @tV.eq_1 @U8.eq_1 @tM.eq_1 (dk @u6.eq_1 @yt.eq_1 @Sh.wy.eq_1))))))))))))
set_option maxHeartbeats 4000000 in
theorem EU (p : Pg) (a1 a2 a3 : Option Addr) (c1 c2 c3 : Nat) (hn : p.ty.length <= 1048576 /\ p.tx.length <= 1048576 /\ p.co.length <= 1048576) (w : World) (hp : oM p w a1 a2 a3) (hg : dF w (Out [])) (he : bc w (Out [])) (ht : gw w (Out [])) :
  Calls Tryz.prog 3 #[DA p a1 a2 a3 c1 c2 c3] w fun e w' => e = .returned (.bool true) /\ ai w [] w' := by
 have hx := hp.x
 have hb := hp.toPgB
 have u0 : Up (fun _ => True) w [] := Up.true _ _
 have hr : Cx p w (eY (fun _ => True) []) a1 a2 a3 := hx.mono fun b _ h => ⟨rfl, trivial, h⟩
 have hgr : dF w (eY (fun _ => True) []) := hg.mono fun b _ h => ⟨rfl, trivial, h⟩
 have her : bc w (eY (fun _ => True) []) := he.mono fun b _ h => ⟨rfl, trivial, h⟩
 refine al (nt := 31) [.tmp 2] Tryz.func3 rfl rfl rfl ?_
 refine vR (Γ95 p a1 a2 a3 c1 c2 c3 hb hn (fun _ => True)) Eb ?_
 refine Wp.seq ?_
 refine wR (Γ95 p a1 a2 a3 c1 c2 c3 hb hn (fun _ => True)) Eb ?_ ?_
 ·exact ⟨hg, he, ht⟩
 refine wC Eb (fun hc => ?_) (fun hc => ?_)
 ·exact absurd hc (by simp)
 refine wK ?_
 refine wR (Γ95 p a1 a2 a3 c1 c2 c3 hb hn (fun _ => True)) Eb ?_ ?_
 ·exact ⟨hr, u0⟩
 refine wR (Γ95 p a1 a2 a3 c1 c2 c3 hb hn (fun _ => True)) (ab Eb @Ow.eq_1) ?_ ?_
 ·exact ⟨hr, u0⟩
 refine kY (Γ95 p a1 a2 a3 c1 c2 c3 hb hn (fun _ => True)) (fj Eb @y9.eq_1 @sF.eq_1 @Bool.false_xor) ?_ ?_
 ·exact ⟨⟨hgr, her⟩, hr, u0⟩
 refine wZ Eb ?_
 exact fun E => rfl
end
section
open Go.ChangeShapes Go.WideShapes Go.ChangeAt Go.RowKit Go.LE
open Go.ChangeMaps (open_string shut_string)
set_option maxRecDepth 10000
theorem X4 : ownKnob Tryz.prog.godebug = none := by kernel_rfl
theorem WV : laidOutB Tryz.prog = true := by kernel_rfl
theorem Wi : mapsRowed Tryz.prog = true := by kernel_rfl
theorem WN : ((List.range Tryz.prog.types.size).all fun t => match Tryz.prog.underlying t with | some (.slice e) => decide (0 < Tryz.prog.cellsOf e) | _ => true) = true := by kernel_rfl
theorem OS : Tryz.prog.cellsOf 9 = 1 := by kernel_rfl
theorem qL : Tryz.prog.cellsOf 3 = 1 := by kernel_rfl
theorem UY : Tryz.prog.cellsOf 4 = 1 := by kernel_rfl
theorem QC : Tryz.prog.cellsOf 5 = 1 := by kernel_rfl
theorem Io : Tryz.prog.cellsOf 22 = 1 := by kernel_rfl
theorem Tu : Tryz.prog.cellsOf 23 = 1 := by kernel_rfl
theorem TB : Tryz.prog.cellsOf 82 = 4 := by kernel_rfl
theorem Sp : Tryz.prog.cellsOf 25 = 5 := by kernel_rfl
theorem BL : Tryz.prog.cellsOf 156 = 1 := by kernel_rfl
theorem C4 : Tryz.prog.cellsOf 160 = 4 := by kernel_rfl
theorem OG : Tryz.prog.cellsOf 203 = 1 := by kernel_rfl
theorem QK : Tryz.prog.cellsOf 334 = 20 := by kernel_rfl
theorem Cq : Tryz.prog.cellsOf 355 = 2 := by kernel_rfl
section
variable {H : Type} {enc : TypeId × Value -> H}
theorem QL (d : DataW H) : 1 <= Rows.uptoBulk d := by
 cases d with
 | lit x => cases x <;> simp [Rows.uptoBulk]
 | _ => simp [Rows.uptoBulk]
theorem Du : ∀ {l : List (DataW H)} {d : DataW H}, d ∈ l -> Rows.uptoBulk d <= Rows.uptoBulkAll l
 | x :: r, d, h => by
  simp only [Rows.uptoBulkAll]
  rcases List.mem_cons.1 h with rfl | h
  ·omega
  ·have := Du h; omega
theorem Dm : ∀ (l : List (DataW H)), l.length <= Rows.uptoBulkAll l
 | [] => by simp
 | x :: r => by
  simp only [Rows.uptoBulkAll, List.length_cons]
  have := Dm r
  have := QL x
  omega
theorem uZ {n : Nat} {d : DataW H} {D : Nat -> DataW H} {rest : List (DataW H)} (hd : (n = 0 /\ d = .nil) \/ d = .slice ((List.range n).map D) rest) (hb : Rows.uptoBulk d <= 1048576) : n <= 1048576 /\ ∀ i, i < n -> Rows.uptoBulk (D i) <= 1048576 := by
 rcases hd with ⟨rfl, _⟩ | hd
 ·exact ⟨by omega, fun i hi => by omega⟩
 ·rw [hd] at hb
  simp only [Rows.uptoBulk] at hb
  have h2 := Dm ((List.range n).map D)
  simp only [List.length_map, List.length_range] at h2
  refine ⟨by omega, fun i hi => ?_⟩
  have h1 := Du (List.mem_map_of_mem (f := D) (List.mem_range.2 hi))
  omega
theorem tk {α : Type} {n : Nat} {C : Nat -> List Value} {f : Nat -> α} {g : α -> List Value} (h : ∀ i, i < n -> C i = g (f i)) : (List.range n).flatMap C = ((List.range n).map f).flatMap g := by
 have key : ∀ k, k <= n -> (List.range k).flatMap C = ((List.range k).map f).flatMap g := fun k => by
  induction k with
  | zero => intro _; rfl
  | succ k ih =>
   intro hk
   rw [List.range_succ, List.flatMap_append, ih (by omega), List.map_append, List.flatMap_append]
   simp [h k (by omega)]
 exact key n (Nat.le_refl _)
theorem LW (l : List ByteArray) : l.flatMap (fun s => [Value.string s]) = fC l := by
 induction l with
 | nil => rfl
 | cons s r ih => rw [List.flatMap_cons, ih]; rfl
instance : Inhabited ByteArray := ⟨⟨#[]⟩⟩
theorem open_strs {W : World} {v : Value} {d : DataW H} {p : List MemPlace} (hok : ∃ a len cap, v = .slice a len cap) (h : DataW.Trod enc Tryz.prog W 0 (fun _ => true) true 22 v d p) (hb : Rows.uptoBulk d <= 1048576) :
  ∃ ao c, ∃ l : List ByteArray, v = .slice ao l.length c /\ jA W ao (fC l) /\ l.length <= 1048576 /\ ∀ s ∈ l, s.size <= 1048576 := by
 obtain ⟨ao, n, c, m, C, D, rest, rfl, hd, hi, hs⟩ := wJ Tryz.underlying22 OS hok h
 obtain ⟨hn, hbk⟩ := uZ hd hb
 have hE : ∀ i, i < n -> ∃ s : ByteArray, C i = [.string s] /\ D i = .lit (.string s.data.toList) := fun i hin => by
  obtain ⟨h1, pl, h2⟩ := hi i hin
  obtain ⟨s, h3, h4, _⟩ := DataW.trod_string Tryz.underlying9 h2
  exact ⟨s, h3, congrArg Prod.fst h4⟩
 obtain ⟨f, hf⟩ := Go.Deep.choose_lt hE
 rw [tk (f := f) (g := fun s => [Value.string s]) fun i hi => (hf i hi).1, LW] at hs
 refine ⟨ao, c, (List.range n).map f, by simp, hs, by simpa using hn, fun s hs' => ?_⟩
 obtain ⟨i, hin, rfl⟩ := List.mem_map.1 hs'
 have hin := List.mem_range.1 hin
 have := hbk i hin
 rw [(hf i hin).2] at this
 simp only [Rows.uptoBulk, Array.length_toList] at this
 have h2 : (f i).size = (f i).data.size := rfl
 omega
theorem Sk {W : World} {m : Nat} {cs : List Value} {x : DataW H × List MemPlace} (h1 : cs.length = 4) (h2 : DataW.trod enc Tryz.prog W 0 (fun _ => true) true m 82 cs = some x) : ∃ x : Int × Int × Int × Int, cs = Rf x := by
 obtain ⟨xs, k, _, _, _, hxl, hall⟩ := DataW.trod_struct Tryz.underlying82 h2
 have e0 := hall 0 _ rfl
 have e1 := hall 1 _ rfl
 have e2 := hall 2 _ rfl
 have e3 := hall 3 _ rfl
 have hxl : xs.length = 4 := hxl
 match xs, hxl, cs, h1 with
 | [y0, y1, y2, y3], _, [c0, c1, c2, c3], _ =>
  obtain ⟨z0, g0, _⟩ := DataW.trod_int (cs := [c0]) Tryz.underlying3 (by simpa [qL] using e0)
  obtain ⟨z1, g1, _⟩ := DataW.trod_int (cs := [c1]) Tryz.underlying3 (by simpa [qL] using e1)
  obtain ⟨z2, g2, _⟩ := DataW.trod_int (cs := [c2]) Tryz.underlying3 (by simpa [qL] using e2)
  obtain ⟨z3, g3, _⟩ := DataW.trod_int (cs := [c3]) Tryz.underlying3 (by simpa [qL] using e3)
  simp only [List.cons.injEq, and_true] at g0 g1 g2 g3
  exact ⟨(z0, z1, z2, z3), by rw [g0, g1, g2, g3]; rfl⟩
theorem MC {W : World} {v : Value} {d : DataW H} {p : List MemPlace} (hok : ∃ a len cap, v = .slice a len cap) (h : DataW.Trod enc Tryz.prog W 0 (fun _ => true) true 23 v d p) (hb : Rows.uptoBulk d <= 1048576) :
  ∃ ao c, ∃ l : List (Int × Int × Int × Int), v = .slice ao l.length c /\ jA W ao (jR l) /\ l.length <= 1048576 := by
 obtain ⟨ao, n, c, m, C, D, rest, rfl, hd, hi, hs⟩ := wJ Tryz.underlying23 TB hok h
 obtain ⟨hn, hbk⟩ := uZ hd hb
 have hE : ∀ i, i < n -> ∃ x : Int × Int × Int × Int, C i = Rf x := fun i hin => by
  obtain ⟨h1, pl, h2⟩ := hi i hin
  exact Sk h1 h2
 obtain ⟨f, hf⟩ := Go.Deep.choose_lt hE
 rw [tk (f := f) (g := Rf) hf] at hs
 exact ⟨ao, c, (List.range n).map f, by simp, hs, by simpa using hn⟩
theorem ot {W : World} {t e : TypeId} {n : Nat} {v : Value} {x : DataW H × List MemPlace} (ht : Tryz.prog.underlying t = some (.slice e)) (h : DataW.trod enc Tryz.prog W 0 (fun _ => true) true n t [v] = some x) : ∃ a len cap, v = .slice a len cap := by
 rcases Go.Deep.open_slice ht h with ⟨h1, h2⟩ | ⟨a', len', cap', m, n, D, Pl, h1, _⟩
 ·simp only [List.cons.injEq, and_true] at h1
  exact ⟨_, _, _, h1⟩
 ·simp only [List.cons.injEq, and_true] at h1
  exact ⟨_, _, _, h1⟩
theorem Km {W : World} {b0 : Nat} {v : Value} {d : DataW H} {p : List MemPlace} (hv : Value.okWide Tryz.prog W .any b0 25 v) (h : DataW.Trod enc Tryz.prog W 0 (fun _ => true) true 25 v d p) (hb : Rows.uptoBulk d <= 1048576) :
  ∃ (p : Pg) (a1 a2 a3 : Option Addr) (c1 c2 c3 : Nat), v = DA p a1 a2 a3 c1 c2 c3 /\ oM p W a1 a2 a3 /\ Rl p := by
 obtain ⟨cs, rfl, hsz⟩ := okWide_struct Tryz.underlying25 hv
 rw [Sp] at hsz
 obtain ⟨fuel, h⟩ := h
 obtain ⟨xs, k, _, hd, _, hxl, hall⟩ := DataW.trod_struct Tryz.underlying25 h
 have e0 := hall 0 _ rfl
 have e1 := hall 1 _ rfl
 have e2 := hall 2 _ rfl
 have e3 := hall 3 _ rfl
 have e4 := hall 4 _ rfl
 have hxl : xs.length = 5 := hxl
 obtain ⟨l, rfl⟩ : ∃ l : List Value, cs = l.toArray := ⟨cs.toList, rfl⟩
 have hsz : l.length = 5 := by simpa using hsz
 match xs, hxl, l, hsz with
 | [y0, y1, y2, y3, y4], _, [v0, v1, v2, v3, v4], _ =>
  have t0 : DataW.trod enc Tryz.prog W 0 (fun _ => true) true k 22 [v0] = some y0 := by simpa [Io, Value.cells] using e0
  have t1 : DataW.trod enc Tryz.prog W 0 (fun _ => true) true k 22 [v1] = some y1 := by simpa [Io, Value.cells] using e1
  have t2 : DataW.trod enc Tryz.prog W 0 (fun _ => true) true k 23 [v2] = some y2 := by simpa [Tu, Value.cells] using e2
  have t3 : DataW.trod enc Tryz.prog W 0 (fun _ => true) true k 3 [v3] = some y3 := by simpa [qL, Value.cells] using e3
  have t4 : DataW.trod enc Tryz.prog W 0 (fun _ => true) true k 3 [v4] = some y4 := by simpa [qL, Value.cells] using e4
  have hd : d = .agg [y0.1, y1.1, y2.1, y3.1, y4.1] := congrArg Prod.fst hd
  subst hd
  simp only [Rows.uptoBulk, Rows.uptoBulkAll] at hb
  obtain ⟨a0, n0, m0, rfl⟩ := ot Tryz.underlying22 t0
  obtain ⟨a1, n1, m1, rfl⟩ := ot Tryz.underlying22 t1
  obtain ⟨a2, n2, m2, rfl⟩ := ot Tryz.underlying23 t2
  obtain ⟨z3, g3, _⟩ := DataW.trod_int Tryz.underlying3 t3
  obtain ⟨z4, g4, _⟩ := DataW.trod_int Tryz.underlying3 t4
  simp only [List.cons.injEq, and_true] at g3 g4
  obtain ⟨b0, c0, l0, h0, s0, k0, q0⟩ := open_strs ⟨_, _, _, rfl⟩ (p := y0.2) ⟨k, t0⟩ (by omega)
  obtain ⟨b1, c1, l1, h1, s1, k1, q1⟩ := open_strs ⟨_, _, _, rfl⟩ (p := y1.2) ⟨k, t1⟩ (by omega)
  obtain ⟨b2, c2, l2, h2, s2, k2⟩ := MC ⟨_, _, _, rfl⟩ (p := y2.2) ⟨k, t2⟩ (by omega)
  subst g3 g4
  have hz : Rl ⟨l0, l1, l2, z3, z4⟩ := ⟨k0, k1, k2, q0, q1⟩
  exact ⟨⟨l0, l1, l2, z3, z4⟩, b0, b1, b2, c0, c1, c2, by rw [h0, h1, h2], ⟨hz.b, s0, s1, s2⟩, hz⟩
end
end
section
open Go.ChangeShapes Go.WideShapes Go.ChangeAt Go.RowKit Go.LE
set_option maxRecDepth 10000
theorem Dx : Tryz.prog.globalNamed "loupe/code.shapes" = some 0 := by kernel_rfl
theorem P6 : Tryz.prog.globalNamed "loupe/class.escapes" = some 4 := by kernel_rfl
theorem UZ : (Tryz.prog.globals[0]?).map (·.type) = some 161 := by kernel_rfl
theorem Vz : (Tryz.prog.globals[3]?).map (·.type) = some 334 := by kernel_rfl
theorem VL : (Tryz.prog.globals[4]?).map (·.type) = some 356 := by kernel_rfl
theorem ja {W : World} {n : String} {g : Nat} {cs : Array Value} (hg : Tryz.prog.globalNamed n = some g) (h : W.var? Tryz.prog n = some cs) (i : Nat) (v : Value) (hi : cs.toList[i]? = some v) : W.cell? ⟨g, i, none⟩ = some v := by
 unfold World.var? at h
 rw [hg, Option.bind_some] at h
 split at h
 ·rename_i cs' T fr hh
  cases h
  simp only [World.cell?, hh]
  rw [Array.getElem?_toList] at hi
  simpa using hi
 ·cases h
theorem I6 {W : World} (h : Lib.VarReads Tryz.prog W "internal/strconv.uint64pow10" Rows.laid_internal_strconv_uint64pow10) : gw W (Out []) := by
 obtain ⟨g, t, cs, fuel, p, h1, h2, h3, h4⟩ := h
 obtain rfl := Option.some.inj (Nf.symm.trans h1)
 obtain rfl := Option.some.inj (Vz.symm.trans h2)
 have e : (Rows.laid_internal_strconv_uint64pow10 : DataW Unit) = Lib.tabData .u64 Lib.pow10Tab := rfl
 rw [e] at h4
 have h5 := Lib.cells_of_tab Tryz.underlying334 Tryz.underlying203 OG QK h4
 refine ⟨by simp [Out], ?_⟩
 show W.var? Tryz.prog _ = _
 rw [h3, <- h5]
theorem Va {l : List Value} {k : Nat} {x y : Value} (h : (l.drop k).take 2 = [x, y]) : l[k]? = some x /\ l[k + 1]? = some y := by
 have h0 := congrArg (·[0]?) h
 have h1 := congrArg (·[1]?) h
 simp only [List.getElem?_take, List.getElem?_drop] at h0 h1
 exact ⟨by simpa using h0, by simpa using h1⟩
theorem Td {l : List Value} {k : Nat} {x y z u : Value} (h : (l.drop k).take 4 = [x, y, z, u]) : l[k]? = some x /\ l[k + 1]? = some y /\ l[k + 2]? = some z /\ l[k + 3]? = some u := by
 have h0 := congrArg (·[0]?) h
 have h1 := congrArg (·[1]?) h
 have h2 := congrArg (·[2]?) h
 have h3 := congrArg (·[3]?) h
 simp only [List.getElem?_take, List.getElem?_drop] at h0 h1 h2 h3
 exact ⟨by simpa using h0, by simpa using h1, by simpa using h2, by simpa using h3⟩
theorem EN {W : World} {sp : Nat -> Bool} {fuel : Nat} {cs : List Value} {a b : Int} {q : List MemPlace} (h : DataW.trod (fun _ => ()) Tryz.prog W 0 sp false fuel 355 cs = some (.agg [.lit (.int .u8 a), .lit (.int .u8 b)], q)) : cs = [.int .u8 a, .int .u8 b] :=
 Lib.ints_of_struct (zs := [a, b]) Tryz.underlying355 (fun i f hf => by
  match i, hf with
  | 0, hf => cases hf; exact ⟨Tryz.underlying5, rfl, QC⟩
  | 1, hf => cases hf; exact ⟨Tryz.underlying5, rfl, QC⟩
  | i + 2, hf => cases hf) Cq h
theorem JU {W : World} (h : Lib.VarReads Tryz.prog W "loupe/class.escapes" Rows.laid_loupe_class_escapes) : bc W (Out []) := by
 obtain ⟨g, t, cs, fuel, p, h1, h2, h3, h4⟩ := h
 obtain rfl := Option.some.inj (P6.symm.trans h1)
 obtain rfl := Option.some.inj (VL.symm.trans h2)
 have key : ∀ i (a b : Int), i < 3 -> [(110, 10), (114, 13), (116, 9)][i]? = some (a, b) -> W.cell? ⟨4, i * 2, none⟩ = some (.int .u8 a) /\ W.cell? ⟨4, i * 2 + 1, none⟩ = some (.int .u8 b) := fun i a b hi hab => by
  obtain ⟨f', d, q, hd, ht⟩ := Lib.array_elem Tryz.underlying356 h4 i hi
  rw [Cq] at ht
  have e : d = .agg [.lit (.int .u8 a), .lit (.int .u8 b)] := by
   match i, hi with
   | 0, _ => cases hab; cases hd; rfl
   | 1, _ => cases hab; cases hd; rfl
   | 2, _ => cases hab; cases hd; rfl
  subst e
  obtain ⟨g1, g2⟩ := Va (EN ht)
  exact ⟨ja P6 h3 _ _ g1, ja P6 h3 _ _ g2⟩
 have k0 := key 0 _ _ (by omega) rfl
 have k1 := key 1 _ _ (by omega) rfl
 have k2 := key 2 _ _ (by omega) rfl
 exact ⟨by simp [Out], k0.1, k0.2, k1.1, k1.2, k2.1, k2.2⟩
theorem CW {W : World} {sp : Nat -> Bool} {fuel : Nat} {cs : List Value} {s : ByteArray} {b : Bool} {a c : Int} {q : List MemPlace}
  (h : DataW.trod (fun _ => ()) Tryz.prog W 0 sp false fuel 160 cs = some (.agg [.lit (.string s.data.toList), .lit (.bool b), .lit (.int .i64 a), .lit (.int .i64 c)], q)) : cs = [.string s, .bool b, .int .i64 a, .int .i64 c] := by
 obtain ⟨xs, k, _, hd, hl, hxl, hall⟩ := DataW.trod_struct Tryz.underlying160 h
 rw [C4] at hl
 have e0 := hall 0 _ rfl
 have e1 := hall 1 _ rfl
 have e2 := hall 2 _ rfl
 have e3 := hall 3 _ rfl
 have hxl : xs.length = 4 := hxl
 match xs, hxl, cs, hl with
 | [y0, y1, y2, y3], _, [c0, c1, c2, c3], _ =>
  have hd := congrArg Prod.fst hd
  simp only [List.map_cons, List.map_nil, DataW.agg.injEq, List.cons.injEq, and_true] at hd
  obtain ⟨d0, d1, d2, d3⟩ := hd
  obtain ⟨z0, g0, f0, _⟩ := DataW.trod_string (cs := [c0]) Tryz.underlying9 (by simpa [OS] using e0)
  obtain ⟨z1, g1, f1⟩ := DataW.trod_bool (cs := [c1]) Tryz.underlying4 (by simpa [UY] using e1)
  obtain ⟨z2, g2, f2, _⟩ := DataW.trod_int (cs := [c2]) Tryz.underlying156 (by simpa [BL] using e2)
  obtain ⟨z3, g3, f3, _⟩ := DataW.trod_int (cs := [c3]) Tryz.underlying156 (by simpa [BL] using e3)
  rw [f0] at d0
  rw [f1] at d1
  rw [f2] at d2
  rw [f3] at d3
  cases d1
  cases d2
  cases d3
  simp only [DataW.lit.injEq, Lit.string.injEq] at d0
  have d0 : s = z0 := by
   rcases s with ⟨⟨l⟩⟩
   rcases z0 with ⟨⟨l'⟩⟩
   simp only at d0
   rw [d0]
  subst d0
  simp only [List.cons.injEq, and_true] at g0 g1 g2 g3
  rw [g0, g1, g2, g3]
theorem CN : (Rows.laid_loupe_code_shapes : DataW Unit) = .agg (Sw.map fun s => .agg [.lit (.string s.1.data.toList), .lit (.bool s.2.1), .lit (.int .i64 s.2.2.1), .lit (.int .i64 s.2.2.2)]) := rfl
theorem Md {W : World} (h : Lib.VarReads Tryz.prog W "loupe/code.shapes" Rows.laid_loupe_code_shapes) : dF W (Out []) := by
 obtain ⟨g, t, cs, fuel, p, h1, h2, h3, h4⟩ := h
 obtain rfl := Option.some.inj (Dx.symm.trans h1)
 obtain rfl := Option.some.inj (UZ.symm.trans h2)
 rw [CN] at h4
 refine ⟨by simp [Out], fun n hn => ?_⟩
 obtain ⟨f', d, q, hd, ht⟩ := Lib.array_elem Tryz.underlying161 h4 n hn
 rw [C4] at ht
 have hl : Sw.length = 21 := rfl
 rw [List.getElem?_map, List.getElem?_eq_getElem (by omega), Option.map_some, Option.some.injEq] at hd
 subst hd
 have hs : lV n = Sw[n]'(by omega) := by
  unfold lV
  rw [List.getD_eq_getElem?_getD, List.getElem?_eq_getElem (by omega)]; rfl
 obtain ⟨g1, g2, g3, g4⟩ := Td (CW ht)
 rw [hs]
 exact ⟨ja Dx h3 _ _ g1, ja Dx h3 _ _ g2, ja Dx h3 _ _ g3, ja Dx h3 _ _ g4⟩
end
end Go.Proofs.YtnemkecffmdlnaaGreatDoor
namespace Go.Proofs.YtnemkecffmdlnaaGreatDoor.codeChecks
section
set_option maxRecDepth 100000
theorem k0 : Rows.codeChecksUptoRow.wf (OpenSpec.ofChange (Rows.OpenSpec.upto Rows.codeChecksSpec).bare) = true := by kernel_rfl
theorem k1 : laidOutB Tryz.prog = true := by kernel_rfl
theorem k2 : mapsRowed Tryz.prog = true := by kernel_rfl
theorem k3 : Tryz.f3.params.all (Tryz.prog.readableRec ·) = true := by kernel_rfl
theorem k4 : namedTie Tryz.prog Rows.codeChecksUptoRow.named (Rows.OpenSpec.upto Rows.codeChecksSpec).bare.vars = true := by kernel_rfl
theorem k5 : (Rows.codeChecksUptoRow.stops == []) = true := by kernel_rfl
theorem k6 : (Tryz.prog.stops == []) = true := by kernel_rfl
theorem k7 : (Rows.codeChecksUptoRow.knobs == []) = true := by kernel_rfl
theorem k8 : (Tryz.prog.stopKnobs == []) = true := by kernel_rfl
theorem k9 : (Rows.codeChecksUptoRow.inPlace == Tryz.prog.inPlace 3) = true := by kernel_rfl
theorem YO : (Rows.codeChecksUptoRow.unfollowed == Tryz.prog.unfollowed 3) = true := by kernel_rfl
theorem YD : (Rows.codeChecksUptoRow.recurses == Tryz.prog.recurses 3) = true := by kernel_rfl
theorem YT : (Rows.codeChecksUptoRow.named == Tryz.prog.varsNamed 3) = true := by kernel_rfl
theorem YU : (Rows.codeChecksUptoRow.maps == (Tryz.f3.params.toList ++ (Rows.OpenSpec.upto Rows.codeChecksSpec).bare.plain.varTypes Tryz.prog).any (Tryz.prog.mapsRec ·)) = true := by kernel_rfl
theorem YA : (Rows.codeChecksUptoRow.ifaces == (Tryz.f3.params.toList ++ (Rows.OpenSpec.upto Rows.codeChecksSpec).bare.plain.varTypes Tryz.prog).any (Tryz.prog.ifacesRec ·)) = true := by kernel_rfl
theorem YS : (Rows.codeChecksUptoRow.mapsOut == Tryz.prog.mapsAmong Tryz.f3.resultTypes.toList) = true := by kernel_rfl
theorem Y2 : (Rows.codeChecksUptoRow.loops == (Tryz.f3.params.toList ++ (Rows.OpenSpec.upto Rows.codeChecksSpec).bare.plain.varTypes Tryz.prog).any (Tryz.prog.loopsFrom ·)) = true := by kernel_rfl
theorem YY : (Rows.codeChecksUptoRow.wideKeys == (Tryz.f3.params.toList ++ (Rows.OpenSpec.upto Rows.codeChecksSpec).bare.plain.varTypes Tryz.prog ++ Tryz.f3.resultTypes.toList).any (Tryz.prog.wideKeysFrom ·)) = true := by kernel_rfl
theorem YL : (Rows.OpenSpec.upto Rows.codeChecksSpec).bare.vars.all (Tryz.prog.varReadable ·) = true := by kernel_rfl
theorem YG : Tryz.f3.resultTypes.all (fun t => Tryz.prog.readableRec t && decide (t < Tryz.prog.types.size)) = true := by kernel_rfl
theorem Yw : (Rows.codeChecksUptoRow.ifacesOut == Tryz.f3.resultTypes.toList.any (Tryz.prog.ifacesRec ·)) = true := by kernel_rfl
theorem YH : (Rows.codeChecksUptoRow.loopsOut == Tryz.f3.resultTypes.toList.any (Tryz.prog.loopsFrom ·)) = true := by kernel_rfl
theorem YI : (Rows.codeChecksUptoRow.plainKeys == Tryz.prog.plainKeys) = true := by kernel_rfl
theorem Y0 : Rows.codeChecksUptoRow.shortTexts.isNone = true := by kernel_rfl
theorem YQ : Tryz.prog.stopsHeard = true := by kernel_rfl
theorem YJ : Tryz.prog.mayEnter = true := by kernel_rfl
theorem YN : (Rows.codeChecksUptoRow.lifted == Tryz.prog.liftsFinal) = true := by kernel_rfl
theorem YF : (Tryz.prog.make == some Rows.codeChecksUptoRow.make) = true := by kernel_rfl
theorem YM : (Rows.codeChecksUptoRow.kinds == (if Rows.codeChecksUptoRow.domain.isEmpty then [] else Tryz.f3.params.toList.map fun t => match Tryz.prog.underlying t with | some (.int k) => some k | _ => none)) = true := by kernel_rfl
theorem YK : (Rows.codeChecksUptoRow.pinned == Rows.codeChecksUptoRow.pinnedBy) = true := by kernel_rfl
theorem YR : (Rows.codeChecksUptoRow.veiled == (Tryz.f3.params.toList ++ (Rows.OpenSpec.upto Rows.codeChecksSpec).bare.plain.varTypes Tryz.prog ++ Tryz.f3.resultTypes.toList).any (Tryz.prog.veiledRec ·)) = true := by kernel_rfl
theorem YX : Rows.codeChecksUptoRow.veiledFits Tryz.prog Tryz.f3.params.toList (Tryz.f3.params.toList ++ (Rows.OpenSpec.upto Rows.codeChecksSpec).bare.plain.varTypes Tryz.prog ++ Tryz.f3.resultTypes.toList) = true := by kernel_rfl
theorem facts : joinedFacts Tryz.prog 3 Tryz.f3 (Rows.OpenSpec.upto Rows.codeChecksSpec).bare Rows.codeChecksUptoRow = true := by
 unfold joinedFacts
 simp only [Bool.and_eq_true]
 exact ⟨⟨⟨⟨⟨⟨⟨⟨⟨⟨⟨⟨⟨⟨⟨⟨⟨⟨⟨⟨⟨⟨⟨⟨⟨⟨⟨⟨⟨⟨⟨k0, k1⟩, k2⟩, k3⟩, k4⟩, k5⟩, k6⟩, k7⟩, k8⟩, k9⟩, YO⟩, YD⟩, YT⟩, YU⟩, YA⟩, YS⟩, Y2⟩, YY⟩, YL⟩, YG⟩, Yw⟩, YH⟩, YI⟩, Y0⟩, YQ⟩, YJ⟩, YN⟩, YF⟩, YM⟩, YK⟩, YR⟩, YX⟩
end
section
open Go.ChangeShapes Go.WideShapes Go.ChangeAt Go.RowKit Go.LE
open Go.ChangeMaps (open_string shut_string)
set_option maxRecDepth 10000
theorem O4 (H : Type) (enc : TypeId × Value -> H) (W : World) (base : Nat) (args : Array Value) (ds gs : List (DataW H)) (before : List MemPlace)
  (hval : ∀ (j : Nat) t v, Tryz.f3.params[j]? = some t -> args[j]? = some v -> Value.okWide Tryz.prog W .any base t v)
  (hW : DataW.Whole enc Tryz.prog Tryz.f3.params.toList Rows.codeChecksSpec.vars false W args.toList ds gs before) (hL : laidMetH Tryz.prog Rows.codeChecksUptoRow.laid W) (hk : Rows.uptoSmall H (ds ++ gs) = true) :
  Calls Tryz.prog 3 args W fun e W' => ∃ v, e = .returned v /\ Rows.codeChecksSpec.post enc Tryz.prog Tryz.f3 false true false false W args v W' := by
 have hW' := hW
 obtain ⟨p, q, hA0, hV, rfl, hfz, hnd⟩ := hW
 have hA : DataW.TrodAll enc Tryz.prog W 0 (fun _ => true) true Tryz.f3.params.toList args.toList ds p := hA0
 rw [Tryz.params3] at hA hval
 obtain ⟨v0, vs0, d0, ds0, p0, q0, hargs, rfl, rfl, h0, r0⟩ := trodAll_cons hA
 obtain ⟨rfl, rfl, rfl⟩ := trodAll_nil r0
 obtain rfl : args = #[v0] := by cases args; simp_all
 obtain ⟨rfl, rfl⟩ := trodVars_none hV
 have hbulk : Rows.uptoBulk d0 <= 1048576 := by
  have h : Rows.uptoBulkAll [d0] <= 1048576 := of_decide_eq_true hk
  simpa only [Rows.uptoBulkAll, Nat.add_zero] using h
 obtain ⟨p, a1, a2, a3, c1, c2, c3, rfl, hp, hz⟩ := Km (hval 0 25 v0 rfl rfl) h0 hbulk
 have hL' : laidMet Tryz.prog Rows.codeChecksUptoRow.laid W := hL
 have g1 := I6 (Lib.laidMet.reads hL' (.tail _ (.tail _ (.head _))))
 have g2 := JU (Lib.laidMet.reads hL' (.tail _ (.tail _ (.tail _ (.head _)))))
 have g3 := Md (Lib.laidMet.reads hL' (.tail _ (.tail _ (.tail _ (.tail _ (.head _))))))
 refine (EU p a1 a2 a3 c1 c2 c3 ⟨hz.l1, hz.l2, hz.l3⟩ W hp g3 g2 g1).mono fun e W' ⟨he, hkp⟩ => ?_
 subst he
 exact ⟨_, rfl, QF WV Wi WN (by kernel_rfl) (tb := 4) rfl Tryz.underlying4 rfl hW' rfl rfl rfl hkp⟩
noncomputable def p6 (os : Os) : World := World.laidAll Tryz.prog os Rows.codeChecksUptoRow.laid
def Ty : Array Value := #[.agg #[.slice none 0 0, .slice none 0 0, .slice none 0 0, .int .i64 0, .int .i64 0]]
theorem Rc (os : Os) : laidMet Tryz.prog Rows.codeChecksUptoRow.laid ((p6 os).forCall (fun _ _ => 0) ⟨#[], Ty, []⟩).memory :=
 laidMet_laidAll _ (by kernel_rfl) (by kernel_rfl)
theorem reads (os : Os) {H : Type} (enc : TypeId × Value -> H) : ∃ places, DataW.whole enc Tryz.prog ((p6 os).forCall (fun _ _ => 0) ⟨#[], Ty, []⟩).memory Tryz.f3.params.toList Rows.codeChecksSpec.vars false Ty.toList 8 = some ([.agg [.nil, .nil, .nil, .lit (.int .i64 0), .lit (.int .i64 0)]], [], places) :=
 ⟨[], by kernel_rfl⟩
set_option maxRecDepth 100000 in
theorem lifted (os : Os) (started : os.Started) (H : Type) (enc : TypeId × Value -> H) (F : Stop.Interp) :
  ReturnsInHanded {} Tryz.checked os 3 .any ((Rows.OpenSpec.upto Rows.codeChecksSpec).preRow enc Tryz.prog Tryz.f3 Rows.codeChecksUptoRow.domain false Rows.codeChecksUptoRow.laid) (((Rows.OpenSpec.upto Rows.codeChecksSpec).at F).post enc Tryz.prog Tryz.f3 false true false false) := by
 obtain ⟨places, hx⟩ := reads os enc
 refine returnsInHanded_of_row (C := Tryz.checked) (s := Rows.OpenSpec.upto Rows.codeChecksSpec) X4 started (by kernel_rfl) Tryz.func3
  (witness_row_at (enc := enc) (C := Tryz.checked) false (p6 os) Ty (World.laidAll_os _ _ _) (by kernel_rfl) (by kernel_rfl) (by kernel_rfl)
   (OpenSpec.preRow_of_cond 8 hx (by kernel_rfl) (fun k hk => by cases hk; kernel_rfl) (by kernel_rfl) (Rc os))) ?_
 intro W base args ds gs before hval hW _ hcond _ hL _ _
 exact O4 H enc W base args ds gs before hval hW hL (hcond _ rfl)
theorem said : Rows.CodeChecksUptoSaid :=
 OpenClaim.holds_of_cond 3 Tryz.f3 rfl rfl rfl rfl rfl rfl rfl ⟨rfl, rfl, rfl, rfl, rfl⟩ rfl rfl rfl rfl rfl (by kernel_rfl) Tryz.func3 facts
  (of_decide_eq_true (by kernel_rfl)) (by unfold Func.isWrapper; first | (rw [if_pos (by decide +kernel)]; kernel_rfl) | (rw [if_neg (by decide +kernel)]; exact ⟨rfl, rfl⟩))
  (fun os started H enc _ F => by rw [OpenClaim.pre_eq_preRow]; exact lifted os started H enc F)
theorem plain (f : FuncId) (fn : Func) (hf : Tryz.pinned.checked.prog.funcNamed "loupe/loupelaw20.CodeChecks" = some f) (hfn : Tryz.pinned.checked.prog.funcs[f]? = some fn) :
  true = Tryz.pinned.checked.prog.looks [] /\ ∀ (j : Nat) t, fn.params[j]? = some t -> Tryz.pinned.checked.prog.wantsStandIn t = false := by
 obtain rfl : f = 3 := Option.some.inj ((show Tryz.prog.funcNamed "loupe/loupelaw20.CodeChecks" = some 3 by kernel_rfl).symm.trans hf) |>.symm
 obtain rfl : fn = Tryz.f3 := (Option.some.inj (Tryz.func3.symm.trans hfn)).symm
 refine ⟨by kernel_rfl, fun j t ht => ?_⟩
 rw [Tryz.params3] at ht
 obtain rfl : t = 25 := by simpa using Array.mem_of_getElem? ht
 exact (show Tryz.prog.wantsStandIn 25 = false by kernel_rfl)
theorem proved : Rows.CodeChecksUptoCardSaid :=
 Claim7.holds_tied_plain_at .later [] _ _ _ _ said (fun _ h => by cases h) (by kernel_rfl) (fun _ h => by cases h) codeChecksUpto_row_tie rfl ⟨rfl, rfl⟩ (by kernel_rfl) rfl plain (by kernel_rfl)
end
end Go.Proofs.YtnemkecffmdlnaaGreatDoor.codeChecks
