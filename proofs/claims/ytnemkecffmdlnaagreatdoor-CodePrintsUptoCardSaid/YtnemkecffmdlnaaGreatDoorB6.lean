/-
 CodePrintsUptoCardSaid: CodePrints returns true for every tape whose bulk is at most 1048576, and leaves it as it was; the listed tables are tied to the program's text.
-/
import Derived.Test.YtnemkecffmdlnaaGreatDoorB5
import Derived.Lib.AppendIntMem
import Derived.Shelf.Strings.Builder1
import Derived.Shelf.RegionOpenPlain
import Derived.Test.YtnemkecffmdlnaaGreatDoorCards
import Derived.Test.YtnemkecffmdlnaaGreatDoorTie
import Derived.WalkKit
import Derived.ProofKit
import Derived.OpenShut
import Derived.Deep.DeepHandedRow
import Derived.Lib.LaidTab
import Derived.Lib.LaidU8
import Derived.Lay
import Derived.Test.YtnemkecffmdlnaaGreatDoorRows
import Derived.JoinedCond
set_option linter.unusedSimpArgs false
set_option linter.unusedVariables false
set_option linter.defProp false
namespace Go.Proofs.YtnemkecffmdlnaaGreatDoor
section
open Go.RowKit Go.LE
set_option maxRecDepth 10000
theorem ly (s : ByteArray) : jD ((byteCells s).map SV.v) = some (s.data.toList.map fun c => (c.toNat : Int)) := by
 have h : (byteCells s).map SV.v = (s.data.toList.map fun c => (c.toNat : Int)).map fun n => SV.v (.int .u8 n) := by simp [byteCells]
 rw [h, nc]
theorem oT (s : ByteArray) : eX (s.data.toList.map fun c => (c.toNat : Int)) = s := by
 rcases s with ⟨⟨l⟩⟩
 unfold eX
 rw [List.map_map]
 have h : (fun n : Int => UInt8.ofNat n.toNat) ∘ (fun c : UInt8 => (c.toNat : Int)) = id := by
  funext c
  show UInt8.ofNat ((c.toNat : Int).toNat) = c
  rw [Int.toNat_natCast, UInt8.ofNat_toNat]
 rw [h, List.map_id]
theorem qJ (s : ByteArray) : ((byteCells s).map SV.v).all cu = true := by
 rw [List.all_eq_true]
 intro x hx
 obtain ⟨v, hv, rfl⟩ := List.mem_map.1 hx
 obtain ⟨c, _, rfl⟩ := List.mem_map.1 hv
 rfl
theorem kx (s : ByteArray) (l : List Int) (h : ∀ c ∈ l, 0 <= c /\ c < 256) : (byteCells s).map SV.v ++ l.map (fun c => SV.v (.int .u8 c)) = (byteCells (s ++ eX l)).map SV.v := by
 unfold byteCells eX
 rw [ByteArray.data_append, Array.toList_append, List.map_append, List.map_append]
 congr 1
 simp only [List.map_map]
 refine List.map_congr_left fun c hc => ?_
 obtain ⟨h0, h1⟩ := h c hc
 simp only [Function.comp, UInt8.toNat_ofNat']
 rw [Nat.mod_eq_of_lt (by omega)]
 congr 2
 omega
theorem lu (s t : ByteArray) : (byteCells s).map SV.v ++ (byteCells t).map SV.v = (byteCells (s ++ t)).map SV.v := by
 unfold byteCells
 rw [ByteArray.data_append, Array.toList_append, List.map_append, List.map_append]
theorem Km : ∀ b : Fin 256, (0 <= ((b.val : Nat) : Int).fdiv 16 /\ ((b.val : Nat) : Int).fdiv 16 < 16) /\ (0 <= bX .and .u8 ((b.val : Nat) : Int) 15 /\ bX .and .u8 ((b.val : Nat) : Int) 15 < 16) /\
  ((b.val : Nat) : Int).fdiv 16 = ((b.val : Nat) : Int) / 16 /\ bX .and .u8 ((b.val : Nat) : Int) 15 = ((b.val : Nat) : Int) % 16 := by decide +kernel
theorem oS (s : ByteArray) : (s.data.toList.map fun c => (c.toNat : Int)).length = s.size := by rw [List.length_map]; rfl
theorem bN (l : List Int) : (eX l).size = l.length := by simp [eX, ByteArray.size]
def mg : ByteArray := ⟨#[48, 49, 50, 51, 52, 53, 54, 55, 56, 57, 97, 98, 99, 100, 101, 102]⟩
def fV (c : Int) : List Int :=
 if c = 34 \/ c = 92 then [92, c] else if 32 <= c /\ c <= 126 then [c] else if c = 10 then [92, 110] else if c = 13 then [92, 114] else if c = 9 then [92, 116] else [92, 120, bt mg (c / 16), bt mg (c % 16)]
def cO (s : ByteArray) : Nat -> ByteArray
 | 0 => eX [34]
 | k + 1 => cO s k ++ eX (fV (bt s k))
def np (s : ByteArray) : ByteArray := cO s s.size ++ eX [34]
theorem PH (c : Int) : (fV c).length <= 4 := by
 unfold fV
 repeat' split
 all_goals simp
theorem jf (s : ByteArray) : ∀ k, (cO s k).size <= 1 + 4 * k
 | 0 => by show (eX [34]).size <= _; rw [bN]; simp
 | k + 1 => by
  show (cO s k ++ eX (fV (bt s k))).size <= _
  rw [ByteArray.size_append, bN]
  have := jf s k
  have := PH (bt s k)
  omega
theorem qP (s : ByteArray) : (np s).size <= 2 + 4 * s.size := by
 show (cO s s.size ++ eX [34]).size <= _
 rw [ByteArray.size_append, bN]
 have := jf s s.size
 simp only [List.length_cons, List.length_nil]
 omega
theorem xK (s : ByteArray) (i : Int) : 0 <= bt s i /\ bt s i < 256 := by
 unfold bt
 have := (s.data[i.toNat]?.getD 0).toNat_lt
 omega
def eR := (aq @List.replicate_succ.{0} @List.replicate_zero.{0} @av @af HS HB E9 (aq XN XB X8 XQ jb cW cX (aq c8 cT cZ c9 cR cV gz (aq gv gi gk gn ez ey eB (aq eC eA ew yn yy xV xN (yR @aN @au @aA @az @ly @oT @qJ))))))
set_option maxHeartbeats 2000000 in
theorem Kz (s : ByteArray) (hs : s.size <= 1048576) (w : World) : Calls Tryz.prog 38 #[.string s] w fun e w' => e = .returned (.string (np s)) /\ ai w [] w' := by
 refine aj (nt := 66) [.tmp 2] Tryz.func38 rfl rfl rfl ?_
 refine vR Γ0 eR ?_
 refine vR Γ0 eR ?_
 refine Wp.seq ?_
 refine vR Γ0 eR ?_
 refine Wp.block ?_
 refine Wp.loop (fun k : Nat => ⟨20, bQ [(0, .is (.v (.string s))), (3, .is (.hd 8)), (8, .is (.v (.int .i64 s.size))), (9, .is (.v (.int .i64 (k : Nat))))], bY [(8, .row 5 1 (cO s k).size ((byteCells (cO s k)).map .v))]⟩) (fun k => k <= s.size) (fun k => s.size - k) 0 ?_ (Nat.zero_le _) ?_
 ·exact wM (fun k => .key k) eR
 rintro k hk
 refine vR Γ0 eR ?_
 refine Wp.seq ?_
 refine wC eR (fun hc => ?_) (fun hc => ?_)
 ·have hlt : k < s.size := by
   simp at hc
   omega
  obtain ⟨c0, c1⟩ := xK s k
  have hq := jf s k
  have ha := fun l hl => kx (cO s k) l hl
  have hb : cO s (k + 1) = cO s k ++ eX (fV (bt s k)) := rfl
  have wk : IntKind.i64.wrap ((k : Int) + 1) = ((k + 1 : Nat) : Int) := by rw [aa (by omega) (by omega)]; omega
  refine wK ?_
  refine bp ⟨20, bQ [(0, .is (.v (.string s))), (8, .is (.v (.int .i64 s.size))), (9, .is (.v (.int .i64 (k : Nat)))), (3, .is (.hd 8))], bY [(8, .row 5 1 (cO s (k + 1)).size ((byteCells (cO s (k + 1))).map .v))]⟩ ?_ ?_
  ·refine Wp.block ?_
   refine vR Γ0 eR ?_
   refine wR Γ0 eR ?_ ?_
   ·first | omega | exact ⟨by omega, by omega⟩
   refine Wp.block ?_
   refine vR Γ0 eR ?_
   refine wC eR (fun hc => ?_) (fun hc => ?_)
   ·have hv : bt s k = 34 \/ bt s k = 92 := by simpa using hc
    have e0 : fV (bt s k) = [92, bt s k] := by rw [fV, if_pos hv]
    rw [e0] at hb
    have e1 := ha _ (fun c (hc : c ∈ [92, bt s k]) => by simp at hc; omega)
    rw [<- hb] at e1
    simp only [List.map_cons, List.map_nil] at e1
    have e2 : (cO s (k + 1)).size = (cO s k).size + 2 := by rw [hb, ByteArray.size_append, bN]; rfl
    refine wr Γ0 eR ?_ ?_
    ·exact by unfold maxLen; omega
    exact wM (fun k => if k = 8 then .key 296 else .key k) (de eR e1 e2)
   have n0 : ¬ (bt s k = 34 \/ bt s k = 92) := by simpa using hc
   refine vR Γ0 eR ?_
   refine wC eR (fun hc => ?_) (fun hc => ?_)
   ·have hv : 32 <= bt s k /\ bt s k <= 126 := by simpa using hc
    have e0 : fV (bt s k) = [bt s k] := by rw [fV, if_neg n0, if_pos hv]
    rw [e0] at hb
    have e1 := ha _ (fun c (hc : c ∈ [bt s k]) => by simp at hc; omega)
    rw [<- hb] at e1
    simp only [List.map_cons, List.map_nil] at e1
    have e2 : (cO s (k + 1)).size = (cO s k).size + 1 := by rw [hb, ByteArray.size_append, bN]; rfl
    refine wr Γ0 eR ?_ ?_
    ·exact by unfold maxLen; omega
    exact wM (fun k => if k = 8 then .key 352 else .key k) (de eR e1 e2)
   have n1 : ¬ (32 <= bt s k /\ bt s k <= 126) := by simpa using hc
   refine vR Γ0 eR ?_
   refine wC eR (fun hc => ?_) (fun hc => ?_)
   ·have hv : bt s k = 10 := by simpa using hc
    have e0 : fV (bt s k) = [92, 110] := by rw [fV, if_neg n0, if_neg n1, if_pos hv]
    rw [e0] at hb
    have e1 := lu (cO s k) (eX [92, 110])
    rw [<- hb] at e1
    have e2 : (cO s (k + 1)).size = (cO s k).size + 2 := by rw [hb, ByteArray.size_append, bN]; rfl
    have e3 : (⟨#[92, 110]⟩ : ByteArray) = eX [92, 110] := rfl
    have e4 : (eX [92, 110]).size = 2 := rfl
    refine wr Γ0 (de eR e3 e4) ?_ ?_
    ·unfold maxLen; omega
    exact wM (fun k => if k = 8 then .key 360 else .key k) (de eR e1 e2)
   have n2 : ¬ bt s k = 10 := by simpa using hc
   refine vR Γ0 eR ?_
   refine wC eR (fun hc => ?_) (fun hc => ?_)
   ·have hv : bt s k = 13 := by simpa using hc
    have e0 : fV (bt s k) = [92, 114] := by rw [fV, if_neg n0, if_neg n1, if_neg n2, if_pos hv]
    rw [e0] at hb
    have e1 := lu (cO s k) (eX [92, 114])
    rw [<- hb] at e1
    have e2 : (cO s (k + 1)).size = (cO s k).size + 2 := by rw [hb, ByteArray.size_append, bN]; rfl
    have e3 : (⟨#[92, 114]⟩ : ByteArray) = eX [92, 114] := rfl
    have e4 : (eX [92, 114]).size = 2 := rfl
    refine wr Γ0 (de eR e3 e4) ?_ ?_
    ·unfold maxLen; omega
    exact wM (fun k => if k = 8 then .key 384 else .key k) (de eR e1 e2)
   have n3 : ¬ bt s k = 13 := by simpa using hc
   refine vR Γ0 eR ?_
   refine wC eR (fun hc => ?_) (fun hc => ?_)
   ·have hv : bt s k = 9 := by simpa using hc
    have e0 : fV (bt s k) = [92, 116] := by rw [fV, if_neg n0, if_neg n1, if_neg n2, if_neg n3, if_pos hv]
    rw [e0] at hb
    have e1 := lu (cO s k) (eX [92, 116])
    rw [<- hb] at e1
    have e2 : (cO s (k + 1)).size = (cO s k).size + 2 := by rw [hb, ByteArray.size_append, bN]; rfl
    have e3 : (⟨#[92, 116]⟩ : ByteArray) = eX [92, 116] := rfl
    have e4 : (eX [92, 116]).size = 2 := rfl
    refine wr Γ0 (de eR e3 e4) ?_ ?_
    ·unfold maxLen; omega
    exact wM (fun k => if k = 8 then .key 408 else .key k) (de eR e1 e2)
   have n4 : ¬ bt s k = 9 := by simpa using hc
   have e0 : fV (bt s k) = [92, 120, bt mg (bt s k / 16), bt mg (bt s k % 16)] := by rw [fV, if_neg n0, if_neg n1, if_neg n2, if_neg n3, if_neg n4]
   obtain ⟨x, hx⟩ := Int.eq_ofNat_of_zero_le c0
   have x1 : x < 256 := by omega
   obtain ⟨f1, f2, f3, f4⟩ := Km ⟨x, x1⟩
   simp only at f1 f2 f3 f4
   rw [hx] at e0
   rw [hx, e0] at hb
   have b1 := xK mg ((x : Int) / 16)
   have b2 := xK mg ((x : Int) % 16)
   have e1 := ha _ (fun c (hc : c ∈ [92, 120, bt mg ((x : Int) / 16), bt mg ((x : Int) % 16)]) => by simp at hc; omega)
   rw [<- hb] at e1
   simp only [List.map_cons, List.map_nil] at e1
   have e2 : (cO s (k + 1)).size = (cO s k).size + 4 := by rw [hb, ByteArray.size_append, bN]; rfl
   have hxe : (⟨#[48, 49, 50, 51, 52, 53, 54, 55, 56, 57, 97, 98, 99, 100, 101, 102]⟩ : ByteArray) = mg := rfl
   refine sx Γ0 (oc eR hx f3 f4 hxe) ?_ ?_
   ·rw [f3] at f1
    rw [f4] at f2
    exact ⟨f1, f2, by unfold maxLen; omega, by omega⟩
   exact wM (fun k => if k = 8 then .key 464 else .key k) (yR eR hx f3 f4 hxe e1 e2)
  refine wr Γ0 (ab eR wk) ?_ ?_
  ·first | trivial | omega
  refine ⟨k + 1, hlt, by omega, ?_⟩
  exact wM (fun k => .key k) eR
 ·have hk' : k = s.size := by
   simp at hc
   omega
  subst hk'
  have ha := kx (cO s s.size) [34] (fun c hc => by simp at hc; omega)
  simp only [List.map_cons, List.map_nil] at ha
  have hq := jf s s.size
  have e2 : (np s).size = (cO s s.size).size + 1 := by rw [np, ByteArray.size_append, bN]; rfl
  refine wE ?_
  refine wR Γ0 (ab eR ha) ?_ ?_
  ·exact ⟨⟨by unfold maxLen; omega, by omega⟩, by rw [oS, <- np, e2]⟩
  refine wZ eR ?_
  exact fun E => rfl
end
section
open Go.RowKit Go.LE
set_option maxRecDepth 10000
def ig (n : Int) : ByteArray := ⟨(Lib.itoa n).toArray⟩
theorem Cq (n : Nat) : ig n = ⟨(Lib.decDigits n).toArray⟩ := by
 unfold ig Lib.itoa
 rw [if_neg (by omega), Int.toNat_natCast]
theorem tA : ∀ (k u : Nat), u < 10 ^ (k + 1) -> Lib.nDigits u <= k + 1
 | 0, u, h => by rw [Lib.nDigits_small (by omega)]; omega
 | k + 1, u, h => by
  by_cases h1 : u < 10
  ·rw [Lib.nDigits_small h1]; omega
  ·rw [Lib.nDigits_big h1]
   have := tA k (u / 10) (by rw [Nat.pow_succ] at h; omega)
   omega
theorem bT {n : Int} (h0 : 0 <= n) (h1 : n <= 9223372036854775807) : (ig n).size <= 19 := by
 obtain ⟨m, rfl⟩ := Int.eq_ofNat_of_zero_le h0
 rw [Cq]
 show (Lib.decDigits m).length <= 19
 rw [Lib.decDigits_length]
 exact tA 18 m (by omega)
def fh (W : World) (S : Nat -> Prop) : Prop := S 3 /\ Lib.TabIs Tryz.prog W "internal/strconv.uint64pow10" .u64 Lib.pow10Tab
theorem Rb : Tryz.prog.globalNamed "internal/strconv.uint64pow10" = some 3 := by kernel_rfl
theorem fh.mono {W W' : World} {S S' : Nat -> Prop} (h : fh W S) (hs : cv W S W' S') : fh W' S' := by
 obtain ⟨h0, h1⟩ := h
 unfold Lib.TabIs World.var? at h1
 rw [Rb, Option.bind_some] at h1
 have hlt : 3 < W.heap.size := by
  refine Decidable.byContradiction fun hn => ?_
  rw [Array.getElem?_eq_none (by omega)] at h1
  cases h1
 obtain ⟨g1, g2⟩ := hs 3 hlt h0
 refine ⟨g2, ?_⟩
 unfold Lib.TabIs World.var?
 rw [Rb, Option.bind_some, g1]
 exact h1
theorem fh.fM {W w : World} {bs fp : List Nat} (h : fh W (Out bs)) (hk : ai W bs w) (hm : ∀ b ∈ fp, W.heap.size <= b \/ b ∈ bs) : fh w (Out fp) :=
 h.mono fun b hb hs => ⟨hk.block b hb hs, fun hb' => (hm b hb').elim (fun g => absurd g (Nat.not_le.2 hb)) hs⟩
theorem Ta {w : World} {S : Nat -> Prop} (h : fh w S) : fh w (Out []) := h.mono fun b _ _ => ⟨rfl, by simp [Out]⟩
theorem Pu (n : Int) (h0 : 0 <= n) (h1 : n <= 9223372036854775807) (w : World) (ht : fh w (Out [])) : Calls Tryz.prog 39 #[.int .i64 n] w fun e w' => e = .returned (.string (ig n)) /\ LE.ai w [] w' := by
 refine (Any.strconv_Itoa Tryz.Sb n (by omega) h1 w ht.2).mono ?_
 rintro e w' ⟨rfl, k, os, rfl⟩
 exact ⟨rfl, LE.ai.PT (Lib.below_grow _ w (Nat.le_refl _) k os)⟩
def yJ : aU Tryz.prog 39 where
 pre := fun W bs => fun | [.val (.int .i64 n)] => (0 <= n /\ n <= 9223372036854775807) /\ fh W (Out bs) | _ => False
 res := fun W => fun | [.val (.int .i64 n)] => .string (ig n) | _ => undef
 enters := Tryz.call39
 ok := by
  intro W w bs us as_ hk hu hp
  split at hp
  ·rename_i n
   match us, hu with
   | [u0], hu =>
    obtain ⟨rfl, _⟩ := hu
    exact Pu n hp.1.1 hp.1.2 w (hp.2.fM hk (by simp))
  ·exact hp.elim
theorem qL (W : World) (n : Int) : yJ.res W [.val (.int .i64 n)] = .string (ig n) := rfl
theorem qQ (W : World) (bs : List Nat) (n : Int) : yJ.pre W bs [.val (.int .i64 n)] = ((0 <= n /\ n <= 9223372036854775807) /\ fh W (Out bs)) := rfl
theorem QH {u : Nat} (h : u <= 9223372036854775807) : ((u : Nat) : Int).tmod 10 = ((u % 10 : Nat) : Int) /\ IntKind.u64.wrap (((u : Nat) : Int).tdiv 10) = ((u / 10 : Nat) : Int) /\
  IntKind.u64.wrap (48 + ((u % 10 : Nat) : Int)) = ((48 + u % 10 : Nat) : Int) /\ IntKind.u8.wrap ((48 + u % 10 : Nat) : Int) = ((48 + u % 10 : Nat) : Int) := by
 refine ⟨(Int.ofNat_tmod u 10).symm, ?_, ?_, ?_⟩
 ·rw [show ((u : Nat) : Int).tdiv 10 = ((u / 10 : Nat) : Int) from (Int.ofNat_tdiv u 10).symm]
  exact oM _ (by omega)
 ·exact oM (48 + u % 10) (by omega)
 ·exact fH (by omega) (by omega)
theorem Oa {u : Nat} (h : u < 10) : Lib.decDigits u = [UInt8.ofNat (48 + u % 10)] := by rw [Lib.decDigits_one h, Nat.mod_eq_of_lt h]
theorem Ec {u : Nat} (h : ¬ u < 10) : Lib.decDigits u = Lib.decDigits (u / 10) ++ [UInt8.ofNat (48 + u % 10)] := by
 rw [Lib.decDigits, dif_neg h]
theorem Dj (n : Nat) : eX [((n : Nat) : Int)] = ⟨#[UInt8.ofNat n]⟩ := by simp [eX]
theorem TS (l : List UInt8) (c : UInt8) (o : ByteArray) : (⟨(l ++ [c]).toArray⟩ : ByteArray) ++ o = ⟨l.toArray⟩ ++ ((⟨#[c]⟩ : ByteArray) ++ o) := by
 apply ByteArray.ext
 simp [ByteArray.data_append]
def pQ := (aq @List.replicate_succ.{0} @List.replicate_zero.{0} @av @af HS HB E9 (aq jb cW cX c8 cT cZ c9 (aq cR cV gz gv gi gk gn (aq ez ey eB eC eA ew yn (aq yy xV xN o6 pB p6 qn (lX @aN @au @aA @az @qL @qQ))))))
set_option maxHeartbeats 1000000 in
theorem ND (n : Nat) (hn : (n : Int) <= 9223372036854775807) (w : World) : Calls Tryz.prog 62 #[.int .i64 (n : Nat)] w fun e w' => e = .returned (.string (ig (n : Nat))) /\ LE.ai w [] w' := by
 refine aj (nt := 28) [.tmp 2] Tryz.func62 rfl rfl rfl ?_
 have hw := oM n (by omega)
 refine vR Γ0 pQ ?_
 refine vR Γ0 (ab pQ hw) ?_
 refine vR Γ0 pQ ?_
 refine Wp.seq ?_
 refine vR Γ0 pQ ?_
 refine wC pQ (fun hc => ?_) (fun hc => ?_)
 ·exact absurd hc (by simp)
 refine wK ?_
 refine vR Γ0 pQ ?_
 refine Wp.block ?_
 refine Wp.loop (fun p : Nat × ByteArray => ⟨20, bQ [(3, .is (.v (.int .u64 (p.1 : Nat)))), (4, .is (.v (.string ⟨#[]⟩))), (5, .is (.v (.string p.2)))], bY []⟩) (fun p => p.1 <= n /\ p.2.size <= 19 /\ ig n = (⟨(Lib.decDigits p.1).toArray⟩ : ByteArray) ++ p.2) (fun p => p.1) (n, ⟨#[]⟩) ?_ ⟨Nat.le_refl _, by simp [ByteArray.size], by rw [Cq]; apply ByteArray.ext; simp⟩ ?_
 ·exact wM (fun k => .key k) pQ
 rintro ⟨u, o⟩ ⟨h1, h2, h3⟩
 dsimp only at h1 h2 h3 ⊢
 obtain ⟨f1, f2, f3, f4⟩ := QH (u := u) (by omega)
 refine Wp.block ?_
 refine wR Γ0 (eH pQ f1 f3 f4) ?_ ?_
 ·exact ⟨by decide, by rw [bN]; simp only [List.length_cons, List.length_nil]; omega⟩
 refine vR Γ0 (ab pQ f2) ?_
 refine vR Γ0 pQ ?_
 refine wC pQ (fun hc => ?_) (fun hc => ?_)
 ·have hu : u < 10 := by simp at hc; omega
  rw [Oa hu] at h3
  have h4 : eX [((48 + u % 10 : Nat) : Int)] ++ o = ig n := by rw [h3, Dj]
  have e0 : (⟨#[]⟩ : ByteArray) ++ ig n = ig n := by apply ByteArray.ext; simp
  refine wR Γ0 (de pQ h4 e0) ?_ ?_
  ·have := bT (n := n) (by omega) hn
   have e1 : (⟨#[]⟩ : ByteArray).size = 0 := rfl
   rw [e1]
   omega
  refine wZ pQ ?_
  exact fun E => rfl
 ·have hu : ¬ u < 10 := by simp at hc; omega
  refine wK ?_
  refine ⟨(u / 10, eX [((48 + u % 10 : Nat) : Int)] ++ o), ⟨by dsimp only; omega, ?_, ?_⟩, by dsimp only; omega, ?_⟩
  ·have h4 := congrArg ByteArray.size h3
   have h5 := bT (n := n) (by omega) hn
   rw [h4, Ec hu, ByteArray.size_append] at h5
   have h6 : (⟨(Lib.decDigits (u / 10) ++ [UInt8.ofNat (48 + u % 10)]).toArray⟩ : ByteArray).size = (Lib.decDigits (u / 10)).length + 1 := by
    show (Lib.decDigits (u / 10) ++ [UInt8.ofNat (48 + u % 10)]).length = _
    rw [List.length_append]; rfl
   rw [h6] at h5
   rw [ByteArray.size_append, bN]
   simp only [List.length_cons, List.length_nil]
   omega
  ·rw [h3, Ec hu, TS, Dj]
  ·exact wM (fun k => .key k) pQ
def xS : aU Tryz.prog 62 where
 pre := fun W bs => fun | [.val (.int .i64 n)] => (0 <= n /\ n <= 9223372036854775807) | _ => False
 res := fun W => fun | [.val (.int .i64 n)] => .string (ig n) | _ => undef
 enters := Tryz.call62
 ok := by
  intro W w bs us as_ hk hu hp
  split at hp
  ·rename_i n
   match us, hu with
   | [u0], hu =>
    obtain ⟨rfl, _⟩ := hu
    obtain ⟨m, rfl⟩ := Int.eq_ofNat_of_zero_le hp.1; exact ND m hp.2 w
  ·exact hp.elim
theorem x7 (W : World) (n : Int) : xS.res W [.val (.int .i64 n)] = .string (ig n) := rfl
theorem xl (W : World) (bs : List Nat) (n : Int) : xS.pre W bs [.val (.int .i64 n)] = ((0 <= n /\ n <= 9223372036854775807)) := rfl
end
section
open Go.RowKit Go.LE
set_option maxRecDepth 10000
structure mY (op k a b : Int) : Prop where
 op0 : 0 <= op
 op1 : op < 21
 kk : k = 0 \/ ((l6 op.toNat).2.1 = true /\ k = 1)
 a0 : 0 <= a
 a1 : a <= 9223372036854775807
 b0 : 0 <= b
 b1 : b <= 9223372036854775807
theorem Ni {n1 n2 n3 : Nat} {u n : Int} (h : pM n1 n2 n3 u n = true) (h1 : n1 <= 140737488351232) (h2 : n2 <= 140737488351232) (h3 : n3 <= 140737488351232) : 0 <= n /\ n <= 9223372036854775807 := by
 unfold pM at h
 repeat' split at h
 all_goals first
  | (simp [lO] at h; omega)
  | (simp at h; omega)
theorem mY.of {n1 n2 n3 : Nat} {op k a b : Int} (h : lC n1 n2 n3 op k a b = true) (h1 : n1 <= 140737488351232) (h2 : n2 <= 140737488351232) (h3 : n3 <= 140737488351232) : mY op k a b := by
 unfold lC at h
 simp only [Bool.and_eq_true, Bool.or_eq_true, decide_eq_true_eq] at h
 obtain ⟨⟨⟨o0, o1⟩, hk⟩, ha, hb⟩ := h
 have ha := Ni ha h1 h2 h3
 have hb := Ni hb h1 h2 h3
 exact ⟨o0, o1, hk, ha.1, ha.2, hb.1, hb.2⟩
def z8 (k : Int) : ByteArray := if k = 0 then ⟨#[115]⟩ else ⟨#[118]⟩
def wv (n : Int) (wd : ByteArray) : ByteArray := ig n ++ ⟨#[32]⟩ ++ wd
def R5 (st : Bool) (k : Int) (o : ByteArray) : ByteArray := bif st then o ++ (⟨#[32]⟩ ++ z8 k) else o
def Ee (u a : Int) (o : ByteArray) : ByteArray := if u = 0 then o else o ++ (⟨#[32]⟩ ++ ig a)
def jo (n op k a b : Int) : ByteArray := Ee (l6 op.toNat).2.2.2 b (Ee (l6 op.toNat).2.2.1 a (R5 (l6 op.toNat).2.1 k (wv n (l6 op.toNat).1)))
theorem uC {n : Int} {wd : ByteArray} (h0 : 0 <= n) (h1 : n <= 9223372036854775807) (hw : wd.size <= 5) : (wv n wd).size <= 25 := by
 have := bT h0 h1
 have e : (⟨#[32]⟩ : ByteArray).size = 1 := rfl
 unfold wv
 rw [ByteArray.size_append, ByteArray.size_append, e]
 omega
theorem DR (st : Bool) (k : Int) (o : ByteArray) : (R5 st k o).size <= o.size + 2 := by
 have e : (⟨#[32]⟩ : ByteArray).size = 1 := rfl
 have e2 : (z8 k).size = 1 := by unfold z8; split <;> rfl
 cases st
 ·show o.size <= _; omega
 ·show (o ++ (⟨#[32]⟩ ++ z8 k)).size <= _
  rw [ByteArray.size_append, ByteArray.size_append, e, e2]
  omega
theorem tu {u a : Int} {o : ByteArray} (h0 : 0 <= a) (h1 : a <= 9223372036854775807) : (Ee u a o).size <= o.size + 20 := by
 have := bT h0 h1
 have e : (⟨#[32]⟩ : ByteArray).size = 1 := rfl
 unfold Ee
 split
 ·omega
 ·rw [ByteArray.size_append, ByteArray.size_append, e]
  omega
theorem Bz (m : Nat) (hm : m < 21) : (l6 m).1.size <= 5 := by
 have : ∀ b : Fin 21, (l6 b.val).1.size <= 5 := by decide +kernel
 exact this ⟨m, hm⟩
theorem uU {n op k a b : Int} (h0 : 0 <= n) (h1 : n <= 9223372036854775807) (hi : mY op k a b) : (jo n op k a b).size <= 67 := by
 have g1 := uC (wd := (l6 op.toNat).1) h0 h1 (Bz _ (by have := hi.op0; have := hi.op1; omega))
 have g2 := DR (l6 op.toNat).2.1 k (wv n (l6 op.toNat).1)
 have g3 := tu (u := (l6 op.toNat).2.2.1) (o := R5 (l6 op.toNat).2.1 k (wv n (l6 op.toNat).1)) hi.a0 hi.a1
 have g4 := tu (u := (l6 op.toNat).2.2.2) (o := Ee (l6 op.toNat).2.2.1 a (R5 (l6 op.toNat).2.1 k (wv n (l6 op.toNat).1))) hi.b0 hi.b1
 unfold jo
 omega
noncomputable def Γ96 : Env Tryz.prog := ⟨fun | 39 => some yJ.spec | _ => none, fun | _ => none, fun _ _ => none⟩
theorem Gt96c39 : Γ96.sp 39 = some yJ.spec := rfl
def j1 := (aq @List.replicate_succ.{0} @List.replicate_zero.{0} @av @af jV jW jb (aq cW cX c8 cT cZ c9 cR (aq cV ez ey eB eC eA ew (aq Hm G5 HT Hj HX Gy En (aq F2 ua IZ JM JL I4 U0 (aq Ve Vc UP UX U9 Vr Vp (aq Vh UY Vd @aN @au @aA @az (de @qL @qQ Gt96c39))))))))
set_option maxHeartbeats 2000000 in
theorem RM (n op k a b : Int) (h0 : 0 <= n) (h1 : n <= 9223372036854775807) (hi : mY op k a b) (w : World) (hg : dK w (Out [])) (ht : fh w (Out [])) : Calls Tryz.prog 40 #[.int .i64 n, U3 op k a b] w fun e w' => e = .returned (.string (jo n op k a b)) /\ LE.ai w [] w' := by
 obtain ⟨o0, o1, hk, a0, a1, b0, b1⟩ := hi
 obtain ⟨m, rfl⟩ := Int.eq_ofNat_of_zero_le o0
 obtain ⟨g1, g2, g3, g4⟩ := hg.2 m (by omega)
 unfold jo
 rw [Int.toNat_natCast] at hk ⊢
 have hwd := Bz m (by omega)
 have hnn := bT h0 h1
 have hna := bT a0 a1
 have hnb := bT b0 b1
 have z32 : (⟨#[32]⟩ : ByteArray).size = 1 := rfl
 have zsv : ∀ k, (z8 k).size = 1 := fun k => by unfold z8; split <;> rfl
 have z2 : (⟨#[115, 118]⟩ : ByteArray).size = 2 := rfl
 generalize (l6 m).1 = wd at *
 generalize (l6 m).2.1 = st at *
 generalize (l6 m).2.2.1 = u1 at *
 generalize (l6 m).2.2.2 = u2 at *
 refine aj (nt := 47) [.tmp 4] Tryz.func40 rfl rfl rfl ?_
 refine vR Γ96 j1 ?_
 refine wR Γ96 (oc j1 g1 g2 g3 g4) ?_ ?_
 ·omega
 refine l9 Γ96 j1 ?_ ?_
 ·exact ⟨⟨⟨h0, h1⟩, ht⟩, by rw [z32]; omega, by rw [ByteArray.size_append, z32]; omega⟩
 have f1 := uC (wd := wd) h0 h1 hwd
 have f2 := DR st k (wv n wd)
 have f3 := tu (u := u1) (o := R5 st k (wv n wd)) a0 a1
 refine bp ⟨60, bQ [(3, .is (.own 0 0)), (5, .is (.own 48 0)), (6, .is (.v (.string (R5 st k (wv n wd)))))], bY [(0, .cells 50 [.v (.int .i64 m), .v (.int .i64 k), .v (.int .i64 a), .v (.int .i64 b)]), (48, .cells 160 [.v (.string wd), .v (.bool st), .v (.int .i64 u1), .v (.int .i64 u2)])]⟩ ?_ ?_
 ·skip
  refine vR Γ96 j1 ?_
  refine wC j1 (fun hc => ?_) (fun hc => ?_)
  ·rcases hk with rfl | ⟨_, rfl⟩
   ·have e2 : R5 st 0 (wv n wd) = ig n ++ ⟨#[32]⟩ ++ wd ++ (⟨#[32]⟩ ++ z8 0) := by rw [hc]; rfl
    have e3 : (⟨#[115, 118]⟩ : ByteArray).extract 0 1 = z8 0 := by decide +kernel
    have w1 : IntKind.i64.wrap (0 + 1) = 1 := by decide +kernel
    refine wr Γ96 (de j1 w1 e3) ?_ ?_
    ·rw [ByteArray.size_append, ByteArray.size_append, ByteArray.size_append, z2, z32, zsv]; exact ⟨by decide, by omega, by omega⟩
    exact wM (fun k => .key k) (ab j1 e2)
   ·have e2 : R5 st 1 (wv n wd) = ig n ++ ⟨#[32]⟩ ++ wd ++ (⟨#[32]⟩ ++ z8 1) := by rw [hc]; rfl
    have e3 : (⟨#[115, 118]⟩ : ByteArray).extract 1 2 = z8 1 := by decide +kernel
    have w1 : IntKind.i64.wrap (1 + 1) = 2 := by decide +kernel
    refine wr Γ96 (de j1 w1 e3) ?_ ?_
    ·rw [ByteArray.size_append, ByteArray.size_append, ByteArray.size_append, z2, z32, zsv]; exact ⟨by decide, by omega, by omega⟩
    exact wM (fun k => .key k) (ab j1 e2)
  ·have e2 : R5 st k (wv n wd) = ig n ++ ⟨#[32]⟩ ++ wd := by rw [hc]; rfl
   refine wK ?_
   exact wM (fun k => .key k) (ab j1 e2)
 generalize R5 st k (wv n wd) = o2 at *
 refine bp ⟨100, bQ [(3, .is (.own 0 0)), (5, .is (.own 48 0)), (6, .is (.v (.string (Ee u1 a o2))))], bY [(0, .cells 50 [.v (.int .i64 m), .v (.int .i64 k), .v (.int .i64 a), .v (.int .i64 b)]), (48, .cells 160 [.v (.string wd), .v (.bool st), .v (.int .i64 u1), .v (.int .i64 u2)])]⟩ ?_ ?_
 ·skip
  refine vR Γ96 j1 ?_
  refine wC j1 (fun hc => ?_) (fun hc => ?_)
  ·have e2 : Ee u1 a o2 = o2 ++ (⟨#[32]⟩ ++ ig a) := by rw [Ee, if_neg (by simpa using hc)]
   refine wr Γ96 j1 ?_ ?_
   ·exact ⟨⟨⟨a0, a1⟩, ht⟩, by rw [z32]; omega, by rw [ByteArray.size_append, z32]; omega⟩
   exact wM (fun k => .key k) (ab j1 e2)
  ·have e2 : Ee u1 a o2 = o2 := by rw [Ee, if_pos (by simpa using hc)]
   refine wK ?_
   exact wM (fun k => .key k) (ab j1 e2)
 generalize Ee u1 a o2 = o3 at *
 refine bp ⟨140, bQ [(3, .is (.own 0 0)), (5, .is (.own 48 0)), (6, .is (.v (.string (Ee u2 b o3))))], bY [(0, .cells 50 [.v (.int .i64 m), .v (.int .i64 k), .v (.int .i64 a), .v (.int .i64 b)]), (48, .cells 160 [.v (.string wd), .v (.bool st), .v (.int .i64 u1), .v (.int .i64 u2)])]⟩ ?_ ?_
 ·skip
  refine vR Γ96 j1 ?_
  refine wC j1 (fun hc => ?_) (fun hc => ?_)
  ·have e2 : Ee u2 b o3 = o3 ++ (⟨#[32]⟩ ++ ig b) := by rw [Ee, if_neg (by simpa using hc)]
   refine wr Γ96 j1 ?_ ?_
   ·exact ⟨⟨⟨b0, b1⟩, ht⟩, by rw [z32]; omega, by rw [ByteArray.size_append, z32]; omega⟩
   exact wM (fun k => .key k) (ab j1 e2)
  ·have e2 : Ee u2 b o3 = o3 := by rw [Ee, if_pos (by simpa using hc)]
   refine wK ?_
   exact wM (fun k => .key k) (ab j1 e2)
 refine vR Γ96 j1 ?_
 refine wZ j1 ?_
 exact fun E => rfl
end
section
open Go.RowKit
set_option maxRecDepth 10000
theorem VU : liesAt Tryz.prog Tryz.prog.depth 91 (2 / Tryz.prog.cellsOf 91) 0 91 1 = true := by kernel_rfl
theorem Ow : (Tryz.prog.info? 91).map (·.size) = some 2 := by kernel_rfl
theorem XI : (Tryz.prog.info? 5).map (fun i => (i.zero, i.size, i.bytes)) = some (some (.int .u8 0), 1, 1) := by kernel_rfl
set_option maxHeartbeats 1000000 in
theorem uy (b : Nat) (w : World) (h0 : w.cell? ⟨b, 0, none⟩ = some (.pointer (some ⟨b, 0, none⟩))) :
  Calls Tryz.prog 75 #[.pointer (some ⟨b, 0, none⟩)] w fun e w' => e = .returned (.tuple #[]) /\ w' = w := by
 obtain ⟨j, hj, _⟩ := Option.map_eq_some_iff.1 Ow
 go_enter Tryz.func75, Tryz.ntmps75
 go_wp2
 rw [Lib.run_neq_ptr_same w _ Tryz.underlying88 hj]
 go_wp2
 go_end0
 exact ⟨rfl, rfl⟩
set_option maxHeartbeats 1000000 in
theorem sG (b : Nat) (w : World) (h0 : w.cell? ⟨b, 0, none⟩ = some (.pointer none)) (hsh : w.shape? b = some (91, 2)) (hfz : w.frozen? ⟨b, 0, none⟩ = false) :
  Calls Tryz.prog 75 #[.pointer (some ⟨b, 0, none⟩)] w fun e w' => e = .returned (.tuple #[]) /\ w' = w.setCell ⟨b, 0, none⟩ (.pointer (some ⟨b, 0, none⟩)) := by
 obtain ⟨j, hj, hjs⟩ := Option.map_eq_some_iff.1 Ow
 go_enter Tryz.func75, Tryz.ntmps75
 go_wp2
 rw [Lib.run_to_unsafe w ⟨b, 0, none⟩ Tryz.underlying88 Tryz.underlying257 hj (by rw [hjs]; decide) hsh (Nat.zero_lt_succ 1)]
 simp only [Result.andThen]
 rw [Oper.upon_value]
 go_wp2
 rw [run_callFunc_extern Tryz.func130 (by kernel_rfl) (by kernel_rfl) (by kernel_rfl) (e := Extern.AbiNoEscape.same) (by kernel_rfl)]
 rw [Lib.run_noEscape]
 simp only [Result.andThen]
 rw [Oper.upon_value]
 go_wp2
 rw [Lib.run_from_unsafe w ⟨b, 0, none⟩ Tryz.underlying257 Tryz.underlying88 hj hsh VU]
 simp only [Result.andThen]
 rw [Oper.upon_value]
 go_wp2
 go_end0
 exact ⟨rfl, rfl⟩
theorem om {w : World} {b : Nat} {T : TypeId} {x y : Value} (h : w.heap[b]? = some (.cells #[x, y] T (0, 0))) (i : Nat) (v : Value) : (w.setCell ⟨b, i, none⟩ v).heap[b]? = some (.cells (#[x, y].setIfInBounds i v) T (0, 0)) := by
 have hlt : b < w.heap.size := (Array.getElem?_eq_some_iff.1 h).1
 have h' : w.heap[b] = .cells #[x, y] T (0, 0) := (Array.getElem?_eq_some_iff.1 h).2
 show (w.heap.modify b _)[b]? = _
 rw [Array.getElem?_eq_getElem (by simpa using hlt), Array.getElem_modify_self, h']
 rfl
theorem ko {w : World} (a : Addr) (v : Value) (k : Nat) (hk : k ≠ a.block) : (w.setCell a v).heap[k]? = w.heap[k]? := Below.heap_setCell w a v k hk
theorem wV (b : Nat) (p v : Value) (w : World) (hbk : w.heap[b]? = some (.cells #[p, v] 91 (0, 0))) (hp : p = .pointer none \/ p = .pointer (some ⟨b, 0, none⟩)) :
  Calls Tryz.prog 75 #[.pointer (some ⟨b, 0, none⟩)] w fun e w' => e = .returned (.tuple #[]) /\ w'.heap[b]? = some (.cells #[.pointer (some ⟨b, 0, none⟩), v] 91 (0, 0)) /\ w'.heap.size = w.heap.size /\ LE.ai w [b] w' := by
 rcases hp with rfl | rfl
 ·refine (sG b w (by rw [Lib.cell_of_heap hbk]; rfl) (by simp [World.shape?, hbk]) (Lib.frozen_of_heap hbk 0)).mono ?_
  rintro e w' ⟨rfl, rfl⟩
  exact ⟨rfl, om hbk 0 _, by simp, ⟨rfl, rfl, rfl, by simp, fun k _ hk => ko _ _ k (by simpa using hk)⟩⟩
 ·refine (uy b w (by rw [Lib.cell_of_heap hbk]; rfl)).mono ?_
  rintro e w' ⟨rfl, rfl⟩
  exact ⟨rfl, hbk, rfl, LE.ai.refl _ _⟩
theorem rh {w : World} (t u ty e : TypeId) (i : TypeInfo) (ht : Tryz.prog.underlying t = some (.slice e)) (hu : Tryz.prog.underlying u = some .string) (hi : Tryz.prog.info? e = some i) (hz : i.zero = some (.int .u8 0))
  (hsize : i.size = 1) (hby : i.bytes = 1) (v : Value) (n : Nat) (xs : List Value) (hown : w.ownsRow 0 e 1 v n xs) (s : ByteArray) (h63 : n + s.size <= maxLen) (hbytes : n + s.size <= 140737488355328) :
  ∃ v' w', (Builtin.append_ #[t, u] ty #[v, .string s]).run Tryz.prog w = .ok v' w' /\ w'.ownsRow 0 e 1 v' (n + s.size) (xs ++ Lib.strCells s) /\ w.grownBy w' v.ownBlock /\
   (v'.ownBlock = v.ownBlock \/ v'.ownBlock = some w.heap.size) := by
 obtain ⟨v', w', hr, h1, h2, h3⟩ := Lib.run_append_own_string (P := Tryz.prog) w 0 t u ty e i ht hu hi hz hsize hby v n xs hown s h63 hbytes (Nat.zero_le _)
 refine ⟨v', w', hr, h1, h2, ?_⟩
 have hxl : xs.length = n := by simpa using hown.1
 rcases hown.2 with ⟨rfl, rfl⟩ | ⟨g, cap, cur, rfl, hbg, hg, hnc, hcm, hcs, htake⟩
 ·by_cases hm : s.size = 0
  ·rw [h3.2 ⟨rfl, hm⟩]; exact .inl rfl
  ·have hr2 := run_append_nil_string (P := Tryz.prog) w t u ty e i (.int .u8 0) ht hu hi hz s (by omega) (by simp only [maxLen] at h63; omega) (by rw [hby]; omega)
   rw [hr] at hr2
   cases hr2
   exact .inr rfl
 ·by_cases hroom : n + s.size <= cap
  ·have hr2 := Lib.run_append_room_string (P := Tryz.prog) w t u ty e i ht hu hi hsize g n cap cur hg s hroom (by rw [hcs]; omega)
   rw [hr] at hr2
   cases hr2
   exact .inl rfl
  ·have holds : ∀ j u, xs[j]? = some u -> w.cell? ((⟨g, 0, none⟩ : Addr).add j) = some u := hown.cells (g := g) rfl
   have hr2 := Lib.run_append_grow_string (P := Tryz.prog) w t u ty e i (.int .u8 0) ht hu hi hz ⟨g, 0, none⟩ n cap xs (by rw [hsize]; simpa using hxl) holds s (by omega) (by simp only [maxLen] at h63; omega) (by rw [hby]; exact growslice_fits (by omega) (by omega))
   rw [hr] at hr2
   cases hr2
   exact .inr rfl
theorem nW {ops : Array Oper} {rest : List Oper} {o : Oper} {a : Act} {w : World} {Q : Exit -> Act -> World -> Prop} (hgd : o.guard = none) (sl x : Operand) (t u : TypeId)
  (ho : o.op = .call { callee := .builtin .append, args := #[sl, x], argTypes := #[t, u] })
  (e : TypeId) (i : TypeInfo) (ht : Tryz.prog.underlying t = some (.slice e)) (hu : Tryz.prog.underlying u = some .string) (hi : Tryz.prog.info? e = some i) (hz : i.zero = some (.int .u8 0))
  (hsize : i.size = 1) (hby : i.bytes = 1)
  (v : Value) (n : Nat) (xs : List Value) (hs : a.eval sl = v) (hown : w.ownsRow 0 e 1 v n xs) (s : ByteArray) (hx : a.eval x = .string s)
  (h63 : n + s.size <= maxLen) (hbytes : n + s.size <= 140737488355328)
  (h : ∀ v' w', w'.ownsRow 0 e 1 v' (n + s.size) (xs ++ Lib.strCells s) -> w.grownBy w' v.ownBlock -> (v'.ownBlock = v.ownBlock \/ v'.ownBlock = some w.heap.size) -> wpList Tryz.prog ops Q rest (a.put o.dst v') w') : wpList Tryz.prog ops Q (o :: rest) a w := by
 refine wpList_plain hgd fun K hK => ?_
 obtain ⟨v', w', hr, h2, h3, h4⟩ := rh (w := w) t u o.type e i ht hu hi hz hsize hby v n xs hown s h63 hbytes
 unfold Oper.wp execOp
 simp only [ho, resolve, invoke, builtin, Sem.run_bind, Sem.run_pure, Result.andThen_ok, List.map_toArray, List.map_cons, List.map_nil, hs, hx, hr]
 exact hK _ _ (h v' w' h2 h3 h4)
def lI (d : List Value) (u : Value) (fp : List Nat) (w : World) : Prop :=
 ∃ s b v p, d = [.string s] /\ u = .pointer (some ⟨b, 0, none⟩) /\ fp = b :: v.ownBlock.toList /\ w.heap[b]? = some (.cells #[p, v] 91 (0, 0)) /\ w.ownsRow 0 5 1 v s.size (Lib.strCells s) /\ v.ownBlock ≠ some b /\
  (p = .pointer none \/ p = .pointer (some ⟨b, 0, none⟩))
theorem lI.local {d : List Value} {u : Value} {fp : List Nat} {w w' : World} (h : lI d u fp w) (hl : ∀ b ∈ fp, w'.heap[b]? = w.heap[b]?) : lI d u fp w' := by
 obtain ⟨s, b, v, p, h1, h2, h3, h4, h5, h6, h7⟩ := h
 refine ⟨s, b, v, p, h1, h2, h3, by rw [hl b (by simp [h3])]; exact h4, ⟨h5.1, ?_⟩, h6, h7⟩
 rcases h5.2 with h | ⟨g, cap, cur, hv, hb, hg, r⟩
 ·exact .inl h
 ·exact .inr ⟨g, cap, cur, hv, hb, by rw [hl g (by rw [h3, hv]; simp [Value.ownBlock])]; exact hg, r⟩
theorem N2 {w : World} {v : Value} {n : Nat} {xs : List Value} (h : w.ownsRow 0 5 1 v n xs) : ∀ g, v.ownBlock = some g -> g < w.heap.size := by
 intro g hg
 rcases h.2 with ⟨rfl, _⟩ | ⟨g', cap, cur, rfl, _, hh, _⟩
 ·cases hg
 ·cases hg
  exact (Array.getElem?_eq_some_iff.1 hh).1
set_option maxHeartbeats 2000000 in
theorem sL (u : Value) (fp : List Nat) (s0 s : ByteArray) (w : World) (h : lI [.string s0] u fp w) (hlen : s0.size + s.size <= 140737488355328) :
  Calls Tryz.prog 37 #[u, .string s] w fun e w' => ∃ fp', e = .returned (.tuple #[.int .i64 s.size, .nilIface]) /\ lI [.string (s0 ++ s)] u fp' w' /\ (∀ b ∈ fp', b ∈ fp \/ w.heap.size <= b) /\ (∀ b ∈ fp', b < w'.heap.size) /\ LE.ai w fp w' := by
 obtain ⟨s0', b, v, p, hd, rfl, rfl, hbk, hown, hne, hp⟩ := h
 cases hd
 obtain ⟨i0, hi, hz0, hz1, hz2⟩ := info_parts XI
 have hbs : (Lib.strCells s0).length = s0.size := Lib.strCells_length s0
 have hcc := wV b p v w hbk hp
 go_enter Tryz.func37, Tryz.ntmps37
 go_wp2_with (refine hcc.mono ?_)
 rintro e w1 ⟨rfl, hbk1, hs1, hk1⟩
 have hg1 : ∀ g, v.ownBlock = some g -> w1.heap[g]? = w.heap[g]? := fun g hg => hk1.block g (N2 hown g hg) (by rintro h; simp at h; subst h; exact hne hg)
 have hown1 : w1.ownsRow 0 5 1 v s0.size (Lib.strCells s0) := by
  refine ⟨hown.1, ?_⟩
  rcases hown.2 with h | ⟨g, cap, cur, hv, hb, hg, r⟩
  ·exact .inl h
  ·exact .inr ⟨g, cap, cur, hv, hb, by rw [hg1 g (by rw [hv]; rfl)]; exact hg, r⟩
 have c0 : w1.cell? ⟨b, 0, none⟩ = some (.pointer (some ⟨b, 0, none⟩)) := by rw [Lib.cell_of_heap hbk1]; rfl
 have c1 : w1.cell? ⟨b, 1, none⟩ = some v := by rw [Lib.cell_of_heap hbk1]; rfl
 clear hg1 hcc
 go_wp2_with (at_builtin; refine nW rfl _ _ 89 9 rfl 5 i0 Tryz.underlying89 Tryz.underlying9 hi hz0 hz1 hz2 _ _ _ rfl hown1 s rfl ?c3 ?c4 ?_)
 case c3 => unfold maxLen; omega
 case c4 => omega
 intro v' w2 hown' hgrow htold
 have hlt : b < w1.heap.size := (Array.getElem?_eq_some_iff.1 hbk1).1
 have hb2 : w2.heap[b]? = some (.cells #[.pointer (some ⟨b, 0, none⟩), v] 91 (0, 0)) := by
  rw [hgrow.block b hlt (fun e => hne e.symm)]
  exact hbk1
 have d0 : w2.cell? ⟨b, 0, none⟩ = some (.pointer (some ⟨b, 0, none⟩)) := by rw [Lib.cell_of_heap hb2]; rfl
 have d1 : w2.cell? ⟨b, 1, none⟩ = some v := by rw [Lib.cell_of_heap hb2]; rfl
 have f1 : w2.frozen? ⟨b, 1, none⟩ = false := Lib.frozen_of_heap hb2 1
 obtain ⟨ao, n', cap, rfl⟩ : ∃ ao n' cap, v' = .slice ao n' cap := by
  rcases hown'.2 with ⟨hv, _⟩ | ⟨g, cap, cur, hv, _⟩
  ·exact ⟨_, _, _, hv⟩
  ·exact ⟨_, _, _, hv⟩
 have hgs := hgrow.size
 have hne' : (Value.slice ao n' cap).ownBlock ≠ some b := by
  rcases htold with h | h
  ·rw [h]; exact hne
  ·rw [h]; rintro h; cases h; omega
 have hkeep : LE.ai w (b :: v.ownBlock.toList) (w2.setCell ⟨b, 1, none⟩ (.slice ao n' cap)) := by
  refine ⟨hgrow.os.trans hk1.os, hgrow.tape.trans hk1.tape, hgrow.output.trans hk1.output, by simp; omega, fun k hk hkn => ?_⟩
  simp only [List.mem_cons, not_or] at hkn
  rw [ko _ _ k hkn.1, hgrow.block k (by omega) (by rintro h; exact hkn.2 (by rw [<- h]; simp)), hk1.block k hk (by simpa using hkn.1)]
 go_wp2
 go_ret2
 refine ⟨b :: (Value.slice ao n' cap).ownBlock.toList, rfl, ?_, fun k hk => ?_, fun k hk => ?_, hkeep⟩
 ·refine ⟨s0 ++ s, b, .slice ao n' cap, _, rfl, rfl, rfl, om hb2 1 _, ?_, hne', .inr rfl⟩
  have e1 : Lib.strCells (s0 ++ s) = Lib.strCells s0 ++ Lib.strCells s := by simp [Lib.strCells, ByteArray.data_append]
  have e2 : (s0 ++ s).size = s0.size + s.size := ByteArray.size_append
  rw [e1, e2]
  refine ⟨hown'.1, ?_⟩
  rcases hown'.2 with h | ⟨g, c, cur, hv, hb, hg, r⟩
  ·exact .inl h
  ·refine .inr ⟨g, c, cur, hv, hb, ?_, r⟩
   rw [ko _ _ g (by rintro h; rw [hv] at hne'; exact hne' (by rw [h]; rfl))]
   exact hg
 ·simp only [List.mem_cons] at hk ⊢
  rcases hk with rfl | hk
  ·exact .inl (.inl rfl)
  ·rcases htold with h | h
   ·rw [h] at hk; exact .inl (.inr hk)
   ·rw [h] at hk; simp at hk; right; omega
 ·simp only [List.mem_cons] at hk
  rcases hk with rfl | hk
  ·simp; omega
  ·have := N2 hown' k (by simpa using hk)
   simpa using this
end
section
open Go.RowKit
theorem oD (w : World) (bs : List Nat) : LE.ai w bs w.drew := ⟨rfl, rfl, rfl, Nat.le_refl _, fun _ _ _ => rfl⟩
theorem AQ (w : World) (g n : Nat) : LE.ai w [g] (w.drew.freeze ⟨g, 0, none⟩ n) := by
 unfold World.freeze
 split
 ·exact oD w _
 ·refine ⟨rfl, rfl, rfl, by simp, fun k hk hkn => ?_⟩
  have hne : g ≠ k := fun e => hkn (by simp [e])
  show (w.drew.heap.modify g _)[k]? = _
  rw [Array.getElem?_modify, if_neg hne]
  rfl
set_option maxHeartbeats 2000000 in
theorem Dh (b g cap : Nat) (p : Value) (cur : Array Value) (l : List UInt8) (w : World) (hbk : w.heap[b]? = some (.cells #[p, .slice (some ⟨g, 0, none⟩) l.length cap] 91 (0, 0))) (h0 : l ≠ [])
  (hg : w.heap[g]? = some (.cells cur 5 (0, 0))) (hcm : cap <= maxLen) (hcs : cur.size = cap) (hlc : l.length <= cap) (hcells : ∀ j x, l[j]? = some x -> w.cell? ⟨g, j, none⟩ = some (.int .u8 x.toNat)) :
  Calls Tryz.prog 41 #[.pointer (some ⟨b, 0, none⟩)] w fun e w' => e = .returned (.string ⟨l.toArray⟩) /\ LE.ai w [g] w' := by
 have hl0 : l.length ≠ 0 := by simpa using h0
 have c1 : w.drew.cell? ⟨b, 1, none⟩ = some (.slice (some ⟨g, 0, none⟩) l.length cap) := by
  have : w.drew.heap[b]? = some (.cells #[p, .slice (some ⟨g, 0, none⟩) l.length cap] 91 (0, 0)) := hbk
  rw [Lib.cell_of_heap this]; rfl
 have hSD : (Builtin.unsafeSliceData_ #[89] 162 #[.slice (some ⟨g, 0, none⟩) l.length cap]).run Tryz.prog w.drew = .ok (.pointer (some ⟨g, 0, none⟩)) w.drew :=
  Lib.run_unsafeSliceData_row _ _ _ _ _ _ (by omega)
 have hUS : (Builtin.unsafeString_ #[162, 3] 9 #[.pointer (some ⟨g, 0, none⟩), .int .i64 l.length]).run Tryz.prog w.drew = .ok (.string ⟨l.toArray⟩) (w.drew.freeze ⟨g, 0, none⟩ l.length) := by
  refine Lib.run_unsafeString_row w.drew 162 3 9 5 Tryz.underlying162 (by kernel_rfl) g cur.size (by have hg' : w.drew.heap[g]? = some (.cells cur 5 (0, 0)) := hg; simp [World.shape?, hg']) l h0 (by omega) (by unfold maxLen at hcm; omega) ?_
  intro j x hx
  rw [Addr.add_lit, Nat.zero_add]
  exact hcells j x hx
 clear hcells
 have mixed := bR
 go_enter Tryz.func41, Tryz.ntmps41
 go_wp2
 go_region_o
 all_goals (go_wp2; go_ret; exact ⟨rfl, AQ w g _⟩)
set_option maxHeartbeats 2000000 in
theorem FQ (b : Nat) (p : Value) (w : World) (hbk : w.heap[b]? = some (.cells #[p, .slice none 0 0] 91 (0, 0))) :
  Calls Tryz.prog 41 #[.pointer (some ⟨b, 0, none⟩)] w fun e w' => e = .returned (.string ⟨#[]⟩) /\ LE.ai w [] w' := by
 have hUS := fun (W : World) (q : Option Addr) => Lib.run_unsafeString_none (P := Tryz.prog) W 162 3 9 q
 have c1 : w.drew.cell? ⟨b, 1, none⟩ = some (.slice none 0 0) := by
  have : w.drew.heap[b]? = some (.cells #[p, .slice none 0 0] 91 (0, 0)) := hbk
  rw [Lib.cell_of_heap this]; rfl
 have hSD : (Builtin.unsafeSliceData_ #[89] 162 #[.slice none 0 0]).run Tryz.prog w.drew = .ok (.pointer none) w.drew := rfl
 have mixed := bR
 go_enter Tryz.func41, Tryz.ntmps41
 go_wp2
 go_region_o
 all_goals (go_wp2; go_ret; exact ⟨rfl, oD w _⟩)
set_option maxHeartbeats 2000000 in
theorem w7 (b g : Nat) (p : Value) (cur : Array Value) (w : World) (hbk : w.heap[b]? = some (.cells #[p, .slice (some ⟨g, 0, none⟩) 0 0] 91 (0, 0))) (hg : w.heap[g]? = some (.cells cur 5 (0, 0))) :
  Calls Tryz.prog 41 #[.pointer (some ⟨b, 0, none⟩)] w fun e w' => e = .returned (.string ⟨#[]⟩) /\ LE.ai w [] w' := by
 have hUS := fun (W : World) (q : Option Addr) => Lib.run_unsafeString_none (P := Tryz.prog) W 162 3 9 q
 have hlt : b < w.heap.size := (Array.getElem?_eq_some_iff.1 hbk).1
 have c1 : w.drew.cell? ⟨b, 1, none⟩ = some (.slice (some ⟨g, 0, none⟩) 0 0) := by
  have : w.drew.heap[b]? = some (.cells #[p, .slice (some ⟨g, 0, none⟩) 0 0] 91 (0, 0)) := hbk
  rw [Lib.cell_of_heap this]; rfl
 have hSD : (Builtin.unsafeSliceData_ #[89] 162 #[.slice (some ⟨g, 0, none⟩) 0 0]).run Tryz.prog w.drew = .ok (.pointer (some ⟨w.drew.heap.size, 0, none⟩)) (w.drew.alloc (.view ⟨g, 0, none⟩ 5)) :=
  Lib.run_unsafeSliceData_zero w.drew _ _ 5 Tryz.underlying162 ⟨g, 0, none⟩ 0 (5, cur.size) (by have hg' : w.drew.heap[g]? = some (.cells cur 5 (0, 0)) := hg; simp [World.shape?, hg'])
 have c2 : (w.drew.alloc (.view ⟨g, 0, none⟩ 5)).cell? ⟨b, 1, none⟩ = some (.slice (some ⟨g, 0, none⟩) 0 0) := by
  have : (w.drew.alloc (.view ⟨g, 0, none⟩ 5)).heap[b]? = _ := (Lib.alloc_old w.drew _ b hlt).trans hbk
  rw [Lib.cell_of_heap this]; rfl
 have c3 : (w.alloc (.view ⟨g, 0, none⟩ 5)).drew.cell? ⟨b, 1, none⟩ = some (.slice (some ⟨g, 0, none⟩) 0 0) := c2
 have c0 : w.cell? ⟨b, 1, none⟩ = some (.slice (some ⟨g, 0, none⟩) 0 0) := c1
 have mixed := bR
 go_enter Tryz.func41, Tryz.ntmps41
 go_wp2
 go_region_o
 all_goals (go_wp2; go_ret; exact ⟨rfl, ⟨rfl, rfl, rfl, by simp, fun k hk _ => Lib.alloc_old w.drew _ k hk⟩⟩)
set_option maxHeartbeats 2000000 in
theorem BY (b g cap : Nat) (p : Value) (w : World) (hc0 : cap ≠ 0) (hbk : w.heap[b]? = some (.cells #[p, .slice (some ⟨g, 0, none⟩) 0 cap] 91 (0, 0))) :
  Calls Tryz.prog 41 #[.pointer (some ⟨b, 0, none⟩)] w fun e w' => e = .returned (.string ⟨#[]⟩) /\ LE.ai w [] w' := by
 have hUS := fun (W : World) (q : Option Addr) => Lib.run_unsafeString_none (P := Tryz.prog) W 162 3 9 q
 have c1 : w.drew.cell? ⟨b, 1, none⟩ = some (.slice (some ⟨g, 0, none⟩) 0 cap) := by
  have : w.drew.heap[b]? = some (.cells #[p, .slice (some ⟨g, 0, none⟩) 0 cap] 91 (0, 0)) := hbk
  rw [Lib.cell_of_heap this]; rfl
 have hSD : (Builtin.unsafeSliceData_ #[89] 162 #[.slice (some ⟨g, 0, none⟩) 0 cap]).run Tryz.prog w.drew = .ok (.pointer (some ⟨g, 0, none⟩)) w.drew :=
  Lib.run_unsafeSliceData_row _ _ _ _ _ _ hc0
 clear hc0
 have mixed := bR
 go_enter Tryz.func41, Tryz.ntmps41
 go_wp2
 go_region_o
 all_goals (go_wp2; go_ret; exact ⟨rfl, oD w _⟩)
theorem Ei (u : Value) (fp : List Nat) (s : ByteArray) (w : World) (h : lI [.string s] u fp w) :
  Calls Tryz.prog 41 #[u] w fun e w' => e = .returned (.string s) /\ LE.ai w fp w' := by
 obtain ⟨s', b, v, p, hd, rfl, rfl, hbk, hown, hne, hp⟩ := h
 cases hd
 rcases s with ⟨⟨l⟩⟩
 have hsz : (ByteArray.mk ⟨l⟩).size = l.length := rfl
 rw [hsz] at hown
 rcases hown.2 with ⟨rfl, hz⟩ | ⟨g, cap, cur, rfl, hbg, hg, hnc, hcm, hcs, htake⟩
 ·have hl : l = [] := List.eq_nil_of_length_eq_zero hz
  subst hl
  exact (FQ b p w hbk).mono fun e w' ⟨h1, h2⟩ => ⟨h1, h2.mono (by simp)⟩
 ·by_cases hl : l = []
  ·subst hl
   by_cases hc : cap = 0
   ·subst hc
    exact (w7 b g p cur w hbk hg).mono fun e w' ⟨h1, h2⟩ => ⟨h1, h2.mono (by simp)⟩
   ·exact (BY b g cap p w hc hbk).mono fun e w' ⟨h1, h2⟩ => ⟨h1, h2.mono (by simp)⟩
  ·refine (Dh b g cap p cur l w hbk hl hg hcm (by rw [hcs]; omega) hnc fun j x hx => ?_).mono fun e w' ⟨h1, h2⟩ => ⟨h1, h2.mono (by simp [Value.ownBlock])⟩
   have := hown.cells (g := g) rfl j (.int .u8 x.toNat) (by simp [Lib.strCells, hx])
   rwa [Addr.add_lit, Nat.zero_add] at this
end
section
open Go.RowKit Go.LE
def M6 : ByteArray := ⟨#[10]⟩
theorem zc (t : ByteArray) : (t ++ M6).size = t.size + 1 := by rw [ByteArray.size_append]; rfl
set_option maxHeartbeats 2000000 in
theorem PO (u : Value) (fp : List Nat) (s0 s : ByteArray) (w : World) (h : lI [.string s0] u fp w) (hlen : s0.size + s.size + 1 <= 140737488355328) :
  Calls Tryz.prog 36 #[.string s, u] w fun e w' => ∃ fp', e = .returned (.tuple #[]) /\ lI [.string (s0 ++ (s ++ M6))] u fp' w' /\ (∀ b ∈ fp', b ∈ fp \/ w.heap.size <= b) /\ (∀ b ∈ fp', b < w'.heap.size) /\ LE.ai w fp w' := by
 have hw := sL u fp s0 (s ++ M6) w h (by rw [zc]; omega)
 go_enter Tryz.func36, Tryz.ntmps36
 go_wp2_with (refine hw.mono ?_)
 rintro e w1 ⟨fp', rfl, h1, h2, h3, h4⟩
 go_wp2
 go_end0
 exact ⟨fp', rfl, h1, h2, h3, h4⟩
def sP : Option bm -> Option (ByteArray × Prop)
 | some (.obj [.string s] R) => some (s, R = lI)
 | some (.cells T [.v (.pointer none), .v (.slice none 0 0)]) => some (⟨#[]⟩, T = 91)
 | _ => none
theorem uP {E : Nat -> Value} {u : Value} {fp : List Nat} {w : World} {e : bm} {s : ByteArray} {p : Prop} (h : sP (some e) = some (s, p)) (hp : p) (he : bn E u fp w e) : lI [.string s] u fp w := by
 unfold sP at h
 split at h
 ·rename_i s' R heq
  cases h; cases heq
  subst hp
  exact he.1.1
 ·rename_i T heq
  cases h; cases heq
  subst hp
  obtain ⟨b, rfl, rfl, hh⟩ := he
  exact ⟨_, b, .slice none 0 0, .pointer none, rfl, rfl, rfl, hh, World.ownsRow_nil w 0 5 1, by simp [Value.ownBlock], .inl rfl⟩
 ·cases h
def Yv (k : Nat) (t : ByteArray) : Option (ByteArray × Prop) -> R
 | some (s, p) => ⟨p /\ s.size + t.size + 1 <= 140737488355328, .tup [], [(k, some (.obj [.string (s ++ (t ++ M6))] lI))], none, [], [k]⟩
 | none => .bad
def RB (h : Hp) : List SV -> R
 | [.v (.string t), .own k 0] => Yv k t (sP (h k))
 | _ => .bad
theorem kK (h : Hp) (k : Nat) (t : ByteArray) : RB h [.v (.string t), .own k 0] = Yv k t (sP (h k)) := rfl
theorem pA (k : Nat) (t s : ByteArray) (p : Prop) : Yv k t (some (s, p)) = ⟨p /\ s.size + t.size + 1 <= 140737488355328, .tup [], [(k, some (.obj [.string (s ++ (t ++ M6))] lI))], none, [], [k]⟩ := rfl
theorem PC (s : ByteArray) (R : List Value -> Value -> List Nat -> World -> Prop) : sP (some (.obj [.string s] R)) = some (s, R = lI) := rfl
theorem tY (T : TypeId) : sP (some (.cells T [.v (.pointer none), .v (.slice none 0 0)])) = some (⟨#[]⟩, T = 91) := rfl
theorem Bu {E : Nat -> Value} {k : Nat} {w : World} {fp : List Nat} {d : List Value} (h : lI d (E k) fp w) : den E (.own k 0) = E k := by
 obtain ⟨_, b, _, _, _, hu, _⟩ := h
 simp [den, hu, base, cD]
theorem tQ {h : Hp} {args : List SV} (hs : (RB h args).side) : ∃ k t s p, args = [.v (.string t), .own k 0] /\ sP (h k) = some (s, p) /\ p /\ s.size + t.size + 1 <= 140737488355328 := by
 unfold RB at hs
 split at hs
 ·rename_i t k
  cases hb : sP (h k) with
  | none => rw [hb] at hs; exact hs.elim
  | some q =>
   obtain ⟨s, p⟩ := q
   rw [hb] at hs
   exact ⟨k, t, s, p, rfl, hb, hs.1, hs.2⟩
 ·exact hs.elim
def HP : LE.Spec Tryz.prog 36 where
 ev := fun _ _ _ h args => RB h args
 good := by
  intro W bs κ E F h w K args hs hK hk hx hside
  rw [Tryz.call36]
  obtain ⟨k, t, s, p, rfl, hb, hp, hlen⟩ := tQ hside
  rw [kK, hb, pA]
  cases hkk : h k with
  | none => rw [hkk] at hb; cases hb
  | some e =>
   rw [hkk] at hb
   have hB := uP hb hp (hs.ent k e hkk)
   have hargs : (an E [.v (.string t), .own k 0]).toArray = #[.string t, E k] := by
    show #[.string t, den E (.own k 0)] = _
    rw [Bu hB]
   rw [hargs]
   refine Ct (e' := .obj [.string (s ++ (t ++ M6))] lI) hs hkk ((PO (E k) (F k) s t w hB hlen).mono fun en w' he => ?_) rfl rfl
   obtain ⟨fp', rfl, h1, h2, h3, h4⟩ := he
   refine ⟨_, fp', rfl, ⟨⟨h1, ?_⟩, fun w'' hl => h1.local hl⟩, h2, h3, h4, ?_⟩
   ·obtain ⟨_, b, _, _, _, hu, _⟩ := h1
    rw [hu]; rfl
   ·simp [den, an]
 keys := by
  intro W bs κ h K args hK hx hside
  obtain ⟨k, t, s, p, rfl, hb, hp, hlen⟩ := tQ hside
  rw [kK, hb, pA]
  refine ⟨fun j hj => by simp [SV.keys, ax] at hj, fun q hq => ?_⟩
  simp only [List.mem_singleton] at hq
  subst hq
  exact ⟨.inl (hx k (by simp [ax, SV.keys])), fun e he j hj => by simp at he; subst he; cases hj⟩
 loc := by
  intro W bs κ h h' args hside hr
  obtain ⟨k, t, s, p, rfl, hb, hp, hlen⟩ := tQ hside
  rw [kK, hb, pA] at hr
  rw [kK, kK, hr k (by simp)]
def YY (k : Nat) : Option (ByteArray × Prop) -> R
 | some (s, p) => ⟨p, .v (.string s), [(k, none)], none, [], [k]⟩
 | none => .bad
def Oy (h : Hp) : List SV -> R
 | [.own k 0] => YY k (sP (h k))
 | _ => .bad
theorem kR (h : Hp) (k : Nat) : Oy h [.own k 0] = YY k (sP (h k)) := rfl
theorem qo (k : Nat) (s : ByteArray) (p : Prop) : YY k (some (s, p)) = ⟨p, .v (.string s), [(k, none)], none, [], [k]⟩ := rfl
theorem tB {h : Hp} {args : List SV} (hs : (Oy h args).side) : ∃ k s p, args = [.own k 0] /\ sP (h k) = some (s, p) /\ p := by
 unfold Oy at hs
 split at hs
 ·rename_i k
  cases hb : sP (h k) with
  | none => rw [hb] at hs; exact hs.elim
  | some q =>
   obtain ⟨s, p⟩ := q
   rw [hb] at hs
   exact ⟨k, s, p, rfl, hb, hs⟩
 ·exact hs.elim
def FC : LE.Spec Tryz.prog 41 where
 ev := fun _ _ _ h args => Oy h args
 good := by
  intro W bs κ E F h w K args hs hK hk hx hside
  rw [Tryz.call41]
  obtain ⟨k, s, p, rfl, hb, hp⟩ := tB hside
  rw [kR, hb, qo]
  cases hkk : h k with
  | none => rw [hkk] at hb; cases hb
  | some e =>
   rw [hkk] at hb
   have hB := uP hb hp (hs.ent k e hkk)
   have hargs : (an E [.own k 0]).toArray = #[E k] := by simp only [an, Bu hB]
   rw [hargs]
   refine (Ei (E k) (F k) s w hB).mono fun en w' he => ?_
   obtain ⟨rfl, hkeep⟩ := he
   exact ⟨rfl, E, F, fun _ _ => rfl, rfl, hs.Yx hkk hkeep⟩
 keys := by
  intro W bs κ h K args hK hx hside
  obtain ⟨k, s, p, rfl, hb, hp⟩ := tB hside
  rw [kR, hb, qo]
  refine ⟨fun j hj => by simp [SV.keys] at hj, fun q hq => ?_⟩
  simp only [List.mem_singleton] at hq
  subst hq
  exact ⟨.inl (hx k (by simp [ax, SV.keys])), fun e he => by cases he⟩
 loc := by
  intro W bs κ h h' args hside hr
  obtain ⟨k, s, p, rfl, hb, hp⟩ := tB hside
  rw [kR, hb, qo] at hr
  rw [kR, kR, hr k (by simp)]
end
section
open Go.RowKit Go.LE
def Vj (t : ByteArray) : ByteArray := ⟨#[116, 121, 112, 101, 32, 47]⟩ ++ t ++ ⟨#[47]⟩
def U2 (t : ByteArray) : ByteArray := ⟨#[116, 101, 120, 116, 32]⟩ ++ np t
def o7 (s v : Int) : ByteArray := ⟨#[109, 97, 105, 110, 32]⟩ ++ ig s ++ ⟨#[32]⟩ ++ ig v
def YR (p : Pg) (i : Nat) : ByteArray := jo i (p.co.getD i (0, 0, 0, 0)).1 (p.co.getD i (0, 0, 0, 0)).2.1 (p.co.getD i (0, 0, 0, 0)).2.2.1 (p.co.getD i (0, 0, 0, 0)).2.2.2
def mn (p : Pg) (k : Nat) : List ByteArray := (p.ty.take k).map Vj
def ld (p : Pg) (k : Nat) : List ByteArray := mn p p.ty.length ++ (p.tx.take k).map U2
def mS (p : Pg) (k : Nat) : List ByteArray := (ld p p.tx.length ++ [o7 p.src p.vw]) ++ (List.range k).map (YR p)
def lz (p : Pg) : List ByteArray := mS p p.co.length
def kq (l : List ByteArray) : ByteArray := l.foldl (fun o s => o ++ (s ++ M6)) ⟨#[]⟩
theorem kP (l : List ByteArray) (s : ByteArray) : kq (l ++ [s]) = kq l ++ (s ++ M6) := by simp [kq]
def Im (p : Pg) : ByteArray := kq (lz p)
def oE (p : Pg) : ByteArray := if jZ p = (0, 0, ⟨#[]⟩) then Im p else ⟨#[]⟩
theorem x5 {p : Pg} {k : Nat} (hk : k < p.ty.length) : mn p (k + 1) = mn p k ++ [Vj p.ty[k]] := by
 rw [mn, List.take_succ_eq_append_getElem hk, List.map_append]; rfl
theorem xw (p : Pg) : ld p 0 = mn p p.ty.length := by rw [ld, List.take_zero, List.map_nil, List.append_nil]
theorem xJ {p : Pg} {k : Nat} (hk : k < p.tx.length) : ld p (k + 1) = ld p k ++ [U2 p.tx[k]] := by
 rw [ld, List.take_succ_eq_append_getElem hk, List.map_append, <- List.append_assoc]; rfl
theorem rm (p : Pg) : mS p 0 = ld p p.tx.length ++ [o7 p.src p.vw] := by rw [mS]; simp
theorem Oe {p : Pg} {k : Nat} (hk : k < p.co.length) : YR p k = jo k p.co[k].1 p.co[k].2.1 p.co[k].2.2.1 p.co[k].2.2.2 := by
 rw [YR, List.getD_eq_getElem?_getD, List.getElem?_eq_getElem hk]; rfl
theorem yG {p : Pg} {k : Nat} (hk : k < p.co.length) : mS p (k + 1) = mS p k ++ [jo k p.co[k].1 p.co[k].2.1 p.co[k].2.2.1 p.co[k].2.2.2] := by
 rw [mS, List.range_succ, List.map_append, <- List.append_assoc, <- Oe hk]; rfl
theorem va {p : Pg} {k : Nat} (hk : k <= p.ty.length) : (mn p k).length = k := by rw [mn, List.length_map, List.length_take]; omega
theorem mB {p : Pg} {k : Nat} (hk : k <= p.tx.length) : (ld p k).length = p.ty.length + k := by rw [ld, List.length_append, va (Nat.le_refl _), List.length_map, List.length_take]; omega
theorem uf (p : Pg) (k : Nat) : (mS p k).length = p.ty.length + p.tx.length + 1 + k := by
 rw [mS, List.length_append, List.length_append, mB (Nat.le_refl _), List.length_map, List.length_range]; rfl
def Ql (l : List ByteArray) : Prop := ∀ s ∈ l, s.size <= 4194399
theorem KM : ∀ l : List ByteArray, Ql l -> (kq l).size <= l.length * 4194400 := by
 intro l
 suffices h : ∀ (l : List ByteArray) (o : ByteArray), Ql l -> (l.foldl (fun o s => o ++ (s ++ M6)) o).size <= o.size + l.length * 4194400 by
  intro hl
  have := h l ⟨#[]⟩ hl
  have e : (⟨#[]⟩ : ByteArray).size = 0 := rfl
  rw [e] at this
  unfold kq
  omega
 intro l
 induction l with
 | nil => intro o _; simp
 | cons s r ih =>
  intro o hl
  have h1 := ih (o ++ (s ++ M6)) fun x hx => hl x (List.mem_cons_of_mem _ hx)
  have h2 := hl s (List.mem_cons_self ..)
  rw [ByteArray.size_append, zc] at h1
  rw [List.foldl_cons, List.length_cons]
  omega
structure Ab (p : Pg) : Prop where
 l1 : p.ty.length <= 1048576
 l2 : p.tx.length <= 1048576
 l3 : p.co.length <= 1048576
 z1 : ∀ s ∈ p.ty, s.size <= 1048576
 z2 : ∀ s ∈ p.tx, s.size <= 1048576
theorem Ab.b {p : Pg} (h : Ab p) : PgB p := ⟨by have := h.l1; omega, by have := h.l2; omega, by have := h.l3; omega, fun s hs => by have := h.z1 s hs; omega⟩
theorem DY (t : ByteArray) : (Vj t).size = t.size + 7 := by
 have e1 : (⟨#[116, 121, 112, 101, 32, 47]⟩ : ByteArray).size = 6 := rfl
 have e2 : (⟨#[47]⟩ : ByteArray).size = 1 := rfl
 unfold Vj
 rw [ByteArray.size_append, ByteArray.size_append, e1, e2]
 omega
theorem D4 (t : ByteArray) : (U2 t).size <= 4 * t.size + 7 := by
 have e1 : (⟨#[116, 101, 120, 116, 32]⟩ : ByteArray).size = 5 := rfl
 have := qP t
 unfold U2
 rw [ByteArray.size_append, e1]
 omega
structure Vl (p : Pg) : Prop where
 s0 : 0 <= p.src
 s1 : p.src < p.ty.length
 v0 : 0 <= p.vw
 v1 : p.vw < p.ty.length
 ty : ∀ (i : Nat) (h : i < p.ty.length), yE p.ty[i] = true
 co : ∀ (i : Nat) (h : i < p.co.length), lC p.ty.length p.tx.length p.co.length p.co[i].1 p.co[i].2.1 p.co[i].2.2.1 p.co[i].2.2.2 = true
theorem oI (P : Nat -> Bool) : ∀ k j, ek P k j = none -> ∀ i, j <= i -> i < j + k -> P i = false
 | 0, j, _, i, h1, h2 => by omega
 | k + 1, j, h, i, h1, h2 => by
  unfold ek at h
  cases hp : P j with
  | true => rw [hp] at h; cases h
  | false =>
   rw [hp] at h
   by_cases e : i = j
   ·rw [e]; exact hp
   ·exact oI P k (j + 1) h i (by omega) (by omega)
theorem yr {p : Pg} (h : (jZ p).1 = 0) : jZ p = (0, 0, ⟨#[]⟩) /\ Vl p /\ p.ty.length <= 131072 /\ p.tx.length <= 131072 /\ p.co.length <= 131072 := by
 unfold jZ at h ⊢
 split at h
 ·cases h
 ·rename_i h0
  cases ht : ek (nV p) p.ty.length 0 with
  | some i => rw [ht] at h; cases h
  | none =>
   rw [ht] at h
   rw [if_neg h0]
   dsimp only at h ⊢
   unfold jN at h ⊢
   split at h
   ·cases h
   ·rename_i hw
    cases hc : ek (oP p) p.co.length 0 with
    | some i => rw [hc] at h; cases h
    | none =>
     rw [if_neg hw]
     have g1 := oI _ _ _ ht
     have g2 := oI _ _ _ hc
     simp [lO] at hw
     refine ⟨rfl, ⟨by omega, by omega, by omega, by omega, fun i hi => ?_, fun i hi => ?_⟩, by omega, by omega, by omega⟩
     ·have := g1 i (by omega) (by omega)
      rw [nV, List.getD_eq_getElem?_getD, List.getElem?_eq_getElem hi] at this
      simpa using this
     ·have := g2 i (by omega) (by omega)
      rw [oP, List.getD_eq_getElem?_getD, List.getElem?_eq_getElem hi] at this
      simpa using this
theorem Vl.ins {p : Pg} (h : Vl p) (hb : PgB p) (i : Nat) (hi : i < p.co.length) : mY p.co[i].1 p.co[i].2.1 p.co[i].2.2.1 p.co[i].2.2.2 := mY.of (h.co i hi) hb.l1 hb.l2 hb.l3
theorem oB {p : Pg} (h : Vl p) (hz : PgB p) : (o7 p.src p.vw).size <= 44 := by
 have e1 : (⟨#[109, 97, 105, 110, 32]⟩ : ByteArray).size = 5 := rfl
 have e2 : (⟨#[32]⟩ : ByteArray).size = 1 := rfl
 have := h.s1
 have := h.v1
 have := hz.l1
 have := bT h.s0 (by omega)
 have := bT h.v0 (by omega)
 unfold o7
 rw [ByteArray.size_append, ByteArray.size_append, ByteArray.size_append, e1, e2]
 omega
theorem Ql.app {l m : List ByteArray} (h : Ql l) (h' : Ql m) : Ql (l ++ m) := fun s hs => (List.mem_append.1 hs).elim (h s) (h' s)
theorem I9 {p : Pg} (hz : Ab p) (k : Nat) : Ql (mn p k) := fun s hs => by
 obtain ⟨t, ht, rfl⟩ := List.mem_map.1 hs
 have := hz.z1 t (List.mem_of_mem_take ht)
 rw [DY]
 omega
theorem A7 {p : Pg} (hz : Ab p) (k : Nat) : Ql (ld p k) := (I9 hz _).app fun s hs => by
 obtain ⟨t, ht, rfl⟩ := List.mem_map.1 hs
 have := hz.z2 t (List.mem_of_mem_take ht)
 have := D4 t
 omega
theorem IP {p : Pg} (hz : Ab p) (h : Vl p) {k : Nat} (hk : k <= p.co.length) : Ql (mS p k) := by
 refine ((A7 hz _).app fun s hs => ?_).app fun s hs => ?_
 ·rw [List.mem_singleton.1 hs]
  have := oB h hz.b
  omega
 ·obtain ⟨i, hi, rfl⟩ := List.mem_map.1 hs
  have hi' : i < p.co.length := by have := List.mem_range.1 hi; omega
  rw [Oe hi']
  have := hz.l3
  have := uU (n := i) (by omega) (by omega) (h.ins hz.b i hi')
  omega
theorem o9 {l : List ByteArray} (h : Ql l) (hl : l.length <= 3145729) : (kq l).size <= 13194645717600 := by
 have := KM l h
 omega
end
section
open Go.RowKit Go.LE
set_option maxRecDepth 10000
theorem Ga : ∀ b : Fin 256, (0 <= IntKind.u8.wrap (((b.val : Nat) : Int).tdiv 16) /\ IntKind.u8.wrap (((b.val : Nat) : Int).tdiv 16) < 16) /\ (0 <= ((b.val : Nat) : Int).tmod 16 /\ ((b.val : Nat) : Int).tmod 16 < 16) /\
  IntKind.u8.wrap (((b.val : Nat) : Int).tdiv 16) = ((b.val : Nat) : Int) / 16 /\ ((b.val : Nat) : Int).tmod 16 = ((b.val : Nat) : Int) % 16 := by decide +kernel
def ct := (aq @List.replicate_succ.{0} @List.replicate_zero.{0} @av @af HS HB E9 (aq XN XB X8 XQ jb cW cX (aq c8 cT cZ c9 cR cV gz (aq gv gi gk gn ez ey eB (aq eC eA ew yn yy xV xN (yR @aN @au @aA @az @ly @oT @qJ))))))
set_option maxHeartbeats 2000000 in
theorem Gm (s : ByteArray) (hs : s.size <= 1048576) (w : World) : Calls Tryz.prog 61 #[.string s] w fun e w' => e = .returned (.string (np s)) /\ ai w [] w' := by
 refine aj (nt := 69) [.tmp 2] Tryz.func61 rfl rfl rfl ?_
 have hxe : (⟨#[48, 49, 50, 51, 52, 53, 54, 55, 56, 57, 97, 98, 99, 100, 101, 102]⟩ : ByteArray) = mg := rfl
 refine vR Γ0 ct ?_
 refine vR Γ0 ct ?_
 refine vR Γ0 ct ?_
 refine vR Γ0 ct ?_
 refine Wp.seq ?_
 refine vR Γ0 ct ?_
 refine Wp.block ?_
 refine Wp.loop (fun k : Nat => ⟨20, bQ [(0, .is (.v (.string s))), (3, .is (.hd 8)), (4, .is (.v (.string mg))), (5, .is (.v (.int .i64 (k : Nat))))], bY [(8, .row 5 1 (cO s k).size ((byteCells (cO s k)).map .v))]⟩) (fun k => k <= s.size) (fun k => s.size - k) 0 ?_ (Nat.zero_le _) ?_
 ·exact wM (fun k => if k = 8 then .key 32 else .key k) (ab ct hxe)
 rintro k hk
 refine Wp.seq ?_
 refine vR Γ0 ct ?_
 refine wC ct (fun hc => ?_) (fun hc => ?_)
 ·have hlt : k < s.size := by
   simp at hc
   omega
  obtain ⟨c0, c1⟩ := xK s k
  have hq := jf s k
  have ha := fun l hl => kx (cO s k) l hl
  have hb : cO s (k + 1) = cO s k ++ eX (fV (bt s k)) := rfl
  have wk : IntKind.i64.wrap ((k : Int) + 1) = ((k + 1 : Nat) : Int) := by rw [aa (by omega) (by omega)]; omega
  refine wK ?_
  refine bp ⟨20, bQ [(0, .is (.v (.string s))), (3, .is (.hd 8)), (4, .is (.v (.string mg))), (5, .is (.v (.int .i64 (k : Nat))))], bY [(8, .row 5 1 (cO s (k + 1)).size ((byteCells (cO s (k + 1))).map .v))]⟩ ?_ ?_
  ·refine Wp.block ?_
   refine wR Γ0 ct ?_ ?_
   ·first | omega | exact ⟨by omega, by omega⟩
   refine vR Γ0 ct ?_
   refine wC ct (fun hc => ?_) (fun hc => ?_)
   ·have hv : bt s k = 10 := by simpa using hc
    have e0 : fV (bt s k) = [92, 110] := by rw [fV, if_neg (by omega), if_neg (by omega), if_pos hv]
    rw [e0] at hb
    have e1 := ha _ (fun c (hc : c ∈ [92, 110]) => by simp at hc; omega)
    rw [<- hb] at e1
    simp only [List.map_cons, List.map_nil] at e1
    have e2 : (cO s (k + 1)).size = (cO s k).size + 2 := by rw [hb, ByteArray.size_append, bN]; rfl
    refine wr Γ0 ct ?_ ?_
    ·exact by unfold maxLen; omega
    exact wM (fun k => if k = 8 then .key 256 else .key k) (de ct e1 e2)
   have n2 : ¬ bt s k = 10 := by simpa using hc
   refine vR Γ0 ct ?_
   refine wC ct (fun hc => ?_) (fun hc => ?_)
   ·have hv : bt s k = 13 := by simpa using hc
    have e0 : fV (bt s k) = [92, 114] := by rw [fV, if_neg (by omega), if_neg (by omega), if_neg n2, if_pos hv]
    rw [e0] at hb
    have e1 := ha _ (fun c (hc : c ∈ [92, 114]) => by simp at hc; omega)
    rw [<- hb] at e1
    simp only [List.map_cons, List.map_nil] at e1
    have e2 : (cO s (k + 1)).size = (cO s k).size + 2 := by rw [hb, ByteArray.size_append, bN]; rfl
    refine wr Γ0 ct ?_ ?_
    ·exact by unfold maxLen; omega
    exact wM (fun k => if k = 8 then .key 272 else .key k) (de ct e1 e2)
   have n3 : ¬ bt s k = 13 := by simpa using hc
   refine vR Γ0 ct ?_
   refine wC ct (fun hc => ?_) (fun hc => ?_)
   ·have hv : bt s k = 9 := by simpa using hc
    have e0 : fV (bt s k) = [92, 116] := by rw [fV, if_neg (by omega), if_neg (by omega), if_neg n2, if_neg n3, if_pos hv]
    rw [e0] at hb
    have e1 := ha _ (fun c (hc : c ∈ [92, 116]) => by simp at hc; omega)
    rw [<- hb] at e1
    simp only [List.map_cons, List.map_nil] at e1
    have e2 : (cO s (k + 1)).size = (cO s k).size + 2 := by rw [hb, ByteArray.size_append, bN]; rfl
    refine wr Γ0 ct ?_ ?_
    ·exact by unfold maxLen; omega
    exact wM (fun k => if k = 8 then .key 288 else .key k) (de ct e1 e2)
   have n4 : ¬ bt s k = 9 := by simpa using hc
   refine vR Γ0 ct ?_
   refine wC ct (fun hc => ?_) (fun hc => ?_)
   ·have hv : bt s k < 32 \/ 126 < bt s k := by simpa using hc
    have e0 : fV (bt s k) = [92, 120, bt mg (bt s k / 16), bt mg (bt s k % 16)] := by rw [fV, if_neg (by omega), if_neg (by omega), if_neg n2, if_neg n3, if_neg n4]
    obtain ⟨x, hx⟩ := Int.eq_ofNat_of_zero_le c0
    have x1 : x < 256 := by omega
    obtain ⟨f1, f2, f3, f4⟩ := Ga ⟨x, x1⟩
    simp only at f1 f2 f3 f4
    rw [hx] at e0
    rw [hx, e0] at hb
    have b1 := xK mg ((x : Int) / 16)
    have b2 := xK mg ((x : Int) % 16)
    have e1 := ha _ (fun c (hc : c ∈ [92, 120, bt mg ((x : Int) / 16), bt mg ((x : Int) % 16)]) => by simp at hc; omega)
    rw [<- hb] at e1
    simp only [List.map_cons, List.map_nil] at e1
    have e2 : (cO s (k + 1)).size = (cO s k).size + 4 := by rw [hb, ByteArray.size_append, bN]; rfl
    refine sx Γ0 (oc ct hx f3 f4 hxe) ?_ ?_
    ·rw [f3] at f1
     rw [f4] at f2
     exact ⟨by omega, f1, by omega, f2, by unfold maxLen; omega, by omega⟩
    exact wM (fun k => if k = 8 then .key 400 else .key k) (yR ct hx f3 f4 hxe e1 e2)
   have n5 : ¬ (bt s k < 32 \/ 126 < bt s k) := by simpa using hc
   refine Wp.seq ?_
   refine vR Γ0 ct ?_
   refine wC ct (fun hc => ?_) (fun hc => ?_)
   ·have hv : bt s k = 34 \/ bt s k = 92 := by simpa using hc
    have e0 : fV (bt s k) = [92, bt s k] := by rw [fV, if_pos hv]
    rw [e0] at hb
    have e1 := ha _ (fun c (hc : c ∈ [92, bt s k]) => by simp at hc; omega)
    rw [<- hb] at e1
    simp only [List.map_cons, List.map_nil] at e1
    have e2 : (cO s (k + 1)).size = (cO s k).size + 2 := by rw [hb, ByteArray.size_append, bN]; rfl
    refine wr Γ0 ct ?_ ?_
    ·exact by unfold maxLen; omega
    refine wr Γ0 ct ?_ ?_
    ·exact by unfold maxLen; omega
    exact wM (fun k => if k = 8 then .key 424 else .key k) (oc ct e1 e2 @List.append_assoc.{0} @Nat.add_assoc)
   ·have n6 : ¬ (bt s k = 34 \/ bt s k = 92) := by simpa using hc
    refine wK ?_
    have hw : 32 <= bt s k /\ bt s k <= 126 := by omega
    have e0 : fV (bt s k) = [bt s k] := by rw [fV, if_neg n6, if_pos hw]
    rw [e0] at hb
    have e1 := ha _ (fun c (hc : c ∈ [bt s k]) => by simp at hc; omega)
    rw [<- hb] at e1
    simp only [List.map_cons, List.map_nil] at e1
    have e2 : (cO s (k + 1)).size = (cO s k).size + 1 := by rw [hb, ByteArray.size_append, bN]; rfl
    refine wr Γ0 ct ?_ ?_
    ·exact by unfold maxLen; omega
    exact wM (fun k => if k = 8 then .key 392 else .key k) (de ct e1 e2)
  refine wr Γ0 (ab ct wk) ?_ ?_
  ·first | trivial | omega
  refine ⟨k + 1, hlt, by omega, ?_⟩
  exact wM (fun k => .key k) ct
 ·have hk' : k = s.size := by
   simp at hc
   omega
  subst hk'
  have ha := kx (cO s s.size) [34] (fun c hc => by simp at hc; omega)
  simp only [List.map_cons, List.map_nil] at ha
  have hq := jf s s.size
  have e2 : (np s).size = (cO s s.size).size + 1 := by rw [np, ByteArray.size_append, bN]; rfl
  refine wE ?_
  refine wR Γ0 (ab ct ha) ?_ ?_
  ·exact ⟨by unfold maxLen; omega, by omega⟩
  refine wR Γ0 (ab ct ha) ?_ ?_
  ·exact by rw [oS, <- np, e2]
  refine wZ ct ?_
  exact fun E => rfl
def Ba : aU Tryz.prog 38 where
 pre := fun W bs => fun | [.val (.string s)] => s.size <= 1048576 | _ => False
 res := fun W => fun | [.val (.string s)] => .string (np s) | _ => undef
 enters := Tryz.call38
 ok := by
  intro W w bs us as_ hk hu hp
  split at hp
  ·rename_i s
   match us, hu with
   | [u0], hu =>
    obtain ⟨rfl, _⟩ := hu
    exact Kz s hp w
  ·exact hp.elim
theorem HI (W : World) (s : ByteArray) : Ba.res W [.val (.string s)] = .string (np s) := rfl
theorem Ez (W : World) (bs : List Nat) (s : ByteArray) : Ba.pre W bs [.val (.string s)] = (s.size <= 1048576) := rfl
def sX : aU Tryz.prog 61 where
 pre := fun W bs => fun | [.val (.string s)] => s.size <= 1048576 | _ => False
 res := fun W => fun | [.val (.string s)] => .string (np s) | _ => undef
 enters := Tryz.call61
 ok := by
  intro W w bs us as_ hk hu hp
  split at hp
  ·rename_i s
   match us, hu with
   | [u0], hu =>
    obtain ⟨rfl, _⟩ := hu
    exact Gm s hp w
  ·exact hp.elim
theorem D9 (W : World) (s : ByteArray) : sX.res W [.val (.string s)] = .string (np s) := rfl
theorem DS (W : World) (bs : List Nat) (s : ByteArray) : sX.pre W bs [.val (.string s)] = (s.size <= 1048576) := rfl
end
section
open Go.RowKit Go.LE
set_option maxRecDepth 10000
def Tu : aU Tryz.prog 40 where
 pre := fun W bs as_ => (∃ n op k a b : Int, as_ = [.val (.int .i64 n), .val (U3 op k a b)] /\ 0 <= n /\ n <= 9223372036854775807 /\ mY op k a b) /\ dK W (Out bs) /\ fh W (Out bs)
 res := fun _ as_ => match as_ with
  | [.val (.int _ n), .val (.agg ins)] => (match ins.toList with
   | [.int _ op, .int _ k, .int _ a, .int _ b] => .string (jo n op k a b)
   | _ => undef)
  | _ => undef
 enters := Tryz.call40
 ok := by
  intro W w bs us as_ hk hu hp
  obtain ⟨⟨n, op, k, a, b, rfl, h0, h1, hi⟩, hg, ht⟩ := hp
  match us, hu with
  | [x, y], hu =>
   obtain ⟨rfl, rfl, _⟩ := hu
   exact RM n op k a b h0 h1 hi w (hg.fM hk (by simp)) (ht.fM hk (by simp))
section
variable (W : World) (bs : List Nat) (n op k a b : Int)
theorem Nw : Tu.pre W bs [.val (.int .i64 n), .val (.agg #[.int .i64 op, .int .i64 k, .int .i64 a, .int .i64 b])] = ((0 <= n /\ n <= 9223372036854775807 /\ mY op k a b) /\ dK W (Out bs) /\ fh W (Out bs)) :=
 propext ⟨fun ⟨⟨n', op', k', a', b', h, h0, h1, hi⟩, h2⟩ => by
  cases h
  exact ⟨⟨h0, h1, hi⟩, h2⟩, fun h => ⟨⟨n, op, k, a, b, rfl, h.1⟩, h.2⟩⟩
theorem Ru : Tu.res W [.val (.int .i64 n), .val (.agg #[.int .i64 op, .int .i64 k, .int .i64 a, .int .i64 b])] = .string (jo n op k a b) := rfl
end
theorem K4 (W : World) (bs : List Nat) (κ : Nat) (h : Hp) (l : List SV) : HP.ev W bs κ h l = RB h l := rfl
theorem MC (W : World) (bs : List Nat) (κ : Nat) (h : Hp) (l : List SV) : FC.ev W bs κ h l = Oy h l := rfl
section
variable (p : Pg) (a1 a2 a3 : Option Addr) (c1 c2 c3 : Nat) (hb : PgB p)
noncomputable def Γ98 : Env Tryz.prog := ⟨fun | 15 => some (nG p a1 a2 a3 c1 c2 c3 hb).spec | 36 => some HP | 38 => some Ba.spec | 39 => some yJ.spec | 40 => some Tu.spec | 41 => some FC | _ => none, fun | 39 => some Ah | _ => none, fun _ _ => none⟩
theorem Gt98c15 : (Γ98 p a1 a2 a3 c1 c2 c3 hb).sp 15 = some (nG p a1 a2 a3 c1 c2 c3 hb).spec := rfl
theorem Gt98c36 : (Γ98 p a1 a2 a3 c1 c2 c3 hb).sp 36 = some HP := rfl
theorem Gt98c38 : (Γ98 p a1 a2 a3 c1 c2 c3 hb).sp 38 = some Ba.spec := rfl
theorem Gt98c39 : (Γ98 p a1 a2 a3 c1 c2 c3 hb).sp 39 = some yJ.spec := rfl
theorem Gt98c40 : (Γ98 p a1 a2 a3 c1 c2 c3 hb).sp 40 = some Tu.spec := rfl
theorem Gt98c41 : (Γ98 p a1 a2 a3 c1 c2 c3 hb).sp 41 = some FC := rfl
theorem Gt98ceq39 : (Γ98 p a1 a2 a3 c1 c2 c3 hb).eqs 39 = some Ah := rfl
end
def e8 := (aq @List.replicate_succ.{0} @List.replicate_zero.{0} @av @af jV jW jb (aq cW cX c8 cT cZ c9 cR (aq cV ez ey eB eC eA ew (aq Dw B4 DD DQ O0 QD Pq (aq QZ GN GS GB GU Hl Gu (aq Fe E5 Fs Ak zz AP zl (aq AJ z7 AE Ae zI zd Hm (aq G5 HT Hj HX Gy En F2 (aq ua W5 Xo WU WZ X2 Xe (aq Xz WW Xp @aN @au @aA @az (aq @uB @HQ.eq_1 @tZ.eq_1 @Gt98c15 @Gt98c36 @Gt98c38 @Gt98c39 (aq @Gt98c40 @Gt98c41 @Gt98ceq39 @nG.eq_1 @HI @Ez @qL (aq @qQ @Nw @Ru @K4 @MC @kK @pA (eH @PC @tY @kR @qo))))))))))))))
set_option maxHeartbeats 4000000 in
theorem vJ (p : Pg) (a1 a2 a3 : Option Addr) (c1 c2 c3 : Nat) (w : World) (hp : qd p w a1 a2 a3) (hz : Ab p) (hg : dK w (Out [])) (he : ba w (Out [])) (ht : fh w (Out [])) :
  Calls Tryz.prog 17 #[Bc p a1 a2 a3 c1 c2 c3] w fun e w' => e = .returned (.string (oE p)) /\ LE.ai w [] w' := by
 have hx := hp.x
 have hb := hz.b
 refine aj (nt := 68) [.tmp 2] Tryz.func17 rfl rfl rfl ?_
 refine vR (Γ98 p a1 a2 a3 c1 c2 c3 hb) e8 ?_
 refine Wp.seq ?_
 refine wR (Γ98 p a1 a2 a3 c1 c2 c3 hb) e8 ?_ ?_
 ·exact ⟨hx, hg, he⟩
 refine wC e8 (fun hc => ?_) (fun hc => ?_)
 ·have h : ¬ jZ p = (0, 0, ⟨#[]⟩) := by
   intro h
   rw [h] at hc
   simp at hc
  have e : oE p = ⟨#[]⟩ := by rw [oE, if_neg h]
  rw [e]
  refine vR (Γ98 p a1 a2 a3 c1 c2 c3 hb) e8 ?_
  refine wZ e8 ?_
  exact fun E => rfl
 have h : jZ p = (0, 0, ⟨#[]⟩) := by
  simp at hc
  exact Prod.ext hc.1.1 (Prod.ext hc.1.2 hc.2)
 have e : oE p = Im p := by rw [oE, if_pos h]
 rw [e]
 obtain ⟨_, hs, _⟩ := yr (congrArg Prod.fst h)
 have l1 := hz.l1
 have l2 := hz.l2
 have l3 := hz.l3
 refine wK ?_
 refine vR (Γ98 p a1 a2 a3 c1 c2 c3 hb) e8 ?_
 refine vR (Γ98 p a1 a2 a3 c1 c2 c3 hb) e8 ?_
 refine Wp.seq ?_
 refine vR (Γ98 p a1 a2 a3 c1 c2 c3 hb) e8 ?_
 refine Wp.XG (Le.conv (k := 48) (e' := .obj [.string ⟨#[]⟩] lI) (by simp only [Rw, if_true]; rfl) (fun E u fp w' h => ?_) (fun j hj => by cases hj)) ?_
 ·have := uP (tY 91) rfl h
  refine ⟨⟨this, ?_⟩, fun w'' hl => this.local hl⟩
  obtain ⟨_, b, _, _, _, hu, _⟩ := this
  rw [hu]; rfl
 refine Wp.block ?_
 refine Wp.loop (fun k : Nat => ⟨40, bQ [(1, .is (.own 0 0)), (3, .is (.own 48 0)), (4, .is (.fn (.func 36) [] [.own 48 0])), (17, .is (.v (.slice a1 p.ty.length c1))), (18, .is (.v (.int .i64 p.ty.length))), (19, .is (.v (.int .i64 (k : Nat))))], bY [(0, .cells 29 [.v (.slice a1 p.ty.length c1), .v (.slice a2 p.tx.length c2), .v (.slice a3 p.co.length c3), .v (.int .i64 p.src), .v (.int .i64 p.vw)]), (48, .obj [.string (kq (mn p k))] lI)]⟩) (fun k => k <= p.ty.length) (fun k => p.ty.length - k) 0 ?_ (Nat.zero_le _) ?_
 ·exact wM (fun k => .key k) (ab e8 (show kq (mn p 0) = ⟨#[]⟩ from rfl))
 rintro k hk
 refine vR (Γ98 p a1 a2 a3 c1 c2 c3 hb) e8 ?_
 refine Wp.seq ?_
 refine wC e8 (fun hc => ?_) (fun hc => ?_)
 ·have hlt : k < p.ty.length := by
   simp at hc
   omega
  have wk : IntKind.i64.wrap ((k : Int) + 1) = ((k + 1 : Nat) : Int) := by rw [aa (by omega) (by omega)]; omega
  obtain ⟨b, o, hao, x1⟩ := ll hp.ty hlt
  have hsn := x5 hlt
  have hcat := o9 (I9 hz k) (by rw [va hk]; omega)
  have hst : (⟨#[116, 121, 112, 101, 32, 47]⟩ ++ p.ty[k] ++ ⟨#[47]⟩ : ByteArray).size = p.ty[k].size + 7 := DY p.ty[k]
  have hs1 := hz.z1 _ (List.getElem_mem hlt)
  have z6 : (⟨#[116, 121, 112, 101, 32, 47]⟩ : ByteArray).size = 6 := rfl
  have z1 : (⟨#[47]⟩ : ByteArray).size = 1 := rfl
  have e1 := kP (mn p k) (Vj p.ty[k])
  rw [<- hsn] at e1
  have e2 : Vj p.ty[k] = ⟨#[116, 121, 112, 101, 32, 47]⟩ ++ p.ty[k] ++ ⟨#[47]⟩ := rfl
  generalize p.ty[k] = x at *
  refine wK ?_
  refine Wp.seq (Wp.block ?_)
  refine wR (Γ98 p a1 a2 a3 c1 c2 c3 hb) (de e8 hao x1) ?_ ?_
  ·omega
  refine wr (Γ98 p a1 a2 a3 c1 c2 c3 hb) e8 ?_ ?_
  ·rw [ByteArray.size_append, ByteArray.size_append, ByteArray.size_append]
   omega
  refine vr (Γ98 p a1 a2 a3 c1 c2 c3 hb) (ab e8 wk) ?_
  refine ⟨k + 1, by omega, by omega, ?_⟩
  exact wM (fun k => .key k) (eH e8 e1 e2 hao)
 have hk' : k = p.ty.length := by
  simp at hc
  omega
 subst hk'
 rw [<- xw]
 refine wE ?_
 refine Wp.seq ?_
 refine vR (Γ98 p a1 a2 a3 c1 c2 c3 hb) e8 ?_
 refine Wp.block ?_
 refine Wp.loop (fun k : Nat => ⟨100, bQ [(1, .is (.own 0 0)), (3, .is (.own 48 0)), (4, .is (.fn (.func 36) [] [.own 48 0])), (30, .is (.v (.slice a2 p.tx.length c2))), (31, .is (.v (.int .i64 p.tx.length))), (32, .is (.v (.int .i64 (k : Nat))))], bY [(0, .cells 29 [.v (.slice a1 p.ty.length c1), .v (.slice a2 p.tx.length c2), .v (.slice a3 p.co.length c3), .v (.int .i64 p.src), .v (.int .i64 p.vw)]), (48, .obj [.string (kq (ld p k))] lI)]⟩) (fun k => k <= p.tx.length) (fun k => p.tx.length - k) 0 ?_ (Nat.zero_le _) ?_
 ·exact wM (fun k => .key k) e8
 rintro k hk
 refine vR (Γ98 p a1 a2 a3 c1 c2 c3 hb) e8 ?_
 refine Wp.seq ?_
 refine wC e8 (fun hc => ?_) (fun hc => ?_)
 ·have hlt : k < p.tx.length := by
   simp at hc
   omega
  have wk : IntKind.i64.wrap ((k : Int) + 1) = ((k + 1 : Nat) : Int) := by rw [aa (by omega) (by omega)]; omega
  obtain ⟨b, o, hao, x1⟩ := ll hp.tx hlt
  have hsn := xJ hlt
  have hcat := o9 (A7 hz k) (by rw [mB hk]; omega)
  have hst : (⟨#[116, 101, 120, 116, 32]⟩ ++ np p.tx[k] : ByteArray).size <= 4 * p.tx[k].size + 7 := D4 p.tx[k]
  have hs1 := hz.z2 _ (List.getElem_mem hlt)
  have e1 := kP (ld p k) (U2 p.tx[k])
  rw [<- hsn] at e1
  have e2 : U2 p.tx[k] = ⟨#[116, 101, 120, 116, 32]⟩ ++ np p.tx[k] := rfl
  generalize p.tx[k] = x at *
  refine wK ?_
  refine Wp.seq (Wp.block ?_)
  refine wR (Γ98 p a1 a2 a3 c1 c2 c3 hb) (de e8 hao x1) ?_ ?_
  ·omega
  refine wr (Γ98 p a1 a2 a3 c1 c2 c3 hb) e8 ?_ ?_
  ·have z5 : (⟨#[116, 101, 120, 116, 32]⟩ : ByteArray).size = 5 := rfl
   have := qP x
   exact ⟨hs1, by omega, by omega⟩
  refine vr (Γ98 p a1 a2 a3 c1 c2 c3 hb) (ab e8 wk) ?_
  refine ⟨k + 1, by omega, by omega, ?_⟩
  exact wM (fun k => .key k) (eH e8 e1 e2 hao)
 have hk' : k = p.tx.length := by
  simp at hc
  omega
 subst hk'
 have hcat := o9 (A7 hz p.tx.length) (by rw [mB (Nat.le_refl _)]; omega)
 have e1 := kP (ld p p.tx.length) (o7 p.src p.vw)
 rw [<- rm] at e1
 have hms := oB hs hb
 refine wE ?_
 refine l9 (Γ98 p a1 a2 a3 c1 c2 c3 hb) e8 ?_ ?_
 ·have z5 : (⟨#[109, 97, 105, 110, 32]⟩ : ByteArray).size = 5 := rfl
  have z1 : (⟨#[32]⟩ : ByteArray).size = 1 := rfl
  have := hs.s0
  have := hs.s1
  have := hs.v0
  have := hs.v1
  have := bT hs.s0 (by omega)
  have := bT hs.v0 (by omega)
  unfold o7 at hms
  repeat rw [ByteArray.size_append]
  exact ⟨⟨⟨by omega, by omega⟩, ht⟩, by omega, by omega, ⟨⟨by omega, by omega⟩, ht⟩, by omega, by omega⟩
 refine Wp.seq ?_
 refine vR (Γ98 p a1 a2 a3 c1 c2 c3 hb) e8 ?_
 refine Wp.block ?_
 refine Wp.loop (fun k : Nat => ⟨200, bQ [(1, .is (.own 0 0)), (3, .is (.own 48 0)), (4, .is (.fn (.func 36) [] [.own 48 0])), (54, .is (.v (.slice a3 p.co.length c3))), (55, .is (.v (.int .i64 p.co.length))), (56, .is (.v (.int .i64 (k : Nat))))], bY [(0, .cells 29 [.v (.slice a1 p.ty.length c1), .v (.slice a2 p.tx.length c2), .v (.slice a3 p.co.length c3), .v (.int .i64 p.src), .v (.int .i64 p.vw)]), (48, .obj [.string (kq (mS p k))] lI)]⟩) (fun k => k <= p.co.length) (fun k => p.co.length - k) 0 ?_ (Nat.zero_le _) ?_
 ·exact wM (fun k => .key k) (de e8 e1 @o7.eq_1)
 rintro k hk
 refine vR (Γ98 p a1 a2 a3 c1 c2 c3 hb) e8 ?_
 refine Wp.seq ?_
 refine wC e8 (fun hc => ?_) (fun hc => ?_)
 ·have hlt : k < p.co.length := by
   simp at hc
   omega
  have wk : IntKind.i64.wrap ((k : Int) + 1) = ((k + 1 : Nat) : Int) := by rw [aa (by omega) (by omega)]; omega
  obtain ⟨b, o, hao, x1, x2, x3, x4⟩ := kD hp.co hlt
  have hsn := yG hlt
  have hcat := o9 (IP hz hs hk) (by rw [uf]; omega)
  have hin := hs.ins hb k hlt
  have hst := uU (n := k) (by omega) (by omega) hin
  have e1 := kP (mS p k) (jo k p.co[k].1 p.co[k].2.1 p.co[k].2.2.1 p.co[k].2.2.2)
  rw [<- hsn] at e1
  generalize p.co[k] = x at *
  refine wK ?_
  refine Wp.seq (Wp.block ?_)
  refine wR (Γ98 p a1 a2 a3 c1 c2 c3 hb) (lX e8 hao x1 x2 x3 x4) ?_ ?_
  ·omega
  refine wr (Γ98 p a1 a2 a3 c1 c2 c3 hb) e8 ?_ ?_
  ·exact ⟨⟨⟨by omega, by omega, hin⟩, hg, ht⟩, by omega⟩
  refine vr (Γ98 p a1 a2 a3 c1 c2 c3 hb) (ab e8 wk) ?_
  refine ⟨k + 1, by omega, by omega, ?_⟩
  exact wM (fun k => .key k) (de e8 e1 hao)
 have hk' : k = p.co.length := by
  simp at hc
  omega
 subst hk'
 refine wE ?_
 refine vR (Γ98 p a1 a2 a3 c1 c2 c3 hb) e8 ?_
 refine wZ e8 ?_
 exact fun E => rfl
end
section
open Go.RowKit Go.LE
set_option maxRecDepth 10000
def pK : Pg := ⟨[⟨#[97, 42]⟩], [], [(1, 0, 2, 0), (0, 0, 0, 0), (4, 0, 0, 0), (2, 0, 0, 0)], 0, 0⟩
theorem Zk : yE ⟨#[97, 42]⟩ = true := by decide +kernel
theorem X5 : jZ pK = (0, 0, ⟨#[]⟩) := by
 have h : jZ pK = jN pK := by
  unfold jZ
  rw [if_neg (by decide)]
  rw [ir]
  intro i hi
  have : i = 0 := by simp [pK] at hi; omega
  subst this
  show (!yE ⟨#[97, 42]⟩) = false
  rw [Zk]; rfl
 rw [h]
 decide +kernel
def YX : ByteArray := ⟨#[116, 121, 112, 101, 32, 47, 97, 42, 47, 10, 109, 97, 105, 110, 32, 48, 32, 48, 10, 48, 32, 99, 97, 108, 108, 32, 50, 10, 49, 32, 104, 97, 108, 116, 10, 50, 32, 101, 109, 105, 116, 32, 115, 10, 51, 32, 114, 101, 116, 10]⟩
theorem YV : oE pK = YX := by
 rw [oE, if_pos X5]
 decide +kernel
theorem SI : Ab pK := ⟨by decide, by decide, by decide, by decide, by decide⟩
section
variable (a1 a2 a3 : Option Addr) (c1 c2 c3 : Nat)
def zA (p : Pg) (hz : Ab p) : aU Tryz.prog 17 where
 pre := fun W bs as_ => as_ = [.val (Bc p a1 a2 a3 c1 c2 c3)] /\ zQ p W (Out bs) a1 a2 a3 /\ dK W (Out bs) /\ ba W (Out bs) /\ fh W (Out bs)
 res := fun _ _ => .string (oE p)
 enters := Tryz.call17
 ok := by
  intro W w bs us as_ hk hu hp
  obtain ⟨rfl, h1, h2, h3, h4⟩ := hp
  match us, hu with
  | [x], hu =>
   obtain ⟨rfl, _⟩ := hu
   exact vJ p a1 a2 a3 c1 c2 c3 w (h1.ok hz.b hk) hz (h2.fM hk (by simp)) (h3.fM hk (by simp)) (h4.fM hk (by simp))
noncomputable def Γ99 : Env Tryz.prog := ⟨fun | 15 => some (nG pK a1 a2 a3 c1 c2 c3 SI.b).spec | 17 => some (zA a1 a2 a3 c1 c2 c3 pK SI).spec | _ => none, fun | 39 => some Ah | _ => none, fun _ _ => none⟩
theorem Gt99c15 : (Γ99 a1 a2 a3 c1 c2 c3).sp 15 = some (nG pK a1 a2 a3 c1 c2 c3 SI.b).spec := rfl
theorem Gt99c17 : (Γ99 a1 a2 a3 c1 c2 c3).sp 17 = some (zA a1 a2 a3 c1 c2 c3 pK SI).spec := rfl
theorem Gt99ceq39 : (Γ99 a1 a2 a3 c1 c2 c3).eqs 39 = some Ah := rfl
end
def J8 := (aq @List.replicate_succ.{0} @List.replicate_zero.{0} @av @af jV jW HS (aq HB E9 cZ c9 cR cV ez (aq ey eB eC eA ew Dw B4 (aq DD DQ O0 QD Pq QZ GN (aq GS GB GU Hl Gu Fe E5 (aq Fs Ak zz AP zl AJ z7 (aq AE Ae zI zd Hm G5 HT (aq Hj HX Gy En F2 ua @aN (aq @au @aA @az @uB @HQ.eq_1 @tZ.eq_1 @Gt99c15 (eH @Gt99c17 @Gt99ceq39 @nG.eq_1 @zA.eq_1))))))))))
set_option maxHeartbeats 2000000 in
theorem GO (w : World) (hg : dK w (Out [])) (he : ba w (Out [])) (ht : fh w (Out [])) : Calls Tryz.prog 11 #[] w fun e w' => e = .returned (.bool true) /\ LE.ai w [] w' := by
 refine aj (nt := 18) [.tmp 0] Tryz.func11 rfl rfl rfl ?_
 refine vR Γ0 J8 ?_
 refine vR Γ0 J8 ?_
 refine Wp.kf 8 (ev (ab J8 @aB)) (fun E => by simp only [an, den, aB]; exact rfl) fun W1 bs1 ao1 d1 hx1 hs1 hd1 => ?_
 refine Wp.kf 48 (ev (ab J8 @aB)) (fun E => by simp only [an, den, aB]; exact rfl) fun W2 bs2 ao2 d2 hx2 hs2 hd2 => ?_
 have r1 : eP W2 (Out bs2) ao1 (dH pK.ty) := (hs1.out fun b hb => hb.out).mono hx2.h9
 have r2 : eP W2 (Out bs2) none (dH pK.tx) := .inl rfl
 have r3 : eP W2 (Out bs2) ao2 (j4 pK.co) := hs2.out fun b hb => hb.out
 have g1 := (hg.mono hx1.h9).mono hx2.h9
 have g2 := (he.mono hx1.h9).mono hx2.h9
 have g3 := (ht.mono hx1.h9).mono hx2.h9
 refine wR (Γ99 ao1 none ao2 d1 0 d2) (de J8 @X5 @YV) ?_ ?_
 ·exact ⟨⟨rfl, ⟨r1, r2, r3⟩, g1, g2⟩, fun _ => ⟨rfl, ⟨r1, r2, r3⟩, g1, g2, g3⟩⟩
 refine wZ J8 ?_
 exact fun E => rfl
end
section
open Go.RowKit Go.LE
set_option maxRecDepth 10000
theorem Qx {p : Pg} {W : World} {S : Nat -> Prop} {u : Value} (h : ∃ cs, u = Sh.Cj.val cs /\ (VB p).Φ cs W S) : ∃ (b1 b2 b3 : Option Addr) (d1 d2 d3 : Nat), u = Bc p b1 b2 b3 d1 d2 d3 /\ zQ p W S b1 b2 b3 := by
 obtain ⟨cs, rfl, b1, b2, b3, d1, d2, d3, rfl, h⟩ := h
 exact ⟨b1, b2, b3, d1, d2, d3, rfl, h⟩
theorem Qk {w : World} {S : Nat -> Prop} {sh : Sh} {Φ : FK} {us : List Value} {as_ : List AV} (h : xq w S [some (sh, Φ)] us as_) : ∃ x a, us = [x] /\ as_ = [a] /\ ∃ cs, x = sh.val cs /\ Φ.Φ cs w S := by
 rcases us with _ | ⟨x, us⟩
 ·exact h.elim
 rcases as_ with _ | ⟨a, as_⟩
 ·exact h.elim
 obtain ⟨h1, h2⟩ := h
 rcases us with _ | ⟨y, us⟩
 ·rcases as_ with _ | ⟨b, as_⟩
  ·exact ⟨x, a, rfl, rfl, h1⟩
  ·exact h2.elim
 ·exact h2.elim
theorem UD {w : World} {S : Nat -> Prop} (h : dK w S) : dK w (Out []) := h.mono fun b _ _ => ⟨rfl, by simp [Out]⟩
theorem Tt {w : World} {S : Nat -> Prop} (h : ba w S) : ba w (Out []) := h.mono fun b _ _ => ⟨rfl, by simp [Out]⟩
section
variable (p : Pg) (hb : PgB p)
end
def y7 : aU Tryz.prog 11 where
 pre := fun W bs as_ => as_ = [] /\ dK W (Out bs) /\ ba W (Out bs) /\ fh W (Out bs)
 res := fun _ _ => .bool true
 enters := Tryz.call11
 ok := by
  intro W w bs us as_ hk hu hp
  obtain ⟨rfl, h1, h2, h3⟩ := hp
  match us, hu with
  | [], _ => exact GO w (h1.fM hk (by simp)) (h2.fM hk (by simp)) (h3.fM hk (by simp))
section
variable (p : Pg) (a1 a2 a3 : Option Addr) (c1 c2 c3 : Nat) (hb : PgB p) (hn : p.ty.length <= 1048576 /\ p.tx.length <= 1048576 /\ p.co.length <= 1048576) (G : Nat -> Prop)
end
end
section
open Go.RowKit Go.LE
set_option maxRecDepth 10000
def Be (u : ByteArray) : Nat -> Nat
 | 0 => 0
 | i + 1 => if bt u i = 107 then Be u i else Be u i + 1
def Gc (u : ByteArray) (k a b : Int) (h : ByteArray) : Nat -> ByteArray
 | 0 => h
 | i + 1 => if bt u i = 107 then Gc u k a b h i ++ (⟨#[32]⟩ ++ z8 k) else Gc u k a b h i ++ (⟨#[32]⟩ ++ ig (if Be u i = 0 then a else b))
theorem Wf (m i : Nat) (hm : m < 21) (hi : i < (cP m).2.size) (h : ¬ bt (cP m).2 i = 107) : Be (cP m).2 i = 0 \/ Be (cP m).2 i = 1 := by
 have h1 : ∀ b : Fin 21, (cP b.val).2.size <= 3 := by decide +kernel
 have h2 : ∀ (b : Fin 21) (j : Fin 3), j.val < (cP b.val).2.size -> ¬ bt (cP b.val).2 j.val = 107 -> Be (cP b.val).2 j.val = 0 \/ Be (cP b.val).2 j.val = 1 := by decide +kernel
 have := h1 ⟨m, hm⟩
 exact h2 ⟨m, hm⟩ ⟨i, by simp only at this; omega⟩ hi h
theorem tV (m : Nat) (hm : m < 21) : (cP m).2.size <= 3 /\ (cP m).1.size <= 5 /\ (cP m).1 = (l6 m).1 := by
 have h1 : ∀ b : Fin 21, (cP b.val).2.size <= 3 /\ (cP b.val).1.size <= 5 /\ (cP b.val).1 = (l6 b.val).1 := by decide +kernel
 exact h1 ⟨m, hm⟩
theorem Rt (m : Nat) (hm : m < 21) (n k a b : Int) : Gc (cP m).2 k a b (wv n (cP m).1) (cP m).2.size = jo n m k a b := by
 rw [(tV m hm).2.2]
 have : m = 0 \/ m = 1 \/ m = 2 \/ m = 3 \/ m = 4 \/ m = 5 \/ m = 6 \/ m = 7 \/ m = 8 \/ m = 9 \/ m = 10 \/ m = 11 \/ m = 12 \/ m = 13 \/ m = 14 \/ m = 15 \/ m = 16 \/ m = 17 \/ m = 18 \/ m = 19 \/ m = 20 := by omega
 rcases this with rfl | rfl | rfl | rfl | rfl | rfl | rfl | rfl | rfl | rfl | rfl | rfl | rfl | rfl | rfl | rfl | rfl | rfl | rfl | rfl | rfl
 all_goals rfl
theorem Dq {u : ByteArray} {k a b : Int} {h : ByteArray} (ha : 0 <= a /\ a <= 9223372036854775807) (hb : 0 <= b /\ b <= 9223372036854775807) : ∀ i, (Gc u k a b h i).size <= h.size + 20 * i
 | 0 => by show h.size <= _; omega
 | i + 1 => by
  have ih := Dq (u := u) (k := k) (h := h) ha hb i
  have z32 : (⟨#[32]⟩ : ByteArray).size = 1 := rfl
  have zsv : (z8 k).size = 1 := by unfold z8; split <;> rfl
  have za := bT ha.1 ha.2
  have zb := bT hb.1 hb.2
  unfold Gc
  split
  ·rw [ByteArray.size_append, ByteArray.size_append, z32, zsv]; omega
  ·rw [ByteArray.size_append, ByteArray.size_append, z32]
   split <;> omega
noncomputable def Γ97 : Env Tryz.prog := ⟨fun | 62 => some xS.spec | 70 => some yD.spec | _ => none, fun | _ => none, fun _ _ => none⟩
theorem Gt97c62 : Γ97.sp 62 = some xS.spec := rfl
theorem Gt97c70 : Γ97.sp 70 = some yD.spec := rfl
def vS (b o d : Nat) : Nat -> Value
 | 0 => .slice (some ⟨b, o, none⟩) 2 d
 | 1 => .slice (some ⟨b, o + 1, none⟩) 1 (d - 1)
 | _ => .slice (wz (some ⟨b, o + 1, none⟩) 1 1 (d - 1)) 0 (d - 1 - 1)
def gr := (aq @List.replicate_succ.{0} @List.replicate_zero.{0} @av @af jV jW XN (aq XB X8 XQ jb cW cX c8 (aq cT cZ c9 cR cV gz gv (aq gi gk gn ez ey eB eC (aq eA ew Bk CM Bj Bw CJ (aq DK Bv CP Dm Vs UO CX (aq B8 BC Du @aN @au @aA @az (lX @x7 @xl @rj @rB Gt97c62 Gt97c70))))))))
set_option maxHeartbeats 4000000 in
theorem Kp (n op k a b : Int) (h0 : 0 <= n) (h1 : n <= 9223372036854775807) (hi : mY op k a b) (w : World) : Calls Tryz.prog 77 #[.int .i64 n, U3 op k a b] w fun e w' => e = .returned (.string (jo n op k a b)) /\ LE.ai w [] w' := by
 obtain ⟨o0, o1, hk, a0, a1, b0, b1⟩ := hi
 obtain ⟨m, rfl⟩ := Int.eq_ofNat_of_zero_le o0
 have hm : m < 21 := by omega
 rw [<- Rt m hm]
 obtain ⟨z1, z2, z3⟩ := tV m hm
 have z32 : (⟨#[32]⟩ : ByteArray).size = 1 := rfl
 have hnn := bT h0 h1
 have hJ := Wf m
 have hsv : ∀ k, (z8 k).size = 1 := fun k => by unfold z8; split <;> rfl
 refine aj (nt := 53) [.tmp 4] Tryz.func77 rfl rfl rfl ?_
 refine vR Γ97 gr ?_
 refine vR Γ97 gr ?_
 generalize (cP m).1 = wd at *
 generalize (cP m).2 = us at *
 refine wR Γ97 gr ?_ ?_
 ·exact ⟨⟨h0, h1⟩, by rw [z32]; omega, by rw [ByteArray.size_append, z32]; omega⟩
 refine vR Γ97 gr ?_
 refine Wp.kf 160 (ev (de gr @an.eq_1 @an.eq_2)) (fun E => by simp only [an, den, an]; exact rfl) fun W1 bs1 ao1 d1 hx1 hs1 hd1 => ?_
 obtain h | ⟨vb, vo, rfl, hc0⟩ := hs1
 ·cases h
 obtain ⟨⟨hnb, _⟩, x1⟩ := hc0 0 (by simp)
 obtain ⟨_, x2⟩ := hc0 1 (by simp)
 simp only [Nat.add_zero, List.getElem_cons_zero, List.getElem_cons_succ] at x1 x2
 clear hc0
 have hsz := fun i => Dq (u := us) (k := k) (h := wv n wd) ⟨a0, a1⟩ ⟨b0, b1⟩ i
 have hl1 := uC (wd := wd) h0 h1 z2
 refine Wp.seq ?_
 refine vR Γ97 gr ?_
 refine Wp.block ?_
 refine Wp.loop (fun i : Nat => ⟨60, bQ [(3, .is (.own 0 0)), (6, .is (.v (.string us))), (7, .is (.v (.string (Gc us k a b (wv n wd) i)))), (8, .is (.v (vS vb vo d1 (Be us i)))), (9, .is (.v (.int .i64 (i : Nat))))], bY [(0, .cells 85 [.v (.int .i64 m), .v (.int .i64 k), .v (.int .i64 a), .v (.int .i64 b)])]⟩) (fun i => i <= us.size) (fun i => us.size - i) 0 ?_ (Nat.zero_le _) ?_
 ·exact wM (fun k => .key k) (aq gr @Be.eq_1 @Be.eq_2 @vS.eq_1 @vS.eq_2 @vS.eq_3 @Gc.eq_1 (ab @Gc.eq_2 @wv.eq_1))
 rintro i hi
 refine Wp.seq ?_
 refine vR Γ97 gr ?_
 refine wC gr (fun hc => ?_) (fun hc => ?_)
 ·have hlt : i < us.size := by
   simp at hc
   omega
  have wk : IntKind.i64.wrap ((i : Int) + 1) = ((i + 1 : Nat) : Int) := by rw [aa (by omega) (by omega)]; omega
  refine wK ?_
  refine Wp.seq (Wp.block ?_)
  refine Wp.seq ?_
  refine wR Γ97 gr ?_ ?_
  ·omega
  refine wC gr (fun hc => ?_) (fun hc => ?_)
  ·have e1 : Be us (i + 1) = Be us i := by rw [Be, if_pos (by simpa using hc)]
   have e2 : Gc us k a b (wv n wd) (i + 1) = Gc us k a b (wv n wd) i ++ (⟨#[32]⟩ ++ z8 k) := by rw [Gc, if_pos (by simpa using hc)]
   refine bp ⟨100, bQ [(3, .is (.own 0 0)), (6, .is (.v (.string us))), (7, .is (.v (.string (Gc us k a b (wv n wd) (i + 1))))), (8, .is (.v (vS vb vo d1 (Be us (i + 1))))), (9, .is (.v (.int .i64 (i : Nat))))], bY [(0, .cells 85 [.v (.int .i64 m), .v (.int .i64 k), .v (.int .i64 a), .v (.int .i64 b)])]⟩ ?_ ?_
   ·rw [e2, e1]
    refine vR Γ97 gr ?_
    have hz := hsz i
    refine wC gr (fun hc => ?_) (fun hc => ?_)
    ·have h : k = 0 := by simpa using hc
     subst h
     have e3 : (⟨#[32]⟩ : ByteArray) ++ z8 0 = ⟨#[32, 115]⟩ := by decide +kernel
     have e4 : (⟨#[32, 115]⟩ : ByteArray).size = 2 := rfl
     refine wr Γ97 gr ?_ ?_
     ·rw [e4]; omega
     exact wM (fun k => .key k) (ab gr e3)
    ·have h : ¬ k = 0 := by simpa using hc
     have e3 : (⟨#[32]⟩ : ByteArray) ++ z8 k = ⟨#[32, 118]⟩ := by
      rw [z8, if_neg h]
      decide +kernel
     have e4 : (⟨#[32, 118]⟩ : ByteArray).size = 2 := rfl
     refine wr Γ97 gr ?_ ?_
     ·rw [e4]; omega
     exact wM (fun k => .key k) (ab gr e3)
   refine wE ?_
   refine vr Γ97 (ab gr wk) ?_
   refine ⟨i + 1, by omega, by omega, ?_⟩
   exact wM (fun k => .key k) gr
  ·have n107 : ¬ bt us i = 107 := by simpa using hc
   have e1 : Be us (i + 1) = Be us i + 1 := by rw [Be, if_neg n107]
   have e2 : Gc us k a b (wv n wd) (i + 1) = Gc us k a b (wv n wd) i ++ (⟨#[32]⟩ ++ ig (if Be us i = 0 then a else b)) := by rw [Gc, if_neg n107]
   have hz := hsz i
   have za := bT a0 a1
   have zb := bT b0 b1
   refine wK ?_
   rcases hJ i hm hlt n107 with hj | hj
   ·rw [hj, if_pos rfl] at e2
    rw [hj] at e1 ⊢
    refine wR Γ97 (oc gr @vS.eq_1 @vS.eq_2 @vS.eq_3 x1) ?_ ?_
    ·exact ⟨by decide, hnb, ⟨a0, a1⟩, by rw [z32]; omega, by rw [ByteArray.size_append, z32]; omega⟩
    have hd2 : ¬ d1 = 1 := by omega
    have hsl : wz (some ⟨vb, vo, none⟩) 1 1 d1 = some ⟨vb, vo + 1, none⟩ := by simp [wz, hd2, Addr.add]
    refine wr Γ97 (oc gr @vS.eq_1 @vS.eq_2 @vS.eq_3 hsl) ?_ ?_
    ·exact ⟨by decide, by omega⟩
    refine vr Γ97 (ab gr wk) ?_
    refine ⟨i + 1, by omega, by omega, ?_⟩
    exact wM (fun k => .key k) (lX gr e1 e2 @vS.eq_1 @vS.eq_2 @vS.eq_3)
   ·rw [hj, if_neg (by decide)] at e2
    rw [hj] at e1 ⊢
    refine wR Γ97 (oc gr @vS.eq_1 @vS.eq_2 @vS.eq_3 x2) ?_ ?_
    ·exact ⟨by decide, hnb, ⟨b0, b1⟩, by rw [z32]; omega, by rw [ByteArray.size_append, z32]; omega⟩
    refine wr Γ97 (eH gr @vS.eq_1 @vS.eq_2 @vS.eq_3) ?_ ?_
    ·exact ⟨by decide, by omega⟩
    refine vr Γ97 (ab gr wk) ?_
    refine ⟨i + 1, by omega, by omega, ?_⟩
    exact wM (fun k => .key k) (lX gr e1 e2 @vS.eq_1 @vS.eq_2 @vS.eq_3)
 ·have hk' : i = us.size := by
   simp at hc
   omega
  subst hk'
  refine wE ?_
  refine vR Γ97 gr ?_
  refine wZ gr ?_
  exact fun E => rfl
end
section
open Go.RowKit Go.LE
set_option maxRecDepth 10000
def zm : aU Tryz.prog 77 where
 pre := fun W bs as_ => ∃ n op k a b : Int, as_ = [.val (.int .i64 n), .val (U3 op k a b)] /\ 0 <= n /\ n <= 9223372036854775807 /\ mY op k a b
 res := fun _ as_ => match as_ with
  | [.val (.int _ n), .val (.agg ins)] => (match ins.toList with
   | [.int _ op, .int _ k, .int _ a, .int _ b] => .string (jo n op k a b)
   | _ => undef)
  | _ => undef
 enters := Tryz.call77
 ok := by
  intro W w bs us as_ hk hu hp
  obtain ⟨n, op, k, a, b, rfl, h0, h1, hi⟩ := hp
  match us, hu with
  | [x, y], hu =>
   obtain ⟨rfl, rfl, _⟩ := hu
   exact Kp n op k a b h0 h1 hi w
section
variable (W : World) (bs : List Nat) (n op k a b : Int)
theorem Fb : zm.pre W bs [.val (.int .i64 n), .val (.agg #[.int .i64 op, .int .i64 k, .int .i64 a, .int .i64 b])] = (0 <= n /\ n <= 9223372036854775807 /\ mY op k a b) :=
 propext ⟨fun ⟨n', op', k', a', b', h, h2⟩ => by
  cases h
  exact h2, fun h => ⟨n, op, k, a, b, rfl, h⟩⟩
theorem Fp : zm.res W [.val (.int .i64 n), .val (.agg #[.int .i64 op, .int .i64 k, .int .i64 a, .int .i64 b])] = .string (jo n op k a b) := rfl
end
theorem nA (l : List ByteArray) (s : ByteArray) : List.map SV.v (dH l) ++ [.v (.string s)] = List.map SV.v (dH (l ++ [s])) := by simp [dH]
noncomputable def Γ100 : Env Tryz.prog := ⟨fun | 61 => some sX.spec | 62 => some xS.spec | 77 => some zm.spec | _ => none, fun | _ => none, fun _ _ => none⟩
theorem Gt100c61 : Γ100.sp 61 = some sX.spec := rfl
theorem Gt100c62 : Γ100.sp 62 = some xS.spec := rfl
theorem Gt100c77 : Γ100.sp 77 = some zm.spec := rfl
def gU := (aq @List.replicate_succ.{0} @List.replicate_zero.{0} @av @af jV jW HS (aq HB E9 jb cW cX c8 cT (aq cZ c9 cR cV gz gv gi (aq gk gn ez ey eB eC eA (aq ew Dw B4 DD DQ YO YA (aq SH Sz Sw SQ PI QU NX (aq NJ N0 M9 QJ Ps OU Bk (aq CM Bj Bw CJ DK Bv CP (aq Dm yn yy xV xN @aN @au (aq @aA @az @x7 @xl @D9 @DS Gt100c61 (eH Gt100c62 Gt100c77 @Fp @Fb)))))))))))
set_option maxHeartbeats 4000000 in
theorem EU (p : Pg) (a1 a2 a3 : Option Addr) (c1 c2 c3 : Nat) (w : World) (hp : qd p w a1 a2 a3) (hz : Ab p) (hs : Vl p) :
  Calls Tryz.prog 42 #[Bc p a1 a2 a3 c1 c2 c3] w fun e w' =>
   ∃ u fp, e = .returned u /\ (∀ E', bn E' u fp w' (.row 9 1 (lz p).length ((dH (lz p)).map .v))) /\ (∀ b ∈ fp, w.heap.size <= b /\ b < w'.heap.size) /\ LE.ai w [] w' := by
 have l1 := hz.l1
 have l2 := hz.l2
 have l3 := hz.l3
 have hb := hz.b
 refine mP (nt := 71) id [.tmp 2] Tryz.func42 rfl rfl rfl ?_
 refine vR Γ100 gU ?_
 refine vR Γ100 gU ?_
 refine Wp.seq ?_
 refine vR Γ100 gU ?_
 refine Wp.block ?_
 refine Wp.loop (fun k : Nat => ⟨20, bQ [(1, .is (.own 0 0)), (3, .is (.hd 19)), (4, .is (.v (.int .i64 (k : Nat))))], bY [(0, .cells 35 [.v (.slice a1 p.ty.length c1), .v (.slice a2 p.tx.length c2), .v (.slice a3 p.co.length c3), .v (.int .i64 p.src), .v (.int .i64 p.vw)]), (19, .row 9 1 (mn p k).length (List.map SV.v (dH (mn p k))))]⟩) (fun k => k <= p.ty.length) (fun k => p.ty.length - k) 0 ?_ (Nat.zero_le _) ?_
 ·exact wM (fun k => if k = 19 then .nil else .key k) (de gU (show mn p 0 = [] from rfl) @dH.eq_1)
 rintro k hk
 refine Wp.seq ?_
 refine vR Γ100 gU ?_
 refine wC gU (fun hc => ?_) (fun hc => ?_)
 ·have hlt : k < p.ty.length := by
   simp at hc
   omega
  have wk : IntKind.i64.wrap ((k : Int) + 1) = ((k + 1 : Nat) : Int) := by rw [aa (by omega) (by omega)]; omega
  obtain ⟨b, o, hao, x1⟩ := ll hp.ty hlt
  have hsn := x5 hlt
  have hln := va hk
  have hs1 := hz.z1 _ (List.getElem_mem hlt)
  have z6 : (⟨#[116, 121, 112, 101, 32, 47]⟩ : ByteArray).size = 6 := rfl
  have z1 : (⟨#[47]⟩ : ByteArray).size = 1 := rfl
  have e1 := nA (mn p k) (Vj p.ty[k])
  rw [<- hsn] at e1
  have e2 : (mn p (k + 1)).length = (mn p k).length + 1 := by rw [hsn, List.length_append]; rfl
  have e3 : Vj p.ty[k] = ⟨#[116, 121, 112, 101, 32, 47]⟩ ++ p.ty[k] ++ ⟨#[47]⟩ := rfl
  rw [e3] at e1
  generalize p.ty[k] = x at *
  refine wK ?_
  refine Wp.seq (Wp.block ?_)
  refine wr Γ100 (de gU hao x1) ?_ ?_
  ·exact ⟨⟨by omega, by omega⟩, by omega, by rw [ByteArray.size_append]; omega, by unfold maxLen; omega, by omega⟩
  refine vr Γ100 (ab gU wk) ?_
  refine ⟨k + 1, by omega, by omega, ?_⟩
  exact wM (fun k => if k = 19 then .key 272 else .key k) (eH gU hao e1 e2)
 have hk' : k = p.ty.length := by
  simp at hc
  omega
 subst hk'
 rw [<- xw]
 refine wE ?_
 refine Wp.seq ?_
 refine vR Γ100 gU ?_
 refine Wp.block ?_
 refine Wp.loop (fun k : Nat => ⟨80, bQ [(1, .is (.own 0 0)), (3, .is (.hd 19)), (5, .is (.v (.int .i64 (k : Nat))))], bY [(0, .cells 35 [.v (.slice a1 p.ty.length c1), .v (.slice a2 p.tx.length c2), .v (.slice a3 p.co.length c3), .v (.int .i64 p.src), .v (.int .i64 p.vw)]), (19, .row 9 1 (ld p k).length (List.map SV.v (dH (ld p k))))]⟩) (fun k => k <= p.tx.length) (fun k => p.tx.length - k) 0 ?_ (Nat.zero_le _) ?_
 ·exact wM (fun k => .key k) gU
 rintro k hk
 refine Wp.seq ?_
 refine vR Γ100 gU ?_
 refine wC gU (fun hc => ?_) (fun hc => ?_)
 ·have hlt : k < p.tx.length := by
   simp at hc
   omega
  have wk : IntKind.i64.wrap ((k : Int) + 1) = ((k + 1 : Nat) : Int) := by rw [aa (by omega) (by omega)]; omega
  obtain ⟨b, o, hao, x1⟩ := ll hp.tx hlt
  have hsn := xJ hlt
  have hln := mB hk
  have hs1 := hz.z2 _ (List.getElem_mem hlt)
  have z5 : (⟨#[116, 101, 120, 116, 32]⟩ : ByteArray).size = 5 := rfl
  have hq := qP p.tx[k]
  have e1 := nA (ld p k) (U2 p.tx[k])
  rw [<- hsn] at e1
  have e2 : (ld p (k + 1)).length = (ld p k).length + 1 := by rw [hsn, List.length_append]; rfl
  have e3 : U2 p.tx[k] = ⟨#[116, 101, 120, 116, 32]⟩ ++ np p.tx[k] := rfl
  rw [e3] at e1
  generalize p.tx[k] = x at *
  refine wK ?_
  refine Wp.seq (Wp.block ?_)
  refine wr Γ100 (de gU hao x1) ?_ ?_
  ·exact ⟨⟨by omega, by omega⟩, hs1, by omega, by unfold maxLen; omega, by omega⟩
  refine vr Γ100 (ab gU wk) ?_
  refine ⟨k + 1, by omega, by omega, ?_⟩
  exact wM (fun k => if k = 19 then .key 752 else .key k) (eH gU hao e1 e2)
 have hk' : k = p.tx.length := by
  simp at hc
  omega
 subst hk'
 have hln := mB (p := p) (k := p.tx.length) (Nat.le_refl _)
 have hms := oB hs hb
 have e1 := nA (ld p p.tx.length) (o7 p.src p.vw)
 rw [<- rm] at e1
 have e2 : (mS p 0).length = (ld p p.tx.length).length + 1 := by rw [rm, List.length_append]; rfl
 have e3 : o7 p.src p.vw = ⟨#[109, 97, 105, 110, 32]⟩ ++ ig p.src ++ ⟨#[32]⟩ ++ ig p.vw := rfl
 rw [e3] at e1 hms
 refine wE ?_
 refine l9 Γ100 gU ?_ ?_
 ·have z5 : (⟨#[109, 97, 105, 110, 32]⟩ : ByteArray).size = 5 := rfl
  have z1 : (⟨#[32]⟩ : ByteArray).size = 1 := rfl
  have := hs.s0
  have := hs.s1
  have := hs.v0
  have := hs.v1
  have := bT hs.s0 (by omega)
  have := bT hs.v0 (by omega)
  repeat rw [ByteArray.size_append]
  exact ⟨⟨by omega, by omega⟩, by omega, by omega, ⟨by omega, by omega⟩, by omega, by unfold maxLen; omega, by omega⟩
 refine Wp.seq ?_
 refine vR Γ100 gU ?_
 refine Wp.block ?_
 refine Wp.loop (fun k : Nat => ⟨160, bQ [(1, .is (.own 0 0)), (3, .is (.hd 19)), (6, .is (.v (.int .i64 (k : Nat))))], bY [(0, .cells 35 [.v (.slice a1 p.ty.length c1), .v (.slice a2 p.tx.length c2), .v (.slice a3 p.co.length c3), .v (.int .i64 p.src), .v (.int .i64 p.vw)]), (19, .row 9 1 (mS p k).length (List.map SV.v (dH (mS p k))))]⟩) (fun k => k <= p.co.length) (fun k => p.co.length - k) 0 ?_ (Nat.zero_le _) ?_
 ·exact wM (fun k => if k = 19 then .key 768 else .key k) (de gU e1 e2)
 clear e1 e2 e3 hms hln
 rintro k hk
 refine Wp.seq ?_
 refine vR Γ100 gU ?_
 refine wC gU (fun hc => ?_) (fun hc => ?_)
 ·have hlt : k < p.co.length := by
   simp at hc
   omega
  have wk : IntKind.i64.wrap ((k : Int) + 1) = ((k + 1 : Nat) : Int) := by rw [aa (by omega) (by omega)]; omega
  obtain ⟨b, o, hao, x1, x2, x3, x4⟩ := kD hp.co hlt
  have hsn := yG hlt
  have hln := uf p k
  have hin := hs.ins hb k hlt
  have e1 := nA (mS p k) (jo k p.co[k].1 p.co[k].2.1 p.co[k].2.2.1 p.co[k].2.2.2)
  rw [<- hsn] at e1
  have e2 : (mS p (k + 1)).length = (mS p k).length + 1 := by rw [hsn, List.length_append]; rfl
  generalize p.co[k] = x at *
  refine wK ?_
  refine Wp.seq (Wp.block ?_)
  refine wr Γ100 (lX gU hao x1 x2 x3 x4) ?_ ?_
  ·exact ⟨⟨by omega, by omega⟩, ⟨by omega, by omega, hin⟩, by unfold maxLen; omega, by omega⟩
  refine vr Γ100 (ab gU wk) ?_
  refine ⟨k + 1, by omega, by omega, ?_⟩
  exact wM (fun k => if k = 19 then .key 1392 else .key k) (eH gU hao e1 e2)
 have hk' : k = p.co.length := by
  simp at hc
  omega
 subst hk'
 refine wE ?_
 refine vR Γ100 gU ?_
 refine wZ gU ?_
 exact ⟨_, ⟨by decide, .inl ⟨_, rfl, rfl⟩⟩, fun E => rfl⟩
def A5 (p : Pg) (a1 a2 a3 : Option Addr) (c1 c2 c3 : Nat) (hz : Ab p) (hs : Vl p) : xP Tryz.prog 42 where
 pre := fun W bs as_ => as_ = [.val (Bc p a1 a2 a3 c1 c2 c3)] /\ zQ p W (Out bs) a1 a2 a3
 T := 9
 s := 1
 n := fun _ _ => (lz p).length
 vs := fun _ _ => dH (lz p)
 tm := fun _ _ x => x
 g := fun _ _ v => v
 tmg := fun _ _ _ _ => rfl
 tmk := fun _ _ _ _ h => h
 enters := Tryz.call42
 ok := by
  intro W w bs us as_ hk hu hp
  obtain ⟨rfl, h1⟩ := hp
  match us, hu with
  | [x], hu =>
   obtain ⟨rfl, _⟩ := hu
   exact EU p a1 a2 a3 c1 c2 c3 w (h1.ok hz.b hk) hz hs
section
variable (p : Pg) (a1 a2 a3 : Option Addr) (c1 c2 c3 : Nat) (hz : Ab p) (hs : Vl p)
noncomputable def Γ101 : Env Tryz.prog := ⟨fun | 13 => some (zW p a1 a2 a3 c1 c2 c3 hz.b).spec | _ => none, fun _ => none, fun _ _ => none⟩
theorem Gt101c13 : (Γ101 p a1 a2 a3 c1 c2 c3 hz).sp 13 = some (zW p a1 a2 a3 c1 c2 c3 hz.b).spec := rfl
noncomputable def Γ102 : Env Tryz.prog := ⟨fun | 42 => some (A5 p a1 a2 a3 c1 c2 c3 hz hs).spec | _ => none, fun _ => none, fun _ _ => none⟩
theorem Gt102c42 : (Γ102 p a1 a2 a3 c1 c2 c3 hz hs).sp 42 = some (A5 p a1 a2 a3 c1 c2 c3 hz hs).spec := rfl
end
theorem Ks {l : List ByteArray} {k : Nat} (hk : k < l.length) : kq (l.take (k + 1)) = kq (l.take k) ++ l[k] ++ M6 := by
 rw [List.take_succ_eq_append_getElem hk, kP, ByteArray.append_assoc]
theorem QN (l : List ByteArray) (k : Nat) (hk : k < l.length) : (List.map SV.v (dH l)).getD k (SV.v undef) = SV.v (.string l[k]) := by
 simp [dH, List.getD_eq_getElem?_getD, hk]
def mc := (aq gU @Gt101c13 @Gt102c42 @zW.eq_1 @A5.eq_1 @PX.eq_1 @ly (ab @oT @qJ))
set_option maxHeartbeats 4000000 in
theorem D7 (p : Pg) (a1 a2 a3 : Option Addr) (c1 c2 c3 : Nat) (w : World) (hp : qd p w a1 a2 a3) (hz : Ab p) :
  Calls Tryz.prog 18 #[Bc p a1 a2 a3 c1 c2 c3] w fun e w' => e = .returned (.string (oE p)) /\ LE.ai w [] w' := by
 have hx := hp.x
 refine aj (nt := 36) [.tmp 2] Tryz.func18 rfl rfl rfl ?_
 refine vR (Γ101 p a1 a2 a3 c1 c2 c3 hz) mc ?_
 refine wR (Γ101 p a1 a2 a3 c1 c2 c3 hz) mc ?_ ?_
 ·exact hx
 refine Wp.seq ?_
 refine vR (Γ101 p a1 a2 a3 c1 c2 c3 hz) mc ?_
 refine wC mc (fun hc => ?_) (fun hc => ?_)
 ·have h : ¬ jZ p = (0, 0, ⟨#[]⟩) := by
   intro h
   rw [h] at hc
   simp at hc
  have e : oE p = ⟨#[]⟩ := by rw [oE, if_neg h]
  rw [e]
  refine vR (Γ101 p a1 a2 a3 c1 c2 c3 hz) mc ?_
  refine wZ mc ?_
  exact fun E => rfl
 obtain ⟨h, hs, _⟩ := yr (p := p) (by simpa using hc)
 have e : oE p = Im p := by rw [oE, if_pos h]
 rw [e]
 have l1 := hz.l1
 have l2 := hz.l2
 have l3 := hz.l3
 have hln : (lz p).length <= 3145729 := by rw [lz, uf]; omega
 have hsm : Ql (lz p) := IP hz hs (Nat.le_refl _)
 refine wK ?_
 refine wR (Γ102 p a1 a2 a3 c1 c2 c3 hz hs) mc ?_ ?_
 ·exact hx
 unfold Im
 generalize lz p = l at *
 refine vR (Γ101 p a1 a2 a3 c1 c2 c3 hz) mc ?_
 refine Wp.seq ?_
 refine vR (Γ101 p a1 a2 a3 c1 c2 c3 hz) mc ?_
 refine Wp.block ?_
 refine Wp.loop (fun k : Nat => ⟨60, bQ [(6, .is (.hd 19)), (7, .is (.hd 20)), (8, .is (.v (.int .i64 (k : Nat))))], bY [(19, .row 9 1 l.length (List.map SV.v (dH l))), (20, .row 5 1 (kq (l.take k)).size ((byteCells (kq (l.take k))).map .v))]⟩) (fun k => k <= l.length) (fun k => l.length - k) 0 ?_ (Nat.zero_le _) ?_
 ·exact wM (fun k => if k = 19 then .key 112 else if k = 20 then .nil else .key k) (eH mc (show (⟨#[]⟩ : ByteArray).size = 0 from rfl) (show kq [] = ⟨#[]⟩ from rfl) (show byteCells ⟨#[]⟩ = [] from rfl))
 rintro k hk
 refine Wp.seq ?_
 refine vR (Γ101 p a1 a2 a3 c1 c2 c3 hz) mc ?_
 refine wC mc (fun hc => ?_) (fun hc => ?_)
 ·have hlt : k < l.length := by
   simp at hc
   omega
  have wk : IntKind.i64.wrap ((k : Int) + 1) = ((k + 1 : Nat) : Int) := by rw [aa (by omega) (by omega)]; omega
  have hcat := o9 (l := l.take k) (fun s hs => hsm s (List.mem_of_mem_take hs)) (by rw [List.length_take]; omega)
  have hss := hsm _ (List.getElem_mem hlt)
  have hg := QN l k hlt
  have e1 := Ks hlt
  have e2 := lu (kq (l.take k)) l[k]
  have e3 := kx (kq (l.take k) ++ l[k]) [10] (fun c hc => by simp at hc; omega)
  have e4 : eX [10] = M6 := rfl
  rw [e4, <- e1] at e3
  simp only [List.map_cons, List.map_nil] at e3
  have e5 : (kq (l.take (k + 1))).size = (kq (l.take k)).size + l[k].size + 1 := by rw [e1, zc, ByteArray.size_append]
  generalize l[k] = x at *
  generalize kq (l.take k) = c0 at *
  refine wK ?_
  refine Wp.seq (Wp.block ?_)
  refine wR (Γ101 p a1 a2 a3 c1 c2 c3 hz) (de mc hg e2) ?_ ?_
  ·exact ⟨⟨by omega, by omega⟩, by simpa [dH] using hlt, by unfold maxLen; omega, by omega⟩
  refine wr (Γ101 p a1 a2 a3 c1 c2 c3 hz) (ab mc e3) ?_ ?_
  ·exact ⟨by unfold maxLen; omega, by omega⟩
  refine vr (Γ101 p a1 a2 a3 c1 c2 c3 hz) (ab mc wk) ?_
  refine ⟨k + 1, by omega, by omega, ?_⟩
  exact wM (fun k => if k = 20 then .key 584 else .key k) (ab mc e5)
 have hk' : k = l.length := by
  simp at hc
  omega
 subst hk'
 rw [List.take_length]
 refine wE ?_
 refine wR (Γ101 p a1 a2 a3 c1 c2 c3 hz) mc ?_ ?_
 ·exact oS _
 refine wZ mc ?_
 exact fun E => rfl
end
section
open Go.RowKit Go.LE
set_option maxRecDepth 10000
section
variable (p : Pg) (hz : Ab p)
def tU : lg Tryz.prog 17 where
 kinds := [some (Sh.Cj, VB p)]
 pre := fun _ W S => dK W S /\ ba W S /\ fh W S
 premono := fun as_ W S W' S' hs h => ⟨h.1.mono hs, h.2.1.mono hs, h.2.2.mono hs⟩
 out := fun _ => .val (.string (oE p))
 enters := Tryz.call17
 ok := by
  intro w S us as_ hg hp
  obtain ⟨x, a, rfl, rfl, h1⟩ := Qk hg
  obtain ⟨b1, b2, b3, d1, d2, d3, rfl, hx⟩ := Qx h1
  exact vJ p b1 b2 b3 d1 d2 d3 w (hx.is hz.b) hz (UD hp.1) (Tt hp.2.1) (Ta hp.2.2)
def tG : lg Tryz.prog 18 where
 kinds := [some (Sh.Cj, VB p)]
 pre := fun _ W S => True
 premono := fun as_ W S W' S' hs h => trivial
 out := fun _ => .val (.string (oE p))
 enters := Tryz.call18
 ok := by
  intro w S us as_ hg hp
  obtain ⟨x, a, rfl, rfl, h1⟩ := Qk hg
  obtain ⟨b1, b2, b3, d1, d2, d3, rfl, hx⟩ := Qx h1
  exact D7 p b1 b2 b3 d1 d2 d3 w (hx.is hz.b) hz
end
theorem Ab.n {p : Pg} (h : Ab p) : p.ty.length <= 1048576 /\ p.tx.length <= 1048576 /\ p.co.length <= 1048576 := ⟨h.l1, h.l2, h.l3⟩
section
variable (p : Pg) (a1 a2 a3 : Option Addr) (c1 c2 c3 : Nat) (hz : Ab p) (G : Nat -> Prop)
noncomputable def Γ103 : Env Tryz.prog := ⟨fun | 11 => some y7.spec | 12 => some ((v8 p a1 a2 a3 c1 c2 c3 hz.b hz.n).spec G) | 14 => some ((Ws p a1 a2 a3 c1 c2 c3 hz.b hz.n).spec G) | 17 => some ((tU p hz).spec G) | 18 => some ((tG p hz).spec G) | _ => none, fun _ => none, fun _ _ => none⟩
theorem Gt103c11 : (Γ103 p a1 a2 a3 c1 c2 c3 hz G).sp 11 = some y7.spec := rfl
theorem Gt103c12 : (Γ103 p a1 a2 a3 c1 c2 c3 hz G).sp 12 = some ((v8 p a1 a2 a3 c1 c2 c3 hz.b hz.n).spec G) := rfl
theorem Gt103c14 : (Γ103 p a1 a2 a3 c1 c2 c3 hz G).sp 14 = some ((Ws p a1 a2 a3 c1 c2 c3 hz.b hz.n).spec G) := rfl
theorem Gt103c17 : (Γ103 p a1 a2 a3 c1 c2 c3 hz G).sp 17 = some ((tU p hz).spec G) := rfl
theorem Gt103c18 : (Γ103 p a1 a2 a3 c1 c2 c3 hz G).sp 18 = some ((tG p hz).spec G) := rfl
end
def Wv := (aq @List.replicate_succ.{0} @List.replicate_zero.{0} @av @af jV jW cZ (aq c9 cR cV ez ey eB eC (aq eA ew Xt Xr X9 Xi Xu (aq XE Yd Xk XM GN GS GB (aq GU Hl Gu Fe E5 Fs PI (aq QU NX NJ N0 M9 QJ Ps (aq OU @aN @au @aA @az @fz @Gt103c11 (aq @Gt103c12 @Gt103c14 @Gt103c17 @Gt103c18 @y7.eq_1 @v8.eq_1 @Ws.eq_1 (de @tU.eq_1 @tG.eq_1 @Sh.Cj.eq_1)))))))))
set_option maxHeartbeats 4000000 in
theorem GV (p : Pg) (a1 a2 a3 : Option Addr) (c1 c2 c3 : Nat) (hz : Ab p) (w : World) (hp : qd p w a1 a2 a3) (hg : dK w (Out [])) (he : ba w (Out [])) (ht : fh w (Out [])) :
  Calls Tryz.prog 4 #[Bc p a1 a2 a3 c1 c2 c3] w fun e w' => e = .returned (.bool true) /\ LE.ai w [] w' := by
 have hx := hp.x
 have u0 : Up (fun _ => True) w [] := Up.true _ _
 have hr : zQ p w (fg (fun _ => True) []) a1 a2 a3 := hx.mono fun b _ h => ⟨rfl, trivial, h⟩
 have hgr : dK w (fg (fun _ => True) []) := hg.mono fun b _ h => ⟨rfl, trivial, h⟩
 have her : ba w (fg (fun _ => True) []) := he.mono fun b _ h => ⟨rfl, trivial, h⟩
 have htr : fh w (fg (fun _ => True) []) := ht.mono fun b _ h => ⟨rfl, trivial, h⟩
 refine aj (nt := 13) [.tmp 2] Tryz.func4 rfl rfl rfl ?_
 refine vR (Γ103 p a1 a2 a3 c1 c2 c3 hz (fun _ => True)) Wv ?_
 refine R0 (Γ103 p a1 a2 a3 c1 c2 c3 hz (fun _ => True)) Wv ?_
 refine wZ Wv ?_
 exact fun E => rfl
end
section
open Go.ChangeShapes Go.WideShapes Go.ChangeAt Go.RowKit Go.LE
open Go.ChangeMaps (open_string shut_string)
set_option maxRecDepth 10000
theorem Y2 : ownKnob Tryz.prog.godebug = none := by kernel_rfl
theorem Xj : laidOutB Tryz.prog = true := by kernel_rfl
theorem Ye : mapsRowed Tryz.prog = true := by kernel_rfl
theorem Xs : ((List.range Tryz.prog.types.size).all fun t => match Tryz.prog.underlying t with | some (.slice e) => decide (0 < Tryz.prog.cellsOf e) | _ => true) = true := by kernel_rfl
theorem P3 : Tryz.prog.cellsOf 9 = 1 := by kernel_rfl
theorem qV : Tryz.prog.cellsOf 3 = 1 := by kernel_rfl
theorem Wy : Tryz.prog.cellsOf 4 = 1 := by kernel_rfl
theorem Ot : Tryz.prog.cellsOf 5 = 1 := by kernel_rfl
theorem JH : Tryz.prog.cellsOf 22 = 1 := by kernel_rfl
theorem Tb : Tryz.prog.cellsOf 23 = 1 := by kernel_rfl
theorem Uj : Tryz.prog.cellsOf 82 = 4 := by kernel_rfl
theorem Ub : Tryz.prog.cellsOf 25 = 5 := by kernel_rfl
theorem Br : Tryz.prog.cellsOf 156 = 1 := by kernel_rfl
theorem Dy : Tryz.prog.cellsOf 160 = 4 := by kernel_rfl
theorem PB : Tryz.prog.cellsOf 203 = 1 := by kernel_rfl
theorem P8 : Tryz.prog.cellsOf 334 = 20 := by kernel_rfl
theorem Bs : Tryz.prog.cellsOf 355 = 2 := by kernel_rfl
section
variable {H : Type} {enc : TypeId × Value -> H}
theorem P0 (d : DataW H) : 1 <= Rows.uptoBulk d := by
 cases d with
 | lit x => cases x <;> simp [Rows.uptoBulk]
 | _ => simp [Rows.uptoBulk]
theorem BF : ∀ {l : List (DataW H)} {d : DataW H}, d ∈ l -> Rows.uptoBulk d <= Rows.uptoBulkAll l
 | x :: r, d, h => by
  simp only [Rows.uptoBulkAll]
  rcases List.mem_cons.1 h with rfl | h
  ·omega
  ·have := BF h; omega
theorem BO : ∀ (l : List (DataW H)), l.length <= Rows.uptoBulkAll l
 | [] => by simp
 | x :: r => by
  simp only [Rows.uptoBulkAll, List.length_cons]
  have := BO r
  have := P0 x
  omega
theorem vl {n : Nat} {d : DataW H} {D : Nat -> DataW H} {rest : List (DataW H)} (hd : (n = 0 /\ d = .nil) \/ d = .slice ((List.range n).map D) rest) (hb : Rows.uptoBulk d <= 1048576) : n <= 1048576 /\ ∀ i, i < n -> Rows.uptoBulk (D i) <= 1048576 := by
 rcases hd with ⟨rfl, _⟩ | hd
 ·exact ⟨by omega, fun i hi => by omega⟩
 ·rw [hd] at hb
  simp only [Rows.uptoBulk] at hb
  have h2 := BO ((List.range n).map D)
  simp only [List.length_map, List.length_range] at h2
  refine ⟨by omega, fun i hi => ?_⟩
  have h1 := BF (List.mem_map_of_mem (f := D) (List.mem_range.2 hi))
  omega
theorem tH {α : Type} {n : Nat} {C : Nat -> List Value} {f : Nat -> α} {g : α -> List Value} (h : ∀ i, i < n -> C i = g (f i)) : (List.range n).flatMap C = ((List.range n).map f).flatMap g := by
 have key : ∀ k, k <= n -> (List.range k).flatMap C = ((List.range k).map f).flatMap g := fun k => by
  induction k with
  | zero => intro _; rfl
  | succ k ih =>
   intro hk
   rw [List.range_succ, List.flatMap_append, ih (by omega), List.map_append, List.flatMap_append]
   simp [h k (by omega)]
 exact key n (Nat.le_refl _)
theorem L8 (l : List ByteArray) : l.flatMap (fun s => [Value.string s]) = dH l := by
 induction l with
 | nil => rfl
 | cons s r ih => rw [List.flatMap_cons, ih]; rfl
instance : Inhabited ByteArray := ⟨⟨#[]⟩⟩
theorem open_strs {W : World} {v : Value} {d : DataW H} {p : List MemPlace} (hok : ∃ a len cap, v = .slice a len cap) (h : DataW.Trod enc Tryz.prog W 0 (fun _ => true) true 22 v d p) (hb : Rows.uptoBulk d <= 1048576) :
  ∃ ao c, ∃ l : List ByteArray, v = .slice ao l.length c /\ kn W ao (dH l) /\ l.length <= 1048576 /\ ∀ s ∈ l, s.size <= 1048576 := by
 obtain ⟨ao, n, c, m, C, D, rest, rfl, hd, hi, hs⟩ := yC Tryz.underlying22 P3 hok h
 obtain ⟨hn, hbk⟩ := vl hd hb
 have hE : ∀ i, i < n -> ∃ s : ByteArray, C i = [.string s] /\ D i = .lit (.string s.data.toList) := fun i hin => by
  obtain ⟨h1, pl, h2⟩ := hi i hin
  obtain ⟨s, h3, h4, _⟩ := DataW.trod_string Tryz.underlying9 h2
  exact ⟨s, h3, congrArg Prod.fst h4⟩
 obtain ⟨f, hf⟩ := Go.Deep.choose_lt hE
 rw [tH (f := f) (g := fun s => [Value.string s]) fun i hi => (hf i hi).1, L8] at hs
 refine ⟨ao, c, (List.range n).map f, by simp, hs, by simpa using hn, fun s hs' => ?_⟩
 obtain ⟨i, hin, rfl⟩ := List.mem_map.1 hs'
 have hin := List.mem_range.1 hin
 have := hbk i hin
 rw [(hf i hin).2] at this
 simp only [Rows.uptoBulk, Array.length_toList] at this
 have h2 : (f i).size = (f i).data.size := rfl
 omega
theorem T9 {W : World} {m : Nat} {cs : List Value} {x : DataW H × List MemPlace} (h1 : cs.length = 4) (h2 : DataW.trod enc Tryz.prog W 0 (fun _ => true) true m 82 cs = some x) : ∃ x : Int × Int × Int × Int, cs = R4 x := by
 obtain ⟨xs, k, _, _, _, hxl, hall⟩ := DataW.trod_struct Tryz.underlying82 h2
 have e0 := hall 0 _ rfl
 have e1 := hall 1 _ rfl
 have e2 := hall 2 _ rfl
 have e3 := hall 3 _ rfl
 have hxl : xs.length = 4 := hxl
 match xs, hxl, cs, h1 with
 | [y0, y1, y2, y3], _, [c0, c1, c2, c3], _ =>
  obtain ⟨z0, g0, _⟩ := DataW.trod_int (cs := [c0]) Tryz.underlying3 (by simpa [qV] using e0)
  obtain ⟨z1, g1, _⟩ := DataW.trod_int (cs := [c1]) Tryz.underlying3 (by simpa [qV] using e1)
  obtain ⟨z2, g2, _⟩ := DataW.trod_int (cs := [c2]) Tryz.underlying3 (by simpa [qV] using e2)
  obtain ⟨z3, g3, _⟩ := DataW.trod_int (cs := [c3]) Tryz.underlying3 (by simpa [qV] using e3)
  simp only [List.cons.injEq, and_true] at g0 g1 g2 g3
  exact ⟨(z0, z1, z2, z3), by rw [g0, g1, g2, g3]; rfl⟩
theorem Qf {W : World} {v : Value} {d : DataW H} {p : List MemPlace} (hok : ∃ a len cap, v = .slice a len cap) (h : DataW.Trod enc Tryz.prog W 0 (fun _ => true) true 23 v d p) (hb : Rows.uptoBulk d <= 1048576) :
  ∃ ao c, ∃ l : List (Int × Int × Int × Int), v = .slice ao l.length c /\ kn W ao (j4 l) /\ l.length <= 1048576 := by
 obtain ⟨ao, n, c, m, C, D, rest, rfl, hd, hi, hs⟩ := yC Tryz.underlying23 Uj hok h
 obtain ⟨hn, hbk⟩ := vl hd hb
 have hE : ∀ i, i < n -> ∃ x : Int × Int × Int × Int, C i = R4 x := fun i hin => by
  obtain ⟨h1, pl, h2⟩ := hi i hin
  exact T9 h1 h2
 obtain ⟨f, hf⟩ := Go.Deep.choose_lt hE
 rw [tH (f := f) (g := R4) hf] at hs
 exact ⟨ao, c, (List.range n).map f, by simp, hs, by simpa using hn⟩
theorem ou {W : World} {t e : TypeId} {n : Nat} {v : Value} {x : DataW H × List MemPlace} (ht : Tryz.prog.underlying t = some (.slice e)) (h : DataW.trod enc Tryz.prog W 0 (fun _ => true) true n t [v] = some x) : ∃ a len cap, v = .slice a len cap := by
 rcases Go.Deep.open_slice ht h with ⟨h1, h2⟩ | ⟨a', len', cap', m, n, D, Pl, h1, _⟩
 ·simp only [List.cons.injEq, and_true] at h1
  exact ⟨_, _, _, h1⟩
 ·simp only [List.cons.injEq, and_true] at h1
  exact ⟨_, _, _, h1⟩
theorem L5 {W : World} {b0 : Nat} {v : Value} {d : DataW H} {p : List MemPlace} (hv : Value.okWide Tryz.prog W .any b0 25 v) (h : DataW.Trod enc Tryz.prog W 0 (fun _ => true) true 25 v d p) (hb : Rows.uptoBulk d <= 1048576) :
  ∃ (p : Pg) (a1 a2 a3 : Option Addr) (c1 c2 c3 : Nat), v = Bc p a1 a2 a3 c1 c2 c3 /\ qd p W a1 a2 a3 /\ Ab p := by
 obtain ⟨cs, rfl, hsz⟩ := okWide_struct Tryz.underlying25 hv
 rw [Ub] at hsz
 obtain ⟨fuel, h⟩ := h
 obtain ⟨xs, k, _, hd, _, hxl, hall⟩ := DataW.trod_struct Tryz.underlying25 h
 have e0 := hall 0 _ rfl
 have e1 := hall 1 _ rfl
 have e2 := hall 2 _ rfl
 have e3 := hall 3 _ rfl
 have e4 := hall 4 _ rfl
 have hxl : xs.length = 5 := hxl
 obtain ⟨l, rfl⟩ : ∃ l : List Value, cs = l.toArray := ⟨cs.toList, rfl⟩
 have hsz : l.length = 5 := by simpa using hsz
 match xs, hxl, l, hsz with
 | [y0, y1, y2, y3, y4], _, [v0, v1, v2, v3, v4], _ =>
  have t0 : DataW.trod enc Tryz.prog W 0 (fun _ => true) true k 22 [v0] = some y0 := by simpa [JH, Value.cells] using e0
  have t1 : DataW.trod enc Tryz.prog W 0 (fun _ => true) true k 22 [v1] = some y1 := by simpa [JH, Value.cells] using e1
  have t2 : DataW.trod enc Tryz.prog W 0 (fun _ => true) true k 23 [v2] = some y2 := by simpa [Tb, Value.cells] using e2
  have t3 : DataW.trod enc Tryz.prog W 0 (fun _ => true) true k 3 [v3] = some y3 := by simpa [qV, Value.cells] using e3
  have t4 : DataW.trod enc Tryz.prog W 0 (fun _ => true) true k 3 [v4] = some y4 := by simpa [qV, Value.cells] using e4
  have hd : d = .agg [y0.1, y1.1, y2.1, y3.1, y4.1] := congrArg Prod.fst hd
  subst hd
  simp only [Rows.uptoBulk, Rows.uptoBulkAll] at hb
  obtain ⟨a0, n0, m0, rfl⟩ := ou Tryz.underlying22 t0
  obtain ⟨a1, n1, m1, rfl⟩ := ou Tryz.underlying22 t1
  obtain ⟨a2, n2, m2, rfl⟩ := ou Tryz.underlying23 t2
  obtain ⟨z3, g3, _⟩ := DataW.trod_int Tryz.underlying3 t3
  obtain ⟨z4, g4, _⟩ := DataW.trod_int Tryz.underlying3 t4
  simp only [List.cons.injEq, and_true] at g3 g4
  obtain ⟨b0, c0, l0, h0, s0, k0, q0⟩ := open_strs ⟨_, _, _, rfl⟩ (p := y0.2) ⟨k, t0⟩ (by omega)
  obtain ⟨b1, c1, l1, h1, s1, k1, q1⟩ := open_strs ⟨_, _, _, rfl⟩ (p := y1.2) ⟨k, t1⟩ (by omega)
  obtain ⟨b2, c2, l2, h2, s2, k2⟩ := Qf ⟨_, _, _, rfl⟩ (p := y2.2) ⟨k, t2⟩ (by omega)
  subst g3 g4
  have hz : Ab ⟨l0, l1, l2, z3, z4⟩ := ⟨k0, k1, k2, q0, q1⟩
  exact ⟨⟨l0, l1, l2, z3, z4⟩, b0, b1, b2, c0, c1, c2, by rw [h0, h1, h2], ⟨hz.b, s0, s1, s2⟩, hz⟩
end
end
section
open Go.ChangeShapes Go.WideShapes Go.ChangeAt Go.RowKit Go.LE
set_option maxRecDepth 10000
theorem Bt : Tryz.prog.globalNamed "loupe/code.shapes" = some 0 := by kernel_rfl
theorem PF : Tryz.prog.globalNamed "loupe/class.escapes" = some 4 := by kernel_rfl
theorem WC : (Tryz.prog.globals[0]?).map (·.type) = some 161 := by kernel_rfl
theorem VJ : (Tryz.prog.globals[3]?).map (·.type) = some 334 := by kernel_rfl
theorem VP : (Tryz.prog.globals[4]?).map (·.type) = some 356 := by kernel_rfl
theorem jd {W : World} {n : String} {g : Nat} {cs : Array Value} (hg : Tryz.prog.globalNamed n = some g) (h : W.var? Tryz.prog n = some cs) (i : Nat) (v : Value) (hi : cs.toList[i]? = some v) : W.cell? ⟨g, i, none⟩ = some v := by
 unfold World.var? at h
 rw [hg, Option.bind_some] at h
 split at h
 ·rename_i cs' T fr hh
  cases h
  simp only [World.cell?, hh]
  rw [Array.getElem?_toList] at hi
  simpa using hi
 ·cases h
theorem Ll {W : World} (h : Lib.VarReads Tryz.prog W "internal/strconv.uint64pow10" Rows.laid_internal_strconv_uint64pow10) : fh W (Out []) := by
 obtain ⟨g, t, cs, fuel, p, h1, h2, h3, h4⟩ := h
 obtain rfl := Option.some.inj (Rb.symm.trans h1)
 obtain rfl := Option.some.inj (VJ.symm.trans h2)
 have e : (Rows.laid_internal_strconv_uint64pow10 : DataW Unit) = Lib.tabData .u64 Lib.pow10Tab := rfl
 rw [e] at h4
 have h5 := Lib.cells_of_tab Tryz.underlying334 Tryz.underlying203 PB P8 h4
 refine ⟨by simp [Out], ?_⟩
 show W.var? Tryz.prog _ = _
 rw [h3, <- h5]
theorem VC {l : List Value} {k : Nat} {x y : Value} (h : (l.drop k).take 2 = [x, y]) : l[k]? = some x /\ l[k + 1]? = some y := by
 have h0 := congrArg (·[0]?) h
 have h1 := congrArg (·[1]?) h
 simp only [List.getElem?_take, List.getElem?_drop] at h0 h1
 exact ⟨by simpa using h0, by simpa using h1⟩
theorem TQ {l : List Value} {k : Nat} {x y z u : Value} (h : (l.drop k).take 4 = [x, y, z, u]) : l[k]? = some x /\ l[k + 1]? = some y /\ l[k + 2]? = some z /\ l[k + 3]? = some u := by
 have h0 := congrArg (·[0]?) h
 have h1 := congrArg (·[1]?) h
 have h2 := congrArg (·[2]?) h
 have h3 := congrArg (·[3]?) h
 simp only [List.getElem?_take, List.getElem?_drop] at h0 h1 h2 h3
 exact ⟨by simpa using h0, by simpa using h1, by simpa using h2, by simpa using h3⟩
theorem Gb {W : World} {sp : Nat -> Bool} {fuel : Nat} {cs : List Value} {a b : Int} {q : List MemPlace} (h : DataW.trod (fun _ => ()) Tryz.prog W 0 sp false fuel 355 cs = some (.agg [.lit (.int .u8 a), .lit (.int .u8 b)], q)) : cs = [.int .u8 a, .int .u8 b] :=
 Lib.ints_of_struct (zs := [a, b]) Tryz.underlying355 (fun i f hf => by
  match i, hf with
  | 0, hf => cases hf; exact ⟨Tryz.underlying5, rfl, Ot⟩
  | 1, hf => cases hf; exact ⟨Tryz.underlying5, rfl, Ot⟩
  | i + 2, hf => cases hf) Bs h
theorem MQ {W : World} (h : Lib.VarReads Tryz.prog W "loupe/class.escapes" Rows.laid_loupe_class_escapes) : ba W (Out []) := by
 obtain ⟨g, t, cs, fuel, p, h1, h2, h3, h4⟩ := h
 obtain rfl := Option.some.inj (PF.symm.trans h1)
 obtain rfl := Option.some.inj (VP.symm.trans h2)
 have key : ∀ i (a b : Int), i < 3 -> [(110, 10), (114, 13), (116, 9)][i]? = some (a, b) -> W.cell? ⟨4, i * 2, none⟩ = some (.int .u8 a) /\ W.cell? ⟨4, i * 2 + 1, none⟩ = some (.int .u8 b) := fun i a b hi hab => by
  obtain ⟨f', d, q, hd, ht⟩ := Lib.array_elem Tryz.underlying356 h4 i hi
  rw [Bs] at ht
  have e : d = .agg [.lit (.int .u8 a), .lit (.int .u8 b)] := by
   match i, hi with
   | 0, _ => cases hab; cases hd; rfl
   | 1, _ => cases hab; cases hd; rfl
   | 2, _ => cases hab; cases hd; rfl
  subst e
  obtain ⟨g1, g2⟩ := VC (Gb ht)
  exact ⟨jd PF h3 _ _ g1, jd PF h3 _ _ g2⟩
 have k0 := key 0 _ _ (by omega) rfl
 have k1 := key 1 _ _ (by omega) rfl
 have k2 := key 2 _ _ (by omega) rfl
 exact ⟨by simp [Out], k0.1, k0.2, k1.1, k1.2, k2.1, k2.2⟩
theorem BQ {W : World} {sp : Nat -> Bool} {fuel : Nat} {cs : List Value} {s : ByteArray} {b : Bool} {a c : Int} {q : List MemPlace}
  (h : DataW.trod (fun _ => ()) Tryz.prog W 0 sp false fuel 160 cs = some (.agg [.lit (.string s.data.toList), .lit (.bool b), .lit (.int .i64 a), .lit (.int .i64 c)], q)) : cs = [.string s, .bool b, .int .i64 a, .int .i64 c] := by
 obtain ⟨xs, k, _, hd, hl, hxl, hall⟩ := DataW.trod_struct Tryz.underlying160 h
 rw [Dy] at hl
 have e0 := hall 0 _ rfl
 have e1 := hall 1 _ rfl
 have e2 := hall 2 _ rfl
 have e3 := hall 3 _ rfl
 have hxl : xs.length = 4 := hxl
 match xs, hxl, cs, hl with
 | [y0, y1, y2, y3], _, [c0, c1, c2, c3], _ =>
  have hd := congrArg Prod.fst hd
  simp only [List.map_cons, List.map_nil, DataW.agg.injEq, List.cons.injEq, and_true] at hd
  obtain ⟨d0, d1, d2, d3⟩ := hd
  obtain ⟨z0, g0, f0, _⟩ := DataW.trod_string (cs := [c0]) Tryz.underlying9 (by simpa [P3] using e0)
  obtain ⟨z1, g1, f1⟩ := DataW.trod_bool (cs := [c1]) Tryz.underlying4 (by simpa [Wy] using e1)
  obtain ⟨z2, g2, f2, _⟩ := DataW.trod_int (cs := [c2]) Tryz.underlying156 (by simpa [Br] using e2)
  obtain ⟨z3, g3, f3, _⟩ := DataW.trod_int (cs := [c3]) Tryz.underlying156 (by simpa [Br] using e3)
  rw [f0] at d0
  rw [f1] at d1
  rw [f2] at d2
  rw [f3] at d3
  cases d1
  cases d2
  cases d3
  simp only [DataW.lit.injEq, Lit.string.injEq] at d0
  have d0 : s = z0 := by
   rcases s with ⟨⟨l⟩⟩
   rcases z0 with ⟨⟨l'⟩⟩
   simp only at d0
   rw [d0]
  subst d0
  simp only [List.cons.injEq, and_true] at g0 g1 g2 g3
  rw [g0, g1, g2, g3]
theorem DT : (Rows.laid_loupe_code_shapes : DataW Unit) = .agg (SU.map fun s => .agg [.lit (.string s.1.data.toList), .lit (.bool s.2.1), .lit (.int .i64 s.2.2.1), .lit (.int .i64 s.2.2.2)]) := rfl
theorem Lu {W : World} (h : Lib.VarReads Tryz.prog W "loupe/code.shapes" Rows.laid_loupe_code_shapes) : dK W (Out []) := by
 obtain ⟨g, t, cs, fuel, p, h1, h2, h3, h4⟩ := h
 obtain rfl := Option.some.inj (Bt.symm.trans h1)
 obtain rfl := Option.some.inj (WC.symm.trans h2)
 rw [DT] at h4
 refine ⟨by simp [Out], fun n hn => ?_⟩
 obtain ⟨f', d, q, hd, ht⟩ := Lib.array_elem Tryz.underlying161 h4 n hn
 rw [Dy] at ht
 have hl : SU.length = 21 := rfl
 rw [List.getElem?_map, List.getElem?_eq_getElem (by omega), Option.map_some, Option.some.injEq] at hd
 subst hd
 have hs : l6 n = SU[n]'(by omega) := by
  unfold l6
  rw [List.getD_eq_getElem?_getD, List.getElem?_eq_getElem (by omega)]; rfl
 obtain ⟨g1, g2, g3, g4⟩ := TQ (BQ ht)
 rw [hs]
 exact ⟨jd Bt h3 _ _ g1, jd Bt h3 _ _ g2, jd Bt h3 _ _ g3, jd Bt h3 _ _ g4⟩
end
end Go.Proofs.YtnemkecffmdlnaaGreatDoor
namespace Go.Proofs.YtnemkecffmdlnaaGreatDoor.codePrints
section
set_option maxRecDepth 100000
theorem k0 : Rows.codePrintsUptoRow.wf (OpenSpec.ofChange (Rows.OpenSpec.upto Rows.codePrintsSpec).bare) = true := by kernel_rfl
theorem k1 : laidOutB Tryz.prog = true := by kernel_rfl
theorem k2 : mapsRowed Tryz.prog = true := by kernel_rfl
theorem k3 : Tryz.f4.params.all (Tryz.prog.readableRec ·) = true := by kernel_rfl
theorem k4 : namedTie Tryz.prog Rows.codePrintsUptoRow.named (Rows.OpenSpec.upto Rows.codePrintsSpec).bare.vars = true := by kernel_rfl
theorem k5 : (Rows.codePrintsUptoRow.stops == []) = true := by kernel_rfl
theorem k6 : (Tryz.prog.stops == []) = true := by kernel_rfl
theorem k7 : (Rows.codePrintsUptoRow.knobs == []) = true := by kernel_rfl
theorem k8 : (Tryz.prog.stopKnobs == []) = true := by kernel_rfl
theorem k9 : (Rows.codePrintsUptoRow.inPlace == Tryz.prog.inPlace 4) = true := by kernel_rfl
theorem Zv : (Rows.codePrintsUptoRow.unfollowed == Tryz.prog.unfollowed 4) = true := by kernel_rfl
theorem ZA : (Rows.codePrintsUptoRow.recurses == Tryz.prog.recurses 4) = true := by kernel_rfl
theorem Zl : (Rows.codePrintsUptoRow.named == Tryz.prog.varsNamed 4) = true := by kernel_rfl
theorem Zr : (Rows.codePrintsUptoRow.maps == (Tryz.f4.params.toList ++ (Rows.OpenSpec.upto Rows.codePrintsSpec).bare.plain.varTypes Tryz.prog).any (Tryz.prog.mapsRec ·)) = true := by kernel_rfl
theorem Zh : (Rows.codePrintsUptoRow.ifaces == (Tryz.f4.params.toList ++ (Rows.OpenSpec.upto Rows.codePrintsSpec).bare.plain.varTypes Tryz.prog).any (Tryz.prog.ifacesRec ·)) = true := by kernel_rfl
theorem Zb : (Rows.codePrintsUptoRow.mapsOut == Tryz.prog.mapsAmong Tryz.f4.resultTypes.toList) = true := by kernel_rfl
theorem Za : (Rows.codePrintsUptoRow.loops == (Tryz.f4.params.toList ++ (Rows.OpenSpec.upto Rows.codePrintsSpec).bare.plain.varTypes Tryz.prog).any (Tryz.prog.loopsFrom ·)) = true := by kernel_rfl
theorem Y7 : (Rows.codePrintsUptoRow.wideKeys == (Tryz.f4.params.toList ++ (Rows.OpenSpec.upto Rows.codePrintsSpec).bare.plain.varTypes Tryz.prog ++ Tryz.f4.resultTypes.toList).any (Tryz.prog.wideKeysFrom ·)) = true := by kernel_rfl
theorem Zd : (Rows.OpenSpec.upto Rows.codePrintsSpec).bare.vars.all (Tryz.prog.varReadable ·) = true := by kernel_rfl
theorem Y6 : Tryz.f4.resultTypes.all (fun t => Tryz.prog.readableRec t && decide (t < Tryz.prog.types.size)) = true := by kernel_rfl
theorem Y5 : (Rows.codePrintsUptoRow.ifacesOut == Tryz.f4.resultTypes.toList.any (Tryz.prog.ifacesRec ·)) = true := by kernel_rfl
theorem ZC : (Rows.codePrintsUptoRow.loopsOut == Tryz.f4.resultTypes.toList.any (Tryz.prog.loopsFrom ·)) = true := by kernel_rfl
theorem Y8 : (Rows.codePrintsUptoRow.plainKeys == Tryz.prog.plainKeys) = true := by kernel_rfl
theorem Ze : Rows.codePrintsUptoRow.shortTexts.isNone = true := by kernel_rfl
theorem Zu : Tryz.prog.stopsHeard = true := by kernel_rfl
theorem Zf : Tryz.prog.mayEnter = true := by kernel_rfl
theorem Zw : (Rows.codePrintsUptoRow.lifted == Tryz.prog.liftsFinal) = true := by kernel_rfl
theorem Zy : (Tryz.prog.make == some Rows.codePrintsUptoRow.make) = true := by kernel_rfl
theorem Zt : (Rows.codePrintsUptoRow.kinds == (if Rows.codePrintsUptoRow.domain.isEmpty then [] else Tryz.f4.params.toList.map fun t => match Tryz.prog.underlying t with | some (.int k) => some k | _ => none)) = true := by kernel_rfl
theorem Zp : (Rows.codePrintsUptoRow.pinned == Rows.codePrintsUptoRow.pinnedBy) = true := by kernel_rfl
theorem Zi : (Rows.codePrintsUptoRow.veiled == (Tryz.f4.params.toList ++ (Rows.OpenSpec.upto Rows.codePrintsSpec).bare.plain.varTypes Tryz.prog ++ Tryz.f4.resultTypes.toList).any (Tryz.prog.veiledRec ·)) = true := by kernel_rfl
theorem Zq : Rows.codePrintsUptoRow.veiledFits Tryz.prog Tryz.f4.params.toList (Tryz.f4.params.toList ++ (Rows.OpenSpec.upto Rows.codePrintsSpec).bare.plain.varTypes Tryz.prog ++ Tryz.f4.resultTypes.toList) = true := by kernel_rfl
theorem facts : joinedFacts Tryz.prog 4 Tryz.f4 (Rows.OpenSpec.upto Rows.codePrintsSpec).bare Rows.codePrintsUptoRow = true := by
 unfold joinedFacts
 simp only [Bool.and_eq_true]
 exact ⟨⟨⟨⟨⟨⟨⟨⟨⟨⟨⟨⟨⟨⟨⟨⟨⟨⟨⟨⟨⟨⟨⟨⟨⟨⟨⟨⟨⟨⟨⟨k0, k1⟩, k2⟩, k3⟩, k4⟩, k5⟩, k6⟩, k7⟩, k8⟩, k9⟩, Zv⟩, ZA⟩, Zl⟩, Zr⟩, Zh⟩, Zb⟩, Za⟩, Y7⟩, Zd⟩, Y6⟩, Y5⟩, ZC⟩, Y8⟩, Ze⟩, Zu⟩, Zf⟩, Zw⟩, Zy⟩, Zt⟩, Zp⟩, Zi⟩, Zq⟩
end
section
open Go.ChangeShapes Go.WideShapes Go.ChangeAt Go.RowKit Go.LE
open Go.ChangeMaps (open_string shut_string)
set_option maxRecDepth 10000
theorem Nv (H : Type) (enc : TypeId × Value -> H) (W : World) (base : Nat) (args : Array Value) (ds gs : List (DataW H)) (before : List MemPlace)
  (hval : ∀ (j : Nat) t v, Tryz.f4.params[j]? = some t -> args[j]? = some v -> Value.okWide Tryz.prog W .any base t v)
  (hW : DataW.Whole enc Tryz.prog Tryz.f4.params.toList Rows.codePrintsSpec.vars false W args.toList ds gs before) (hL : laidMetH Tryz.prog Rows.codePrintsUptoRow.laid W) (hk : Rows.uptoSmall H (ds ++ gs) = true) :
  Calls Tryz.prog 4 args W fun e W' => ∃ v, e = .returned v /\ Rows.codePrintsSpec.post enc Tryz.prog Tryz.f4 false true false false W args v W' := by
 have hW' := hW
 obtain ⟨p, q, hA0, hV, rfl, hfz, hnd⟩ := hW
 have hA : DataW.TrodAll enc Tryz.prog W 0 (fun _ => true) true Tryz.f4.params.toList args.toList ds p := hA0
 rw [Tryz.params4] at hA hval
 obtain ⟨v0, vs0, d0, ds0, p0, q0, hargs, rfl, rfl, h0, r0⟩ := trodAll_cons hA
 obtain ⟨rfl, rfl, rfl⟩ := trodAll_nil r0
 obtain rfl : args = #[v0] := by cases args; simp_all
 obtain ⟨rfl, rfl⟩ := trodVars_none hV
 have hbulk : Rows.uptoBulk d0 <= 1048576 := by
  have h : Rows.uptoBulkAll [d0] <= 1048576 := of_decide_eq_true hk
  simpa only [Rows.uptoBulkAll, Nat.add_zero] using h
 obtain ⟨p, a1, a2, a3, c1, c2, c3, rfl, hp, hz⟩ := L5 (hval 0 25 v0 rfl rfl) h0 hbulk
 have hL' : laidMet Tryz.prog Rows.codePrintsUptoRow.laid W := hL
 have g1 := Ll (Lib.laidMet.reads hL' (.tail _ (.tail _ (.head _))))
 have g2 := MQ (Lib.laidMet.reads hL' (.tail _ (.tail _ (.tail _ (.head _)))))
 have g3 := Lu (Lib.laidMet.reads hL' (.tail _ (.tail _ (.tail _ (.tail _ (.head _))))))
 refine (GV p a1 a2 a3 c1 c2 c3 hz W hp g3 g2 g1).mono fun e W' ⟨he, hkp⟩ => ?_
 subst he
 exact ⟨_, rfl, OG Xj Ye Xs (by kernel_rfl) (tb := 4) rfl Tryz.underlying4 rfl hW' rfl rfl rfl hkp⟩
noncomputable def rk (os : Os) : World := World.laidAll Tryz.prog os Rows.codePrintsUptoRow.laid
def SM : Array Value := #[.agg #[.slice none 0 0, .slice none 0 0, .slice none 0 0, .int .i64 0, .int .i64 0]]
theorem NW (os : Os) : laidMet Tryz.prog Rows.codePrintsUptoRow.laid ((rk os).forCall (fun _ _ => 0) ⟨#[], SM, []⟩).memory :=
 laidMet_laidAll _ (by kernel_rfl) (by kernel_rfl)
theorem reads (os : Os) {H : Type} (enc : TypeId × Value -> H) : ∃ places, DataW.whole enc Tryz.prog ((rk os).forCall (fun _ _ => 0) ⟨#[], SM, []⟩).memory Tryz.f4.params.toList Rows.codePrintsSpec.vars false SM.toList 8 = some ([.agg [.nil, .nil, .nil, .lit (.int .i64 0), .lit (.int .i64 0)]], [], places) :=
 ⟨[], by kernel_rfl⟩
set_option maxRecDepth 100000 in
theorem lifted (os : Os) (started : os.Started) (H : Type) (enc : TypeId × Value -> H) (F : Stop.Interp) :
  ReturnsInHanded {} Tryz.checked os 4 .any ((Rows.OpenSpec.upto Rows.codePrintsSpec).preRow enc Tryz.prog Tryz.f4 Rows.codePrintsUptoRow.domain false Rows.codePrintsUptoRow.laid) (((Rows.OpenSpec.upto Rows.codePrintsSpec).at F).post enc Tryz.prog Tryz.f4 false true false false) := by
 obtain ⟨places, hx⟩ := reads os enc
 refine returnsInHanded_of_row (C := Tryz.checked) (s := Rows.OpenSpec.upto Rows.codePrintsSpec) Y2 started (by kernel_rfl) Tryz.func4
  (witness_row_at (enc := enc) (C := Tryz.checked) false (rk os) SM (World.laidAll_os _ _ _) (by kernel_rfl) (by kernel_rfl) (by kernel_rfl)
   (OpenSpec.preRow_of_cond 8 hx (by kernel_rfl) (fun k hk => by cases hk; kernel_rfl) (by kernel_rfl) (NW os))) ?_
 intro W base args ds gs before hval hW _ hcond _ hL _ _
 exact Nv H enc W base args ds gs before hval hW hL (hcond _ rfl)
theorem said : Rows.CodePrintsUptoSaid :=
 OpenClaim.holds_of_cond 4 Tryz.f4 rfl rfl rfl rfl rfl rfl rfl ⟨rfl, rfl, rfl, rfl, rfl⟩ rfl rfl rfl rfl rfl (by kernel_rfl) Tryz.func4 facts
  (of_decide_eq_true (by kernel_rfl)) (by unfold Func.isWrapper; first | (rw [if_pos (by decide +kernel)]; kernel_rfl) | (rw [if_neg (by decide +kernel)]; exact ⟨rfl, rfl⟩))
  (fun os started H enc _ F => by rw [OpenClaim.pre_eq_preRow]; exact lifted os started H enc F)
theorem plain (f : FuncId) (fn : Func) (hf : Tryz.pinned.checked.prog.funcNamed "loupe/loupelaw20.CodePrints" = some f) (hfn : Tryz.pinned.checked.prog.funcs[f]? = some fn) :
  true = Tryz.pinned.checked.prog.looks [] /\ ∀ (j : Nat) t, fn.params[j]? = some t -> Tryz.pinned.checked.prog.wantsStandIn t = false := by
 obtain rfl : f = 4 := Option.some.inj ((show Tryz.prog.funcNamed "loupe/loupelaw20.CodePrints" = some 4 by kernel_rfl).symm.trans hf) |>.symm
 obtain rfl : fn = Tryz.f4 := (Option.some.inj (Tryz.func4.symm.trans hfn)).symm
 refine ⟨by kernel_rfl, fun j t ht => ?_⟩
 rw [Tryz.params4] at ht
 obtain rfl : t = 25 := by simpa using Array.mem_of_getElem? ht
 exact (show Tryz.prog.wantsStandIn 25 = false by kernel_rfl)
theorem proved : Rows.CodePrintsUptoCardSaid :=
 Claim7.holds_tied_plain_at .later [] _ _ _ _ said (fun _ h => by cases h) (by kernel_rfl) (fun _ h => by cases h) codePrintsUpto_row_tie rfl ⟨rfl, rfl⟩ (by kernel_rfl) rfl plain (by kernel_rfl)
end
end Go.Proofs.YtnemkecffmdlnaaGreatDoor.codePrints
