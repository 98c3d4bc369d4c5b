/-
 Part 5 of the proof (packed).
-/
import Derived.Test.YtnemkecffmdlnaaGreatDoorB4
import Derived.Shelf.LaysM
import Derived.Shelf.Strconv.Itoa3
import Derived.Test.YtnemkecffmdlnaaGreatDoorProg
set_option linter.unusedSimpArgs false
set_option linter.unusedVariables false
set_option linter.defProp false
namespace Go.Proofs.YtnemkecffmdlnaaGreatDoor
section
open Go.RowKit Go.LE
set_option maxRecDepth 10000
theorem oJ (d : Nd) : partsOf (.v (.agg d.bh.toArray)) = List.map SV.v d.bh := rfl
theorem Af (d : Nd) : (List.map SV.v d.bh).length = 261 := by rw [List.length_map, Nd.fZ]
theorem VE (d : Nd) (x : SV) : (List.map SV.v d.bh).getD 0 x = .v (.int .i64 d.op) := rfl
theorem TW (d : Nd) (x : SV) (j : Nat) (v : Value) (h : [Value.int .i64 d.a, .int .i64 d.b, .int .i64 d.m, .int .i64 d.n][j]? = some v) : (List.map SV.v d.bh).getD (257 + j) x = .v v := by
 rw [List.getD_eq_getElem?_getD, List.getElem?_map, Nd.mZ, h]; rfl
theorem Vx (d : Nd) (x : SV) : (List.map SV.v d.bh).getD 257 x = .v (.int .i64 d.a) := TW d x 0 _ rfl
theorem Wa (d : Nd) (x : SV) : (List.map SV.v d.bh).getD 258 x = .v (.int .i64 d.b) := TW d x 1 _ rfl
theorem Wr (d : Nd) (x : SV) : (List.map SV.v d.bh).getD 259 x = .v (.int .i64 d.m) := TW d x 2 _ rfl
theorem VX (d : Nd) (x : SV) : (List.map SV.v d.bh).getD 260 x = .v (.int .i64 d.n) := TW d x 3 _ rfl
theorem xy (x : Rx) (m : Int) : ∀ (j : Nat) (k : Int) (w : Rx), aG w <= aG (dh x m j k w)
 | 0, _, w => Nat.le_refl _
 | j + 1, k, w => by
  have := xy x m j (k + 1) (.cat w (cE x m k))
  show _ <= aG (dh x m j (k + 1) (.cat w (cE x m k)))
  have e : aG (.cat w (cE x m k)) = aG w + aG (cE x m k) + 1 := rfl
  omega
def Jl (o : Option Rx) : Nat := o.elim 0 aG
def NP (m : Nat) (o : Option Rx) : List Nd := o.elim [] (dx m)
def UR (m : Nat) (o : Option Rx) : Int := o.elim (-1) fun w => ((m + aG w - 1 : Nat) : Int)
theorem Uh (m : Nat) (o : Option Rx) : (NP m o).length = Jl o := by
 cases o with
 | none => rfl
 | some w => exact eZ w m
section
variable (ar : List Nd) (ts : List RT) (ao : Option Addr) (c n : Nat)
noncomputable def Γ69 (h : iw ar ts ao c n) (h' : La ar ts ao c n) : Env Tryz.prog := ⟨fun | 124 => some (oQ ar ao c 124 Tryz.call124 (below n) (M3 ts) h).spec | 215 => some (oQ ar ao c 215 Tryz.call215 (below n) (MP ts) h').spec | 177 => some Ac.spec | _ => none, fun _ => none, fun _ _ => none⟩
theorem Gt69c124 (h : iw ar ts ao c n) (h' : La ar ts ao c n) : (Γ69 ar ts ao c n h h').sp 124 = some (oQ ar ao c 124 Tryz.call124 (below n) (M3 ts) h).spec := rfl
theorem Gt69c215 (h : iw ar ts ao c n) (h' : La ar ts ao c n) : (Γ69 ar ts ao c n h h').sp 215 = some (oQ ar ao c 215 Tryz.call215 (below n) (MP ts) h').spec := rfl
theorem Gt69c177 (h : iw ar ts ao c n) (h' : La ar ts ao c n) : (Γ69 ar ts ao c n h h').sp 177 = some Ac.spec := rfl
def cz := (aq jV jW jb cW cX c8 cT (aq cZ c9 cR cV rG rQ sr (aq pY vL vO vp vj tE ub (aq pX sc sv qg su rT rS (aq rJ sa rD sq CG DG Cd (aq DE Db @aN @au @aA @az @vX (aq @vv @Fh @yX @qj @qf @nz @nP (aq @sW @VE @Vx @Wa @Wr @VX @Af (eH @oJ @Gt69c124 @Gt69c215 @Gt69c177)))))))))
set_option maxHeartbeats 4000000 in
theorem vn (hg : iw ar ts ao c n) (ho' : La ar ts ao c n) (d : Nd) (ha : 0 <= d.a /\ d.a < n) (hmn : rq d.m d.n) : ED ar ao c 176 (.agg d.bh.toArray) (cy (ts.getD d.a.toNat .eps).expand d.m d.n) := by
 intro l r u fp w hl ho hlt hs
 have hix : M3 ts (.int .i64 d.a) = (ts.getD d.a.toNat .eps).expand := rfl
 have hop : MP ts (.int .i64 d.a) = .alt (ts.getD d.a.toNat .eps).expand .eps := rfl
 refine kr (nt := 79) _ _ [.tmp 6] (by show 2 <= 7; omega) ho hlt Tryz.func176 rfl rfl rfl ?_
 unfold rq at hmn
 refine vR Γ0 cz ?_
 refine vR Γ0 cz ?_
 generalize hX : (ts.getD d.a.toNat .eps).expand = X at *
 refine bp ⟨20, bQ [(0, .is (.v (.slice ao ar.length c))), (2, .is (.own 0 0)), (4, .is (.own 8 0)), (7, .is (.v (.int .i64 (bZ d.m))))], bY [(0, .cells 64 [.hd 1, .v (.int .i64 r)]), (1, .row 243 261 l.length (List.map SV.v (cN l))), (8, .cells 243 (List.map SV.v d.bh))]⟩ ?_ ?_
 ·skip
  refine vR Γ0 cz ?_
  refine wC cz (fun hc => ?_) (fun hc => ?_)
  ·have h2 : d.m = -2 := by simpa using hc
   rw [bZ, if_pos h2]
   refine vr Γ0 cz ?_
   exact wM (fun k => .key k) cz
  ·have h2 : ¬ d.m = -2 := by simpa using hc
   rw [bZ, if_neg h2]
   refine wK ?_
   exact wM (fun k => .key k) cz
 refine Wp.seq ?_
 refine vR Γ0 cz ?_
 refine wC cz (fun hc => ?_) (fun hc => ?_)
 ·have h3 : d.n < 0 /\ bZ d.m = 0 := by simpa using hc
  have he : cy X d.m d.n = .star X := by rw [cy, if_pos h3]
  rw [he] at hl ⊢
  have hT := eZ X l.length
  have hrs : aG (.star X) = aG X + 1 := rfl
  have hla : dx l.length (.star X) = dx l.length X ++ [bP 4 ((l.length + aG X - 1 : Nat) : Int) 0] := rfl
  refine wR (Γ69 ar ts ao c n hg ho') (ab cz hX) ?_ ?_
  ·exact ⟨⟨⟨⟨l, rfl, rfl⟩, ha, by omega, hs⟩, by decide, by simp⟩, ⟨l ++ dx l.length X, by rw [bF], by rw [List.length_append, hT], by rw [List.length_append, hT]; omega⟩, by decide, by simp⟩
  refine wZ cz ?_
  rw [hla, hrs, bF, ki, <- List.append_assoc, show l.length + (aG X + 1) - 1 = l.length + aG X by omega, show l.length + (aG X + 1) = l.length + aG X + 1 by omega]
  exact ⟨_, _, rfl, fun E => rfl, _, _, rfl, by simp only [dS, Op.operands, Value.cells, σ0, σB, Nat.reduceEqDiff, Nat.reduceAdd, Nat.reduceMul, Nat.reduceLT, Nat.reduceLeDiff, Nat.reduceBEq, ae, Int.reduceToNat, Int.reduceLT, Int.reduceLE, Nat.reduceDiv, Nat.reduceMod, Nat.reduceSub, Int.reducePow, Nat.reducePow, σP, σB3, cz, aE]; rfl, by decide⟩
 have h3 : ¬ (d.n < 0 /\ bZ d.m = 0) := by
  intro h
  apply Bool.eq_false_iff.1 hc
  simp [h.1, h.2]
 refine wK ?_
 refine Wp.seq ?_
 refine vR Γ0 cz ?_
 refine wC cz (fun hc => ?_) (fun hc => ?_)
 ·have h4 : d.n = 0 := by simpa using hc
  have he : cy X d.m d.n = .eps := by rw [cy, if_neg h3, if_pos h4]
  rw [he] at hl ⊢
  have hrs : aG .eps = 1 := rfl
  have hla : dx l.length .eps = [bP 0 0 0] := rfl
  refine wR (Γ69 ar ts ao c n hg ho') cz ?_ ?_
  ·exact ⟨⟨l, rfl, rfl, by omega⟩, by decide, by simp⟩
  refine wZ cz ?_
  rw [hla, hrs, ki, Nat.add_sub_cancel]
  exact ⟨_, _, rfl, fun E => rfl, _, _, rfl, by simp only [dS, Op.operands, Value.cells, σ0, σB, Nat.reduceEqDiff, Nat.reduceAdd, Nat.reduceMul, Nat.reduceLT, Nat.reduceLeDiff, Nat.reduceBEq, ae, Int.reduceToNat, Int.reduceLT, Int.reduceLE, Nat.reduceDiv, Nat.reduceMod, Nat.reduceSub, Int.reducePow, Nat.reducePow, σP, σB3, cz, aE]; rfl, by decide⟩
 have h4 : ¬ d.n = 0 := by simpa using hc
 refine wK ?_
 have hpm : 0 <= bZ d.m /\ bZ d.m <= 255 := by unfold bZ; split <;> omega
 obtain ⟨cnt, hcnt⟩ : ∃ cnt : Nat, (if d.n < 0 then bZ d.m else d.n) = (cnt : Int) := ⟨(if d.n < 0 then bZ d.m else d.n).toNat, by split <;> omega⟩
 have hcnt1 : 1 <= cnt := by
  by_cases h : d.n < 0
  ·rw [if_pos h] at hcnt; omega
  ·rw [if_neg h] at hcnt; omega
 have hcnt2 : cnt <= 255 := by
  by_cases h : d.n < 0
  ·rw [if_pos h] at hcnt; omega
  ·rw [if_neg h] at hcnt; omega
 obtain ⟨fin, hfin⟩ : ∃ fin, fin = dh X (bZ d.m) (cnt - 1) 1 (cE X (bZ d.m) 0) := ⟨_, rfl⟩
 have he : cy X d.m d.n = if d.n < 0 then .cat fin (.star X) else fin := by
  rw [cy, if_neg h3, if_neg h4]
  by_cases h : d.n < 0
  ·rw [if_pos h] at hcnt
   rw [if_pos h, if_pos h, hfin, hcnt, show ((cnt : Int) - 1).toNat = cnt - 1 by omega]
  ·rw [if_neg h] at hcnt
   rw [if_neg h, if_neg h, hfin, hcnt, show ((cnt : Int) - 1).toNat = cnt - 1 by omega]
 have hlf : l.length + aG fin <= 4000000 := by
  rw [he] at hl
  by_cases h : d.n < 0
  ·rw [if_pos h] at hl
   have : aG (.cat fin (.star X)) = aG fin + (aG X + 1) + 1 := rfl
   omega
  ·rw [if_neg h] at hl
   exact hl
 refine vR Γ0 cz ?_
 refine bp ⟨40, bQ [(0, .is (.v (.slice ao ar.length c))), (2, .is (.own 0 0)), (4, .is (.own 8 0)), (7, .is (.v (.int .i64 (bZ d.m)))), (8, .is (.v (.int .i64 (cnt : Nat))))], bY [(0, .cells 64 [.hd 1, .v (.int .i64 r)]), (1, .row 243 261 l.length (List.map SV.v (cN l))), (8, .cells 243 (List.map SV.v d.bh))]⟩ ?_ ?_
 ·skip
  refine vR Γ0 cz ?_
  refine wC cz (fun hc => ?_) (fun hc => ?_)
  ·have h5 : d.n < 0 := by simpa using hc
   rw [if_pos h5] at hcnt
   rw [<- hcnt]
   refine vr Γ0 cz ?_
   exact wM (fun k => .key k) cz
  ·have h5 : ¬ d.n < 0 := by simpa using hc
   rw [if_neg h5] at hcnt
   rw [<- hcnt]
   refine wK ?_
   exact wM (fun k => .key k) cz
 refine vR Γ0 cz ?_
 refine Wp.seq ?_
 refine vR Γ0 cz ?_
 refine Wp.block ?_
 refine Wp.loop (fun p : Nat × Option Rx => ⟨60, bQ [(0, .is (.v (.slice ao ar.length c))), (2, .is (.own 0 0)), (4, .is (.own 8 0)), (7, .is (.v (.int .i64 (bZ d.m)))), (8, .is (.v (.int .i64 (cnt : Nat)))), (9, .is (.v (.int .i64 (UR l.length p.2)))), (10, .is (.v (.int .i64 (p.1 : Nat))))], bY [(0, .cells 64 [.hd 1, .v (.int .i64 r)]), (1, .row 243 261 (l.length + Jl p.2) (List.map SV.v (cN l ++ cN (NP l.length p.2)))), (8, .cells 243 (List.map SV.v d.bh))]⟩)
  (fun p => p.1 <= cnt /\ match p.2 with | none => p.1 = 0 | some y => 1 <= p.1 /\ dh X (bZ d.m) (cnt - p.1) p.1 y = fin) (fun p => cnt - p.1) (0, none) ?_ ⟨Nat.zero_le _, rfl⟩ ?_
 ·exact wM (fun k => .key k) (yR cz @UR.eq_1 @Jl.eq_1 @NP.eq_1 @Option.elim.eq_1.{0,1} @Option.elim.eq_2.{0,1} (show cN [] = [] from rfl))
 rintro ⟨k, o⟩ ⟨h1, ho2⟩
 simp only at h1 ho2
 refine Wp.seq ?_
 refine vR Γ0 cz ?_
 refine wC cz (fun hc => ?_) (fun hc => ?_)
 ·have hk : k < cnt := by
   simp at hc
   omega
  refine wK ?_
  refine Wp.seq (Wp.block ?_)
  refine vR Γ0 cz ?_
  have hO := Uh l.length o
  have hnext : ∃ w2, dh X (bZ d.m) (cnt - (k + 1)) (k + 1 : Nat) w2 = fin /\ (match o with | none => w2 = cE X (bZ d.m) k | some y => w2 = .cat y (cE X (bZ d.m) k)) := by
   cases o with
   | none =>
    simp only at ho2
    subst ho2
    exact ⟨_, hfin.symm, rfl⟩
   | some y =>
    refine ⟨_, ?_, rfl⟩
    have h2 := ho2.2
    rw [show cnt - k = (cnt - (k + 1)) + 1 by omega] at h2
    exact h2
  obtain ⟨w2, hw2, hw2o⟩ := hnext
  have hr2 := xy X (bZ d.m) (cnt - (k + 1)) (k + 1 : Nat) w2
  rw [hw2] at hr2
  have hrp : Jl o + aG (cE X (bZ d.m) k) <= aG w2 /\ (o.isSome -> Jl o + aG (cE X (bZ d.m) k) + 1 <= aG w2) := by
   cases o with
   | none =>
    simp only at hw2o
    subst hw2o
    exact ⟨by simp [Jl], fun h => by cases h⟩
   | some y =>
    simp only at hw2o
    subst hw2o
    exact ⟨by show aG y + _ <= aG y + _ + 1; omega, fun _ => Nat.le_refl _⟩
  refine bp ⟨90, bQ [(0, .is (.v (.slice ao ar.length c))), (2, .is (.own 0 0)), (4, .is (.own 8 0)), (7, .is (.v (.int .i64 (bZ d.m)))), (8, .is (.v (.int .i64 (cnt : Nat)))), (9, .is (.v (.int .i64 (UR l.length o)))), (10, .is (.v (.int .i64 (k : Nat)))), (11, .is (.v (.int .i64 ((l.length + Jl o + aG (cE X (bZ d.m) k) - 1 : Nat) : Int))))], bY [(0, .cells 64 [.hd 1, .v (.int .i64 r)]), (1, .row 243 261 (l.length + Jl o + aG (cE X (bZ d.m) k)) (List.map SV.v (cN l ++ cN (NP l.length o) ++ cN (dx (l.length + Jl o) (cE X (bZ d.m) k))))), (8, .cells 243 (List.map SV.v d.bh))]⟩ ?_ ?_
  ·skip
   refine vR Γ0 cz ?_
   refine wC cz (fun hc => ?_) (fun hc => ?_)
   ·have h5 : (k : Int) < bZ d.m := by simpa using hc
    have hp : cE X (bZ d.m) k = X := by rw [cE, if_pos h5]
    rw [hp] at hrp ⊢
    refine wr (Γ69 ar ts ao c n hg ho') (ab cz hX) ?_ ?_
    ·exact ⟨⟨⟨l ++ NP l.length o, by rw [bF], by rw [List.length_append, hO]⟩, ha, by omega, hs⟩, by decide, by simp⟩
    exact wM (fun x => if x = 1 then .key 568 else .key x) cz
   ·have h5 : ¬ (k : Int) < bZ d.m := by simpa using hc
    have hp : cE X (bZ d.m) k = .alt X .eps := by rw [cE, if_neg h5]
    rw [hp] at hrp ⊢
    refine wr (Γ69 ar ts ao c n hg ho') (ab cz hop) ?_ ?_
    ·exact ⟨⟨⟨l ++ NP l.length o, by rw [bF], by rw [List.length_append, hO]⟩, ha, by omega, hs⟩, by decide, by simp⟩
    exact wM (fun x => if x = 1 then .key 568 else .key x) cz
  generalize cE X (bZ d.m) k = q at *
  have hq := gY q
  cases o with
  | none =>
   simp only at hw2o ho2
   subst hw2o ho2
   have e1 : UR l.length (none : Option Rx) = -1 := rfl
   have e2 : cN l ++ cN (NP l.length (none : Option Rx)) = cN l := List.append_nil _
   have e3 : l.length + Jl (none : Option Rx) = l.length := rfl
   rw [e1, e2, e3]
   refine vR Γ0 cz ?_
   refine wC cz (fun hc => ?_) (fun hc => ?_)
   rotate_left
   ·exfalso
    simp at hc
   refine vr Γ0 cz ?_
   refine vr Γ0 cz ?_
   refine ⟨(1, some w2), ⟨by omega, Nat.le_refl _, hw2⟩, by omega, ?_⟩
   exact wM (fun x => .key x) (lX cz @UR.eq_1 @Jl.eq_1 @NP.eq_1 @Option.elim.eq_1.{0,1} @Option.elim.eq_2.{0,1})
  | some y =>
   simp only at hw2o ho2
   have e1 : UR l.length (some y) = ((l.length + aG y - 1 : Nat) : Int) := rfl
   have e2 : NP l.length (some y) = dx l.length y := rfl
   have e3 : Jl (some y) = aG y := rfl
   have hrp' := hrp.2 rfl
   rw [e1, e2, e3]
   rw [e3] at hrp'
   have hL1 := eZ y l.length
   have hL2 := eZ q (l.length + aG y)
   refine vR Γ0 cz ?_
   refine wC cz (fun hc => ?_) (fun hc => ?_)
   ·exfalso
    simp at hc
    omega
   refine wr (Γ69 ar ts ao c n hg ho') cz ?_ ?_
   ·exact ⟨⟨l ++ dx l.length y ++ dx (l.length + aG y) q, by rw [bF, bF], by rw [List.length_append, List.length_append, hL1, hL2], by rw [List.length_append, List.length_append, hL1, hL2]; omega⟩, by decide, by simp⟩
   have wk : IntKind.i64.wrap ((k : Int) + 1) = ((k + 1 : Nat) : Int) := by rw [aa (by omega) (by omega)]; omega
   refine vr Γ0 (ab cz wk) ?_
   subst hw2o
   refine ⟨(k + 1, some (.cat y q)), ⟨by omega, by simp only; omega, hw2⟩, by simp only; omega, ?_⟩
   have f1 : UR l.length (some (.cat y q)) = ((l.length + aG y + aG q : Nat) : Int) := by
    show ((l.length + (aG y + aG q + 1) - 1 : Nat) : Int) = _
    congr 1; omega
   have f2 : l.length + Jl (some (.cat y q)) = l.length + aG y + aG q + 1 := by
    show l.length + (aG y + aG q + 1) = _
    omega
   have f3 : cN l ++ cN (NP l.length (some (.cat y q))) = cN l ++ cN (dx l.length y) ++ cN (dx (l.length + aG y) q) ++ (bP 2 ((l.length + aG y - 1 : Nat) : Int) ((l.length + aG y + aG q - 1 : Nat) : Int)).bh := by
    show cN l ++ cN (dx l.length y ++ (dx (l.length + aG y) q ++ [_])) = _
    rw [bF, bF, ki]
    simp only [List.append_assoc]
   exact wM (fun x => if x = 1 then .key 760 else .key x) (eH cz f1 f2 f3)
 ·have hk : k = cnt := by
   simp at hc
   omega
  subst hk
  refine wE ?_
  cases o with
  | none =>
   simp only at ho2
   omega
  | some y =>
   simp only at ho2
   have hy : y = fin := by
    have := ho2.2
    rw [Nat.sub_self] at this
    exact this
   subst hy
   have e1 : UR l.length (some y) = ((l.length + aG y - 1 : Nat) : Int) := rfl
   have e2 : NP l.length (some y) = dx l.length y := rfl
   have e3 : Jl (some y) = aG y := rfl
   rw [e1, e2, e3]
   have hL1 := eZ y l.length
   refine Wp.seq ?_
   refine vR Γ0 cz ?_
   refine wC cz (fun hc => ?_) (fun hc => ?_)
   ·have h5 : d.n < 0 := by simpa using hc
    rw [if_pos h5] at he
    rw [he] at hl ⊢
    have hrs : aG (.cat y (.star X)) = aG y + (aG X + 1) + 1 := rfl
    have hL2 := eZ X (l.length + aG y)
    refine wr (Γ69 ar ts ao c n hg ho') (ab cz hX) ?_ ?_
    ·refine ⟨⟨⟨⟨l ++ dx l.length y, by rw [bF], by rw [List.length_append, hL1]⟩, ha, by omega, hs⟩, by decide, by simp⟩,
      ⟨⟨l ++ dx l.length y ++ dx (l.length + aG y) X, by rw [bF, bF], by rw [List.length_append, List.length_append, hL1, hL2], by rw [List.length_append, List.length_append, hL1, hL2]; omega⟩, by decide, by simp⟩,
      ⟨l ++ dx l.length y ++ dx (l.length + aG y) X ++ [bP 4 ((l.length + aG y + aG X - 1 : Nat) : Int) 0], by rw [bF, bF, bF, ki], by rw [List.length_append, List.length_append, List.length_append, hL1, hL2, List.length_singleton], by rw [List.length_append, List.length_append, List.length_append, hL1, hL2, List.length_singleton]; omega⟩, by decide, by simp⟩
    refine vR Γ0 cz ?_
    refine wZ cz ?_
    have g1 : l.length + aG (.cat y (.star X)) = l.length + aG y + aG X + 1 + 1 := by rw [hrs]; omega
    have g2 : l.length + aG y + aG X + 1 + 1 - 1 = l.length + aG y + aG X + 1 := by omega
    have g3 : cN l ++ cN (dx l.length (.cat y (.star X))) = cN l ++ cN (dx l.length y) ++ cN (dx (l.length + aG y) X) ++ (bP 4 ((l.length + aG y + aG X - 1 : Nat) : Int) 0).bh ++ (bP 2 ((l.length + aG y - 1 : Nat) : Int) ((l.length + aG y + aG X : Nat) : Int)).bh := by
     show cN l ++ cN (dx l.length y ++ ((dx (l.length + aG y) X ++ [_]) ++ [_])) = _
     rw [bF, bF, bF, ki, ki]
     simp only [List.append_assoc]
     rw [show l.length + aG y + aG (.star X) - 1 = l.length + aG y + aG X from rfl]
    rw [g1, g2, g3]
    exact ⟨_, _, rfl, fun E => rfl, _, _, rfl, by simp only [dS, Op.operands, Value.cells, σ0, σB, Nat.reduceEqDiff, Nat.reduceAdd, Nat.reduceMul, Nat.reduceLT, Nat.reduceLeDiff, Nat.reduceBEq, ae, Int.reduceToNat, Int.reduceLT, Int.reduceLE, Nat.reduceDiv, Nat.reduceMod, Nat.reduceSub, Int.reducePow, Nat.reducePow, σP, σB3, cz, aE]; rfl, by decide⟩
   ·have h5 : ¬ d.n < 0 := by simpa using hc
    rw [if_neg h5] at he
    rw [he] at hl ⊢
    refine wK ?_
    refine vR Γ0 cz ?_
    refine wZ cz ?_
    exact ⟨_, _, rfl, fun E => rfl, _, _, rfl, by simp only [dS, Op.operands, Value.cells, σ0, σB, Nat.reduceEqDiff, Nat.reduceAdd, Nat.reduceMul, Nat.reduceLT, Nat.reduceLeDiff, Nat.reduceBEq, ae, Int.reduceToNat, Int.reduceLT, Int.reduceLE, Nat.reduceDiv, Nat.reduceMod, Nat.reduceSub, Int.reducePow, Nat.reducePow, σP, σB3, cz, aE]; rfl, by decide⟩
end
end
section
open Go.RowKit Go.LE
set_option maxRecDepth 10000
theorem AR.nm {ar : List Nd} {ts : List RT} (h : AR ar ts) : ∀ k (hk : k < ar.length), ∃ t, ts[k]? = some t /\ NM (ts.take k) ar[k] t := by
 induction h with
 | nil => intro k hk; cases hk
 | @snoc ar ts d t ha hn ih =>
  intro k hk
  by_cases hlt : k < ar.length
  ·obtain ⟨t', h1, h2⟩ := ih k hlt
   have hl := ha.len
   refine ⟨t', by rw [List.getElem?_append_left (by omega)]; exact h1, ?_⟩
   rw [List.getElem_append_left hlt, List.take_append_of_le_length (by omega)]
   exact h2
  ·have hk' : k = ar.length := by simp at hk; omega
   subst hk'
   have hl := ha.len
   refine ⟨t, by rw [<- hl]; simp, ?_⟩
   have e : (ts ++ [t]).take ar.length = ts := by rw [<- hl, List.take_left]
   rw [List.getElem_append_right (Nat.le_refl _), e]
   simpa using hn
theorem qA {w : World} {b : Nat} : ∀ (vs : List Value) (o : Nat), (∀ j (h : j < vs.length), w.cell? ⟨b, o + j, none⟩ = some vs[j]) -> bx w b o vs.length = List.map SV.v vs /\ cY w b o vs.length
 | [], _, _ => ⟨rfl, trivial⟩
 | v :: r, o, h => by
  have h0 := h 0 (by simp)
  have hr := qA r (o + 1) fun j hj => by
   have := h (j + 1) (by simpa using hj)
   rw [show o + (j + 1) = o + 1 + j by omega] at this
   simpa using this
  rw [Nat.add_zero] at h0
  simp only [List.getElem_cons_zero] at h0
  rw [List.length_cons]
  exact ⟨by rw [bx, h0, hr.1]; rfl, by rw [cY, h0]; exact ⟨rfl, hr.2⟩⟩
theorem im {w : World} {S : Nat -> Prop} {ao : Option Addr} {l : List Nd} (h : eP w S ao (cN l)) {k : Nat} (hk : k < l.length) : ∃ b o, ao = some ⟨b, o, none⟩ /\ S b /\ bx w b (o + k * 261) 261 = List.map SV.v l[k].bh /\ (cY w b (o + k * 261) 261) = True := by
 have hl := JO l
 rcases h with h | ⟨b, o, rfl, hc⟩
 ·rw [h] at hl; simp at hl; omega
 ·have h0 := hc 0 (by omega)
  have := qA (w := w) (b := b) l[k].bh (o + k * 261) fun j hj => by
   rw [Nd.fZ] at hj
   have h1 := hc (k * 261 + j) (by omega)
   have h2 := Eo l k j hk hj
   rw [List.getElem?_eq_getElem (by omega), List.getElem?_eq_getElem (by rw [Nd.fZ]; exact hj)] at h2
   simp only [Option.some.injEq] at h2
   rw [<- h2, <- h1.2, Nat.add_assoc]
  rw [Nd.fZ] at this
  exact ⟨b, o, rfl, h0.1, this.1, eq_true this.2⟩
theorem JF (d : Nd) : List.take 256 (List.drop 1 (List.map SV.v d.bh)) = List.map SV.v (eW d.set.getLsbD) := by
 have e : List.drop 1 (List.map SV.v d.bh) = List.map SV.v (eW d.set.getLsbD) ++ List.map SV.v [.int .i64 d.a, .int .i64 d.b, .int .i64 d.m, .int .i64 d.n] := by
  show List.map SV.v (eW d.set.getLsbD ++ _) = _
  rw [List.map_append]
 rw [e, List.take_left' (by rw [dd])]
theorem vM (d : Nd) : List.take 261 (List.map SV.v d.bh) = List.map SV.v d.bh := List.take_of_length_le (by rw [Af]; omega)
theorem qc (op : Int) (S : CS) : df Tryz.prog 243 [0, 1] [.v (.int .i64 op), .agg (List.map SV.v (eW S.getLsbD))] = ⟨True, .agg ((⟨op, S, 0, 0, 0, 0⟩ : Nd).bh.map .v), [], none, [], []⟩ := by
 kernel_rfl
theorem NM.leaf {ts : List RT} {d : Nd} {t : RT} (h : NM ts d t) (h2 : d.op < 2) : (∀ m, dx m t.expand = [⟨d.op, d.set, 0, 0, 0, 0⟩]) /\ aG t.expand = 1 := by
 cases h with
 | eps h0 h1 => exact ⟨fun m => by rw [h0, h1]; rfl, rfl⟩
 | cls h0 => exact ⟨fun m => by rw [h0]; rfl, rfl⟩
 | cat a b h0 | alt a b h0 | and a b h0 | minus a b h0 | rep a h0 => omega
theorem NM.two {ts : List RT} {d : Nd} {t : RT} (h : NM ts d t) (h2 : 2 <= d.op) (h7 : d.op ≠ 7) : ∃ a b, ts[d.a.toNat]? = some a /\ ts[d.b.toNat]? = some b /\ aG t.expand = aG a.expand + aG b.expand + 1 /\
  ∀ m, dx m t.expand = dx m a.expand ++ (dx (m + aG a.expand) b.expand ++ [bP d.op ((m + aG a.expand - 1 : Nat) : Int) ((m + aG a.expand + aG b.expand - 1 : Nat) : Int)]) := by
 cases h with
 | eps h0 | cls h0 => omega
 | cat a b h0 _ h1 _ h2 => exact ⟨a, b, h1, h2, rfl, fun m => by rw [h0]; rfl⟩
 | alt a b h0 _ h1 _ h2 => exact ⟨a, b, h1, h2, rfl, fun m => by rw [h0]; rfl⟩
 | and a b h0 _ h1 _ h2 => exact ⟨a, b, h1, h2, rfl, fun m => by rw [h0]; rfl⟩
 | minus a b h0 _ h1 _ h2 => exact ⟨a, b, h1, h2, rfl, fun m => by rw [h0]; rfl⟩
 | rep a h0 => exact absurd h0 h7
theorem NM.seven {ts : List RT} {d : Nd} {t : RT} (h : NM ts d t) (h7 : d.op = 7) : ∃ a, ts[d.a.toNat]? = some a /\ t.expand = cy a.expand d.m d.n := by
 cases h with
 | eps h0 | cls h0 | cat a b h0 | alt a b h0 | and a b h0 | minus a b h0 => omega
 | rep a h0 _ h1 _ => exact ⟨a, h1, rfl⟩
theorem DL : List.drop 260 (List.map SV.v (List.replicate 256 (Value.bool false) ++ [Value.int .i64 0] ++ [Value.int .i64 0] ++ [Value.int .i64 0] ++ [Value.int .i64 0])) = [] := by
 apply List.drop_of_length_le
 simp
section
variable (ar : List Nd) (ts : List RT) (ao : Option Addr) (c n : Nat) (d : Nd)
abbrev WH : Prop := ∀ v, v = .agg d.bh.toArray -> ED ar ao c 176 v ((fun _ => cy (ts.getD d.a.toNat .eps).expand d.m d.n) v)
noncomputable def Γ70 (h : iw ar ts ao c n) (h' : WH ar ts ao c d) : Env Tryz.prog := ⟨fun | 124 => some (oQ ar ao c 124 Tryz.call124 (below n) (M3 ts) h).spec | 176 => some (oQ ar ao c 176 Tryz.call176 (fun v => v = .agg d.bh.toArray) (fun _ => cy (ts.getD d.a.toNat .eps).expand d.m d.n) h').spec | 177 => some Ac.spec | _ => none, fun _ => none, fun _ _ => none⟩
theorem Gt70c124 (h : iw ar ts ao c n) (h' : WH ar ts ao c d) : (Γ70 ar ts ao c n d h h').sp 124 = some (oQ ar ao c 124 Tryz.call124 (below n) (M3 ts) h).spec := rfl
theorem Gt70c176 (h : iw ar ts ao c n) (h' : WH ar ts ao c d) : (Γ70 ar ts ao c n d h h').sp 176 = some (oQ ar ao c 176 Tryz.call176 (fun v => v = .agg d.bh.toArray) (fun _ => cy (ts.getD d.a.toNat .eps).expand d.m d.n) h').spec := rfl
theorem Gt70c177 (h : iw ar ts ao c n) (h' : WH ar ts ao c d) : (Γ70 ar ts ao c n d h h').sp 177 = some Ac.spec := rfl
def iq := (aq jV jW HS HB E9 jb cW (aq cX c8 cT cZ c9 cR cV (aq rG rQ sr pY vL vO vp (aq vj tE ub yt xp yw xi (aq pX sc sv qg su rT rS (aq rJ sa rD sq CG DG Cd (aq DE Db @aN @au @aA @az @vX (aq @vv @Fh @yX @qj @qf @nz @nP (aq @sW @VE @Vx @Wa @Wr @VX @Af (aq @oJ @Gt70c124 @Gt70c176 @Gt70c177 @pC @pq @JF (eH @qc @DL @vM @aE)))))))))))
set_option maxHeartbeats 4000000 in
theorem NS (har : AR ar ts) (k : Nat) (hk : k < ar.length) (hg : iw ar ts ao c k) : ED ar ao c 124 (.int .i64 k) (ts.getD k .eps).expand := by
 obtain ⟨t, ht, hnm⟩ := har.nm k hk
 have htk : (ts.getD k .eps) = t := by rw [List.getD_eq_getElem?_getD, ht]; rfl
 have hok := har.ok k hk
 have at' : ∀ (x : Int) (a : RT), (ts.take k)[x.toNat]? = some a -> ts.getD x.toNat .eps = a := fun x a hx => by
  rw [List.getElem?_take] at hx
  split at hx
  ·rw [List.getD_eq_getElem?_getD, hx]; rfl
  ·cases hx
 rw [htk]
 intro l r u fp w hl ho hlt hs
 obtain ⟨b, o, hao, hb, hx1, hx2⟩ := im hs hk
 have hun : WH ar ts ao c ar[k] \/ ar[k].op ≠ 7 := by
  by_cases h7 : ar[k].op = 7
  ·left
   rintro _ rfl
   exact vn ar ts ao c k hg (Is ar ts ao c k hg) ar[k] (hok.2.1 (by omega)) (hok.2.2.2 h7)
  ·exact .inr h7
 generalize ar[k] = d at *
 refine kr (nt := 61) _ _ [.tmp 6] (by show 2 <= 7; omega) ho hlt Tryz.func124 rfl rfl rfl ?_
 subst hao
 refine vR Γ0 iq ?_
 refine Wp.nZ Γ0 bR (by simp only [dS, Op.operands, Value.cells, σ0, σB, Nat.reduceEqDiff, Nat.reduceAdd, Nat.reduceMul, Nat.reduceLT, Nat.reduceLeDiff, Nat.reduceBEq, ae, Int.reduceToNat, Int.reduceLT, Int.reduceLE, Nat.reduceDiv, Nat.reduceMod, Nat.reduceSub, Int.reducePow, Nat.reducePow, σP, σB3, iq, ↓hx1, ↓hx2]; exact rfl) rfl ?_ ?_
 ·exact ⟨by omega, hb, by simp, Nd.dn d⟩
 refine Wp.seq ?_
 refine vR Γ0 iq ?_
 refine Wp.block ?_
 refine Wp.seq ?_
 refine vR Γ0 iq ?_
 have hnl : ∀ m : Nat, aG t.expand = 1 -> l.length + aG t.expand - 1 = l.length := fun _ h => by omega
 have leaf : d.op < 2 -> True := fun _ => trivial
 refine wC iq (fun hc => ?_) (fun hc => ?_)
 ·have h0 : d.op = 0 := by simpa using hc
  obtain ⟨hla, hrs⟩ := hnm.leaf (by omega)
  refine wK ?_
  refine wC iq (fun hc => ?_) (fun hc => ?_)
  rotate_left
  ·exfalso
   simp [h0] at hc
  rw [hla, hrs, <- bF, Nat.add_sub_cancel]
  refine l9 Γ0 iq ?_ ?_
  ·exact ⟨by simp, by unfold maxLen; omega, by omega, Nd.dn _⟩
  have w1 : IntKind.i64.wrap (((l.length + 1 : Nat) : Int) - 1) = ((l.length : Nat) : Int) := by rw [aa (by omega) (by omega)]; omega
  refine vR Γ0 (ab iq w1) ?_
  refine wZ iq ?_
  exact ⟨_, _, rfl, fun E => rfl, _, _, rfl, by simp only [dS, Op.operands, Value.cells, σ0, σB, Nat.reduceEqDiff, Nat.reduceAdd, Nat.reduceMul, Nat.reduceLT, Nat.reduceLeDiff, Nat.reduceBEq, ae, Int.reduceToNat, Int.reduceLT, Int.reduceLE, Nat.reduceDiv, Nat.reduceMod, Nat.reduceSub, Int.reducePow, Nat.reducePow, σP, σB3, iq, aE]; rfl, by decide⟩
 ·have h0 : ¬ d.op = 0 := by simpa using hc
  refine vr Γ0 iq ?_
  refine wC iq (fun hc => ?_) (fun hc => ?_)
  ·have h1 : d.op = 1 := by simpa using hc
   obtain ⟨hla, hrs⟩ := hnm.leaf (by omega)
   rw [hla, hrs, <- bF, Nat.add_sub_cancel]
   refine l9 Γ0 iq ?_ ?_
   ·exact ⟨by simp, by unfold maxLen; omega, by omega, Nd.dn _⟩
   have w1 : IntKind.i64.wrap (((l.length + 1 : Nat) : Int) - 1) = ((l.length : Nat) : Int) := by rw [aa (by omega) (by omega)]; omega
   refine vR Γ0 (ab iq w1) ?_
   refine wZ iq ?_
   exact ⟨_, _, rfl, fun E => rfl, _, _, rfl, by simp only [dS, Op.operands, Value.cells, σ0, σB, Nat.reduceEqDiff, Nat.reduceAdd, Nat.reduceMul, Nat.reduceLT, Nat.reduceLeDiff, Nat.reduceBEq, ae, Int.reduceToNat, Int.reduceLT, Int.reduceLE, Nat.reduceDiv, Nat.reduceMod, Nat.reduceSub, Int.reducePow, Nat.reducePow, σP, σB3, iq, aE]; rfl, by decide⟩
  have h1 : ¬ d.op = 1 := by simpa using hc
  refine vR Γ0 iq ?_
  refine wC iq (fun hc => ?_) (fun hc => ?_)
  ·have h7 : d.op = 7 := by simpa using hc
   obtain ⟨a, g1, g2⟩ := hnm.seven h7
   have g3 := at' _ _ g1
   have hun' := hun.resolve_right (fun h => h h7)
   rw [g2] at hl ⊢
   rw [<- g3] at hl ⊢
   refine wR (Γ70 ar ts (some ⟨b, o, none⟩) c k d hg hun') iq ?_ ?_
   ·exact ⟨⟨⟨l, rfl, rfl⟩, hl, hs⟩, by decide, by simp⟩
   refine wZ iq ?_
   exact ⟨_, _, rfl, fun E => rfl, _, _, rfl, by simp only [dS, Op.operands, Value.cells, σ0, σB, Nat.reduceEqDiff, Nat.reduceAdd, Nat.reduceMul, Nat.reduceLT, Nat.reduceLeDiff, Nat.reduceBEq, ae, Int.reduceToNat, Int.reduceLT, Int.reduceLE, Nat.reduceDiv, Nat.reduceMod, Nat.reduceSub, Int.reducePow, Nat.reducePow, σP, σB3, iq, aE]; rfl, by decide⟩
  have h7 : ¬ d.op = 7 := by simpa using hc
  obtain ⟨a, a', g1, g2, hrs, hla⟩ := hnm.two (by omega) h7
  have g3 := at' _ _ g1
  have g4 := at' _ _ g2
  have ha := hok.2.1 (by omega)
  have hb' := hok.2.2.1 (by omega) h7
  have hL1 := eZ a.expand l.length
  have hL2 := eZ a'.expand (l.length + aG a.expand)
  rw [hla, hrs]
  rw [hrs] at hl
  have hun' : WH ar ts (some ⟨b, o, none⟩) c ⟨7, 0, d.a, 0, 0, 0⟩ := by
   rintro _ rfl
   exact vn ar ts _ c k hg (Is ar ts _ c k hg) ⟨7, 0, d.a, 0, 0, 0⟩ ha (.inr (by show (0 : Int) <= 0 /\ (0 : Int) <= 255 /\ (0 : Int) <= 255 /\ ((0 : Int) = -1 \/ (0 : Int) <= 0 /\ (0 : Int) <= 0); omega))
  refine wK ?_
  refine wR (Γ70 ar ts (some ⟨b, o, none⟩) c k ⟨7, 0, d.a, 0, 0, 0⟩ hg hun') (ab iq g3) ?_ ?_
  ·exact ⟨⟨⟨l, rfl, rfl⟩, ha, by omega, hs⟩, by decide, by simp⟩
  refine wR (Γ70 ar ts (some ⟨b, o, none⟩) c k ⟨7, 0, d.a, 0, 0, 0⟩ hg hun') (ab iq g4) ?_ ?_
  ·exact ⟨⟨⟨l ++ dx l.length a.expand, by rw [bF], by rw [List.length_append, hL1]⟩, hb', by omega, hs⟩, by decide, by simp⟩
  refine wR (Γ70 ar ts (some ⟨b, o, none⟩) c k ⟨7, 0, d.a, 0, 0, 0⟩ hg hun') iq ?_ ?_
  ·exact ⟨⟨l ++ dx l.length a.expand ++ dx (l.length + aG a.expand) a'.expand, by rw [bF, bF], by rw [List.length_append, List.length_append, hL1, hL2], by rw [List.length_append, List.length_append, hL1, hL2]; omega⟩, by decide, by simp⟩
  refine wZ iq ?_
  have e : l.length + (aG a.expand + aG a'.expand + 1) = l.length + aG a.expand + aG a'.expand + 1 := by omega
  rw [e, Nat.add_sub_cancel, bF, bF, ki, <- List.append_assoc, <- List.append_assoc]
  exact ⟨_, _, rfl, fun E => rfl, _, _, rfl, by simp only [dS, Op.operands, Value.cells, σ0, σB, Nat.reduceEqDiff, Nat.reduceAdd, Nat.reduceMul, Nat.reduceLT, Nat.reduceLeDiff, Nat.reduceBEq, ae, Int.reduceToNat, Int.reduceLT, Int.reduceLE, Nat.reduceDiv, Nat.reduceMod, Nat.reduceSub, Int.reducePow, Nat.reducePow, σP, σB3, iq, aE]; rfl, by decide⟩
theorem C5 (har : AR ar ts) : ∀ n, n <= ar.length -> iw ar ts ao c n
 | 0, _ => by
  rintro _ ⟨x, rfl, hx⟩
  omega
 | n + 1, hn => by
  have ih := C5 har n (by omega)
  rintro _ ⟨x, rfl, hx⟩
  by_cases h : x < n
  ·exact ih _ ⟨x, rfl, hx.1, h⟩
  ·have e : x = (n : Int) := by omega
   subst e
   exact NS ar ts ao c har n (by omega) ih
end
end
section
def kt (r : RL) : Prop := r.1 = ca (aG r.2)
theorem kt.leaf {t : Rx} (h : aG t = 1) : kt (bK t) := by
 show 1 = ca (aG t)
 rw [h]; rfl
theorem kt.join {mk : Rx -> Rx -> Rx} (hm : ∀ x y, aG (mk x y) = aG x + aG y + 1) {a b : RL} (ha : kt a) (hb : kt b) : kt (aQ mk a b) := by
 show ca (1 + a.1 + b.1) = ca (aG (mk a.2 b.2))
 rw [hm, ha, hb, Ev, GA]
 congr 1
 omega
theorem kt.star {a : RL} (ha : kt a) : kt (eN a) := by
 show ca (1 + a.1) = ca (aG a.2 + 1)
 rw [ha]
 unfold ca
 omega
theorem kt.maybe {a : RL} (ha : kt a) : kt (bA a) := kt.join (fun _ _ => rfl) ha (kt.leaf rfl)
theorem kt.iter {f : RL -> RL} (hf : ∀ x, kt x -> kt (f x)) : ∀ (k : Nat) {x : RL}, kt x -> kt (br f k x)
 | 0, _, h => h
 | k + 1, _, h => kt.iter hf k (hf _ h)
theorem kt.times {a : RL} (ha : kt a) (m n : Int) : kt (cK a m n) := by
 have h1 : kt (if m = 0 then bA a else a) := by split; exact ha.maybe; exact ha
 have h2 : kt (br (fun x => aQ .cat x a) (m - 1).toNat (if m = 0 then bA a else a)) := kt.iter (fun x hx => kt.join (fun _ _ => rfl) hx ha) _ h1
 unfold cK
 split
 ·exact ha.star
 ·split
  ·exact kt.leaf rfl
  ·split
   ·exact kt.join (fun _ _ => rfl) h2 ha.star
   ·exact kt.iter (fun x hx => kt.join (fun _ _ => rfl) hx ha.maybe) _ h2
theorem RT.rP (t : RT) : t.sz <= 2001 := by
 cases t with
 | eps => decide
 | cls S => show 1 <= 2001; decide
 | cat a b => exact iQ _
 | alt a b => exact iQ _
 | and a b => exact iQ _
 | minus a b => exact iQ _
 | rep a m n => exact iQ _
theorem NM.size {ts : List RT} {d : Nd} {t : RT} (h : NM ts d t) (hts : ∀ s ∈ ts, kt s.val) : kt t.val := by
 have at' : ∀ {x : Nat} {a : RT}, ts[x]? = some a -> kt a.val := fun h => hts _ (List.mem_of_getElem? h)
 cases h with
 | eps h0 h1 => exact kt.leaf rfl
 | cls h0 => exact kt.leaf rfl
 | cat a b _ _ h1 _ h2 => exact kt.join (mk := .cat) (fun _ _ => rfl) (at' h1) (at' h2)
 | alt a b _ _ h1 _ h2 => exact kt.join (mk := .alt) (fun _ _ => rfl) (at' h1) (at' h2)
 | and a b _ _ h1 _ h2 => exact kt.join (mk := .and) (fun _ _ => rfl) (at' h1) (at' h2)
 | minus a b _ _ h1 _ h2 => exact kt.join (mk := .minus) (fun _ _ => rfl) (at' h1) (at' h2)
 | rep a _ _ h1 h2 =>
  rcases h2 with ⟨e1, e2⟩ | ⟨g0, _, _, g1⟩
  ·rw [e1, e2, <- uI]
   exact kt.join (fun _ _ => rfl) (at' h1) (at' h1).star
  ·rw [<- qI a d.m d.n g0 g1 a.rP]
   exact (at' h1).times _ _
theorem AR.size {ar : List Nd} {ts : List RT} (h : AR ar ts) : ∀ t ∈ ts, kt t.val := by
 induction h with
 | nil => intro t ht; cases ht
 | snoc ha hn ih =>
  intro s hs
  rcases List.mem_append.1 hs with hs | hs
  ·exact ih s hs
  ·rw [List.mem_singleton.1 hs]
   exact hn.size ih
theorem AR.small {ar : List Nd} {ts : List RT} (h : AR ar ts) {t : RT} (ht : t ∈ ts) (hs : t.sz <= 2000) : aG t.expand <= 2000 := by
 have := h.size t ht
 have e : t.sz = ca (aG t.expand) := this
 unfold ca at e
 omega
end
section
open Go.RowKit Go.LE
set_option maxRecDepth 10000
def R6 (n : Int) : UInt8 := if n < 10 then (48 + n).toNat.toUInt8 else (87 + n).toNat.toUInt8
def jh (b : Int) (barred : Bool) : ByteArray :=
 if b = 10 then ⟨#[92, 110]⟩ else if b = 13 then ⟨#[92, 114]⟩ else if b = 9 then ⟨#[92, 116]⟩
 else if b < 32 \/ 126 < b then ⟨#[92, 120, R6 (b / 16), R6 (b % 16)]⟩
 else if barred = true then ⟨#[92, b.toNat.toUInt8]⟩ else ⟨#[b.toNat.toUInt8]⟩
theorem jy (b : Int) (q : Bool) : (jh b q).size <= 4 := by
 unfold jh
 repeat' split
 all_goals (show Array.size _ <= 4; simp)
def jQ (S : CS) : Nat -> Nat
 | 0 => 0
 | n + 1 => jQ S n + if S.getLsbD n = true then 1 else 0
def hM (S : CS) : Nat := jQ S 256
theorem AS (S : CS) (n : Nat) : jQ S n <= n := by
 induction n with
 | zero => exact Nat.le_refl _
 | succ n ih =>
  unfold jQ
  split <;> omega
def AF (S : CS) : Nat -> Nat -> Nat
 | 0, b => b
 | k + 1, b => if S.getLsbD b = true then b else AF S k (b + 1)
def tq (S : CS) : Nat := AF S 256 0
theorem Iq (S : CS) : ∀ k b, b <= AF S k b /\ AF S k b <= b + k
 | 0, b => ⟨Nat.le_refl _, Nat.le_refl _⟩
 | k + 1, b => by
  unfold AF
  split
  ·omega
  ·have := Iq S k (b + 1)
   omega
theorem Il (S : CS) (b : Nat) (hb : b < 256) (h1 : ∀ j < b, S.getLsbD j = false) (h2 : S.getLsbD b = true) : tq S = b := by
 have key : ∀ k j, j + k = 256 -> j <= b -> AF S k j = b := by
  intro k
  induction k with
  | zero => intro j hj hjb; omega
  | succ k ih =>
   intro j hj hjb
   unfold AF
   by_cases e : j = b
   ·subst e; rw [if_pos h2]
   ·rw [if_neg (by rw [h1 j (by omega)]; simp)]
    exact ih (j + 1) (by omega) (by omega)
 exact key 256 0 rfl (Nat.zero_le _)
theorem xu (S : CS) (n : Nat) (h : ∀ j < n, S.getLsbD j = false) : jQ S n = 0 := by
 induction n with
 | zero => rfl
 | succ n ih =>
  unfold jQ
  rw [ih fun j hj => h j (by omega), h n (by omega)]
  rfl
def iL (T : CS) : Nat -> Nat -> Nat
 | 0, b => b
 | k + 1, b => if T.getLsbD (b + 1) = true then iL T k (b + 1) else b
def iz (T : CS) (b : Nat) : Nat := iL T (255 - b) b
theorem xC (T : CS) (b : Nat) (hb : b < 255) (h : T.getLsbD (b + 1) = true) : iz T b = iz T (b + 1) := by
 unfold iz
 rw [show 255 - b = (255 - (b + 1)) + 1 by omega, iL, if_pos h]
theorem xo (T : CS) (b : Nat) (h : b < 255 -> T.getLsbD (b + 1) = false) : iz T b = b := by
 unfold iz
 by_cases hb : b < 255
 ·rw [show 255 - b = (255 - (b + 1)) + 1 by omega, iL, if_neg (by rw [h hb]; simp)]
 ·rw [show 255 - b = 0 by omega, iL]
theorem IN (T : CS) (b : Nat) (hb : b < 256) : b <= iz T b /\ iz T b < 256 := by
 have key : ∀ k j, b <= j -> j + k <= 255 -> b <= iL T k j /\ iL T k j < 256 := by
  intro k
  induction k with
  | zero => intro j h1 h2; exact ⟨h1, by rw [iL]; omega⟩
  | succ k ih =>
   intro j h1 h2
   unfold iL
   split
   ·exact ih (j + 1) (by omega) (by omega)
   ·omega
 exact key (255 - b) b (Nat.le_refl _) (by omega)
theorem So (T : CS) (b j : Nat) (hb : b < 256) (h0 : T.getLsbD b = true) (h1 : b <= j) (h2 : j <= iz T b) : T.getLsbD j = true := by
 have key : ∀ k i, T.getLsbD i = true -> i <= j -> j <= iL T k i -> T.getLsbD j = true := by
  intro k
  induction k with
  | zero =>
   intro i hi h1 h2
   rw [iL] at h2
   have : i = j := by omega
   rw [<- this]; exact hi
  | succ k ih =>
   intro i hi h1 h2
   unfold iL at h2
   by_cases e : i = j
   ·rw [<- e]; exact hi
   ·split at h2
    ·rename_i hn
     exact ih (i + 1) hn (by omega) h2
    ·omega
 exact key _ b h0 h1 h2
theorem P7 (T : CS) (b : Nat) (hb : b < 256) (h : iz T b < 255) : T.getLsbD (iz T b + 1) = false := by
 have key : ∀ k i, i + k = 255 -> iL T k i < 255 -> T.getLsbD (iL T k i + 1) = false := by
  intro k
  induction k with
  | zero => intro i h1 h2; rw [iL] at h2; omega
  | succ k ih =>
   intro i h1 h2
   unfold iL at h2 ⊢
   split at h2
   ·rename_i hn
    rw [if_pos hn]
    exact ih (i + 1) (by omega) h2
   ·rename_i hn
    rw [if_neg hn]
    simpa using hn
 exact key (255 - b) b (by omega) h
def l5 : ByteArray := ⟨#[45]⟩
def E6 (out : ByteArray) (b e : Nat) : ByteArray :=
 if b < e then (if b + 1 < e then out ++ jh b (iU ku b) ++ l5 else out ++ jh b (iU ku b)) ++ jh e (iU ku e) else out ++ jh b (iU ku b)
theorem Kt (out : ByteArray) (b e : Nat) : (E6 out b e).size <= out.size + 9 := by
 have h1 := jy b (iU ku b)
 have h2 := jy e (iU ku e)
 have h3 : l5.size = 1 := rfl
 unfold E6
 repeat' split
 all_goals simp only [ByteArray.size_append]; omega
def M8 (T : CS) (b : Nat) : Bool := T.getLsbD b && (b == 0 || !T.getLsbD (b - 1))
def cB (T : CS) (pre : ByteArray) : Nat -> ByteArray
 | 0 => pre
 | b + 1 => if M8 T b = true then E6 (cB T pre b) b (iz T b) else cB T pre b
theorem gQ (T : CS) (pre : ByteArray) (b : Nat) : (cB T pre b).size <= pre.size + 9 * b := by
 induction b with
 | zero => simp [cB]
 | succ b ih =>
  unfold cB
  split
  ·have := Kt (cB T pre b) b (iz T b)
   omega
  ·omega
theorem EC (T : CS) (pre : ByteArray) (b : Nat) (hb : b < 256) (h0 : T.getLsbD b = true) : ∀ j, b < j -> j <= iz T b + 1 -> cB T pre j = cB T pre (b + 1) := by
 intro j
 induction j with
 | zero => intro h; omega
 | succ j ih =>
  intro h1 h2
  by_cases e : j = b
  ·rw [e]
  ·have hs : M8 T j = false := by
    have g1 := So T b (j - 1) hb h0 (by omega) (by omega)
    unfold M8
    rw [g1]
    have : (j == 0) = false := by simp; omega
    rw [this]; simp
   rw [cB, if_neg (by rw [hs]; simp)]
   exact ih (by omega) (by omega)
def uD : ByteArray := ⟨#[91]⟩
def vC : ByteArray := ⟨#[91, 94]⟩
def JG : ByteArray := ⟨#[93]⟩
def fP (S : CS) : ByteArray :=
 if hM S = 1 then jh (tq S) (iU wo (tq S))
 else (if 128 < hM S then cB (~~~S) vC 256 else cB S uD 256) ++ JG
theorem Fc (S : CS) : (fP S).size <= 2400 := by
 have h0 : vC.size = 2 := rfl
 have h1 : uD.size = 1 := rfl
 have h2 : JG.size = 1 := rfl
 unfold fP
 split
 ·have := jy (tq S) (iU wo (tq S))
  omega
 ·rw [ByteArray.size_append]
  split
  ·have := gQ (~~~S) vC 256
   omega
  ·have := gQ S uD 256
   omega
def qM : Rx -> Int
 | .eps => 4
 | .cls _ => 4
 | .cat _ _ => 2
 | .alt _ _ => 0
 | .star _ => 3
 | .and _ _ => 1
 | .minus _ _ => 1
def Yp : ByteArray := ⟨#[40]⟩
def Yr : ByteArray := ⟨#[41]⟩
def Yt : ByteArray := ⟨#[40, 41]⟩
def XT : ByteArray := ⟨#[124]⟩
def X4 : ByteArray := ⟨#[38]⟩
def Vb : ByteArray := ⟨#[42]⟩
def ng (r need : Int) (s : ByteArray) : ByteArray := if r < need then Yp ++ s ++ Yr else s
def bU : Rx -> ByteArray
 | .eps => Yt
 | .cls S => fP S
 | .cat a b => ng (qM a) 2 (bU a) ++ ng (qM b) 3 (bU b)
 | .alt a b => ng (qM a) 0 (bU a) ++ XT ++ ng (qM b) 1 (bU b)
 | .star a => ng (qM a) 3 (bU a) ++ Vb
 | .and a b => ng (qM a) 1 (bU a) ++ X4 ++ ng (qM b) 2 (bU b)
 | .minus a b => ng (qM a) 1 (bU a) ++ l5 ++ ng (qM b) 2 (bU b)
def Bd (t : Rx) (need : Int) : ByteArray := ng (qM t) need (bU t)
theorem dY (r need : Int) (s : ByteArray) : (ng r need s).size <= s.size + 2 := by
 have h1 : Yp.size = 1 := rfl
 have h2 : Yr.size = 1 := rfl
 unfold ng
 split
 ·rw [ByteArray.size_append, ByteArray.size_append]; omega
 ·omega
theorem cL : ∀ t : Rx, (bU t).size <= 2400 * aG t
 | .eps => by show 2 <= 2400 * 1; omega
 | .cls S => by
  have := Fc S
  show (fP S).size <= 2400 * 1
  omega
 | .cat a b => by
  have h1 := cL a
  have h2 := cL b
  have h3 := dY (qM a) 2 (bU a)
  have h4 := dY (qM b) 3 (bU b)
  have h5 : aG (.cat a b) = aG a + aG b + 1 := rfl
  unfold bU
  rw [ByteArray.size_append]
  omega
 | .alt a b => by
  have h1 := cL a
  have h2 := cL b
  have h3 := dY (qM a) 0 (bU a)
  have h4 := dY (qM b) 1 (bU b)
  have h5 : aG (.alt a b) = aG a + aG b + 1 := rfl
  have h6 : XT.size = 1 := rfl
  unfold bU
  rw [ByteArray.size_append, ByteArray.size_append]
  omega
 | .star a => by
  have h1 := cL a
  have h3 := dY (qM a) 3 (bU a)
  have h5 : aG (.star a) = aG a + 1 := rfl
  have h6 : Vb.size = 1 := rfl
  unfold bU
  rw [ByteArray.size_append]
  omega
 | .and a b => by
  have h1 := cL a
  have h2 := cL b
  have h3 := dY (qM a) 1 (bU a)
  have h4 := dY (qM b) 2 (bU b)
  have h5 : aG (.and a b) = aG a + aG b + 1 := rfl
  have h6 : X4.size = 1 := rfl
  unfold bU
  rw [ByteArray.size_append, ByteArray.size_append]
  omega
 | .minus a b => by
  have h1 := cL a
  have h2 := cL b
  have h3 := dY (qM a) 1 (bU a)
  have h4 := dY (qM b) 2 (bU b)
  have h5 : aG (.minus a b) = aG a + aG b + 1 := rfl
  have h6 : l5.size = 1 := rfl
  unfold bU
  rw [ByteArray.size_append, ByteArray.size_append]
  omega
end
section
open Go.RowKit Go.LE
set_option maxRecDepth 10000
theorem nj (k a b c d : Nat) (hc : c < 2 ^ k) (hd : d < 2 ^ k) : (2 ^ k * a + c) &&& (2 ^ k * b + d) = 2 ^ k * (a &&& b) + (c &&& d) := by
 have he : (c &&& d) < 2 ^ k := Nat.lt_of_le_of_lt Nat.and_le_left hc
 apply Nat.eq_of_testBit_eq
 intro j
 rw [Nat.testBit_and, Nat.testBit_two_pow_mul_add a hc, Nat.testBit_two_pow_mul_add b hd, Nat.testBit_two_pow_mul_add _ he]
 by_cases h : j < k
 ·rw [if_pos h, if_pos h, if_pos h, Nat.testBit_and]
 ·rw [if_neg h, if_neg h, if_neg h, Nat.testBit_and]
def M0 : Nat -> Nat
 | 0 => 0
 | n + 1 => 4 * M0 n + 1
def f0 (n x : Nat) : Nat := ((x / 2) &&& M0 n) + (x &&& M0 n)
theorem T8 (x : Nat) : f0 0 x = 0 := by simp [f0, M0]
theorem sU (n q d : Nat) (hd : d < 4) : f0 (n + 1) (4 * q + d) = 4 * f0 n q + (d / 2 + d % 2) := by
 have h1 : (4 * q + d) / 2 = 2 ^ 2 * (q / 2) + (2 * (q % 2) + d / 2) := by omega
 have h2 := nj 2 (q / 2) (M0 n) (2 * (q % 2) + d / 2) 1 (by omega) (by omega)
 have h3 := nj 2 q (M0 n) d 1 (by omega) (by omega)
 have h4 : (2 * (q % 2) + d / 2) &&& 1 = d / 2 := by rw [Nat.and_one_is_mod]; omega
 have h5 : d &&& 1 = d % 2 := Nat.and_one_is_mod d
 rw [h4] at h2
 rw [h5] at h3
 unfold f0
 rw [h1, M0]
 rw [show 4 * M0 n + 1 = 2 ^ 2 * M0 n + 1 by omega, show 4 * q + d = 2 ^ 2 * q + d by omega, h2, h3]
 omega
theorem S6 (n q b : Nat) (hb : b < 256) : f0 (n + 4) (256 * q + b) = 256 * f0 n q + f0 4 b := by
 have key : ∀ m r, f0 (m + 4) (256 * r + b) = 256 * f0 m r + (64 * (b / 64 / 2 + b / 64 % 2) + (16 * (b / 16 % 4 / 2 + b / 16 % 4 % 2) + (4 * (b / 4 % 4 / 2 + b / 4 % 4 % 2) + (b % 4 / 2 + b % 4 % 2)))) := fun m r => by
  rw [show 256 * r + b = 4 * (4 * (4 * (4 * r + b / 64) + b / 16 % 4) + b / 4 % 4) + b % 4 by omega]
  rw [sU _ _ _ (by omega), sU _ _ _ (by omega), sU _ _ _ (by omega), sU _ _ _ (by omega)]
  omega
 have h0 := key 0 0
 rw [T8] at h0
 rw [key, show f0 4 b = f0 (0 + 4) (256 * 0 + b) by rw [Nat.mul_zero, Nat.zero_add, Nat.zero_add], h0]
 omega
def M1 : Nat -> Nat
 | 0 => 0
 | n + 1 => 16 * M1 n + 3
def f1 (n x : Nat) : Nat := ((x / 4) &&& M1 n) + (x &&& M1 n)
theorem I1 (x : Nat) : f1 0 x = 0 := by simp [f1, M1]
theorem XH (x : Nat) : x &&& 3 = x % 4 := Nat.and_two_pow_sub_one_eq_mod x 2
theorem Xd (x : Nat) : x &&& 15 = x % 16 := Nat.and_two_pow_sub_one_eq_mod x 4
theorem IM (n q d : Nat) (hd : d < 16) : f1 (n + 1) (16 * q + d) = 16 * f1 n q + (d / 4 + d % 4) := by
 have h1 : (16 * q + d) / 4 = 2 ^ 4 * (q / 4) + (4 * (q % 4) + d / 4) := by omega
 have h2 := nj 4 (q / 4) (M1 n) (4 * (q % 4) + d / 4) 3 (by omega) (by omega)
 have h3 := nj 4 q (M1 n) d 3 (by omega) (by omega)
 have h4 : (4 * (q % 4) + d / 4) &&& 3 = d / 4 := by rw [XH]; omega
 rw [h4] at h2
 rw [XH] at h3
 unfold f1
 rw [h1, M1]
 rw [show 16 * M1 n + 3 = 2 ^ 4 * M1 n + 3 by omega, show 16 * q + d = 2 ^ 4 * q + d by omega, h2, h3]
 omega
theorem SA (n q b : Nat) (hb : b < 256) : f1 (n + 2) (256 * q + b) = 256 * f1 n q + f1 2 b := by
 have key : ∀ m r, f1 (m + 2) (256 * r + b) = 256 * f1 m r + (16 * (b / 16 / 4 + b / 16 % 4) + (b % 16 / 4 + b % 16 % 4)) := fun m r => by
  rw [show 256 * r + b = 16 * (16 * r + b / 16) + b % 16 by omega]
  rw [IM _ _ _ (by omega), IM _ _ _ (by omega)]
  omega
 have h0 := key 0 0
 rw [I1] at h0
 rw [key, show f1 2 b = f1 (0 + 2) (256 * 0 + b) by rw [Nat.mul_zero, Nat.zero_add, Nat.zero_add], h0]
 omega
def M2 : Nat -> Nat
 | 0 => 0
 | n + 1 => 256 * M2 n + 15
def f2 (n x : Nat) : Nat := (x / 16 + x) &&& M2 n
theorem Sa (x : Nat) : f2 0 x = 0 := by simp [f2, M2]
theorem Sc (n q d : Nat) (hd : d % 16 <= 4 /\ d / 16 <= 4) (hq : q % 16 <= 4) : f2 (n + 1) (256 * q + d) = 256 * f2 n q + (d / 16 + d % 16) := by
 have h1 : (256 * q + d) / 16 + (256 * q + d) = 2 ^ 8 * (q / 16 + q) + (16 * (q % 16) + d / 16 + d) := by omega
 have h2 := nj 8 (q / 16 + q) (M2 n) (16 * (q % 16) + d / 16 + d) 15 (by omega) (by omega)
 have h4 : (16 * (q % 16) + d / 16 + d) &&& 15 = d / 16 + d % 16 := by rw [Xd]; omega
 rw [h4] at h2
 unfold f2
 rw [h1, M2]
 rw [show 256 * M2 n + 15 = 2 ^ 8 * M2 n + 15 by omega, h2]
def dX (x : Nat) : Nat -> Nat
 | 0 => 0
 | k + 1 => dX x k + if x.testBit k = true then 1 else 0
theorem Dc (q b : Nat) (hb : b < 256) : ∀ k, k <= 8 -> dX (256 * q + b) k = dX b k
 | 0, _ => rfl
 | k + 1, h => by
  have h8 := Nat.testBit_two_pow_mul_add (i := 8) q (b := b) hb k
  rw [if_pos (show k < 8 by omega), show 2 ^ 8 * q + b = 256 * q + b by omega] at h8
  rw [dX, dX, Dc q b hb k (by omega), h8]
theorem xm (q b : Nat) (hb : b < 256) : ∀ k, dX (256 * q + b) (8 + k) = dX b 8 + dX q k
 | 0 => Dc q b hb 8 (Nat.le_refl _)
 | k + 1 => by
  have h8 := Nat.testBit_two_pow_mul_add (i := 8) q (b := b) hb (8 + k)
  rw [if_neg (show ¬ 8 + k < 8 by omega), show 2 ^ 8 * q + b = 256 * q + b by omega, show 8 + k - 8 = k by omega] at h8
  have ih := xm q b hb k
  have e1 : dX (256 * q + b) (8 + (k + 1)) = dX (256 * q + b) (8 + k) + if (256 * q + b).testBit (8 + k) = true then 1 else 0 := rfl
  have e2 : dX q (k + 1) = dX q k + if q.testBit k = true then 1 else 0 := rfl
  rw [e1, e2, ih, h8]
  omega
theorem vc : ∀ b : Fin 256, f0 4 b.val < 256 /\ f1 2 (f0 4 b.val) < 256 /\ f1 2 (f0 4 b.val) % 16 <= 4 /\ f1 2 (f0 4 b.val) / 16 <= 4 /\ f1 2 (f0 4 b.val) / 16 + f1 2 (f0 4 b.val) % 16 = dX b.val 8 /\ dX b.val 8 <= 8 := by decide +kernel
theorem GR (n q b : Nat) (hb : b < 256) (hq : f1 (n * 2) (f0 (n * 4) q) % 16 <= 4) :
  f2 (n + 1) (f1 ((n + 1) * 2) (f0 ((n + 1) * 4) (256 * q + b))) = 256 * f2 n (f1 (n * 2) (f0 (n * 4) q)) + dX b 8 /\ f1 ((n + 1) * 2) (f0 ((n + 1) * 4) (256 * q + b)) % 16 <= 4 := by
 obtain ⟨h1, h2, h3, h4, h5, h6⟩ := vc ⟨b, hb⟩
 simp only at h1 h2 h3 h4 h5 h6
 rw [show (n + 1) * 4 = n * 4 + 4 by omega, show (n + 1) * 2 = n * 2 + 2 by omega, S6 _ _ _ hb, SA _ _ _ h1]
 refine ⟨?_, by omega⟩
 rw [Sc _ _ _ ⟨h3, h4⟩ hq, h5]
def DX : Nat -> Nat -> Nat
 | 0, _ => 0
 | n + 1, x => 256 * DX n (x / 256) + dX (x % 256) 8
theorem xM : ∀ n x, f2 n (f1 (n * 2) (f0 (n * 4) x)) = DX n x /\ f1 (n * 2) (f0 (n * 4) x) % 16 <= 4
 | 0, x => by
  show f2 0 (f1 0 (f0 0 x)) = DX 0 x /\ f1 0 (f0 0 x) % 16 <= 4
  rw [Sa, I1]
  exact ⟨rfl, by omega⟩
 | n + 1, x => by
  have ih := xM n (x / 256)
  have h := GR n (x / 256) (x % 256) (by omega) ih.2
  rw [show 256 * (x / 256) + x % 256 = x by omega, ih.1] at h
  exact h
theorem FD (x : Nat) : dX x 64 = dX (x % 256) 8 + (dX (x / 256 % 256) 8 + (dX (x / 256 / 256 % 256) 8 + (dX (x / 256 / 256 / 256 % 256) 8 + (dX (x / 256 / 256 / 256 / 256 % 256) 8 + (dX (x / 256 / 256 / 256 / 256 / 256 % 256) 8 + (dX (x / 256 / 256 / 256 / 256 / 256 / 256 % 256) 8 + dX (x / 256 / 256 / 256 / 256 / 256 / 256 / 256 % 256) 8)))))) := by
 have step : ∀ k y, dX y (8 + k) = dX (y % 256) 8 + dX (y / 256) k := fun k y => by
  have h := xm (y / 256) (y % 256) (by omega) k
  rw [show 256 * (y / 256) + y % 256 = y by omega] at h
  exact h
 rw [show 64 = 8 + (8 + (8 + (8 + (8 + (8 + (8 + (8 + 0))))))) from rfl]
 rw [step, step, step, step, step, step, step, step]
 rfl
theorem ke (x : Nat) : dX (x % 256) 8 <= 8 := (vc ⟨x % 256, by omega⟩).2.2.2.2.2
theorem EB (x : Nat) : ∃ c0 c1 c2 c3 c4 c5 c6 c7 : Nat, (c0 <= 8 /\ c1 <= 8 /\ c2 <= 8 /\ c3 <= 8 /\ c4 <= 8 /\ c5 <= 8 /\ c6 <= 8 /\ c7 <= 8) /\
  DX 8 x = 256 * (256 * (256 * (256 * (256 * (256 * (256 * (256 * 0 + c7) + c6) + c5) + c4) + c3) + c2) + c1) + c0 /\ dX x 64 = c0 + (c1 + (c2 + (c3 + (c4 + (c5 + (c6 + c7)))))) :=
 ⟨_, _, _, _, _, _, _, _, ⟨ke _, ke _, ke _, ke _, ke _, ke _, ke _, ke _⟩, rfl, FD x⟩
theorem RJ (x : Nat) : ∃ y, y = DX 8 x /\ y + y / 256 < 2 ^ 64 /\ (y + y / 256) + (y + y / 256) / 65536 < 2 ^ 64 /\ (y + y / 256) + (y + y / 256) / 65536 + ((y + y / 256) + (y + y / 256) / 65536) / 4294967296 < 2 ^ 63 /\
  ((y + y / 256) + (y + y / 256) / 65536 + ((y + y / 256) + (y + y / 256) / 65536) / 4294967296) % 128 = dX x 64 := by
 obtain ⟨c0, c1, c2, c3, c4, c5, c6, c7, hc, h1, h2⟩ := EB x
 refine ⟨DX 8 x, rfl, ?_⟩
 rw [h2]
 have h3 : DX 8 x = c0 + 256 * c1 + 65536 * c2 + 16777216 * c3 + 4294967296 * c4 + 1099511627776 * c5 + 281474976710656 * c6 + 72057594037927936 * c7 := by rw [h1]; omega
 generalize DX 8 x = y at *
 have h4 : y / 256 = c1 + 256 * c2 + 65536 * c3 + 16777216 * c4 + 4294967296 * c5 + 1099511627776 * c6 + 281474976710656 * c7 := by omega
 obtain ⟨d0, e0⟩ : ∃ d, d = c0 + c1 := ⟨_, rfl⟩
 obtain ⟨d1, e1⟩ : ∃ d, d = c1 + c2 := ⟨_, rfl⟩
 obtain ⟨d2, e2⟩ : ∃ d, d = c2 + c3 := ⟨_, rfl⟩
 obtain ⟨d3, e3⟩ : ∃ d, d = c3 + c4 := ⟨_, rfl⟩
 obtain ⟨d4, e4⟩ : ∃ d, d = c4 + c5 := ⟨_, rfl⟩
 obtain ⟨d5, e5⟩ : ∃ d, d = c5 + c6 := ⟨_, rfl⟩
 obtain ⟨d6, e6⟩ : ∃ d, d = c6 + c7 := ⟨_, rfl⟩
 have h5 : y + y / 256 = d0 + 256 * d1 + 65536 * d2 + 16777216 * d3 + 4294967296 * d4 + 1099511627776 * d5 + 281474976710656 * d6 + 72057594037927936 * c7 := by omega
 have hs : c0 + (c1 + (c2 + (c3 + (c4 + (c5 + (c6 + c7)))))) = d0 + d2 + d4 + d6 := by omega
 have hd : d0 <= 16 /\ d1 <= 16 /\ d2 <= 16 /\ d3 <= 16 /\ d4 <= 16 /\ d5 <= 16 /\ d6 <= 16 /\ c7 <= 16 := by omega
 rw [hs]
 clear h1 h2 h3 h4 hs hc e0 e1 e2 e3 e4 e5 e6
 generalize y + y / 256 = z at *
 have h6 : z / 65536 = d2 + 256 * d3 + 65536 * d4 + 16777216 * d5 + 4294967296 * d6 + 1099511627776 * c7 := by omega
 obtain ⟨g0, k0⟩ : ∃ d, d = d0 + d2 := ⟨_, rfl⟩
 obtain ⟨g1, k1⟩ : ∃ d, d = d1 + d3 := ⟨_, rfl⟩
 obtain ⟨g2, k2⟩ : ∃ d, d = d2 + d4 := ⟨_, rfl⟩
 obtain ⟨g3, k3⟩ : ∃ d, d = d3 + d5 := ⟨_, rfl⟩
 obtain ⟨g4, k4⟩ : ∃ d, d = d4 + d6 := ⟨_, rfl⟩
 obtain ⟨g5, k5⟩ : ∃ d, d = d5 + c7 := ⟨_, rfl⟩
 have h7 : z + z / 65536 = g0 + 256 * g1 + 65536 * g2 + 16777216 * g3 + 4294967296 * g4 + 1099511627776 * g5 + 281474976710656 * d6 + 72057594037927936 * c7 := by omega
 have hz : z < 2 ^ 64 := by omega
 have hs2 : d0 + d2 + d4 + d6 = g0 + g4 := by omega
 have hg : g0 <= 32 /\ g1 <= 32 /\ g2 <= 32 /\ g3 <= 32 /\ g4 <= 32 /\ g5 <= 32 /\ d6 <= 16 /\ c7 <= 16 := by omega
 rw [hs2]
 clear h5 h6 hs2 hd k0 k1 k2 k3 k4 k5
 generalize z + z / 65536 = u at *
 have h8 : u / 4294967296 = g4 + 256 * g5 + 65536 * d6 + 16777216 * c7 := by omega
 refine ⟨hz, by omega, by omega, ?_⟩
 omega
theorem Cm (S : CS) (j : Nat) : ∀ k, k <= 64 -> jQ S (64 * j + k) = jQ S (64 * j) + dX (wd S j).toNat k
 | 0, _ => rfl
 | k + 1, h => by
  have e : (wd S j).toNat.testBit k = S.getLsbD (64 * j + k) := by
   rw [wd, Int.toNat_natCast]
   show (S.extractLsb' (64 * j) 64).getLsbD k = _
   rw [BitVec.getLsbD_extractLsb']
   simp; omega
  rw [show 64 * j + (k + 1) = (64 * j + k) + 1 by omega, jQ, dX, Cm S j k (by omega), e]
  omega
theorem Xm (S : CS) (j : Nat) : (wd S j).toNat < 2 ^ 64 := by
 rw [wd, Int.toNat_natCast]
 exact (S.extractLsb' (64 * j) 64).isLt
end
section
open Go.RowKit Go.LE
set_option maxRecDepth 10000
theorem L9 : ∀ b : Fin 256, (0 <= IntKind.u8.wrap (((b.val : Nat) : Int).tdiv 16) /\ IntKind.u8.wrap (((b.val : Nat) : Int).tdiv 16) < 16) /\ (0 <= ((b.val : Nat) : Int).tmod 16 /\ ((b.val : Nat) : Int).tmod 16 < 16) /\
  (⟨#[92, 120]⟩ : ByteArray) ++ eX [bt ⟨#[48, 49, 50, 51, 52, 53, 54, 55, 56, 57, 97, 98, 99, 100, 101, 102]⟩ (IntKind.u8.wrap (((b.val : Nat) : Int).tdiv 16)), bt ⟨#[48, 49, 50, 51, 52, 53, 54, 55, 56, 57, 97, 98, 99, 100, 101, 102]⟩ (((b.val : Nat) : Int).tmod 16)] = ⟨#[92, 120, R6 (((b.val : Nat) : Int) / 16), R6 (((b.val : Nat) : Int) % 16)]⟩ := by decide +kernel
def ja := (aq @List.replicate_succ.{0} @List.replicate_zero.{0} @av @af HS HB E9 (aq XN XB X8 XQ cZ c9 cR (aq cV gz gv gi gk gn ez (aq ey eB eC eA ew yn yy (aq xV xN @aN @au @aA @az @kY (lX @dd @jI @kZ @j8 @aE @gp))))))
set_option maxHeartbeats 2000000 in
theorem OO (b : Int) (q : Bool) (h0 : 0 <= b) (h1 : b < 256) (w : World) : Calls Tryz.prog 204 #[.int .u8 b, .bool q] w fun e w' => e = .returned (.string (jh b q)) /\ ai w [] w' := by
 refine aj (nt := 37) [.tmp 4] Tryz.func204 rfl rfl rfl ?_
 refine vR Γ0 ja ?_
 refine Wp.seq ?_
 refine vR Γ0 ja ?_
 refine wC ja (fun hc => ?_) (fun hc => ?_)
 ·have h : b = 10 := by simpa using hc
  have e : jh b q = ⟨#[92, 110]⟩ := by rw [jh, if_pos h]
  rw [e]
  refine vR Γ0 ja ?_
  refine wZ ja ?_
  exact fun E => rfl
 have n10 : ¬ b = 10 := by simpa using hc
 refine wK ?_
 refine Wp.seq ?_
 refine vR Γ0 ja ?_
 refine wC ja (fun hc => ?_) (fun hc => ?_)
 ·have h : b = 13 := by simpa using hc
  have e : jh b q = ⟨#[92, 114]⟩ := by rw [jh, if_neg n10, if_pos h]
  rw [e]
  refine vR Γ0 ja ?_
  refine wZ ja ?_
  exact fun E => rfl
 have n13 : ¬ b = 13 := by simpa using hc
 refine wK ?_
 refine Wp.seq ?_
 refine vR Γ0 ja ?_
 refine wC ja (fun hc => ?_) (fun hc => ?_)
 ·have h : b = 9 := by simpa using hc
  have e : jh b q = ⟨#[92, 116]⟩ := by rw [jh, if_neg n10, if_neg n13, if_pos h]
  rw [e]
  refine vR Γ0 ja ?_
  refine wZ ja ?_
  exact fun E => rfl
 have n9 : ¬ b = 9 := by simpa using hc
 refine wK ?_
 refine Wp.seq ?_
 refine vR Γ0 ja ?_
 refine wC ja (fun hc => ?_) (fun hc => ?_)
 ·have h : b < 32 \/ 126 < b := by simpa using hc
  have e : jh b q = ⟨#[92, 120, R6 (b / 16), R6 (b % 16)]⟩ := by rw [jh, if_neg n10, if_neg n13, if_neg n9, if_pos h]
  rw [e]
  obtain ⟨n, rfl⟩ := Int.eq_ofNat_of_zero_le h0
  obtain ⟨f1, f2, f3⟩ := L9 ⟨n, by omega⟩
  simp only at f1 f2 f3
  refine vR Γ0 ja ?_
  refine l9 Γ0 ja ?_ ?_
  ·exact ⟨by omega, f1, by omega, f2, by show 2 + 2 <= 9223372036854775807; omega⟩
  refine wZ ja ?_
  exact fun E => congrArg Value.string f3
 have n32 : ¬ (b < 32 \/ 126 < b) := by simpa using hc
 refine wK ?_
 refine Wp.seq ?_
 refine vR Γ0 ja ?_
 refine wC ja (fun hc => ?_) (fun hc => ?_)
 ·subst hc
  have e : jh b true = ⟨#[92, b.toNat.toUInt8]⟩ := by rw [jh, if_neg n10, if_neg n13, if_neg n9, if_neg n32, if_pos rfl]
  rw [e]
  refine wR Γ0 ja ?_ ?_
  ·show 1 + 1 <= 9223372036854775807; omega
  refine wZ ja ?_
  exact fun E => rfl
 ·subst hc
  have e : jh b false = ⟨#[b.toNat.toUInt8]⟩ := by rw [jh, if_neg n10, if_neg n13, if_neg n9, if_neg n32, if_neg (by simp)]
  rw [e]
  refine wK ?_
  refine vR Γ0 ja ?_
  refine wZ ja ?_
  exact fun E => rfl
def Jp : aU Tryz.prog 204 where
 pre := fun W bs => fun | [.val (.int .u8 b), .val (.bool q)] => 0 <= b /\ b < 256 | _ => False
 res := fun W => fun | [.val (.int .u8 b), .val (.bool q)] => .string (jh b q) | _ => undef
 enters := Tryz.call204
 ok := by
  intro W w bs us as_ hk hu hp
  split at hp
  ·rename_i b q
   match us, hu with
   | [u0, u1], hu =>
    obtain ⟨rfl, rfl, _⟩ := hu
    exact OO b q hp.1 hp.2 w
  ·exact hp.elim
theorem Mj (W : World) (b : Int) (q : Bool) : Jp.res W [.val (.int .u8 b), .val (.bool q)] = .string (jh b q) := rfl
theorem KH (W : World) (bs : List Nat) (b : Int) (q : Bool) : Jp.pre W bs [.val (.int .u8 b), .val (.bool q)] = (0 <= b /\ b < 256) := rfl
end
section
open Go.RowKit Go.LE
set_option maxRecDepth 10000
theorem kV (S T : CS) (h : kv S = kv T) : S = T := by
 have h : eW S.getLsbD = eW T.getLsbD := congrArg (fun v => match v with | Value.agg a => a.toList | _ => []) h
 apply BitVec.eq_of_getLsbD_eq
 intro i hi
 have h1 := kh S.getLsbD i hi
 rw [h, kh T.getLsbD i hi] at h1
 simpa using h1.symm
def jM := (aq @av @af jV jW jb cW cX (aq c8 cT cZ c9 cR cV gz (aq gv gi gk gn ez ey eB (aq eC eA ew yt xp yw xi (aq @aN @au @aA @az @kY @dd @jI (eH @kZ @j8 @aE @gp))))))
set_option maxHeartbeats 2000000 in
theorem EI (S : CS) (w : World) : Calls Tryz.prog 203 #[kv S] w fun e w' => e = .returned (.int .i64 (hM S : Nat)) /\ ai w [] w' := by
 refine aj (nt := 15) [.tmp 2] Tryz.func203 rfl rfl rfl ?_
 refine vR Γ0 (ab jM @kv.eq_1) ?_
 refine vR Γ0 jM ?_
 refine Wp.seq ?_
 refine vR Γ0 jM ?_
 refine Wp.block ?_
 refine Wp.loop (fun j : Nat => ⟨20, bQ [(1, .is (.own 0 0)), (3, .is (.v (.int .i64 (jQ S j : Nat)))), (4, .is (.v (.int .i64 (j : Nat))))], bY [(0, .cells 241 ((eW S.getLsbD).map .v))]⟩) (fun j => j <= 256) (fun j => 256 - j) 0 ?_ (Nat.zero_le _) ?_
 ·exact wM (fun k => .key k) jM
 rintro j hj
 have hle := AS S j
 refine Wp.seq ?_
 refine vR Γ0 jM ?_
 refine wC jM (fun hc => ?_) (fun hc => ?_)
 ·have hlt : j < 256 := by
   simp at hc
   omega
  have wj : IntKind.i64.wrap ((j : Int) + 1) = ((j + 1 : Nat) : Int) := by rw [aa (by omega) (by omega)]; omega
  refine wK ?_
  refine Wp.seq (Wp.block ?_)
  refine Wp.nZ Γ0 bR (by simp only [dS, Op.operands, Value.cells, σ0, σB, Nat.reduceEqDiff, Nat.reduceAdd, Nat.reduceMul, Nat.reduceLT, Nat.reduceLeDiff, Nat.reduceBEq, ae, Int.reduceToNat, Int.reduceLT, Int.reduceLE, Nat.reduceDiv, Nat.reduceMod, Nat.reduceSub, Int.reducePow, Nat.reducePow, σP, σB3, jM, kh _ j hlt]; exact rfl) rfl ?_ ?_
  ·omega
  refine wC jM (fun hc => ?_) (fun hc => ?_)
  ·have e : jQ S (j + 1) = jQ S j + 1 := by rw [jQ, if_pos hc]
   have wc : IntKind.i64.wrap ((jQ S j : Int) + 1) = ((jQ S (j + 1) : Nat) : Int) := by rw [aa (by omega) (by omega), e]; omega
   refine vr Γ0 (ab jM wc) ?_
   refine vr Γ0 (ab jM wj) ?_
   refine ⟨j + 1, by omega, by omega, ?_⟩
   exact wM (fun k => .key k) jM
  ·have e : jQ S (j + 1) = jQ S j := by rw [jQ, if_neg (by rw [hc]; simp)]; omega
   refine wK ?_
   refine vr Γ0 (ab jM wj) ?_
   refine ⟨j + 1, by omega, by omega, ?_⟩
   rw [e]
   exact wM (fun k => .key k) jM
 ·have hj' : j = 256 := by
   simp at hc
   omega
  subst hj'
  refine wE ?_
  refine vR Γ0 jM ?_
  refine wZ jM ?_
  exact fun E => rfl
noncomputable def nJ : aU Tryz.prog 203 where
 pre := fun W bs => fun | [.val y0] => (match dec kv y0 with | some S => True | _ => False) | _ => False
 res := fun W => fun | [.val y0] => (match dec kv y0 with | some S => .int .i64 (hM S : Nat) | _ => undef) | _ => undef
 enters := Tryz.call203
 ok := by
  intro W w bs us as_ hk hu hp
  split at hp
  ·rename_i y0
   split at hp
   ·rename_i S h0
    match us, hu with
    | [u0], hu =>
     obtain ⟨rfl, _⟩ := hu
     obtain rfl := fA h0
     try dsimp only
     try simp only [cj kV]
     exact EI S w
   ·exact hp.elim
  ·exact hp.elim
theorem C6 (W : World) (S : CS) : nJ.res W [.val (kv S)] = .int .i64 (hM S : Nat) := by simp only [nJ, cj kV]
theorem C2 (W : World) (bs : List Nat) (S : CS) : nJ.pre W bs [.val (kv S)] = (True) := by simp only [nJ, cj kV]
end
section
open Go.RowKit Go.LE
set_option maxRecDepth 10000
theorem Hf (S : CS) : partsOf (.v (kv S)) = List.map SV.v (eW S.getLsbD) := rfl
theorem xI (S : CS) : Value.agg (eW S.getLsbD).toArray = kv S := rfl
noncomputable def Γ76 : Env Tryz.prog := ⟨fun | 203 => some nJ.spec | 204 => some Jp.spec | 205 => some kT.spec | 206 => some re.spec | _ => none, fun | _ => none, fun _ _ => none⟩
theorem Gt76c203 : Γ76.sp 203 = some nJ.spec := rfl
theorem Gt76c204 : Γ76.sp 204 = some Jp.spec := rfl
theorem Gt76c205 : Γ76.sp 205 = some kT.spec := rfl
theorem Gt76c206 : Γ76.sp 206 = some re.spec := rfl
theorem Hb (S : CS) (h1 : hM S ≠ 1) : ∃ (T : CS) (pre : ByteArray) (want : Bool), fP S = cB T pre 256 ++ JG /\ pre.size <= 2 /\ (∀ k < 256, (S.getLsbD k == want) = T.getLsbD k) /\ want = !decide (128 < hM S) /\ pre = bif decide (128 < hM S) then vC else uD := by
 by_cases h : 128 < hM S
 ·refine ⟨~~~S, vC, false, ?_, by decide, fun k hk => ?_, by simp [h], by simp [h]⟩
  ·rw [fP, if_neg h1, if_pos h]
  ·rw [BitVec.getLsbD_not]
   cases S.getLsbD k <;> simp [hk]
 ·refine ⟨S, uD, true, ?_, by decide, fun k hk => ?_, by simp [h], by simp [h]⟩
  ·rw [fP, if_neg h1, if_neg h]
  ·cases S.getLsbD k <;> simp
theorem zV {P : Program} {eqs : (T : TypeId) -> Option (EqSpec P T)} (h : Hp) (T : TypeId) (X Y : Operand) (b : Bool) : bE P eqs h .eql T X Y [.v undef, .v (.bool b)] = .bad := rfl
theorem bad_eq : R.bad = ⟨False, .v undef, [], none, [], []⟩ := rfl
theorem Jk (out : ByteArray) (b e : Nat) : E6 out b e = if b < e then (if b + 1 < e then out ++ jh b (iU ku b) ++ l5 else out ++ jh b (iU ku b)) ++ jh e (iU ku e) else (if b + 1 < e then out ++ jh b (iU ku b) ++ l5 else out ++ jh b (iU ku b)) := by
 unfold E6
 split
 ·rfl
 ·rw [if_neg (by omega)]
def a8 := (aq @av @af jV jW jb cW cX (aq c8 cT cZ c9 cR cV gz (aq gv gi gk gn ez ey eB (aq eC eA ew yt xp yw xi (aq @aN @au @aA @az @kY @dd @jI (aq @kZ @j8 @aE @gp @C6 @C2 @Mj (aq @KH @pd @oY @uW @tD @xI @Hf (eH Gt76c203 Gt76c204 Gt76c205 Gt76c206))))))))
set_option maxHeartbeats 4000000 in
theorem Mf (S : CS) (w : World) : Calls Tryz.prog 156 #[kv S] w fun e w' => e = .returned (.string (fP S)) /\ ai w [] w' := by
 refine aj (nt := 92) [.tmp 2] Tryz.func156 rfl rfl rfl ?_
 refine vR Γ76 a8 ?_
 refine vR Γ76 a8 ?_
 refine Wp.seq ?_
 refine vR Γ76 a8 ?_
 refine wC a8 (fun hc => ?_) (fun hc => ?_)
 ·have h1 : hM S = 1 := by simp at hc; omega
  refine vR Γ76 a8 ?_
  refine Wp.block ?_
  refine Wp.loop (fun j : Nat => ⟨20, bQ [(1, .is (.own 0 0)), (4, .is (.v (.int .i64 (j : Nat))))], bY [(0, .cells 241 ((eW S.getLsbD).map .v))]⟩) (fun j => j <= 256 /\ ∀ k < j, S.getLsbD k = false) (fun j => 256 - j) 0 ?_ ⟨Nat.zero_le _, fun k h => by omega⟩ ?_
  ·exact wM (fun k => .key k) a8
  rintro j ⟨hj, hn⟩
  refine Wp.seq ?_
  refine vR Γ76 a8 ?_
  refine wC a8 (fun hc => ?_) (fun hc => ?_)
  ·have hlt : j < 256 := by
    simp at hc
    omega
   have wj : IntKind.i64.wrap ((j : Int) + 1) = ((j + 1 : Nat) : Int) := by rw [aa (by omega) (by omega)]; omega
   have wu : IntKind.u8.wrap (j : Int) = (j : Int) := fH (by omega) (by omega)
   refine wK ?_
   refine Wp.seq (Wp.block ?_)
   refine Wp.nZ Γ76 bR (by simp only [dS, Op.operands, Value.cells, σ0, σB, Nat.reduceEqDiff, Nat.reduceAdd, Nat.reduceMul, Nat.reduceLT, Nat.reduceLeDiff, Nat.reduceBEq, ae, Int.reduceToNat, Int.reduceLT, Int.reduceLE, Nat.reduceDiv, Nat.reduceMod, Nat.reduceSub, Int.reducePow, Nat.reducePow, σP, σB3, a8, kh _ j hlt]; exact rfl) rfl ?_ ?_
   ·omega
   refine wC a8 (fun hc => ?_) (fun hc => ?_)
   ·have e : fP S = jh j (iU wo j) := by rw [fP, if_pos h1, Il S j hlt hn hc]
    rw [e]
    refine wR Γ76 (ab a8 wu) ?_ ?_
    ·omega
    refine wZ a8 ?_
    exact fun E => rfl
   ·refine wK ?_
    refine vr Γ76 (ab a8 wj) ?_
    refine ⟨j + 1, ⟨by omega, fun k hk => ?_⟩, by omega, ?_⟩
    ·by_cases h : k = j
     ·rw [h]; exact hc
     ·exact hn k (by omega)
    ·exact wM (fun k => .key k) a8
  ·exfalso
   have hj' : j = 256 := by
    simp at hc
    omega
   subst hj'
   have := xu S 256 hn
   rw [hM] at h1
   omega
 have h1 : hM S ≠ 1 := by simp at hc; omega
 obtain ⟨T, pre, want, he, hpre, hT, hw, hp⟩ := Hb S h1
 rw [he]
 refine wK ?_
 refine vR Γ76 a8 ?_
 refine vR Γ76 a8 ?_
 refine bp ⟨60, bQ [(1, .is (.own 0 0)), (5, .is (.v (.string pre))), (6, .is (.v (.bool want)))], bY [(0, .cells 241 ((eW S.getLsbD).map .v))]⟩ ?_ ?_
 ·skip
  refine vR Γ76 a8 ?_
  refine wC a8 (fun hc => ?_) (fun hc => ?_)
  ·have h : decide (128 < hM S) = true := by simp at hc ⊢; omega
   rw [h] at hw hp
   subst hw hp
   refine vR Γ76 a8 ?_
   refine vr Γ76 a8 ?_
   exact wM (fun k => .key k) a8
  ·have h : decide (128 < hM S) = false := by simp at hc ⊢; omega
   rw [h] at hw hp
   subst hw hp
   refine wK ?_
   exact wM (fun k => .key k) a8
 clear hw hp
 refine Wp.seq ?_
 refine vR Γ76 a8 ?_
 refine Wp.block ?_
 refine Wp.loop (fun b : Nat => ⟨70, bQ [(1, .is (.own 0 0)), (5, .is (.v (.string (cB T pre b)))), (6, .is (.v (.bool want))), (7, .is (.v (.int .i64 (b : Nat))))], bY [(0, .cells 241 ((eW S.getLsbD).map .v))]⟩) (fun b => b <= 256) (fun b => 256 - b) 0 ?_ (Nat.zero_le _) ?_
 ·exact wM (fun k => .key k) a8
 intro b hb
 refine Wp.seq ?_
 refine vR Γ76 a8 ?_
 refine wC a8 (fun hc => ?_) (fun hc => ?_)
 ·have hlt : b < 256 := by
   simp at hc
   omega
  have wj : IntKind.i64.wrap ((b : Int) + 1) = ((b + 1 : Nat) : Int) := by rw [aa (by omega) (by omega)]; omega
  have w1 : IntKind.i64.wrap ((b : Int) - 1) = (b : Int) - 1 := aa (by omega) (by omega)
  have w2 : ((b : Int) - 1).toNat = b - 1 := by omega
  have wu : IntKind.u8.wrap (b : Int) = (b : Int) := fH (by omega) (by omega)
  have hsz := gQ T pre b
  have hst : (!(S.getLsbD b == want) || (decide (0 < (b : Int)) && (S.getLsbD (b - 1) == want))) = !M8 T b := by
   rw [hT b hlt, hT (b - 1) (by omega), M8]
   by_cases h0 : b = 0
   ·subst h0; simp
   ·rw [show decide (0 < (b : Int)) = true by simp; omega, show (b == 0) = false by simpa using h0]
    cases T.getLsbD b <;> cases T.getLsbD (b - 1) <;> rfl
  refine wK ?_
  refine Wp.seq (Wp.block ?_)
  refine Wp.seq ?_
  refine Wp.nZ Γ76 bR (by simp only [dS, Op.operands, Value.cells, σ0, σB, Nat.reduceEqDiff, Nat.reduceAdd, Nat.reduceMul, Nat.reduceLT, Nat.reduceLeDiff, Nat.reduceBEq, ae, Int.reduceToNat, Int.reduceLT, Int.reduceLE, Nat.reduceDiv, Nat.reduceMod, Nat.reduceSub, Int.reducePow, Nat.reducePow, σP, σB3, a8, w1, w2, kh _ b hlt, kh _ (b - 1) (show b - 1 < 256 by omega)]; exact rfl) rfl ?_ ?_
  ·exact ⟨⟨by omega, by omega⟩, by omega, fun h => ⟨by simp at h; omega, by omega⟩, fun h => by omega⟩
  refine wC a8 (fun hc => ?_) (fun hc => ?_)
  ·have hs : M8 T b = false := by
    rw [hst] at hc
    simpa using hc
   have e : cB T pre (b + 1) = cB T pre b := by rw [cB, if_neg (by rw [hs]; simp)]
   refine wE ?_
   refine vr Γ76 (ab a8 wj) ?_
   refine ⟨b + 1, by omega, by omega, ?_⟩
   rw [e]
   exact wM (fun k => .key k) a8
  have hs : M8 T b = true := by
   rw [hst] at hc
   simpa using hc
  have hTb : T.getLsbD b = true := by
   rw [M8, Bool.and_eq_true] at hs
   exact hs.1
  have hbd := IN T b hlt
  have e : cB T pre (b + 1) = E6 (cB T pre b) b (iz T b) := by rw [cB, if_pos hs]
  generalize hO : cB T pre b = O at *
  generalize hO' : cB T pre (b + 1) = O' at *
  refine wK ?_
  refine vR Γ76 a8 ?_
  obtain ⟨m, hm⟩ : ∃ m, iz T b = b + m := ⟨iz T b - b, by omega⟩
  refine bp ⟨120, bQ [(1, .is (.own 0 0)), (5, .is (.v (.string O))), (6, .is (.v (.bool want))), (7, .is (.v (.int .i64 (b : Nat)))), (8, .is (.v (.int .i64 ((m : Int) + 1))))], bY [(0, .cells 241 ((eW S.getLsbD).map .v))]⟩ ?_ ?_
  ·skip
   refine Wp.block ?_
   refine Wp.loop (fun k : Nat => ⟨100, bQ [(1, .is (.own 0 0)), (5, .is (.v (.string O))), (6, .is (.v (.bool want))), (7, .is (.v (.int .i64 (b : Nat)))), (8, .is (.v (.int .i64 (k : Nat))))], bY [(0, .cells 241 ((eW S.getLsbD).map .v))]⟩) (fun k => (1 <= k /\ b + k <= 256) /\ iz T b = iz T (b + k - 1)) (fun k => 256 - k) 1 ?_ ⟨⟨Nat.le_refl _, by omega⟩, by rw [Nat.add_sub_cancel]⟩ ?_
   ·exact wM (fun k => .key k) a8
   rintro k ⟨⟨hk1, hk⟩, hke⟩
   have wbk : IntKind.i64.wrap ((b : Int) + (k : Int)) = (b : Int) + (k : Int) := aa (by omega) (by omega)
   have w3 : ((b : Int) + (k : Int)).toNat = b + k := by omega
   have wk : IntKind.i64.wrap ((k : Int) + 1) = ((k + 1 : Nat) : Int) := by rw [aa (by omega) (by omega)]; omega
   have fin : (b + k < 256 -> T.getLsbD (b + k) = false) -> (k : Int) = (m : Int) + 1 := fun h => by
    have := xo T (b + k - 1) (fun h2 => by rw [show b + k - 1 + 1 = b + k by omega]; exact h (by omega))
    omega
   by_cases hbk : b + k < 256
   ·have hd : decide ((b : Int) + (k : Int) < 256) = true := by simp; omega
    refine Wp.seq ?_
    refine Wp.nZ Γ76 bR (by simp only [dS, Op.operands, Value.cells, σ0, σB, Nat.reduceEqDiff, Nat.reduceAdd, Nat.reduceMul, Nat.reduceLT, Nat.reduceLeDiff, Nat.reduceBEq, ae, Int.reduceToNat, Int.reduceLT, Int.reduceLE, Nat.reduceDiv, Nat.reduceMod, Nat.reduceSub, Int.reducePow, Nat.reducePow, σP, σB3, a8, wbk, w3, hd, kh _ (b + k) hbk]; exact rfl) rfl ?_ ?_
    ·exact ⟨⟨by omega, by omega⟩, by omega⟩
    refine wC a8 (fun hc => ?_) (fun hc => ?_)
    ·rw [hT _ hbk] at hc
     refine wK ?_
     refine Wp.block ?_
     refine vr Γ76 (ab a8 wk) ?_
     have hst2 := xC T (b + k - 1) (by omega) (by rw [show b + k - 1 + 1 = b + k by omega]; exact hc)
     refine ⟨k + 1, ⟨⟨by omega, by omega⟩, by rw [hke, hst2]; congr 1; omega⟩, by omega, ?_⟩
     exact wM (fun k => .key k) a8
    ·rw [hT _ hbk] at hc
     refine wE ?_
     have hf := fin fun _ => hc
     exact wM (fun k => .key k) (ab a8 hf)
   ·have hd : decide ((b : Int) + (k : Int) < 256) = false := by simp; omega
    have ho : (List.map SV.v (eW S.getLsbD)).getD (b + k) (SV.v undef) = SV.v undef := by rw [List.getD_eq_getElem?_getD, List.getElem?_eq_none (by rw [dd]; omega)]; rfl
    refine Wp.seq ?_
    refine wR Γ76 (yR a8 wbk w3 hd ho @zV @bad_eq) ?_ ?_
    ·simp
    refine wC a8 (fun hc => ?_) (fun hc => ?_)
    ·exact absurd hc (by simp)
    ·refine wE ?_
     have hf := fin fun h => absurd h hbk
     exact wM (fun k => .key k) (ab a8 hf)
  have we1 : IntKind.i64.wrap ((b : Int) + ((m : Int) + 1)) = (b : Int) + ((m : Int) + 1) := aa (by omega) (by omega)
  have we2 : IntKind.i64.wrap ((b : Int) + ((m : Int) + 1) - 1) = ((b + m : Nat) : Int) := by rw [aa (by omega) (by omega)]; omega
  have we3 : IntKind.u8.wrap ((b + m : Nat) : Int) = ((b + m : Nat) : Int) := fH (by omega) (by omega)
  have hb1 := jy b (iU ku b)
  have hb2 := jy ((b + m : Nat) : Int) (iU ku ((b + m : Nat) : Int))
  rw [Jk, hm] at e
  refine wR Γ76 (ab a8 wu) ?_ ?_
  ·exact ⟨⟨by omega, by omega⟩, ⟨by omega, by omega⟩, by omega⟩
  have hO1 : (O ++ jh b (iU ku b)).size <= 2400 := by rw [ByteArray.size_append]; omega
  generalize O ++ jh b (iU ku b) = O1 at *
  refine vR Γ76 (eH a8 we1 we2 we3) ?_
  refine bp ⟨150, bQ [(1, .is (.own 0 0)), (5, .is (.v (.string (if b + 1 < b + m then O1 ++ l5 else O1)))), (6, .is (.v (.bool want))), (7, .is (.v (.int .i64 (b : Nat)))), (8, .is (.v (.int .i64 ((m : Int) + 1)))), (9, .is (.v (.int .u8 ((b + m : Nat) : Int))))], bY [(0, .cells 241 ((eW S.getLsbD).map .v))]⟩ ?_ ?_
  ·skip
   refine vR Γ76 a8 ?_
   refine wC a8 (fun hc => ?_) (fun hc => ?_)
   ·have h : b + 1 < b + m := by simp at hc; omega
    rw [if_pos h]
    refine wr Γ76 a8 ?_ ?_
    ·show O1.size + 1 <= _; omega
    exact wM (fun k => .key k) a8
   ·have h : ¬ b + 1 < b + m := by simp at hc; omega
    rw [if_neg h]
    refine wK ?_
    exact wM (fun k => .key k) a8
  have hO2 : (if b + 1 < b + m then O1 ++ l5 else O1).size <= 2401 := by
   split
   ·rw [ByteArray.size_append]
    show O1.size + 1 <= 2401
    omega
   ·omega
  generalize (if b + 1 < b + m then O1 ++ l5 else O1) = O2 at *
  refine vR Γ76 a8 ?_
  refine wC a8 (fun hc => ?_) (fun hc => ?_)
  ·have h : b < b + m := by simp at hc; omega
   rw [if_pos h] at e
   subst e
   refine wr Γ76 a8 ?_ ?_
   ·exact ⟨⟨by omega, by omega⟩, ⟨by omega, by omega⟩, by omega⟩
   refine vr Γ76 (ab a8 wj) ?_
   refine ⟨b + 1, by omega, by omega, ?_⟩
   rw [hO']
   exact wM (fun k => .key k) a8
  ·have h : ¬ b < b + m := by simp at hc; omega
   rw [if_neg h] at e
   subst e
   refine wK ?_
   refine vr Γ76 (ab a8 wj) ?_
   refine ⟨b + 1, by omega, by omega, ?_⟩
   rw [hO']
   exact wM (fun k => .key k) a8
 ·have hb' : b = 256 := by
   simp at hc
   omega
  subst hb'
  have hsz := gQ T pre 256
  refine wE ?_
  refine wR Γ76 a8 ?_ ?_
  ·show (cB T pre 256).size + 1 <= _; omega
  refine wZ a8 ?_
  exact fun E => rfl
noncomputable def mm : aU Tryz.prog 156 where
 pre := fun W bs => fun | [.val y0] => (match dec kv y0 with | some S => True | _ => False) | _ => False
 res := fun W => fun | [.val y0] => (match dec kv y0 with | some S => .string (fP S) | _ => undef) | _ => undef
 enters := Tryz.call156
 ok := by
  intro W w bs us as_ hk hu hp
  split at hp
  ·rename_i y0
   split at hp
   ·rename_i S h0
    match us, hu with
    | [u0], hu =>
     obtain ⟨rfl, _⟩ := hu
     obtain rfl := fA h0
     try dsimp only
     try simp only [cj kV]
     exact Mf S w
   ·exact hp.elim
  ·exact hp.elim
theorem EW (W : World) (S : CS) : mm.res W [.val (kv S)] = .string (fP S) := by simp only [mm, cj kV]
theorem Gr (W : World) (bs : List Nat) (S : CS) : mm.pre W bs [.val (kv S)] = (True) := by simp only [mm, cj kV]
end
section
open Go.RowKit Go.LE
set_option maxRecDepth 10000
def Y4 : Rx -> Int
 | .eps => 0
 | .cls _ => 1
 | .cat _ _ => 2
 | .alt _ _ => 3
 | .star _ => 4
 | .and _ _ => 5
 | .minus _ _ => 6
def WK (op : Int) : Int := if op = 3 then 0 else if op = 5 \/ op = 6 then 1 else if op = 2 then 2 else if op = 4 then 3 else 4
theorem Vu (t : Rx) : WK (Y4 t) = qM t := by cases t <;> rfl
def iy := (aq jV jW jb cW cX c8 cT (aq cZ c9 cR cV ez ey eB (aq eC eA ew rG rQ sr pY (aq vL vO vp vj tE ub yt (aq xp yw xi pX sc sv qg (aq su rT rS rJ sa rD sq (aq @aN @au @aA @az @EW @Gr @VE (aq @Vx @Wa @Wr @VX @Af @oJ @JF (aq @DL @vM @aE @dd @jI @j8 @gp @xI)))))))))
set_option maxHeartbeats 2000000 in
theorem LA (op : Int) (w : World) : Calls Tryz.prog 207 #[.int .i64 op] w fun e w' => e = .returned (.int .i64 (WK op)) /\ ai w [] w' := by
 refine aj (nt := 13) [.tmp 2] Tryz.func207 rfl rfl rfl ?_
 refine vR Γ0 iy ?_
 refine Wp.seq ?_
 refine vR Γ0 iy ?_
 refine Wp.block ?_
 refine vR Γ0 iy ?_
 refine wC iy (fun hc => ?_) (fun hc => ?_)
 ·have h : op = 3 := by simpa using hc
  rw [WK, if_pos h]
  refine vR Γ0 iy ?_
  refine wZ iy ?_
  exact fun E => rfl
 have n3 : ¬ op = 3 := by simpa using hc
 rw [WK, if_neg n3]
 refine bp ⟨40, bQ [(3, .is (.v (.int .i64 op))), (6, .is (.v (.bool (decide (op = 5 \/ op = 6)))))], bY []⟩ ?_ ?_
 ·skip
  refine vR Γ0 iy ?_
  refine wC iy (fun hc => ?_) (fun hc => ?_)
  ·have h : op = 5 := by simpa using hc
   rw [show decide (op = 5 \/ op = 6) = true by simp [h]]
   refine wK ?_
   exact wM (fun k => .key k) (ab iy hc)
  ·have h : ¬ op = 5 := by simpa using hc
   rw [show decide (op = 5 \/ op = 6) = decide (op = 6) by simp [h]]
   refine vr Γ0 iy ?_
   exact wM (fun k => .key k) iy
 refine wC iy (fun hc => ?_) (fun hc => ?_)
 ·have h : op = 5 \/ op = 6 := by simpa using hc
  rw [if_pos h]
  refine vR Γ0 iy ?_
  refine wZ iy ?_
  exact fun E => rfl
 have n5 : ¬ (op = 5 \/ op = 6) := by simpa using hc
 rw [if_neg n5]
 refine vR Γ0 iy ?_
 refine wC iy (fun hc => ?_) (fun hc => ?_)
 ·have h : op = 2 := by simpa using hc
  rw [if_pos h]
  refine vR Γ0 iy ?_
  refine wZ iy ?_
  exact fun E => rfl
 have n2 : ¬ op = 2 := by simpa using hc
 rw [if_neg n2]
 refine vR Γ0 iy ?_
 refine wC iy (fun hc => ?_) (fun hc => ?_)
 ·have h : op = 4 := by simpa using hc
  rw [if_pos h]
  refine vR Γ0 iy ?_
  refine wZ iy ?_
  exact fun E => rfl
 have n4 : ¬ op = 4 := by simpa using hc
 rw [if_neg n4]
 refine wK ?_
 refine vR Γ0 iy ?_
 refine wZ iy ?_
 exact fun E => rfl
def zj : aU Tryz.prog 207 where
 pre := fun W bs => fun | [.val (.int .i64 op)] => True | _ => False
 res := fun W => fun | [.val (.int .i64 op)] => .int .i64 (WK op) | _ => undef
 enters := Tryz.call207
 ok := by
  intro W w bs us as_ hk hu hp
  split at hp
  ·rename_i op
   match us, hu with
   | [u0], hu =>
    obtain ⟨rfl, _⟩ := hu
    exact LA op w
  ·exact hp.elim
theorem Fl (W : World) (op : Int) : zj.res W [.val (.int .i64 op)] = .int .i64 (WK op) := rfl
theorem G7 (W : World) (bs : List Nat) (op : Int) : zj.pre W bs [.val (.int .i64 op)] = (True) := rfl
def ml (l : List Nd) : Nat -> Rx -> Prop
 | i, .eps => ∃ d, l[i]? = some d /\ d.op = 0
 | i, .cls S => ∃ d, l[i]? = some d /\ d.op = 1 /\ d.set = S
 | i, .cat a b => ∃ d, ∃ x y : Nat, l[i]? = some d /\ d.op = 2 /\ d.a = x /\ d.b = y /\ x < y /\ ml l x a /\ ml l y b
 | i, .alt a b => ∃ d, ∃ x y : Nat, l[i]? = some d /\ d.op = 3 /\ d.a = x /\ d.b = y /\ x < y /\ ml l x a /\ ml l y b
 | i, .star a => ∃ d, ∃ x : Nat, l[i]? = some d /\ d.op = 4 /\ d.a = x /\ ml l x a
 | i, .and a b => ∃ d, ∃ x y : Nat, l[i]? = some d /\ d.op = 5 /\ d.a = x /\ d.b = y /\ x < y /\ ml l x a /\ ml l y b
 | i, .minus a b => ∃ d, ∃ x y : Nat, l[i]? = some d /\ d.op = 6 /\ d.a = x /\ d.b = y /\ x < y /\ ml l x a /\ ml l y b
theorem ml.op {l : List Nd} {i : Nat} {t : Rx} (h : ml l i t) : ∃ d, l[i]? = some d /\ d.op = Y4 t := by
 cases t with
 | eps => obtain ⟨d, h1, h2⟩ := h; exact ⟨d, h1, h2⟩
 | cls S => obtain ⟨d, h1, h2, _⟩ := h; exact ⟨d, h1, h2⟩
 | star a => obtain ⟨d, _, h1, h2, _⟩ := h; exact ⟨d, h1, h2⟩
 | cat a b => obtain ⟨d, _, _, h1, h2, _⟩ := h; exact ⟨d, h1, h2⟩
 | alt a b => obtain ⟨d, _, _, h1, h2, _⟩ := h; exact ⟨d, h1, h2⟩
 | and a b => obtain ⟨d, _, _, h1, h2, _⟩ := h; exact ⟨d, h1, h2⟩
 | minus a b => obtain ⟨d, _, _, h1, h2, _⟩ := h; exact ⟨d, h1, h2⟩
theorem sZ {α : Type} (l : List α) (d : α) (r : List α) {k : Nat} (hk : k = l.length) : (l ++ d :: r)[k]? = some d := by
 subst hk
 simp
theorem VY : ∀ (t : Rx) (pre post : List Nd), ml (pre ++ dx pre.length t ++ post) (pre.length + aG t - 1) t := by
 have two : ∀ (a b : Rx) (d : Nd) (pre post : List Nd), (∀ pre post : List Nd, ml (pre ++ dx pre.length a ++ post) (pre.length + aG a - 1) a) -> (∀ pre post : List Nd, ml (pre ++ dx pre.length b ++ post) (pre.length + aG b - 1) b) ->
   (pre ++ (dx pre.length a ++ (dx (pre.length + aG a) b ++ [d])) ++ post)[pre.length + (aG a + aG b + 1) - 1]? = some d /\ ml (pre ++ (dx pre.length a ++ (dx (pre.length + aG a) b ++ [d])) ++ post) (pre.length + aG a - 1) a /\ ml (pre ++ (dx pre.length a ++ (dx (pre.length + aG a) b ++ [d])) ++ post) (pre.length + aG a + aG b - 1) b := by
  intro a b d pre post ha hb
  have la := eZ a pre.length
  have lb := eZ b (pre.length + aG a)
  have e1 : pre ++ (dx pre.length a ++ (dx (pre.length + aG a) b ++ [d])) ++ post = (pre ++ dx pre.length a ++ dx (pre.length + aG a) b) ++ d :: post := by simp
  have e2 : pre ++ (dx pre.length a ++ (dx (pre.length + aG a) b ++ [d])) ++ post = pre ++ dx pre.length a ++ (dx (pre.length + aG a) b ++ d :: post) := by simp
  have e3 : pre ++ (dx pre.length a ++ (dx (pre.length + aG a) b ++ [d])) ++ post = (pre ++ dx pre.length a) ++ dx (pre ++ dx pre.length a).length b ++ d :: post := by rw [List.length_append, la]; simp
  refine ⟨?_, ?_, ?_⟩
  ·rw [e1]
   exact sZ _ _ _ (by rw [List.length_append, List.length_append, la, lb]; omega)
  ·rw [e2]; exact ha pre _
  ·rw [e3]
   have h := hb (pre ++ dx pre.length a) (d :: post)
   rw [List.length_append, la] at h ⊢
   exact h
 intro t
 induction t with
 | eps => intro pre post; exact ⟨_, by show (pre ++ [bP 0 0 0] ++ post)[pre.length + 1 - 1]? = _; rw [List.append_assoc]; exact sZ _ _ _ (by omega), rfl⟩
 | cls S => intro pre post; exact ⟨_, by show (pre ++ [⟨1, S, 0, 0, 0, 0⟩] ++ post)[pre.length + 1 - 1]? = _; rw [List.append_assoc]; exact sZ _ _ _ (by omega), rfl, rfl⟩
 | star a ih =>
  intro pre post
  have la := eZ a pre.length
  have hp := gY a
  refine ⟨bP 4 ((pre.length + aG a - 1 : Nat) : Int) 0, pre.length + aG a - 1, ?_, rfl, rfl, ?_⟩
  ·have e1 : pre ++ dx pre.length (.star a) ++ post = (pre ++ dx pre.length a) ++ bP 4 ((pre.length + aG a - 1 : Nat) : Int) 0 :: post := by simp [dx]
   rw [e1]
   exact sZ _ _ _ (by rw [List.length_append, la]; show pre.length + (aG a + 1) - 1 = _; omega)
  ·have e2 : pre ++ dx pre.length (.star a) ++ post = pre ++ dx pre.length a ++ bP 4 ((pre.length + aG a - 1 : Nat) : Int) 0 :: post := by simp [dx]
   rw [e2]; exact ih pre _
 | cat a b iha ihb =>
  intro pre post
  have hp := gY a
  have hq := gY b
  obtain ⟨h1, h2, h3⟩ := two a b _ pre post iha ihb
  exact ⟨_, pre.length + aG a - 1, pre.length + aG a + aG b - 1, h1, rfl, rfl, rfl, by omega, h2, h3⟩
 | alt a b iha ihb =>
  intro pre post
  have hp := gY a
  have hq := gY b
  obtain ⟨h1, h2, h3⟩ := two a b _ pre post iha ihb
  exact ⟨_, pre.length + aG a - 1, pre.length + aG a + aG b - 1, h1, rfl, rfl, rfl, by omega, h2, h3⟩
 | and a b iha ihb =>
  intro pre post
  have hp := gY a
  have hq := gY b
  obtain ⟨h1, h2, h3⟩ := two a b _ pre post iha ihb
  exact ⟨_, pre.length + aG a - 1, pre.length + aG a + aG b - 1, h1, rfl, rfl, rfl, by omega, h2, h3⟩
 | minus a b iha ihb =>
  intro pre post
  have hp := gY a
  have hq := gY b
  obtain ⟨h1, h2, h3⟩ := two a b _ pre post iha ihb
  exact ⟨_, pre.length + aG a - 1, pre.length + aG a + aG b - 1, h1, rfl, rfl, rfl, by omega, h2, h3⟩
abbrev Vw (ao : Option Addr) (n c : Nat) (r : Int) : Value := .agg #[.slice ao n c, .int .i64 r]
abbrev kJ (l : List Nd) (ao : Option Addr) (c : Nat) (r : Int) (i : Nat) (t : Rx) : Prop := ∀ w, kn w ao (cN l) -> Calls Tryz.prog 102 #[Vw ao l.length c r, .int .i64 (i : Nat)] w fun e w' => e = .returned (.string (bU t)) /\ ai w [] w'
abbrev R3 (l : List Nd) (ao : Option Addr) (c : Nat) (r : Int) (i : Nat) (t : Rx) : Prop := ∀ (need : Int) (w : World), kn w ao (cN l) -> Calls Tryz.prog 157 #[Vw ao l.length c r, .int .i64 (i : Nat), .int .i64 need] w fun e w' => e = .returned (.string (Bd t need)) /\ ai w [] w'
theorem gN {W w : World} {bs : List Nat} {ao : Option Addr} {vs : List Value} (h : eP W (Out bs) ao vs) (hk : ai W bs w) : kn w ao vs := (h.mono hk.h9).is
section
variable (l : List Nd) (ao : Option Addr) (c : Nat) (r : Int)
def PJ (i : Nat) (t : Rx) (h : kJ l ao c r i t) : aU Tryz.prog 102 where
 pre := fun W bs as_ => as_ = [.val (Vw ao l.length c r), .val (.int .i64 (i : Nat))] /\ eP W (Out bs) ao (cN l)
 res := fun _ _ => .string (bU t)
 enters := Tryz.call102
 ok := by
  intro W w bs us as_ hk hu hp
  obtain ⟨rfl, h1⟩ := hp
  match us, hu with
  | [x, y], hu =>
   obtain ⟨rfl, rfl, _⟩ := hu
   exact h w (gN h1 hk)
noncomputable def Γ81 (i : Nat) (t : Rx) (h : kJ l ao c r i t) : Env Tryz.prog := ⟨fun | 102 => some (PJ l ao c r i t h).spec | 207 => some zj.spec | _ => none, fun _ => none, fun _ _ => none⟩
theorem Gt81c102 (i : Nat) (t : Rx) (h : kJ l ao c r i t) : (Γ81 l ao c r i t h).sp 102 = some (PJ l ao c r i t h).spec := rfl
theorem Gt81c207 (i : Nat) (t : Rx) (h : kJ l ao c r i t) : (Γ81 l ao c r i t h).sp 207 = some zj.spec := rfl
theorem L7 {w : World} {i : Nat} {d : Nd} (hs : kn w ao (cN l)) (hd : l[i]? = some d) : i < l.length /\ ∃ b o, ao = some ⟨b, o, none⟩ /\ w.cell? ⟨b, o + i * 261, none⟩ = some (.int .i64 d.op) := by
 obtain ⟨hk, hd⟩ := List.getElem?_eq_some_iff.1 hd
 obtain ⟨b, o, h1, h2, _⟩ := kn.nd hs hk
 rw [hd] at h2
 exact ⟨hk, b, o, h1, h2⟩
def zg := (lX iy Fl G7 @Gt81c102 @Gt81c207 @PJ.eq_1)
set_option maxHeartbeats 2000000 in
theorem iN (i : Nat) (t : Rx) (ht : ml l i t) (hsz : aG t <= 4000000) (h : kJ l ao c r i t) : R3 l ao c r i t := by
 intro need w hs
 obtain ⟨d, hd, hop⟩ := ht.op
 obtain ⟨hi, b, o, rfl, hx⟩ := L7 l ao hs hd
 have hrk := Vu t
 rw [<- hop] at hrk
 have hbs := cL t
 refine aj (nt := 24) [.tmp 6] Tryz.func157 rfl rfl rfl ?_
 refine vR Γ0 zg ?_
 refine wR (Γ81 l (some ⟨b, o, none⟩) c r i t h) zg ?_ ?_
 ·exact (eP.lW hs).out fun _ _ => by simp [Out]
 refine Wp.seq ?_
 refine wR (Γ81 l (some ⟨b, o, none⟩) c r i t h) (de zg hx hrk) ?_ ?_
 ·omega
 refine wC zg (fun hc => ?_) (fun hc => ?_)
 ·have hlt : qM t < need := by simpa using hc
  have e : Bd t need = Yp ++ bU t ++ Yr := by rw [Bd, ng, if_pos hlt]
  rw [e]
  refine wR Γ0 zg ?_ ?_
  ·refine ⟨?_, ?_⟩
   ·show 1 + _ <= _; omega
   ·rw [ByteArray.size_append]; show 1 + _ + 1 <= _; omega
  refine wZ zg ?_
  exact fun E => rfl
 ·have hlt : ¬ qM t < need := by simpa using hc
  have e : Bd t need = bU t := by rw [Bd, ng, if_neg hlt]
  rw [e]
  refine wK ?_
  refine vR Γ0 zg ?_
  refine wZ zg ?_
  exact fun E => rfl
def Yh (x y : Nat) (a b : Rx) (ha : R3 l ao c r x a) (hb : R3 l ao c r y b) : aU Tryz.prog 157 where
 pre := fun W bs as_ => ∃ i need : Int, as_ = [.val (Vw ao l.length c r), .val (.int .i64 i), .val (.int .i64 need)] /\ (i = x \/ i = y) /\ eP W (Out bs) ao (cN l)
 res := fun _ as_ => match as_ with
  | [_, .val (.int _ i), .val (.int _ need)] => .string (Bd (if i = x then a else b) need)
  | _ => undef
 enters := Tryz.call157
 ok := by
  intro W w bs us as_ hk hu hp
  obtain ⟨i, need, rfl, h1, h2⟩ := hp
  match us, hu with
  | [u1, u2, u3], hu =>
   obtain ⟨rfl, rfl, rfl, _⟩ := hu
   by_cases hx : i = x
   ·subst hx
    simp only [if_true]
    exact ha need w (gN h2 hk)
   ·obtain rfl := h1.resolve_left hx
    simp only [if_neg hx]
    exact hb need w (gN h2 hk)
section
variable (x y : Nat) (a b : Rx) (ha : R3 l ao c r x a) (hb : R3 l ao c r y b)
theorem Ue (W : World) (bs : List Nat) (i need : Int) : (Yh l ao c r x y a b ha hb).pre W bs [.val (Vw ao l.length c r), .val (.int .i64 i), .val (.int .i64 need)] = ((i = x \/ i = y) /\ eP W (Out bs) ao (cN l)) := by
 apply propext
 constructor
 ·rintro ⟨i', need', h1, h2⟩
  simp only [List.cons.injEq, AV.val.injEq, Value.int.injEq, true_and, and_true] at h1
  obtain ⟨rfl, rfl⟩ := h1
  exact h2
 ·exact fun h => ⟨i, need, rfl, h⟩
theorem UJ (W : World) (v : AV) (k k' : IntKind) (i need : Int) : (Yh l ao c r x y a b ha hb).res W [v, .val (.int k i), .val (.int k' need)] = .string (Bd (if i = x then a else b) need) := rfl
noncomputable def Γ82 : Env Tryz.prog := ⟨fun | 157 => some (Yh l ao c r x y a b ha hb).spec | 156 => some mm.spec | _ => none, fun _ => none, fun _ _ => none⟩
theorem Gt82c157 : (Γ82 l ao c r x y a b ha hb).sp 157 = some (Yh l ao c r x y a b ha hb).spec := rfl
theorem Gt82c156 : (Γ82 l ao c r x y a b ha hb).sp 156 = some mm.spec := rfl
end
noncomputable def Γ83 : Env Tryz.prog := ⟨fun | 156 => some mm.spec | _ => none, fun | _ => none, fun _ _ => none⟩
theorem Gt83c156 : Γ83.sp 156 = some mm.spec := rfl
theorem cr (t : Rx) (need : Int) : (Bd t need).size <= 2400 * aG t + 2 := by
 have h1 := cL t
 have h2 := dY (qM t) need (bU t)
 unfold Bd
 omega
def aT := (lX zg Gt83c156 @Gt82c157 @Gt82c156 @Ue @UJ)
set_option maxHeartbeats 2000000 in
theorem Qs (i : Nat) (hsz : aG (.eps) <= 4000000) (ht : ml l i (.eps)) : kJ l ao c r i (.eps) := by
 intro w hs
 obtain ⟨d, hd, hop⟩ := ht
 obtain ⟨hi, hd⟩ := List.getElem?_eq_some_iff.1 hd
 have hsx : eP w (Out []) ao (cN l) := (eP.lW hs).out fun _ _ => by simp [Out]
 obtain ⟨b, o, rfl, hb, hx1, hx2⟩ := im hsx hi
 rw [hd] at hx1
 refine aj (nt := 72) [.tmp 4] Tryz.func102 rfl rfl rfl ?_
 refine vR Γ83 aT ?_
 refine Wp.nZ Γ83 bR (by simp only [dS, Op.operands, Value.cells, σ0, σB, Nat.reduceEqDiff, Nat.reduceAdd, Nat.reduceMul, Nat.reduceLT, Nat.reduceLeDiff, Nat.reduceBEq, ae, Int.reduceToNat, Int.reduceLT, Int.reduceLE, Nat.reduceDiv, Nat.reduceMod, Nat.reduceSub, Int.reducePow, Nat.reducePow, σP, σB3, aT, ↓hx1, ↓hx2]; exact rfl) rfl ?_ ?_
 ·exact ⟨by omega, by simp, Nd.dn d⟩
 refine Wp.seq ?_
 refine vR Γ83 (ab aT hop) ?_
 refine Wp.block ?_
 refine vR Γ83 aT ?_
 refine wC aT (fun hc => ?_) (fun hc => ?_)
 rotate_left
 ·exact absurd hc (by decide)
 refine vR Γ83 aT ?_
 refine wZ aT ?_
 exact fun E => rfl
set_option maxHeartbeats 2000000 in
theorem NI (S : CS) (i : Nat) (hsz : aG (.cls S) <= 4000000) (ht : ml l i (.cls S)) : kJ l ao c r i (.cls S) := by
 intro w hs
 obtain ⟨d, hd, hop, rfl⟩ := ht
 obtain ⟨hi, hd⟩ := List.getElem?_eq_some_iff.1 hd
 have hsx : eP w (Out []) ao (cN l) := (eP.lW hs).out fun _ _ => by simp [Out]
 obtain ⟨b, o, rfl, hb, hx1, hx2⟩ := im hsx hi
 rw [hd] at hx1
 refine aj (nt := 72) [.tmp 4] Tryz.func102 rfl rfl rfl ?_
 refine vR Γ83 aT ?_
 refine Wp.nZ Γ83 bR (by simp only [dS, Op.operands, Value.cells, σ0, σB, Nat.reduceEqDiff, Nat.reduceAdd, Nat.reduceMul, Nat.reduceLT, Nat.reduceLeDiff, Nat.reduceBEq, ae, Int.reduceToNat, Int.reduceLT, Int.reduceLE, Nat.reduceDiv, Nat.reduceMod, Nat.reduceSub, Int.reducePow, Nat.reducePow, σP, σB3, aT, ↓hx1, ↓hx2]; exact rfl) rfl ?_ ?_
 ·exact ⟨by omega, by simp, Nd.dn d⟩
 refine Wp.seq ?_
 refine vR Γ83 (ab aT hop) ?_
 refine Wp.block ?_
 refine vR Γ83 aT ?_
 refine wC aT (fun hc => ?_) (fun hc => ?_)
 ·exact absurd hc (by decide)
 refine vR Γ83 aT ?_
 refine wC aT (fun hc => ?_) (fun hc => ?_)
 rotate_left
 ·exact absurd hc (by decide)
 refine vR Γ83 aT ?_
 refine wZ aT ?_
 exact fun E => rfl
set_option maxHeartbeats 2000000 in
theorem PV (a b : Rx) (i : Nat) (hsz : aG (.cat a b) <= 4000000) (ht : ml l i (.cat a b)) (IH : ∀ (j : Nat), (∀ t, (t = a \/ t = b) -> ml l j t -> R3 l ao c r j t)) : kJ l ao c r i (.cat a b) := by
 intro w hs
 obtain ⟨d, x, y, hd, hop, hda, hdb, hxy, hta, htb⟩ := ht
 have hA := IH x a (.inl rfl) hta
 have hB := IH y b (.inr rfl) htb
 have hne : ¬ ((y : Nat) : Int) = ((x : Nat) : Int) := by omega
 have s1 := cr a 2
 have s2 := cr b 3
 have hsz' : aG a + aG b + 1 <= 4000000 := hsz
 obtain ⟨hi, hd⟩ := List.getElem?_eq_some_iff.1 hd
 have hsx : eP w (Out []) ao (cN l) := (eP.lW hs).out fun _ _ => by simp [Out]
 obtain ⟨bb, o, rfl, hb, hx1, hx2⟩ := im hsx hi
 rw [hd] at hx1
 refine aj (nt := 72) [.tmp 4] Tryz.func102 rfl rfl rfl ?_
 refine vR Γ83 aT ?_
 refine Wp.nZ Γ83 bR (by simp only [dS, Op.operands, Value.cells, σ0, σB, Nat.reduceEqDiff, Nat.reduceAdd, Nat.reduceMul, Nat.reduceLT, Nat.reduceLeDiff, Nat.reduceBEq, ae, Int.reduceToNat, Int.reduceLT, Int.reduceLE, Nat.reduceDiv, Nat.reduceMod, Nat.reduceSub, Int.reducePow, Nat.reducePow, σP, σB3, aT, ↓hx1, ↓hx2]; exact rfl) rfl ?_ ?_
 ·exact ⟨by omega, by simp, Nd.dn d⟩
 refine Wp.seq ?_
 refine vR Γ83 (ab aT hop) ?_
 refine Wp.block ?_
 refine vR Γ83 aT ?_
 refine wC aT (fun hc => ?_) (fun hc => ?_)
 ·exact absurd hc (by decide)
 refine vR Γ83 aT ?_
 refine wC aT (fun hc => ?_) (fun hc => ?_)
 ·exact absurd hc (by decide)
 refine vR Γ83 aT ?_
 refine wC aT (fun hc => ?_) (fun hc => ?_)
 ·exact absurd hc (by decide)
 refine vR Γ83 aT ?_
 refine wC aT (fun hc => ?_) (fun hc => ?_)
 ·exact absurd hc (by decide)
 refine vR Γ83 aT ?_
 refine wC aT (fun hc => ?_) (fun hc => ?_)
 ·exact absurd hc (by decide)
 refine vR Γ83 aT ?_
 refine wC aT (fun hc => ?_) (fun hc => ?_)
 rotate_left
 ·exact absurd hc (by decide)
 refine l9 (Γ82 l (some ⟨bb, o, none⟩) c r x y a b hA hB) (eH aT hda hdb hne) ?_ ?_
 ·exact ⟨hsx, ⟨.inr trivial, hsx⟩, by omega⟩
 refine wZ aT ?_
 exact fun E => rfl
set_option maxHeartbeats 2000000 in
theorem QO (a b : Rx) (i : Nat) (hsz : aG (.alt a b) <= 4000000) (ht : ml l i (.alt a b)) (IH : ∀ (j : Nat), (∀ t, (t = a \/ t = b) -> ml l j t -> R3 l ao c r j t)) : kJ l ao c r i (.alt a b) := by
 intro w hs
 obtain ⟨d, x, y, hd, hop, hda, hdb, hxy, hta, htb⟩ := ht
 have hA := IH x a (.inl rfl) hta
 have hB := IH y b (.inr rfl) htb
 have hne : ¬ ((y : Nat) : Int) = ((x : Nat) : Int) := by omega
 have s1 := cr a 0
 have s2 := cr b 1
 have hsz' : aG a + aG b + 1 <= 4000000 := hsz
 obtain ⟨hi, hd⟩ := List.getElem?_eq_some_iff.1 hd
 have hsx : eP w (Out []) ao (cN l) := (eP.lW hs).out fun _ _ => by simp [Out]
 obtain ⟨bb, o, rfl, hb, hx1, hx2⟩ := im hsx hi
 rw [hd] at hx1
 refine aj (nt := 72) [.tmp 4] Tryz.func102 rfl rfl rfl ?_
 refine vR Γ83 aT ?_
 refine Wp.nZ Γ83 bR (by simp only [dS, Op.operands, Value.cells, σ0, σB, Nat.reduceEqDiff, Nat.reduceAdd, Nat.reduceMul, Nat.reduceLT, Nat.reduceLeDiff, Nat.reduceBEq, ae, Int.reduceToNat, Int.reduceLT, Int.reduceLE, Nat.reduceDiv, Nat.reduceMod, Nat.reduceSub, Int.reducePow, Nat.reducePow, σP, σB3, aT, ↓hx1, ↓hx2]; exact rfl) rfl ?_ ?_
 ·exact ⟨by omega, by simp, Nd.dn d⟩
 refine Wp.seq ?_
 refine vR Γ83 (ab aT hop) ?_
 refine Wp.block ?_
 refine vR Γ83 aT ?_
 refine wC aT (fun hc => ?_) (fun hc => ?_)
 ·exact absurd hc (by decide)
 refine vR Γ83 aT ?_
 refine wC aT (fun hc => ?_) (fun hc => ?_)
 ·exact absurd hc (by decide)
 refine vR Γ83 aT ?_
 refine wC aT (fun hc => ?_) (fun hc => ?_)
 rotate_left
 ·exact absurd hc (by decide)
 refine l9 (Γ82 l (some ⟨bb, o, none⟩) c r x y a b hA hB) (eH aT hda hdb hne) ?_ ?_
 ·exact ⟨hsx, by show _ + 1 <= _; omega, ⟨.inr trivial, hsx⟩, by rw [ByteArray.size_append]; show _ + 1 + _ <= _; omega⟩
 refine wZ aT ?_
 exact fun E => rfl
set_option maxHeartbeats 2000000 in
theorem Nc (a b : Rx) (i : Nat) (hsz : aG (.and a b) <= 4000000) (ht : ml l i (.and a b)) (IH : ∀ (j : Nat), (∀ t, (t = a \/ t = b) -> ml l j t -> R3 l ao c r j t)) : kJ l ao c r i (.and a b) := by
 intro w hs
 obtain ⟨d, x, y, hd, hop, hda, hdb, hxy, hta, htb⟩ := ht
 have hA := IH x a (.inl rfl) hta
 have hB := IH y b (.inr rfl) htb
 have hne : ¬ ((y : Nat) : Int) = ((x : Nat) : Int) := by omega
 have s1 := cr a 1
 have s2 := cr b 2
 have hsz' : aG a + aG b + 1 <= 4000000 := hsz
 obtain ⟨hi, hd⟩ := List.getElem?_eq_some_iff.1 hd
 have hsx : eP w (Out []) ao (cN l) := (eP.lW hs).out fun _ _ => by simp [Out]
 obtain ⟨bb, o, rfl, hb, hx1, hx2⟩ := im hsx hi
 rw [hd] at hx1
 refine aj (nt := 72) [.tmp 4] Tryz.func102 rfl rfl rfl ?_
 refine vR Γ83 aT ?_
 refine Wp.nZ Γ83 bR (by simp only [dS, Op.operands, Value.cells, σ0, σB, Nat.reduceEqDiff, Nat.reduceAdd, Nat.reduceMul, Nat.reduceLT, Nat.reduceLeDiff, Nat.reduceBEq, ae, Int.reduceToNat, Int.reduceLT, Int.reduceLE, Nat.reduceDiv, Nat.reduceMod, Nat.reduceSub, Int.reducePow, Nat.reducePow, σP, σB3, aT, ↓hx1, ↓hx2]; exact rfl) rfl ?_ ?_
 ·exact ⟨by omega, by simp, Nd.dn d⟩
 refine Wp.seq ?_
 refine vR Γ83 (ab aT hop) ?_
 refine Wp.block ?_
 refine vR Γ83 aT ?_
 refine wC aT (fun hc => ?_) (fun hc => ?_)
 ·exact absurd hc (by decide)
 refine vR Γ83 aT ?_
 refine wC aT (fun hc => ?_) (fun hc => ?_)
 ·exact absurd hc (by decide)
 refine vR Γ83 aT ?_
 refine wC aT (fun hc => ?_) (fun hc => ?_)
 ·exact absurd hc (by decide)
 refine vR Γ83 aT ?_
 refine wC aT (fun hc => ?_) (fun hc => ?_)
 rotate_left
 ·exact absurd hc (by decide)
 refine l9 (Γ82 l (some ⟨bb, o, none⟩) c r x y a b hA hB) (eH aT hda hdb hne) ?_ ?_
 ·exact ⟨hsx, by show _ + 1 <= _; omega, ⟨.inr trivial, hsx⟩, by rw [ByteArray.size_append]; show _ + 1 + _ <= _; omega⟩
 refine wZ aT ?_
 exact fun E => rfl
set_option maxHeartbeats 2000000 in
theorem Gi (a b : Rx) (i : Nat) (hsz : aG (.minus a b) <= 4000000) (ht : ml l i (.minus a b)) (IH : ∀ (j : Nat), (∀ t, (t = a \/ t = b) -> ml l j t -> R3 l ao c r j t)) : kJ l ao c r i (.minus a b) := by
 intro w hs
 obtain ⟨d, x, y, hd, hop, hda, hdb, hxy, hta, htb⟩ := ht
 have hA := IH x a (.inl rfl) hta
 have hB := IH y b (.inr rfl) htb
 have hne : ¬ ((y : Nat) : Int) = ((x : Nat) : Int) := by omega
 have s1 := cr a 1
 have s2 := cr b 2
 have hsz' : aG a + aG b + 1 <= 4000000 := hsz
 obtain ⟨hi, hd⟩ := List.getElem?_eq_some_iff.1 hd
 have hsx : eP w (Out []) ao (cN l) := (eP.lW hs).out fun _ _ => by simp [Out]
 obtain ⟨bb, o, rfl, hb, hx1, hx2⟩ := im hsx hi
 rw [hd] at hx1
 refine aj (nt := 72) [.tmp 4] Tryz.func102 rfl rfl rfl ?_
 refine vR Γ83 aT ?_
 refine Wp.nZ Γ83 bR (by simp only [dS, Op.operands, Value.cells, σ0, σB, Nat.reduceEqDiff, Nat.reduceAdd, Nat.reduceMul, Nat.reduceLT, Nat.reduceLeDiff, Nat.reduceBEq, ae, Int.reduceToNat, Int.reduceLT, Int.reduceLE, Nat.reduceDiv, Nat.reduceMod, Nat.reduceSub, Int.reducePow, Nat.reducePow, σP, σB3, aT, ↓hx1, ↓hx2]; exact rfl) rfl ?_ ?_
 ·exact ⟨by omega, by simp, Nd.dn d⟩
 refine Wp.seq ?_
 refine vR Γ83 (ab aT hop) ?_
 refine Wp.block ?_
 refine vR Γ83 aT ?_
 refine wC aT (fun hc => ?_) (fun hc => ?_)
 ·exact absurd hc (by decide)
 refine vR Γ83 aT ?_
 refine wC aT (fun hc => ?_) (fun hc => ?_)
 ·exact absurd hc (by decide)
 refine vR Γ83 aT ?_
 refine wC aT (fun hc => ?_) (fun hc => ?_)
 ·exact absurd hc (by decide)
 refine vR Γ83 aT ?_
 refine wC aT (fun hc => ?_) (fun hc => ?_)
 ·exact absurd hc (by decide)
 refine vR Γ83 aT ?_
 refine wC aT (fun hc => ?_) (fun hc => ?_)
 rotate_left
 ·exact absurd hc (by decide)
 refine l9 (Γ82 l (some ⟨bb, o, none⟩) c r x y a b hA hB) (eH aT hda hdb hne) ?_ ?_
 ·exact ⟨hsx, by show _ + 1 <= _; omega, ⟨.inr trivial, hsx⟩, by rw [ByteArray.size_append]; show _ + 1 + _ <= _; omega⟩
 refine wZ aT ?_
 exact fun E => rfl
set_option maxHeartbeats 2000000 in
theorem LN (a : Rx) (i : Nat) (hsz : aG (.star a) <= 4000000) (ht : ml l i (.star a)) (IH : ∀ (j : Nat), (∀ t, t = a -> ml l j t -> R3 l ao c r j t)) : kJ l ao c r i (.star a) := by
 intro w hs
 obtain ⟨d, x, hd, hop, hda, hta⟩ := ht
 have hA := IH x a rfl hta
 have s1 := cr a 3
 have hsz' : aG a + 1 <= 4000000 := hsz
 obtain ⟨hi, hd⟩ := List.getElem?_eq_some_iff.1 hd
 have hsx : eP w (Out []) ao (cN l) := (eP.lW hs).out fun _ _ => by simp [Out]
 obtain ⟨bb, o, rfl, hb, hx1, hx2⟩ := im hsx hi
 rw [hd] at hx1
 refine aj (nt := 72) [.tmp 4] Tryz.func102 rfl rfl rfl ?_
 refine vR Γ83 aT ?_
 refine Wp.nZ Γ83 bR (by simp only [dS, Op.operands, Value.cells, σ0, σB, Nat.reduceEqDiff, Nat.reduceAdd, Nat.reduceMul, Nat.reduceLT, Nat.reduceLeDiff, Nat.reduceBEq, ae, Int.reduceToNat, Int.reduceLT, Int.reduceLE, Nat.reduceDiv, Nat.reduceMod, Nat.reduceSub, Int.reducePow, Nat.reducePow, σP, σB3, aT, ↓hx1, ↓hx2]; exact rfl) rfl ?_ ?_
 ·exact ⟨by omega, by simp, Nd.dn d⟩
 refine Wp.seq ?_
 refine vR Γ83 (ab aT hop) ?_
 refine Wp.block ?_
 refine vR Γ83 aT ?_
 refine wC aT (fun hc => ?_) (fun hc => ?_)
 ·exact absurd hc (by decide)
 refine vR Γ83 aT ?_
 refine wC aT (fun hc => ?_) (fun hc => ?_)
 ·exact absurd hc (by decide)
 refine vR Γ83 aT ?_
 refine wC aT (fun hc => ?_) (fun hc => ?_)
 ·exact absurd hc (by decide)
 refine vR Γ83 aT ?_
 refine wC aT (fun hc => ?_) (fun hc => ?_)
 ·exact absurd hc (by decide)
 refine vR Γ83 aT ?_
 refine wC aT (fun hc => ?_) (fun hc => ?_)
 ·exact absurd hc (by decide)
 refine vR Γ83 aT ?_
 refine wC aT (fun hc => ?_) (fun hc => ?_)
 ·exact absurd hc (by decide)
 refine wK ?_
 refine wR (Γ82 l (some ⟨bb, o, none⟩) c r x x a a hA hA) (ab aT hda) ?_ ?_
 ·exact ⟨hsx, by show _ + 1 <= _; omega⟩
 refine wZ aT ?_
 exact fun E => rfl
theorem QK : ∀ (t : Rx) (i : Nat), aG t <= 4000000 -> ml l i t -> kJ l ao c r i t := by
 intro t
 induction t with
 | eps => exact fun i hsz ht => Qs l ao c r i hsz ht
 | cls S => exact fun i hsz ht => NI l ao c r S i hsz ht
 | star a ih =>
  intro i hsz ht
  exact LN l ao c r a i hsz ht fun j t h hj => by
   have h0 : aG a + 1 <= 4000000 := hsz
   subst h
   exact iN l ao c r j _ hj (by omega) (ih j (by omega) hj)
 | cat a b iha ihb =>
  intro i hsz ht
  exact PV l ao c r a b i hsz ht fun j t h hj => by
   have h0 : aG a + aG b + 1 <= 4000000 := hsz
   rcases h with rfl | rfl
   ·exact iN l ao c r j _ hj (by omega) (iha j (by omega) hj)
   ·exact iN l ao c r j _ hj (by omega) (ihb j (by omega) hj)
 | alt a b iha ihb =>
  intro i hsz ht
  exact QO l ao c r a b i hsz ht fun j t h hj => by
   have h0 : aG a + aG b + 1 <= 4000000 := hsz
   rcases h with rfl | rfl
   ·exact iN l ao c r j _ hj (by omega) (iha j (by omega) hj)
   ·exact iN l ao c r j _ hj (by omega) (ihb j (by omega) hj)
 | and a b iha ihb =>
  intro i hsz ht
  exact Nc l ao c r a b i hsz ht fun j t h hj => by
   have h0 : aG a + aG b + 1 <= 4000000 := hsz
   rcases h with rfl | rfl
   ·exact iN l ao c r j _ hj (by omega) (iha j (by omega) hj)
   ·exact iN l ao c r j _ hj (by omega) (ihb j (by omega) hj)
 | minus a b iha ihb =>
  intro i hsz ht
  exact Gi l ao c r a b i hsz ht fun j t h hj => by
   have h0 : aG a + aG b + 1 <= 4000000 := hsz
   rcases h with rfl | rfl
   ·exact iN l ao c r j _ hj (by omega) (iha j (by omega) hj)
   ·exact iN l ao c r j _ hj (by omega) (ihb j (by omega) hj)
set_option maxHeartbeats 2000000 in
theorem Gk (i : Nat) (t : Rx) (hsz : aG t <= 4000000) (ht : ml l i t) (w : World) (hs : kn w ao (cN l)) : Calls Tryz.prog 60 #[Vw ao l.length c i] w fun e w' => e = .returned (.string (bU t)) /\ ai w [] w' := by
 have hsx : eP w (Out []) ao (cN l) := (eP.lW hs).out fun _ _ => by simp [Out]
 refine aj (nt := 7) [.tmp 2] Tryz.func60 rfl rfl rfl ?_
 refine vR Γ83 aT ?_
 refine wR (Γ81 l ao c i i t (QK l ao c i t i hsz ht)) aT ?_ ?_
 ·exact hsx
 refine wZ aT ?_
 exact fun E => rfl
def tc (i : Nat) (t : Rx) (hsz : aG t <= 4000000) (ht : ml l i t) : aU Tryz.prog 60 where
 pre := fun W bs as_ => as_ = [.val (Vw ao l.length c i)] /\ eP W (Out bs) ao (cN l)
 res := fun _ _ => .string (bU t)
 enters := Tryz.call60
 ok := by
  intro W w bs us as_ hk hu hp
  obtain ⟨rfl, h1⟩ := hp
  match us, hu with
  | [x], hu =>
   obtain ⟨rfl, _⟩ := hu
   exact Gk l ao c i t hsz ht w (gN h1 hk)
end
end
section
open Go.RowKit Go.LE
set_option maxRecDepth 10000
theorem O8 (a b : Nat) (ha : a < 2 ^ 64) (hb : b < 2 ^ 64) : bX .and .u64 (a : Int) (b : Int) = ((a &&& b : Nat) : Int) := by
 have h := PN (BitVec.ofNat 64 a) (BitVec.ofNat 64 b)
 rw [BitVec.toNat_and, BitVec.toNat_ofNat, BitVec.toNat_ofNat, Nat.mod_eq_of_lt ha, Nat.mod_eq_of_lt hb] at h
 exact h
theorem oM (a : Nat) (ha : a < 2 ^ 64) : IntKind.u64.wrap (a : Int) = (a : Int) := by
 have h := pF (BitVec.ofNat 64 a)
 rw [BitVec.toNat_ofNat, Nat.mod_eq_of_lt ha] at h
 exact h
theorem IJ (a n : Nat) : (a : Int).fdiv (n : Int) = ((a / n : Nat) : Int) := by
 rw [Int.fdiv_eq_ediv_of_nonneg _ (Int.natCast_nonneg _)]
 rfl
theorem Sm (x : Nat) (hx : x < 2 ^ 64) : IntKind.u64.wrap (bX .and .u64 ((x : Int).fdiv 2) 6148914691236517205 + bX .and .u64 (x : Int) 6148914691236517205) = ((f0 32 x : Nat) : Int) /\ f0 32 x < 2 ^ 64 := by
 have hm : M0 32 = 6148914691236517205 := by decide
 have h1 := Nat.and_le_right (n := x / 2) (m := 6148914691236517205)
 have h2 := Nat.and_le_right (n := x) (m := 6148914691236517205)
 have hf : f0 32 x = (x / 2 &&& 6148914691236517205) + (x &&& 6148914691236517205) := by rw [f0, hm]
 have hl : f0 32 x < 2 ^ 64 := by omega
 refine ⟨?_, hl⟩
 have e1 : (x : Int).fdiv 2 = ((x / 2 : Nat) : Int) := IJ x 2
 have e2 := O8 (x / 2) 6148914691236517205 (by omega) (by omega)
 have e3 := O8 x 6148914691236517205 (by omega) (by omega)
 rw [e1, show (6148914691236517205 : Int) = ((6148914691236517205 : Nat) : Int) from rfl, e2, e3, <- Int.natCast_add, <- hf, oM _ hl]
theorem SJ (x : Nat) (hx : x < 2 ^ 64) : IntKind.u64.wrap (bX .and .u64 ((x : Int).fdiv 4) 3689348814741910323 + bX .and .u64 (x : Int) 3689348814741910323) = ((f1 16 x : Nat) : Int) /\ f1 16 x <= 7378697629483820646 := by
 have hm : M1 16 = 3689348814741910323 := by decide
 have h1 := Nat.and_le_right (n := x / 4) (m := 3689348814741910323)
 have h2 := Nat.and_le_right (n := x) (m := 3689348814741910323)
 have hf : f1 16 x = (x / 4 &&& 3689348814741910323) + (x &&& 3689348814741910323) := by rw [f1, hm]
 have hl : f1 16 x <= 7378697629483820646 := by omega
 refine ⟨?_, hl⟩
 have e1 : (x : Int).fdiv 4 = ((x / 4 : Nat) : Int) := IJ x 4
 have e2 := O8 (x / 4) 3689348814741910323 (by omega) (by omega)
 have e3 := O8 x 3689348814741910323 (by omega) (by omega)
 rw [e1, show (3689348814741910323 : Int) = ((3689348814741910323 : Nat) : Int) from rfl, e2, e3, <- Int.natCast_add, <- hf, oM _ (by omega)]
theorem Se (x : Nat) (hx : x <= 7378697629483820646) : bX .and .u64 (IntKind.u64.wrap ((x : Int).fdiv 16 + (x : Int))) 1085102592571150095 = ((f2 8 x : Nat) : Int) := by
 have hm : M2 8 = 1085102592571150095 := by decide
 have e1 : (x : Int).fdiv 16 = ((x / 16 : Nat) : Int) := IJ x 16
 rw [e1, <- Int.natCast_add, oM _ (by omega), show (1085102592571150095 : Int) = ((1085102592571150095 : Nat) : Int) from rfl, O8 _ _ (by omega) (by omega), f2, hm]
theorem zt (x n : Nat) (h : x + x / n < 2 ^ 64) : IntKind.u64.wrap ((x : Int) + (x : Int).fdiv (n : Int)) = ((x + x / n : Nat) : Int) := by
 rw [IJ, <- Int.natCast_add, oM _ h]
theorem Te (x : Nat) (hx : x < 2 ^ 63) : bX .and .i64 (IntKind.i64.wrap (x : Int)) 127 = ((x % 128 : Nat) : Int) := by
 rw [aa (by omega) (by omega)]
 show IntKind.i64.wrap (((BitVec.ofInt 64 (x : Int) &&& BitVec.ofInt 64 127 : BitVec 64).toNat : Nat) : Int) = _
 have h1 : (BitVec.ofInt 64 (x : Int)).toNat = x := by
  rw [BitVec.toNat_ofInt]
  omega
 have h2 : (BitVec.ofInt 64 127).toNat = 127 := rfl
 have h3 : x &&& 127 = x % 128 := Nat.and_two_pow_sub_one_eq_mod x 7
 rw [BitVec.toNat_and, h1, h2, h3, aa (by omega) (by omega)]
def wU := (aq @List.replicate_succ.{0} @List.replicate_zero.{0} @av @af jV jW jb (aq cW cX c8 cT cZ c9 cR (aq cV gz gv gi gk gn o6 (aq pB p6 qn rF r9 r8 sf (eH @aN @au @aA @az)))))
set_option maxHeartbeats 2000000 in
theorem OZ (x : Nat) (hx : x < 2 ^ 64) (w : World) : Calls Tryz.prog 253 #[.int .u64 (x : Nat)] w fun e w' => e = .returned (.int .i64 (dX x 64 : Nat)) /\ ai w [] w' := by
 obtain ⟨r1, l1⟩ := Sm x hx
 obtain ⟨r2, l2⟩ := SJ (f0 32 x) l1
 have r3 := Se _ l2
 have hst := (xM 8 x).1
 obtain ⟨y, hy, b1, b2, b3, hp⟩ := RJ x
 have r4 := zt y 256 b1
 have r5 := zt _ 65536 b2
 have r6 := zt (y + y / 256 + (y + y / 256) / 65536) 4294967296 (by omega)
 have r7 := Te _ b3
 have r3' : bX .and .u64 (IntKind.u64.wrap (((f1 16 (f0 32 x) : Nat) : Int).fdiv 16 + ((f1 16 (f0 32 x) : Nat) : Int))) 1085102592571150095 = ((y : Nat) : Int) := by rw [r3, hy, <- hst]
 rw [<- hp]
 refine aj (nt := 35) [.tmp 2] Tryz.func253 rfl rfl rfl ?_
 refine vR Γ0 wU ?_
 refine vR Γ0 (ab wU r1) ?_
 refine vR Γ0 (ab wU r2) ?_
 refine vR Γ0 (ab wU r3') ?_
 refine vR Γ0 wU ?_
 refine vR Γ0 wU ?_
 refine vR Γ0 wU ?_
 refine vR Γ0 wU ?_
 refine wZ wU ?_
 intro E
 show Value.int IntKind.i64 _ = _
 congr 1
 refine Eq.trans ?_ r7
 congr 2
 refine Eq.trans ?_ r6
 have e5 : IntKind.u64.wrap (((y + y / 256 : Nat) : Int) + ((y + y / 256 : Nat) : Int).fdiv 65536) = ((y + y / 256 + (y + y / 256) / 65536 : Nat) : Int) := r5
 have e4 : IntKind.u64.wrap ((y : Int) + (y : Int).fdiv 256) = ((y + y / 256 : Nat) : Int) := r4
 rw [e4, e5]
 rfl
def I2 : aU Tryz.prog 253 where
 pre := fun W bs => fun | [.val (.int .u64 x)] => 0 <= x /\ x < 18446744073709551616 | _ => False
 res := fun W => fun | [.val (.int .u64 x)] => .int .i64 (dX x.toNat 64 : Nat) | _ => undef
 enters := Tryz.call253
 ok := by
  intro W w bs us as_ hk hu hp
  split at hp
  ·rename_i x
   match us, hu with
   | [u0], hu =>
    obtain ⟨rfl, _⟩ := hu
    have := OZ x.toNat (by omega) w; rw [Int.toNat_of_nonneg hp.1] at this; exact this
  ·exact hp.elim
theorem KT (W : World) (x : Int) : I2.res W [.val (.int .u64 x)] = .int .i64 (dX x.toNat 64 : Nat) := rfl
theorem Ky (W : World) (bs : List Nat) (x : Int) : I2.pre W bs [.val (.int .u64 x)] = (0 <= x /\ x < 18446744073709551616) := rfl
noncomputable def Γ77 : Env Tryz.prog := ⟨fun | 253 => some I2.spec | _ => none, fun | _ => none, fun _ _ => none⟩
theorem Gt77c253 : Γ77.sp 253 = some I2.spec := rfl
attribute [local simp] aO
def qz := (aq wU KT Ky Gt77c253 @gH @kF @kC (ab @ji @nv))
set_option maxHeartbeats 2000000 in
theorem Hd (S : CS) (w : World) : Calls Tryz.prog 221 #[b7 S] w fun e w' => e = .returned (.int .i64 (hM S : Nat)) /\ ai w [] w' := by
 refine aj (nt := 16) [.tmp 2] Tryz.func221 rfl rfl rfl ?_
 refine vR Γ77 (ab qz @dM) ?_
 refine vR Γ77 qz ?_
 refine Wp.seq ?_
 refine vR Γ77 qz ?_
 refine Wp.block ?_
 refine Wp.loop (fun k : Nat => ⟨20, bQ [(3, .is (.v (.int .i64 (jQ S (64 * k) : Nat)))), (6, .is (.agg ((jU S).map .v))), (7, .is (.v (.int .i64 (k : Nat))))], bY []⟩) (fun k => k <= 4) (fun k => 4 - k) 0 ?_ (Nat.zero_le _) ?_
 ·exact wM (fun k => .key k) qz
 rintro k hk
 have hle := AS S (64 * k)
 have hle2 := AS S (64 * (k + 1))
 refine vR Γ77 qz ?_
 refine Wp.seq ?_
 refine wC qz (fun hc => ?_) (fun hc => ?_)
 ·have hlt : k < 4 := by
   simp at hc
   omega
  have hw := Cm S k 64 (Nat.le_refl _)
  have hx := Xm S k
  have hx0 : 0 <= wd S k := by rw [wd]; omega
  have wk : IntKind.i64.wrap ((k : Int) + 1) = ((k + 1 : Nat) : Int) := by rw [aa (by omega) (by omega)]; omega
  have e : jQ S (64 * (k + 1)) = jQ S (64 * k) + dX (wd S k).toNat 64 := hw
  have wc : IntKind.i64.wrap ((jQ S (64 * k) : Int) + ((dX (wd S k).toNat 64 : Nat) : Int)) = ((jQ S (64 * (k + 1)) : Nat) : Int) := by rw [aa (by omega) (by omega), e]; omega
  refine wK ?_
  refine Wp.seq (Wp.block ?_)
  refine wR Γ77 (ab qz (fS S k hlt)) ?_ ?_
  ·omega
  refine wr Γ77 (ab qz wc) ?_ ?_
  ·omega
  refine vr Γ77 (ab qz wk) ?_
  refine ⟨k + 1, by omega, by omega, ?_⟩
  exact wM (fun k => .key k) qz
 ·have hk' : k = 4 := by
   simp at hc
   omega
  subst hk'
  refine wE ?_
  refine vR Γ77 qz ?_
  refine wZ qz ?_
  exact fun E => rfl
noncomputable def nD : aU Tryz.prog 221 where
 pre := fun W bs => fun | [.val y0] => (match dec b7 y0 with | some S => True | _ => False) | _ => False
 res := fun W => fun | [.val y0] => (match dec b7 y0 with | some S => .int .i64 (hM S : Nat) | _ => undef) | _ => undef
 enters := Tryz.call221
 ok := by
  intro W w bs us as_ hk hu hp
  split at hp
  ·rename_i y0
   split at hp
   ·rename_i S h0
    match us, hu with
    | [u0], hu =>
     obtain ⟨rfl, _⟩ := hu
     obtain rfl := fA h0
     try dsimp only
     try simp only [cj cd]
     exact Hd S w
   ·exact hp.elim
  ·exact hp.elim
theorem rZ (W : World) (S : CS) : nD.res W [.val (b7 S)] = .int .i64 (hM S : Nat) := by simp only [nD, cj cd]
theorem rW (W : World) (bs : List Nat) (S : CS) : nD.pre W bs [.val (b7 S)] = (True) := by simp only [nD, cj cd]
noncomputable def rK : aU Tryz.prog 225 where
 pre := fun W bs => fun | [.val y0, .val (.int .u8 b)] => (match dec b7 y0 with | some S => 0 <= b /\ b < 256 | _ => False) | _ => False
 res := fun W => fun | [.val y0, .val (.int .u8 b)] => (match dec b7 y0 with | some S => .bool (S.getLsbD b.toNat) | _ => undef) | _ => undef
 enters := Tryz.call225
 ok := by
  intro W w bs us as_ hk hu hp
  split at hp
  ·rename_i y0 b
   split at hp
   ·rename_i S h0
    match us, hu with
    | [u0, u1], hu =>
     obtain ⟨rfl, rfl, _⟩ := hu
     obtain rfl := fA h0
     try dsimp only
     try simp only [cj cd]
     have := S9 S b.toNat (by omega) w; rw [Int.toNat_of_nonneg hp.1] at this; exact this
   ·exact hp.elim
  ·exact hp.elim
theorem xD (W : World) (S : CS) (b : Int) : rK.res W [.val (b7 S), .val (.int .u8 b)] = .bool (S.getLsbD b.toNat) := by simp only [rK, cj cd]
theorem ym (W : World) (bs : List Nat) (S : CS) (b : Int) : rK.pre W bs [.val (b7 S), .val (.int .u8 b)] = (0 <= b /\ b < 256) := by simp only [rK, cj cd]
noncomputable def Γ78 : Env Tryz.prog := ⟨fun | 225 => some rK.spec | _ => none, fun | _ => none, fun _ _ => none⟩
theorem Gt78c225 : Γ78.sp 225 = some rK.spec := rfl
def uv := (lX qz @rZ @rW @xD @ym Gt78c225)
set_option maxHeartbeats 2000000 in
theorem Lr (S : CS) (hS : ∃ b < 256, S.getLsbD b = true) (w : World) : Calls Tryz.prog 222 #[b7 S, .int .i64 0] w fun e w' => e = .returned (.tuple #[.int .u8 (tq S : Nat), .bool true]) /\ ai w [] w' := by
 refine aj (nt := 19) [.tmp 4, .tmp 5] Tryz.func222 rfl rfl rfl ?_
 refine vR Γ78 (ab uv @dM) ?_
 refine Wp.seq ?_
 refine vR Γ78 uv ?_
 refine Wp.block ?_
 refine Wp.loop (fun j : Nat => ⟨20, bQ [(2, .is (.own 0 0)), (6, .is (.v (.int .i64 (j : Nat))))], bY [(0, .cells 309 ((jU S).map .v))]⟩) (fun j => j <= 256 /\ ∀ k < j, S.getLsbD k = false) (fun j => 256 - j) 0 ?_ ⟨Nat.zero_le _, fun k h => by omega⟩ ?_
 ·exact wM (fun k => .key k) uv
 rintro j ⟨hj, hn⟩
 refine Wp.seq ?_
 refine vR Γ78 uv ?_
 refine wC uv (fun hc => ?_) (fun hc => ?_)
 ·have hlt : j < 256 := by
   simp at hc
   omega
  have wj : IntKind.i64.wrap ((j : Int) + 1) = ((j + 1 : Nat) : Int) := by rw [aa (by omega) (by omega)]; omega
  have wu : IntKind.u8.wrap (j : Int) = (j : Int) := fH (by omega) (by omega)
  refine wK ?_
  refine Wp.seq (Wp.block ?_)
  refine wR Γ78 (de uv wu @dm) ?_ ?_
  ·omega
  refine wC uv (fun hc => ?_) (fun hc => ?_)
  ·rw [Il S j hlt hn hc]
   refine vR Γ78 (ab uv wu) ?_
   refine wZ uv ?_
   exact fun E => rfl
  ·refine wK ?_
   refine vr Γ78 (ab uv wj) ?_
   refine ⟨j + 1, ⟨by omega, fun k hk => ?_⟩, by omega, ?_⟩
   ·by_cases h : k = j
    ·rw [h]; exact hc
    ·exact hn k (by omega)
   ·exact wM (fun k => .key k) uv
 ·exfalso
  have hj' : j = 256 := by
   simp at hc
   omega
  subst hj'
  obtain ⟨b, h1, h2⟩ := hS
  rw [hn b h1] at h2
  cases h2
theorem O4 (S : CS) (h : hM S = 1) : ∃ b < 256, S.getLsbD b = true := by
 refine Classical.byContradiction fun hn => ?_
 have := xu S 256 fun j hj => by
  cases hb : S.getLsbD j with
  | false => rfl
  | true => exact absurd ⟨j, hj, hb⟩ hn
 rw [hM] at h
 omega
noncomputable def qN : aU Tryz.prog 222 where
 pre := fun W bs => fun | [.val y0, .val (.int .i64 x)] => (match dec b7 y0 with | some S => x = 0 /\ ∃ b < 256, S.getLsbD b = true | _ => False) | _ => False
 res := fun W => fun | [.val y0, .val (.int .i64 x)] => (match dec b7 y0 with | some S => .tuple #[.int .u8 (tq S : Nat), .bool true] | _ => undef) | _ => undef
 enters := Tryz.call222
 ok := by
  intro W w bs us as_ hk hu hp
  split at hp
  ·rename_i y0 x
   split at hp
   ·rename_i S h0
    match us, hu with
    | [u0, u1], hu =>
     obtain ⟨rfl, rfl, _⟩ := hu
     obtain rfl := fA h0
     try dsimp only
     try simp only [cj cd]
     obtain ⟨rfl, hS⟩ := hp; exact Lr S hS w
   ·exact hp.elim
  ·exact hp.elim
theorem EH (W : World) (S : CS) (x : Int) : qN.res W [.val (b7 S), .val (.int .i64 x)] = .tuple #[.int .u8 (tq S : Nat), .bool true] := by simp only [qN, cj cd]
theorem EL (W : World) (bs : List Nat) (S : CS) (x : Int) : qN.pre W bs [.val (b7 S), .val (.int .i64 x)] = (x = 0 /\ ∃ b < 256, S.getLsbD b = true) := by simp only [qN, cj cd]
end
section
open Go.RowKit Go.LE
set_option maxRecDepth 10000
noncomputable def Γ79 : Env Tryz.prog := ⟨fun | 138 => some R2.spec | _ => none, fun | _ => none, fun _ _ => none⟩
theorem Gt79c138 : Γ79.sp 138 = some R2.spec := rfl
theorem zh : ∀ n : Fin 256, let b := ((n.val : Nat) : Int); let h : ByteArray := ⟨#[48, 49, 50, 51, 52, 53, 54, 55, 56, 57, 97, 98, 99, 100, 101, 102]⟩;
  let x := h.extract (b.fdiv 16).toNat (IntKind.u8.wrap (b.fdiv 16 + 1)).toNat; let y := h.extract (bX .and .u8 b 15).toNat (IntKind.u8.wrap (bX .and .u8 b 15 + 1)).toNat;
  (0 <= b.fdiv 16 /\ b.fdiv 16 <= IntKind.u8.wrap (b.fdiv 16 + 1) /\ IntKind.u8.wrap (b.fdiv 16 + 1) <= 16) /\ (0 <= bX .and .u8 b 15 /\ bX .and .u8 b 15 <= IntKind.u8.wrap (bX .and .u8 b 15 + 1) /\ IntKind.u8.wrap (bX .and .u8 b 15 + 1) <= 16) /\
  (x.size = 1 /\ y.size = 1) /\ (⟨#[92, 120]⟩ : ByteArray) ++ x ++ y = ⟨#[92, 120, R6 (b / 16), R6 (b % 16)]⟩ := by decide +kernel
def cw := (aq @List.replicate_succ.{0} @List.replicate_zero.{0} @av @af jV jW HS (aq HB E9 jb cW cX c8 cT (aq cZ c9 cR cV gz gv gi (aq gk gn ez ey eB eC eA (aq ew yn yy xV xN UT UZ (aq Vn UQ UN U5 UU U6 Vo (aq UW @aN @au @aA @az @zK @zx Gt79c138)))))))
set_option maxHeartbeats 4000000 in
theorem CE (b : Int) (q : ByteArray) (h0 : 0 <= b) (h1 : b < 256) (w : World) (hg : ba w (Out [])) : Calls Tryz.prog 223 #[.int .u8 b, .string q] w fun e w' => e = .returned (.string (jh b (iU q b))) /\ ai w [] w' := by
 obtain ⟨g0, g1, g2, g3, g4, g5, g6⟩ := hg
 refine aj (nt := 54) [.tmp 4] Tryz.func223 rfl rfl rfl ?_
 refine vR Γ79 cw ?_
 refine Wp.seq ?_
 refine vR Γ79 (yR cw g1 g2 g3 g4 g5 g6) ?_
 refine Wp.block ?_
 refine Wp.loop (fun k : Nat => ⟨40, bQ [(0, .is (.v (.int .u8 b))), (1, .is (.v (.string q))), (7, .is (.agg [.v (.int .u8 110), .v (.int .u8 10), .v (.int .u8 114), .v (.int .u8 13), .v (.int .u8 116), .v (.int .u8 9)])), (8, .is (.v (.int .i64 k)))], bY []⟩)
  (fun k => k <= 3 /\ (0 < k -> b ≠ 10) /\ (1 < k -> b ≠ 13) /\ (2 < k -> b ≠ 9)) (fun k => 3 - k) 0 ?_ ⟨by omega, by omega, by omega, by omega⟩ ?_
 ·exact wM (fun k => .key k) cw
 rintro k ⟨k0, k1, k2, k3⟩
 refine vR Γ79 cw ?_
 refine Wp.seq ?_
 refine wC cw (fun hc => ?_) (fun hc => ?_)
 ·simp at hc
  refine wK ?_
  have hk3 : k < 3 := by omega
  have hcase : k = 0 \/ k = 1 \/ k = 2 := by omega
  refine Wp.seq (Wp.block ?_)
  rcases hcase with rfl | rfl | rfl
  ·skip
   refine vR Γ79 cw ?_
   refine vR Γ79 cw ?_
   refine wC cw (fun hc => ?_) (fun hc => ?_)
   ·have hb : b = 10 := by simp at hc; omega
    have he : jh b (iU q b) = ⟨#[92, 110]⟩ := by rw [jh, if_pos hb]
    rw [he]
    refine wR Γ79 cw ?_ ?_
    ·show 1 + 1 <= 9223372036854775807; omega
    refine wZ cw ?_
    exact fun E => rfl
   ·have hb : ¬ b = 10 := by simp at hc; omega
    refine wK ?_
    refine vr Γ79 cw ?_
    refine ⟨1, ⟨by omega, fun _ => hb, by omega, by omega⟩, by omega, ?_⟩
    exact wM (fun k => .key k) cw
  ·skip
   refine vR Γ79 cw ?_
   refine vR Γ79 cw ?_
   refine wC cw (fun hc => ?_) (fun hc => ?_)
   ·have hb : b = 13 := by simp at hc; omega
    have he : jh b (iU q b) = ⟨#[92, 114]⟩ := by rw [jh, if_neg (k1 (by omega)), if_pos hb]
    rw [he]
    refine wR Γ79 cw ?_ ?_
    ·show 1 + 1 <= 9223372036854775807; omega
    refine wZ cw ?_
    exact fun E => rfl
   ·have hb : ¬ b = 13 := by simp at hc; omega
    refine wK ?_
    refine vr Γ79 cw ?_
    refine ⟨2, ⟨by omega, fun _ => k1 (by omega), fun _ => hb, by omega⟩, by omega, ?_⟩
    exact wM (fun k => .key k) cw
  ·skip
   refine vR Γ79 cw ?_
   refine vR Γ79 cw ?_
   refine wC cw (fun hc => ?_) (fun hc => ?_)
   ·have hb : b = 9 := by simp at hc; omega
    have he : jh b (iU q b) = ⟨#[92, 116]⟩ := by rw [jh, if_neg (k1 (by omega)), if_neg (k2 (by omega)), if_pos hb]
    rw [he]
    refine wR Γ79 cw ?_ ?_
    ·show 1 + 1 <= 9223372036854775807; omega
    refine wZ cw ?_
    exact fun E => rfl
   ·have hb : ¬ b = 9 := by simp at hc; omega
    refine wK ?_
    refine vr Γ79 cw ?_
    refine ⟨3, ⟨by omega, fun _ => k1 (by omega), fun _ => k2 (by omega), fun _ => hb⟩, by omega, ?_⟩
    exact wM (fun k => .key k) cw
 ·have hk : k = 3 := by
   simp at hc
   omega
  have n10 := k1 (by omega)
  have n13 := k2 (by omega)
  have n9 := k3 (by omega)
  refine wE ?_
  refine Wp.seq (Wp.block ?_)
  refine vR Γ79 cw ?_
  refine wC cw (fun hc => ?_) (fun hc => ?_)
  ·have h : b < 32 \/ 126 < b := by simpa using hc
   have e : jh b (iU q b) = ⟨#[92, 120, R6 (b / 16), R6 (b % 16)]⟩ := by rw [jh, if_neg n10, if_neg n13, if_neg n9, if_pos h]
   rw [e]
   obtain ⟨n, rfl⟩ := Int.eq_ofNat_of_zero_le h0
   obtain ⟨f1, f2, ⟨f3, f4⟩, f5⟩ := zh ⟨n, by omega⟩
   simp only at f1 f2 f3 f4 f5
   refine l9 Γ79 cw ?_ ?_
   ·refine ⟨f1, ?_, f2, ?_⟩
    ·rw [f3]; show 2 + 1 <= 9223372036854775807; omega
    ·rw [f4, ByteArray.size_append, f3]; show 2 + 1 + 1 <= 9223372036854775807; omega
   refine wZ cw ?_
   exact fun E => congrArg Value.string f5
  have n32 : ¬ (b < 32 \/ 126 < b) := by simpa using hc
  refine vR Γ79 cw ?_
  refine wC cw (fun hc => ?_) (fun hc => ?_)
  ·have hi : iU q b = true := by rw [iU]; simpa using hc
   have e : jh b (iU q b) = ⟨#[92, b.toNat.toUInt8]⟩ := by rw [jh, if_neg n10, if_neg n13, if_neg n9, if_neg n32, if_pos hi]
   rw [e]
   refine wR Γ79 cw ?_ ?_
   ·show 1 + 1 <= 9223372036854775807; omega
   refine wZ cw ?_
   exact fun E => rfl
  ·have hi : ¬ iU q b = true := by rw [iU]; simpa using hc
   have e : jh b (iU q b) = ⟨#[b.toNat.toUInt8]⟩ := by rw [jh, if_neg n10, if_neg n13, if_neg n9, if_neg n32, if_neg hi]
   rw [e]
   refine wK ?_
   refine vR Γ79 cw ?_
   refine wZ cw ?_
   exact fun E => rfl
def p4 : aU Tryz.prog 223 where
 pre := fun W bs => fun | [.val (.int .u8 b), .val (.string q)] => (0 <= b /\ b < 256) /\ ba W (Out bs) | _ => False
 res := fun W => fun | [.val (.int .u8 b), .val (.string q)] => .string (jh b (iU q b)) | _ => undef
 enters := Tryz.call223
 ok := by
  intro W w bs us as_ hk hu hp
  split at hp
  ·rename_i b q
   match us, hu with
   | [u0, u1], hu =>
    obtain ⟨rfl, rfl, _⟩ := hu
    exact CE b q hp.1.1 hp.1.2 w (hp.2.fM hk (by simp))
  ·exact hp.elim
theorem Ag (W : World) (b : Int) (q : ByteArray) : p4.res W [.val (.int .u8 b), .val (.string q)] = .string (jh b (iU q b)) := rfl
theorem Av (W : World) (bs : List Nat) (b : Int) (q : ByteArray) : p4.pre W bs [.val (.int .u8 b), .val (.string q)] = ((0 <= b /\ b < 256) /\ ba W (Out bs)) := rfl
end
section
open Go.RowKit Go.LE
set_option maxRecDepth 10000
noncomputable def Γ80 : Env Tryz.prog := ⟨fun | 221 => some nD.spec | 222 => some qN.spec | 223 => some p4.spec | 224 => some w6.spec | 225 => some rK.spec | _ => none, fun | _ => none, fun _ _ => none⟩
theorem Gt80c221 : Γ80.sp 221 = some nD.spec := rfl
theorem Gt80c222 : Γ80.sp 222 = some qN.spec := rfl
theorem Gt80c223 : Γ80.sp 223 = some p4.spec := rfl
theorem Gt80c224 : Γ80.sp 224 = some w6.spec := rfl
theorem Gt80c225 : Γ80.sp 225 = some rK.spec := rfl
attribute [local simp] aO
theorem BA (S : CS) (h1 : hM S ≠ 1) : ∃ (T : CS) (pre : ByteArray), fP S = cB T pre 256 ++ JG /\ pre.size <= 2 /\ (T, pre) = (if 128 < hM S then (~~~S, vC) else (S, uD)) := by
 by_cases h : 128 < hM S
 ·exact ⟨~~~S, vC, by rw [fP, if_neg h1, if_pos h], by decide, by rw [if_pos h]⟩
 ·exact ⟨S, uD, by rw [fP, if_neg h1, if_neg h], by decide, by rw [if_neg h]⟩
def bB := (aq @List.replicate_succ.{0} @List.replicate_zero.{0} @av @af jV jW jb (aq cW cX c8 cT cZ c9 cR (aq cV gz gv gi gk gn ez (aq ey eB eC eA ew o6 pB (aq p6 qn rF r9 r8 sf Jb (aq H8 @aN @au @aA @az @rZ @rW (aq @EH @EL @Ag @Av @Bm @Bg @xD (aq @ym @gH @kF @kC @ji @nv @Vz (lX @VH Gt80c221 Gt80c222 Gt80c223 Gt80c224 Gt80c225)))))))))
set_option maxHeartbeats 4000000 in
theorem LV (S : CS) (w : World) (hg : ba w (Out [])) : Calls Tryz.prog 182 #[b7 S] w fun e w' => e = .returned (.string (fP S)) /\ ai w [] w' := by
 refine aj (nt := 67) [.tmp 2] Tryz.func182 rfl rfl rfl ?_
 refine vR Γ80 (ab bB @dM) ?_
 refine vR Γ80 (ab bB @dm) ?_
 refine Wp.seq ?_
 refine vR Γ80 bB ?_
 refine wC bB (fun hc => ?_) (fun hc => ?_)
 ·have h1 : hM S = 1 := by simp at hc; omega
  have hl := Iq S 256 0
  obtain ⟨b0, hb0, hb1⟩ := O4 S h1
  have hlt : tq S < 256 := by
   have hx : ∀ k j, j + k = 256 -> j <= b0 -> AF S k j < 256 := by
    intro k
    induction k with
    | zero => intro j h1 h2; omega
    | succ k ih =>
     intro j h1 h2
     unfold AF
     split
     ·omega
     ·rename_i hn
      refine ih (j + 1) (by omega) ?_
      by_cases he : j = b0
      ·rw [he] at hn; exact absurd hb1 hn
      ·omega
   exact hx 256 0 rfl (Nat.zero_le _)
  have e : fP S = jh (tq S) (iU wo (tq S)) := by rw [fP, if_pos h1]
  rw [e]
  refine wR Γ80 (ab bB @dm) ?_ ?_
  ·exact ⟨b0, hb0, hb1⟩
  refine wR Γ80 bB ?_ ?_
  ·exact ⟨⟨by omega, by omega⟩, hg⟩
  refine wZ bB ?_
  exact fun E => rfl
 have h1 : hM S ≠ 1 := by simp at hc; omega
 obtain ⟨T, pre, he, hpre, hp⟩ := BA S h1
 rw [he]
 refine wK ?_
 refine vR Γ80 bB ?_
 refine bp ⟨60, bQ [(1, .is (.own 0 0)), (6, .is (.v (.string pre)))], bY [(0, .cells 309 ((jU T).map .v))]⟩ ?_ ?_
 ·skip
  refine vR Γ80 bB ?_
  refine wC bB (fun hc => ?_) (fun hc => ?_)
  ·have h : 128 < hM S := by simp at hc; omega
   rw [if_pos h, Prod.mk.injEq] at hp
   obtain ⟨rfl, rfl⟩ := hp
   refine vR Γ80 bB ?_
   refine vr Γ80 (de bB @dm @dM) ?_
   exact wM (fun k => .key k) bB
  ·have h : ¬ 128 < hM S := by simp at hc; omega
   rw [if_neg h, Prod.mk.injEq] at hp
   obtain ⟨rfl, rfl⟩ := hp
   refine wK ?_
   exact wM (fun k => .key k) bB
 clear hp
 refine Wp.seq ?_
 refine vR Γ80 bB ?_
 refine Wp.block ?_
 refine Wp.loop (fun b : Nat => ⟨70, bQ [(1, .is (.own 0 0)), (6, .is (.v (.string (cB T pre b)))), (7, .is (.v (.int .i64 (b : Nat))))], bY [(0, .cells 309 ((jU T).map .v))]⟩) (fun b => b <= 256 /\ (b = 0 \/ T.getLsbD (b - 1) = false \/ T.getLsbD b = false)) (fun b => 256 - b) 0 ?_ ⟨Nat.zero_le _, .inl rfl⟩ ?_
 ·exact wM (fun k => .key k) bB
 rintro b ⟨hb, hinv⟩
 refine Wp.seq ?_
 refine vR Γ80 bB ?_
 refine wC bB (fun hc => ?_) (fun hc => ?_)
 ·have hlt : b < 256 := by
   simp at hc
   omega
  have wj : IntKind.i64.wrap ((b : Int) + 1) = ((b + 1 : Nat) : Int) := by rw [aa (by omega) (by omega)]; omega
  have wu : IntKind.u8.wrap (b : Int) = (b : Int) := fH (by omega) (by omega)
  have hsz := gQ T pre b
  refine wK ?_
  refine Wp.seq (Wp.block ?_)
  refine Wp.seq ?_
  refine wR Γ80 (de bB wu @dm) ?_ ?_
  ·omega
  refine wC bB (fun hc => ?_) (fun hc => ?_)
  ·have hTb : T.getLsbD b = false := by simpa using hc
   have hs : M8 T b = false := by rw [M8, hTb]; rfl
   have e : cB T pre (b + 1) = cB T pre b := by rw [cB, if_neg (by rw [hs]; simp)]
   refine wE ?_
   refine vr Γ80 (ab bB wj) ?_
   refine ⟨b + 1, ⟨by omega, .inr (.inl hTb)⟩, by omega, ?_⟩
   rw [e]
   exact wM (fun k => .key k) bB
  have hTb : T.getLsbD b = true := by simpa using hc
  have hs : M8 T b = true := by
   rw [M8, hTb, Bool.true_and]
   rcases hinv with h | h | h
   ·subst h; rfl
   ·rw [h]; simp
   ·rw [hTb] at h; cases h
  have hbd := IN T b hlt
  have e : cB T pre (b + 1) = E6 (cB T pre b) b (iz T b) := by rw [cB, if_pos hs]
  have e2 : cB T pre (iz T b + 1) = cB T pre (b + 1) := EC T pre b hlt hTb _ (by omega) (Nat.le_refl _)
  have hout : T.getLsbD (iz T b + 1) = false := by
   by_cases h : iz T b < 255
   ·exact P7 T b hlt h
   ·exact BitVec.getLsbD_of_ge _ _ (by omega)
  obtain ⟨m, hm⟩ : ∃ m, iz T b = m := ⟨_, rfl⟩
  generalize hO : cB T pre b = O at *
  rw [hm] at hbd e e2 hout
  rw [e] at e2
  refine wK ?_
  refine vR Γ80 bB ?_
  refine bp ⟨120, bQ [(1, .is (.own 0 0)), (6, .is (.v (.string O))), (7, .is (.v (.int .i64 (b : Nat)))), (8, .is (.v (.int .i64 (m : Nat))))], bY [(0, .cells 309 ((jU T).map .v))]⟩ ?_ ?_
  ·skip
   refine Wp.block ?_
   refine Wp.loop (fun k : Nat => ⟨100, bQ [(1, .is (.own 0 0)), (6, .is (.v (.string O))), (7, .is (.v (.int .i64 (b : Nat)))), (8, .is (.v (.int .i64 (k : Nat))))], bY [(0, .cells 309 ((jU T).map .v))]⟩) (fun k => (b <= k /\ k < 256) /\ iz T b = iz T k) (fun k => 256 - k) b ?_ ⟨⟨Nat.le_refl _, hlt⟩, rfl⟩ ?_
   ·exact wM (fun k => .key k) bB
   rintro k ⟨⟨hk1, hk⟩, hke⟩
   have wk : IntKind.i64.wrap ((k : Int) + 1) = ((k + 1 : Nat) : Int) := by rw [aa (by omega) (by omega)]; omega
   have fin : (k < 255 -> T.getLsbD (k + 1) = false) -> k = m := fun h => by
    have := xo T k h
    omega
   by_cases hbk : k < 255
   ·have hd : decide ((k : Int) < 255) = true := by simp; omega
    have wu : IntKind.u8.wrap ((k + 1 : Nat) : Int) = ((k + 1 : Nat) : Int) := fH (by omega) (by omega)
    refine Wp.seq ?_
    refine wR Γ80 (oc bB wk hd wu @dm) ?_ ?_
    ·omega
    refine wC bB (fun hc => ?_) (fun hc => ?_)
    ·refine wK ?_
     refine Wp.block ?_
     refine vr Γ80 (ab bB wk) ?_
     refine ⟨k + 1, ⟨⟨by omega, by omega⟩, by rw [hke]; exact xC T k hbk hc⟩, by omega, ?_⟩
     exact wM (fun k => .key k) bB
    ·refine wE ?_
     have hf := fin fun _ => hc
     subst hf
     exact wM (fun k => .key k) bB
   ·have hd : decide ((k : Int) < 255) = false := by simp; omega
    refine Wp.seq ?_
    refine wR Γ80 (eH bB wk hd @dm) ?_ ?_
    ·simp
    refine wC bB (fun hc => ?_) (fun hc => ?_)
    ·exact absurd hc (by simp)
    ·refine wE ?_
     have hf := fin fun h => absurd h hbk
     subst hf
     exact wM (fun k => .key k) bB
  have wm : IntKind.u8.wrap ((m : Nat) : Int) = ((m : Nat) : Int) := fH (by omega) (by omega)
  have wm1 : IntKind.i64.wrap ((m : Int) + 1) = ((m + 1 : Nat) : Int) := by rw [aa (by omega) (by omega)]; omega
  have hb1 := jy b (iU ku b)
  have hb2 := jy ((m : Nat) : Int) (iU ku ((m : Nat) : Int))
  rw [Jk] at e2
  refine wR Γ80 (ab bB wu) ?_ ?_
  ·exact ⟨⟨⟨by omega, by omega⟩, hg⟩, by omega⟩
  have hO1 : (O ++ jh b (iU ku b)).size <= 2400 := by rw [ByteArray.size_append]; omega
  generalize O ++ jh b (iU ku b) = O1 at *
  refine bp ⟨150, bQ [(1, .is (.own 0 0)), (6, .is (.v (.string (if b + 1 < m then O1 ++ l5 else O1)))), (7, .is (.v (.int .i64 (b : Nat)))), (8, .is (.v (.int .i64 (m : Nat))))], bY [(0, .cells 309 ((jU T).map .v))]⟩ ?_ ?_
  ·skip
   refine vR Γ80 (ab bB wj) ?_
   refine wC bB (fun hc => ?_) (fun hc => ?_)
   ·have h : b + 1 < m := by simp at hc; omega
    rw [if_pos h]
    refine wr Γ80 bB ?_ ?_
    ·show O1.size + 1 <= _; omega
    exact wM (fun k => .key k) bB
   ·have h : ¬ b + 1 < m := by simp at hc; omega
    rw [if_neg h]
    refine wK ?_
    exact wM (fun k => .key k) bB
  have hO2 : (if b + 1 < m then O1 ++ l5 else O1).size <= 2401 := by
   split
   ·rw [ByteArray.size_append]
    show O1.size + 1 <= 2401
    omega
   ·omega
  generalize (if b + 1 < m then O1 ++ l5 else O1) = O2 at *
  refine bp ⟨170, bQ [(1, .is (.own 0 0)), (6, .is (.v (.string (cB T pre (m + 1))))), (8, .is (.v (.int .i64 (m : Nat))))], bY [(0, .cells 309 ((jU T).map .v))]⟩ ?_ ?_
  ·skip
   refine vR Γ80 bB ?_
   refine wC bB (fun hc => ?_) (fun hc => ?_)
   ·have h : b < m := by simp at hc; omega
    rw [if_pos h] at e2
    rw [e2]
    refine wr Γ80 (ab bB wm) ?_ ?_
    ·exact ⟨⟨⟨by omega, by omega⟩, hg⟩, by omega⟩
    exact wM (fun k => .key k) bB
   ·have h : ¬ b < m := by simp at hc; omega
    rw [if_neg h] at e2
    rw [e2]
    refine wK ?_
    exact wM (fun k => .key k) bB
  refine vr Γ80 bB ?_
  refine vr Γ80 (ab bB wm1) ?_
  refine ⟨m + 1, ⟨by omega, .inr (.inr hout)⟩, by omega, ?_⟩
  exact wM (fun k => .key k) bB
 ·have hb' : b = 256 := by
   simp at hc
   omega
  subst hb'
  have hsz := gQ T pre 256
  refine wE ?_
  refine wR Γ80 bB ?_ ?_
  ·show (cB T pre 256).size + 1 <= _; omega
  refine wZ bB ?_
  exact fun E => rfl
noncomputable def rl : aU Tryz.prog 182 where
 pre := fun W bs => fun | [.val y0] => (match dec b7 y0 with | some S => ba W (Out bs) | _ => False) | _ => False
 res := fun W => fun | [.val y0] => (match dec b7 y0 with | some S => .string (fP S) | _ => undef) | _ => undef
 enters := Tryz.call182
 ok := by
  intro W w bs us as_ hk hu hp
  split at hp
  ·rename_i y0
   split at hp
   ·rename_i S h0
    match us, hu with
    | [u0], hu =>
     obtain ⟨rfl, _⟩ := hu
     obtain rfl := fA h0
     try dsimp only
     try simp only [cj cd]
     exact LV S w (hp.fM hk (by simp))
   ·exact hp.elim
  ·exact hp.elim
theorem FA (W : World) (S : CS) : rl.res W [.val (b7 S)] = .string (fP S) := by simp only [rl, cj cd]
theorem HL (W : World) (bs : List Nat) (S : CS) : rl.pre W bs [.val (b7 S)] = (ba W (Out bs)) := by simp only [rl, cj cd]
end
section
open Go.RowKit Go.LE
set_option maxRecDepth 10000
theorem KQ {ar : List Nd} {f : Fm} (h : ¬ f.row < 0) : iA ar f = (ar, f) := by rw [iA, if_neg h]
theorem E8 (ar : List Nd) (f : Fm) : (iA (aD ar f).1 (aD ar f).2).1.length <= ar.length + 1 := by
 by_cases h1 : f.fac < 0
 ·rw [aD, if_pos h1]
  exact pP ar f
 ·by_cases h2 : f.row < 0
  ·rw [aD, if_neg h1, if_pos h2]
   exact pP ar _
  ·rw [aD, if_neg h1, if_neg h2, KQ (by show ¬ (ar.length : Int) < 0; omega)]
   simp
theorem vA (ar : List Nd) (f : Fm) : (eM ar f).1.length <= ar.length + 2 := by
 have h1 := E8 ar f
 have h3 := yv (iA (aD ar f).1 (aD ar f).2).1 (iA (aD ar f).1 (aD ar f).2).2
 unfold eM
 omega
theorem mr (ar : List Nd) (f : Fm) : (aJ ar f).1.length <= ar.length + 3 := by
 have h1 := vA ar f
 unfold aJ rN
 split
 ·simp only; omega
 ·simp only [List.length_append, List.length_cons, List.length_nil]; omega
def iZ (s : ByteArray) : Except (Int × Int) RT := gA (bt s) s.size (fj s)
def pN : Except (Int × Int) RT -> Nat
 | .ok t => aG t.expand
 | .error _ => 0
def pV : Except (Int × Int) RT -> List Value
 | .ok t => cN (dx 0 t.expand)
 | .error _ => []
def pG : Except (Int × Int) RT -> Value -> Value
 | .ok t, v => .tuple #[.agg #[v, .int .i64 ((aG t.expand - 1 : Nat) : Int)], .int .i64 0, .int .i64 0]
 | .error (c, p), v => .tuple #[.agg #[v, .int .i64 0], .int .i64 c, .int .i64 p]
theorem wW : df Tryz.prog 64 [] [] = ⟨True, .agg [.v (.slice none 0 0), .v (.int .i64 0)], [], none, [], []⟩ := by kernel_rfl
theorem wF : df Tryz.prog 232 [] [] = ⟨True, .agg [.v (.slice none 0 0), .v (.slice none 0 0)], [], none, [], []⟩ := by kernel_rfl
theorem Lj {P : Program} {T e : TypeId} {sz : Nat} {zs : List Value} (κ : Nat) (x : SV) (l : List SV) (hp : partsOf x = l) (h1 : P.underlying T = some (.slice e)) (h2 : ts P e = some sz) (h3 : tz P e = some zs) (h4 : zs.length = sz) (h5 : sz <= 16777216) (h6 : 0 < sz) (h7 : l.length = sz) :
  bj P κ T 1 [0] [x] = ⟨True, .hd (8 * κ), [(8 * κ, some (.row e sz 1 l))], none, [], []⟩ := by
 have hf : cS (fun i => some (i * sz, sz)) ((List.replicate 1 zs).flatten.map .v) ([0].zip [x]) = some l := by
  simp only [List.zip_cons_cons, List.zip_nil_right, cS, hp, Nat.zero_mul, Nat.zero_add]
  rw [if_pos ⟨h7, by simp [h4]⟩]
  simp [ae, h7, <- h4]
 unfold bj
 simp only [h1, h2, h3, hf]
 congr 1
 exact eq_true ⟨by omega, h4, h6⟩
theorem Od (κ : Nat) (f : Fm) : bj Tryz.prog κ 230 1 [0] [.v (.agg f.bh.toArray)] = ⟨True, .hd (8 * κ), [(8 * κ, some (.row 234 6 1 (f.bh.map .v)))], none, [], []⟩ :=
 Lj (e := 234) (sz := 6) (zs := [.int .i64 0, .int .i64 0, .int .i64 0, .int .u8 0, .int .i64 0, .int .i64 0]) κ _ _ rfl (by kernel_rfl) (by kernel_rfl) (by kernel_rfl) rfl (by omega) (by omega) rfl
def Dv (s : ByteArray) : Except (Int × Int) (List Nd × Fm × List Fm) := ow (bt s) s.size (fj s) (s.size + 1) 0 [] (iE (-1)) []
theorem mv {s : ByteArray} {e : Int × Int} (hb : ¬ 1048576 < (s.size : Int)) (h : Dv s = .error e) : iZ s = .error e := by
 have h1 := kE (c := bt s) (N := s.size) (rd := fj s) (by omega)
 have h2 : iD (bt s) s.size (fj s) = .error e := by
  rw [iD, if_neg hb]
  have : ow (bt s) s.size (fj s) ((s.size : Int).toNat + 1) 0 [] (iE (-1)) [] = .error e := h
  rw [this]; rfl
 rw [h2] at h1
 show gA _ _ _ = _
 cases h3 : gA (bt s) s.size (fj s) with
 | error e' => rw [h3] at h1; simp only at h1; rw [h1]
 | ok t => rw [h3] at h1; exact h1.elim
theorem C7 {s : ByteArray} {ar : List Nd} {f : Fm} {rest : List Fm} (hb : ¬ 1048576 < (s.size : Int)) (h : Dv s = .ok (ar, f, rest)) : iZ s = match Aw (.ok (ar, f, rest)) with
  | .error e => .error e
  | .ok _ => iZ s := by
 have h1 := kE (c := bt s) (N := s.size) (rd := fj s) (by omega)
 have h2 : iD (bt s) s.size (fj s) = Aw (.ok (ar, f, rest)) := by
  rw [iD, if_neg hb]
  have : ow (bt s) s.size (fj s) ((s.size : Int).toNat + 1) 0 [] (iE (-1)) [] = .ok (ar, f, rest) := h
  rw [this]
 rw [h2] at h1
 cases h4 : Aw (.ok (ar, f, rest)) with
 | error e =>
  rw [h4] at h1
  show gA _ _ _ = _
  cases h3 : gA (bt s) s.size (fj s) with
  | error e' => rw [h3] at h1; simp only at h1; rw [h1]
  | ok t => rw [h3] at h1; exact h1.elim
 | ok q => rfl
theorem SX {s : ByteArray} {ar : List Nd} {f : Fm} {rest : List Fm} (h : Dv s = .ok (ar, f, rest)) : ∃ ts t, AR (aJ ar f).1 ts /\ 0 <= (aJ ar f).2.alt /\ ts[(aJ ar f).2.alt.toNat]? = some t := by
 have hm : ∀ o : Int, o = -1 -> OD [] o none := fun o h => by show o < 0; omega
 have h1 := zP (c := bt s) (N := s.size) (rd := fj s) (s.size + 1) 0 [] [] (iE (-1)) (fe (-1)) [] [] .nil ⟨rfl, hm _ rfl, hm _ rfl, rfl, hm _ rfl, hm _ rfl⟩ trivial
 have h2 : ow (bt s) s.size (fj s) (s.size + 1) 0 [] (iE (-1)) [] = .ok (ar, f, rest) := h
 rw [h2] at h1
 cases h3 : runN (bt s) s.size (fj s) (s.size + 1) 0 (fe (-1)) [] with
 | error e => rw [h3] at h1; exact h1.elim
 | ok p =>
  obtain ⟨L, Ls⟩ := p
  rw [h3] at h1
  obtain ⟨ts, ha, hf, hr⟩ := h1
  obtain ⟨l, a1, f1⟩ := nN ha hf
  have h2 := f1.alt
  rw [show (oy L).alt = some (gu L) from rfl] at h2
  exact ⟨_, _, a1, h2.1, h2.2⟩
theorem Uz {s : ByteArray} {ar : List Nd} {f : Fm} (hb : ¬ 1048576 < (s.size : Int)) (h : Dv s = .ok (ar, f, [])) (hz : ¬ 2000 < (lU (aJ ar f).1).getD (aJ ar f).2.alt.toNat 0) :
  ∃ ts t, iZ s = .ok t /\ AR (aJ ar f).1 ts /\ 0 <= (aJ ar f).2.alt /\ (aJ ar f).2.alt < (aJ ar f).1.length /\ ts[(aJ ar f).2.alt.toNat]? = some t /\ aG t.expand <= 2000 := by
 have h1 := kE (c := bt s) (N := s.size) (rd := fj s) (by omega)
 have h2 : iD (bt s) s.size (fj s) = .ok ((aJ ar f).1, (aJ ar f).2.alt) := by
  rw [iD, if_neg hb]
  have : ow (bt s) s.size (fj s) ((s.size : Int).toNat + 1) 0 [] (iE (-1)) [] = .ok (ar, f, []) := h
  rw [this, Aw, if_neg (show ¬ ([] : List Fm) ≠ [] by simp), if_neg hz]
 rw [h2] at h1
 cases h3 : gA (bt s) s.size (fj s) with
 | error e' => rw [h3] at h1; exact h1.elim
 | ok t =>
  rw [h3] at h1
  obtain ⟨ts, a1, a2, a3⟩ := h1
  have hlt : (aJ ar f).2.alt.toNat < ts.length := (List.getElem?_eq_some_iff.1 a3).1
  have hle := a1.len
  have e1 : (lU (aJ ar f).1).getD (aJ ar f).2.alt.toNat 0 = (t.sz : Int) := by
   rw [Oq a1, List.getD_eq_getElem?_getD, List.getElem?_map, a3]; rfl
  rw [e1] at hz
  exact ⟨ts, t, h3, a1, a2, by omega, a3, a1.small (List.mem_of_getElem? a3) (by omega)⟩
theorem Lc {s : ByteArray} {ar : List Nd} {f : Fm} {rest : List Fm} (hb : ¬ 1048576 < (s.size : Int)) (h : Dv s = .ok (ar, f, rest)) (hr : rest ≠ []) : iZ s = .error (21, f.place) := by
 have h1 := C7 hb h
 rw [Aw, if_pos hr] at h1
 exact h1
theorem Nn {s : ByteArray} {ar : List Nd} {f : Fm} (hb : ¬ 1048576 < (s.size : Int)) (h : Dv s = .ok (ar, f, [])) (hz : 2000 < (lU (aJ ar f).1).getD (aJ ar f).2.alt.toNat 0) : iZ s = .error (24, 0) := by
 have h1 := C7 hb h
 rw [Aw, if_neg (show ¬ ([] : List Fm) ≠ [] by simp), if_pos hz] at h1
 exact h1
theorem BU {c : Int -> Int} {N i : Int} {e : Int × Int} (h : lx c N i = .error e) : e.1 ≠ 0 := by
 have hn : ∀ i e, fU c N i = .error e -> e.1 ≠ 0 := fun i e h => by
  unfold fU at h
  split at h
  ·cases h; show (20 : Int) ≠ 0; omega
  ·cases h
 have hu : ∀ m i e, vU c N m i = .error e -> e.1 ≠ 0 := fun m i e h => by
  unfold vU at h
  split at h
  ·split at h
   ·exact hn _ _ h
   ·cases h
  ·cases h
 unfold lx at h
 cases h1 : fU c N (i + 1) with
 | error e1 => rw [h1] at h; cases h; exact hn _ _ h1
 | ok p =>
  rw [h1] at h
  simp only at h
  cases h2 : vU c N p.1 p.2 with
  | error e2 => rw [h2] at h; cases h; exact hu _ _ _ h2
  | ok q =>
   rw [h2] at h
   simp only at h
   unfold kW at h
   split at h
   ·cases h; show (20 : Int) ≠ 0; omega
   ·split at h
    ·cases h; show (22 : Int) ≠ 0; omega
    ·cases h
theorem zM {c : Int -> Int} {N i : Int} (h : c i ≠ 123) : M4 c N i = .ok (if c i = 43 then -2 else 0, if c i = 63 then 1 else -1, i + 1) := by
 unfold M4
 by_cases h1 : c i = 43
 ·rw [if_pos h1, if_pos h1, if_neg (by omega)]
 ·rw [if_neg h1, if_neg h1]
  by_cases h2 : c i = 63
  ·rw [if_pos h2, if_pos h2]
  ·rw [if_neg h2, if_neg h2, if_neg h]
theorem zr {c : Int -> Int} {N i : Int} (h : c i = 123) : M4 c N i = lx c N i := by
 unfold M4
 rw [if_neg (by omega), if_neg (by omega), if_pos h]
theorem WD {c : Int -> Int} {N i m n j : Int} (hi : i < N) (h : M4 c N i = .ok (m, n, j)) : i < j /\ j <= N := by
 by_cases h1 : c i = 123
 ·rw [zr h1] at h
  exact tO h
 ·rw [zM h1] at h
  simp only [Except.ok.injEq, Prod.mk.injEq] at h
  omega
theorem AM (a m n : Int) : df Tryz.prog 243 [0, 2, 4, 5] [.v (.int .i64 7), .v (.int .i64 a), .v (.int .i64 m), .v (.int .i64 n)] = ⟨True, .agg ((⟨7, 0, a, 0, m, n⟩ : Nd).bh.map .v), [], none, [], []⟩ := by
 kernel_rfl
theorem Ay : pL [] = [] := rfl
theorem Pt (pre : List Fm) (f : Fm) : pL (pre ++ [f]) = pL pre ++ f.bh := by simp [pL]
theorem x6 (pre : List Fm) (f : Fm) : List.map SV.v (pL (pre ++ [f])) = List.map SV.v (pL pre) ++ [.v (.int .i64 f.place), .v (.int .i64 f.alt), .v (.int .i64 f.meet), .v (.int .u8 f.sgn), .v (.int .i64 f.row), .v (.int .i64 f.fac)] := by rw [Pt, dD]
theorem SN (m n j : Int) : QS (.ok (m, n, j)) = .tuple #[.int .i64 m, .int .i64 n, .int .i64 j, .int .i64 0, .int .i64 0] := rfl
theorem RW (c j : Int) : QS (.error (c, j)) = .tuple #[.int .i64 0, .int .i64 0, .int .i64 0, .int .i64 c, .int .i64 j] := rfl
theorem Gv (S : CS) : partsOf (.v (kv S)) = List.map SV.v (eW S.getLsbD) := rfl
noncomputable def Γ73 (ar : List Nd) (pre : List Fm) (f : Fm) : Env Tryz.prog := ⟨fun | 116 => some yK.spec | 118 => some o5.spec | 119 => some (EJ ar pre f).spec | 120 => some (yf ar pre f).spec | 121 => some (WJ 121 aD Tryz.call121 lT ar pre f).spec | 122 => some AN.spec | _ => none, fun _ => none, fun _ _ => none⟩
theorem Gt73c116 (ar : List Nd) (pre : List Fm) (f : Fm) : (Γ73 ar pre f).sp 116 = some yK.spec := rfl
theorem Gt73c118 (ar : List Nd) (pre : List Fm) (f : Fm) : (Γ73 ar pre f).sp 118 = some o5.spec := rfl
theorem Gt73c119 (ar : List Nd) (pre : List Fm) (f : Fm) : (Γ73 ar pre f).sp 119 = some (EJ ar pre f).spec := rfl
theorem Gt73c120 (ar : List Nd) (pre : List Fm) (f : Fm) : (Γ73 ar pre f).sp 120 = some (yf ar pre f).spec := rfl
theorem Gt73c121 (ar : List Nd) (pre : List Fm) (f : Fm) : (Γ73 ar pre f).sp 121 = some (WJ 121 aD Tryz.call121 lT ar pre f).spec := rfl
theorem Gt73c122 (ar : List Nd) (pre : List Fm) (f : Fm) : (Γ73 ar pre f).sp 122 = some AN.spec := rfl
noncomputable def Γ74 (ar : List Nd) : Env Tryz.prog := ⟨fun | 123 => some (EO ar).spec | _ => none, fun _ => none, fun _ _ => none⟩
theorem Gt74c123 (ar : List Nd) : (Γ74 ar).sp 123 = some (EO ar).spec := rfl
section
variable (ar : List Nd) (ts : List RT) (ao : Option Addr) (c n : Nat)
noncomputable def Γ75 (h : iw ar ts ao c n) : Env Tryz.prog := ⟨fun | 124 => some (oQ ar ao c 124 Tryz.call124 (below n) (M3 ts) h).spec | _ => none, fun _ => none, fun _ _ => none⟩
theorem Gt75c124 (h : iw ar ts ao c n) : (Γ75 ar ts ao c n h).sp 124 = some (oQ ar ao c 124 Tryz.call124 (below n) (M3 ts) h).spec := rfl
end
end
section
open Go.RowKit Go.LE
set_option maxRecDepth 10000
abbrev uR (n : Nat) : Prop := ∀ (t : Rx) (need : Int) (w : World), dp t < n -> aG t <= 4000000 -> ba w (Out []) -> Calls Tryz.prog 129 #[aF t, .int .i64 need] w fun e w' => e = .returned (.string (Bd t need)) /\ ai w [] w'
noncomputable def Cg (n : Nat) (h : uR n) : aU Tryz.prog 129 where
 pre := fun W bs as_ => ∃ (t : Rx) (need : Int), as_ = [.val (aF t), .val (.int .i64 need)] /\ dp t < n /\ aG t <= 4000000 /\ ba W (Out bs)
 res := fun _ as_ => match as_ with
  | [.val v, .val (.int _ need)] => (match dec aF v with
   | some t => .string (Bd t need)
   | _ => undef)
  | _ => undef
 enters := Tryz.call129
 ok := by
  intro W w bs us as_ hk hu hp
  obtain ⟨t, need, rfl, h1, h2, h3⟩ := hp
  match us, hu with
  | [x, y], hu =>
   obtain ⟨rfl, rfl, _⟩ := hu
   simp only [cj cl]
   exact h t need w h1 h2 (h3.fM hk (by simp))
section
variable (n : Nat) (h : uR n)
theorem LU (W : World) (bs : List Nat) (t : Rx) (need : Int) : (Cg n h).pre W bs [.val (aF t), .val (.int .i64 need)] = (dp t < n /\ aG t <= 4000000 /\ ba W (Out bs)) := by
 apply propext
 constructor
 ·rintro ⟨t', need', h1, h2⟩
  simp only [List.cons.injEq, AV.val.injEq, Value.int.injEq, true_and, and_true] at h1
  obtain ⟨h1, rfl⟩ := h1
  obtain rfl := cl _ _ h1
  exact h2
 ·exact fun h => ⟨t, need, rfl, h⟩
theorem J4 (W : World) (t : Rx) (need : Int) : (Cg n h).res W [.val (aF t), .val (.int .i64 need)] = .string (Bd t need) := by
 simp only [Cg, cj cl]
noncomputable def Γ84 : Env Tryz.prog := ⟨fun | 129 => some (Cg n h).spec | 182 => some rl.spec | _ => none, fun _ => none, fun _ _ => none⟩
theorem Gt84c129 : (Γ84 n h).sp 129 = some (Cg n h).spec := rfl
theorem Gt84c182 : (Γ84 n h).sp 182 = some rl.spec := rfl
end
def aX := (aq @List.replicate_succ.{0} @List.replicate_zero.{0} @av @af jV jW jb (aq cW cX c8 cT cZ c9 cR (aq cV ez ey eB eC eA ew (aq rU rV sb rX o6 pB p6 (aq qn ON O7 RC OI PK Pd (aq Rv Nr Om Rq OL Qe OC (aq N9 Qg P4 Oc Ik H4 JB (aq IU Jc Jj IL OT Nf RD (aq Qm N4 Pa OV P1 PR RE (aq Q9 Qi OP OF Pc QQ O9 (aq NG Nk Qa Po QE Qb Ri (aq No PE P5 rF r9 r8 sf (aq US Vm Va U4 Vq Vi U8 (aq Vk @aN @au @aA @az @FA @HL (aq @gH @kF @kC @ji @nv @gG @bM (lX @dM @dm @Gt84c129 @Gt84c182 @LU @J4))))))))))))))))
set_option maxHeartbeats 8000000 in
theorem MR (n : Nat) (h : uR n) : uR (n + 1) := by
 intro t need w hdp hsz hg
 have hbs := cL t
 refine aj (nt := 82) [.tmp 4] Tryz.func129 rfl rfl rfl ?_
 refine vR (Γ84 n h) aX ?_
 refine vR (Γ84 n h) aX ?_
 refine bp ⟨200, bQ [(1, .is (.v (.int .i64 need))), (5, .is (.v (.string (bU t)))), (6, .is (.v (.int .i64 (qM t))))], bY []⟩ ?_ ?_
 ·skip
  refine vR (Γ84 n h) aX ?_
  refine Wp.block ?_
  cases t with
  | eps =>
   have hv : aF (.eps) = _ := rfl
   unfold aF
   refine vR (Γ84 n h) aX ?_
   refine wC aX (fun hc => ?_) (fun hc => ?_)
   rotate_left
   ·exact absurd hc (by simp)
   refine wR (Γ84 n h) aX ?_ ?_
   ·first | trivial | simp
   refine vr (Γ84 n h) aX ?_
   exact wM (fun k => .key k) aX
  | cls S =>
   have hv : aF (.cls S) = _ := rfl
   unfold aF
   refine vR (Γ84 n h) aX ?_
   refine wC aX (fun hc => ?_) (fun hc => ?_)
   ·exact absurd hc (by simp)
   refine vR (Γ84 n h) aX ?_
   refine wC aX (fun hc => ?_) (fun hc => ?_)
   rotate_left
   ·exact absurd hc (by simp)
   refine wR (Γ84 n h) aX ?_ ?_
   ·first | trivial | simp
   refine wr (Γ84 n h) aX ?_ ?_
   ·exact hg
   exact wM (fun k => .key k) aX
  | alt a b =>
   have hd : dp a + dp b + 1 < n + 1 := hdp
   have hz : aG a + aG b + 1 <= 4000000 := hsz
   have s1 := cr a 0
   have s2 := cr b 1
   have hv : aF (.alt a b) = _ := rfl
   unfold aF
   refine vR (Γ84 n h) aX ?_
   refine wC aX (fun hc => ?_) (fun hc => ?_)
   ·exact absurd hc (by simp)
   refine vR (Γ84 n h) aX ?_
   refine wC aX (fun hc => ?_) (fun hc => ?_)
   ·exact absurd hc (by simp)
   refine vR (Γ84 n h) aX ?_
   refine wC aX (fun hc => ?_) (fun hc => ?_)
   rotate_left
   ·exact absurd hc (by simp)
   refine wR (Γ84 n h) aX ?_ ?_
   ·rw [Bool.and_eq_true]; exact ⟨bM a, bM b⟩
   refine sx (Γ84 n h) aX ?_ ?_
   ·exact ⟨⟨by omega, by omega, hg⟩, by show _ + 1 <= _; omega, ⟨by omega, by omega, hg⟩, by rw [ByteArray.size_append]; show _ + 1 + _ <= _; omega⟩
   exact wM (fun k => .key k) aX
  | and a b =>
   have hd : dp a + dp b + 1 < n + 1 := hdp
   have hz : aG a + aG b + 1 <= 4000000 := hsz
   have s1 := cr a 1
   have s2 := cr b 2
   have hv : aF (.and a b) = _ := rfl
   unfold aF
   refine vR (Γ84 n h) aX ?_
   refine wC aX (fun hc => ?_) (fun hc => ?_)
   ·exact absurd hc (by simp)
   refine vR (Γ84 n h) aX ?_
   refine wC aX (fun hc => ?_) (fun hc => ?_)
   ·exact absurd hc (by simp)
   refine vR (Γ84 n h) aX ?_
   refine wC aX (fun hc => ?_) (fun hc => ?_)
   ·exact absurd hc (by simp)
   refine vR (Γ84 n h) aX ?_
   refine wC aX (fun hc => ?_) (fun hc => ?_)
   rotate_left
   ·exact absurd hc (by simp)
   refine wR (Γ84 n h) aX ?_ ?_
   ·rw [Bool.and_eq_true]; exact ⟨bM a, bM b⟩
   refine sx (Γ84 n h) aX ?_ ?_
   ·exact ⟨⟨by omega, by omega, hg⟩, by show _ + 1 <= _; omega, ⟨by omega, by omega, hg⟩, by rw [ByteArray.size_append]; show _ + 1 + _ <= _; omega⟩
   exact wM (fun k => .key k) aX
  | minus a b =>
   have hd : dp a + dp b + 1 < n + 1 := hdp
   have hz : aG a + aG b + 1 <= 4000000 := hsz
   have s1 := cr a 1
   have s2 := cr b 2
   have hv : aF (.minus a b) = _ := rfl
   unfold aF
   refine vR (Γ84 n h) aX ?_
   refine wC aX (fun hc => ?_) (fun hc => ?_)
   ·exact absurd hc (by simp)
   refine vR (Γ84 n h) aX ?_
   refine wC aX (fun hc => ?_) (fun hc => ?_)
   ·exact absurd hc (by simp)
   refine vR (Γ84 n h) aX ?_
   refine wC aX (fun hc => ?_) (fun hc => ?_)
   ·exact absurd hc (by simp)
   refine vR (Γ84 n h) aX ?_
   refine wC aX (fun hc => ?_) (fun hc => ?_)
   ·exact absurd hc (by simp)
   refine vR (Γ84 n h) aX ?_
   refine wC aX (fun hc => ?_) (fun hc => ?_)
   rotate_left
   ·exact absurd hc (by simp)
   refine wR (Γ84 n h) aX ?_ ?_
   ·rw [Bool.and_eq_true]; exact ⟨bM a, bM b⟩
   refine sx (Γ84 n h) aX ?_ ?_
   ·exact ⟨⟨by omega, by omega, hg⟩, by show _ + 1 <= _; omega, ⟨by omega, by omega, hg⟩, by rw [ByteArray.size_append]; show _ + 1 + _ <= _; omega⟩
   exact wM (fun k => .key k) aX
  | cat a b =>
   have hd : dp a + dp b + 1 < n + 1 := hdp
   have hz : aG a + aG b + 1 <= 4000000 := hsz
   have s1 := cr a 2
   have s2 := cr b 3
   have hv : aF (.cat a b) = _ := rfl
   unfold aF
   refine vR (Γ84 n h) aX ?_
   refine wC aX (fun hc => ?_) (fun hc => ?_)
   ·exact absurd hc (by simp)
   refine vR (Γ84 n h) aX ?_
   refine wC aX (fun hc => ?_) (fun hc => ?_)
   ·exact absurd hc (by simp)
   refine vR (Γ84 n h) aX ?_
   refine wC aX (fun hc => ?_) (fun hc => ?_)
   ·exact absurd hc (by simp)
   refine vR (Γ84 n h) aX ?_
   refine wC aX (fun hc => ?_) (fun hc => ?_)
   ·exact absurd hc (by simp)
   refine vR (Γ84 n h) aX ?_
   refine wC aX (fun hc => ?_) (fun hc => ?_)
   ·exact absurd hc (by simp)
   refine vR (Γ84 n h) aX ?_
   refine wC aX (fun hc => ?_) (fun hc => ?_)
   rotate_left
   ·exact absurd hc (by simp)
   refine wR (Γ84 n h) aX ?_ ?_
   ·rw [Bool.and_eq_true]; exact ⟨bM a, bM b⟩
   refine sx (Γ84 n h) aX ?_ ?_
   ·exact ⟨⟨by omega, by omega, hg⟩, ⟨by omega, by omega, hg⟩, by omega⟩
   exact wM (fun k => .key k) aX
  | star a =>
   have hd : dp a + 1 < n + 1 := hdp
   have hz : aG a + 1 <= 4000000 := hsz
   have s1 := cr a 3
   have hv : aF (.star a) = _ := rfl
   unfold aF
   refine vR (Γ84 n h) aX ?_
   refine wC aX (fun hc => ?_) (fun hc => ?_)
   ·exact absurd hc (by simp)
   refine vR (Γ84 n h) aX ?_
   refine wC aX (fun hc => ?_) (fun hc => ?_)
   ·exact absurd hc (by simp)
   refine vR (Γ84 n h) aX ?_
   refine wC aX (fun hc => ?_) (fun hc => ?_)
   ·exact absurd hc (by simp)
   refine vR (Γ84 n h) aX ?_
   refine wC aX (fun hc => ?_) (fun hc => ?_)
   ·exact absurd hc (by simp)
   refine vR (Γ84 n h) aX ?_
   refine wC aX (fun hc => ?_) (fun hc => ?_)
   ·exact absurd hc (by simp)
   refine vR (Γ84 n h) aX ?_
   refine wC aX (fun hc => ?_) (fun hc => ?_)
   ·exact absurd hc (by simp)
   refine vR (Γ84 n h) aX ?_
   refine wC aX (fun hc => ?_) (fun hc => ?_)
   rotate_left
   ·exact absurd hc (by simp)
   refine wR (Γ84 n h) aX ?_ ?_
   ·exact bM a
   refine wr (Γ84 n h) aX ?_ ?_
   ·exact ⟨⟨by omega, by omega, hg⟩, by show _ + 1 <= _; omega⟩
   exact wM (fun k => .key k) aX
 refine Wp.seq ?_
 refine vR (Γ84 n h) aX ?_
 refine wC aX (fun hc => ?_) (fun hc => ?_)
 ·have hlt : qM t < need := by simpa using hc
  have e : Bd t need = Yp ++ bU t ++ Yr := by rw [Bd, ng, if_pos hlt]
  rw [e]
  refine wR (Γ84 n h) aX ?_ ?_
  ·refine ⟨?_, ?_⟩
   ·show 1 + _ <= _; omega
   ·rw [ByteArray.size_append]; show 1 + _ + 1 <= _; omega
  refine wZ aX ?_
  exact fun E => rfl
 ·have hlt : ¬ qM t < need := by simpa using hc
  have e : Bd t need = bU t := by rw [Bd, ng, if_neg hlt]
  rw [e]
  refine wK ?_
  refine vR (Γ84 n h) aX ?_
  refine wZ aX ?_
  exact fun E => rfl
theorem tN : ∀ n, uR n
 | 0 => fun t _ _ h => absurd h (Nat.not_lt_zero _)
 | n + 1 => MR n (tN n)
theorem Pe (t : Rx) : Bd t 0 = bU t := by
 rw [Bd, ng, if_neg]
 cases t <;> simp [qM]
set_option maxHeartbeats 2000000 in
theorem Gf (t : Rx) (w : World) (hsz : aG t <= 4000000) (hg : ba w (Out [])) : Calls Tryz.prog 72 #[aF t] w fun e w' => e = .returned (.string (bU t)) /\ ai w [] w' := by
 refine aj (nt := 5) [.tmp 2] Tryz.func72 rfl rfl rfl ?_
 refine vR (Γ84 (dp t + 1) (tN _)) aX ?_
 refine wR (Γ84 (dp t + 1) (tN _)) (ab aX @Pe) ?_ ?_
 ·exact ⟨by omega, hsz, hg⟩
 refine wZ aX ?_
 exact fun E => rfl
noncomputable def j6 : aU Tryz.prog 72 where
 pre := fun W bs => fun | [.val y0] => (match dec aF y0 with | some t => aG t <= 4000000 /\ ba W (Out bs) | _ => False) | _ => False
 res := fun W => fun | [.val y0] => (match dec aF y0 with | some t => .string (bU t) | _ => undef) | _ => undef
 enters := Tryz.call72
 ok := by
  intro W w bs us as_ hk hu hp
  split at hp
  ·rename_i y0
   split at hp
   ·rename_i t h0
    match us, hu with
    | [u0], hu =>
     obtain ⟨rfl, _⟩ := hu
     obtain rfl := fA h0
     try dsimp only
     try simp only [cj cl]
     exact Gf t w hp.1 (hp.2.fM hk (by simp))
   ·exact hp.elim
  ·exact hp.elim
theorem Cp (W : World) (t : Rx) : j6.res W [.val (aF t)] = .string (bU t) := by simp only [j6, cj cl]
theorem Ca (W : World) (bs : List Nat) (t : Rx) : j6.pre W bs [.val (aF t)] = (aG t <= 4000000 /\ ba W (Out bs)) := by simp only [j6, cj cl]
theorem vk {s : ByteArray} {t : RT} (h : iZ s = .ok t) : aG t.expand <= 2000 := by
 have hd : gA (bt s) s.size (fj s) = .ok t := h
 have h1 := kE (c := bt s) (N := s.size) (rd := fj s) (by omega)
 have hz : t.sz <= 2000 := by
  unfold gA at hd
  split at hd
  ·cases hd
  ·unfold mT at hd
   split at hd
   ·cases hd
   ·split at hd
    ·cases hd
    ·split at hd
     ·cases hd
     ·simp only [Except.ok.injEq] at hd
      rename_i hn
      rw [<- hd]; omega
 rw [hd] at h1
 cases h2 : iD (bt s) s.size (fj s) with
 | error e => rw [h2] at h1; exact h1.elim
 | ok q =>
  rw [h2] at h1
  obtain ⟨ts, a1, a2, a3⟩ := h1
  exact a1.small (List.mem_of_getElem? a3) hz
theorem xH (s : ByteArray) : oe s = Xn (iZ s) := Kk (sg s) (by omega)
def yE (s : ByteArray) : Bool := match iZ s with
 | .ok t => decide (bU t.expand = s)
 | .error _ => false
end
section
open Go.RowKit Go.LE
set_option maxRecDepth 10000
def lO (n m : Int) : Bool := decide (0 <= n) && decide (n < m)
def TP := (aq @List.replicate_succ.{0} @List.replicate_zero.{0} @av @af jV jW jb (aq cW cX c8 cT cZ c9 cR (aq cV ez ey eB eC eA ew (aq Dw B4 DD DQ O0 QD Pq (aq QZ GN GS GB GU Hl Gu (aq Fe E5 Fs Hm G5 HT Hj (aq HX Gy En F2 ua IZ JM (lX JL I4 @aN @au @aA @az))))))))
set_option maxHeartbeats 1000000 in
theorem F9 (n m : Int) (w : World) : Calls Tryz.prog 31 #[.int .i64 n, .int .i64 m] w fun e w' => e = .returned (.bool (lO n m)) /\ ai w [] w' := by
 refine aj (nt := 12) [.tmp 4] Tryz.func31 rfl rfl rfl ?_
 refine vR Γ0 TP ?_
 refine vR Γ0 TP ?_
 refine wZ TP ?_
 exact fun E => rfl
def nQ : aU Tryz.prog 31 where
 pre := fun W bs => fun | [.val (.int .i64 n), .val (.int .i64 m)] => True | _ => False
 res := fun W => fun | [.val (.int .i64 n), .val (.int .i64 m)] => .bool (lO n m) | _ => undef
 enters := Tryz.call31
 ok := by
  intro W w bs us as_ hk hu hp
  split at hp
  ·rename_i n m
   match us, hu with
   | [u0, u1], hu =>
    obtain ⟨rfl, rfl, _⟩ := hu
    exact F9 n m w
  ·exact hp.elim
theorem nh (W : World) (n : Int) (m : Int) : nQ.res W [.val (.int .i64 n), .val (.int .i64 m)] = .bool (lO n m) := rfl
theorem mQ (W : World) (bs : List Nat) (n : Int) (m : Int) : nQ.pre W bs [.val (.int .i64 n), .val (.int .i64 m)] = (True) := rfl
def cP (op : Int) : ByteArray × ByteArray :=
 if op = 0 then (⟨#[104, 97, 108, 116]⟩, ⟨#[]⟩)
 else if op = 1 then (⟨#[99, 97, 108, 108]⟩, ⟨#[97]⟩)
 else if op = 2 then (⟨#[114, 101, 116]⟩, ⟨#[]⟩)
 else if op = 3 then (⟨#[106, 117, 109, 112]⟩, ⟨#[97]⟩)
 else if op = 4 then (⟨#[101, 109, 105, 116]⟩, ⟨#[107]⟩)
 else if op = 5 then (⟨#[100, 114, 111, 112]⟩, ⟨#[107]⟩)
 else if op = 6 then (⟨#[116, 101, 120, 116]⟩, ⟨#[120]⟩)
 else if op = 7 then (⟨#[112, 117, 115, 104]⟩, ⟨#[107, 120]⟩)
 else if op = 8 then (⟨#[100, 117, 112]⟩, ⟨#[107]⟩)
 else if op = 9 then (⟨#[102, 108, 105, 112]⟩, ⟨#[107]⟩)
 else if op = 10 then (⟨#[109, 111, 118, 101]⟩, ⟨#[107]⟩)
 else if op = 11 then (⟨#[111, 112, 101, 110]⟩, ⟨#[]⟩)
 else if op = 12 then (⟨#[116, 97, 107, 101]⟩, ⟨#[107]⟩)
 else if op = 13 then (⟨#[108, 111, 119, 101, 114]⟩, ⟨#[107]⟩)
 else if op = 14 then (⟨#[99, 117, 116]⟩, ⟨#[107, 116, 116]⟩)
 else if op = 15 then (⟨#[105, 110]⟩, ⟨#[107, 116, 97]⟩)
 else if op = 16 then (⟨#[99, 104, 117, 110, 107]⟩, ⟨#[107, 116]⟩)
 else if op = 17 then (⟨#[109, 111, 114, 101]⟩, ⟨#[97]⟩)
 else if op = 18 then (⟨#[122, 105, 112]⟩, ⟨#[]⟩)
 else if op = 19 then (⟨#[97, 108, 105, 103, 110]⟩, ⟨#[97, 97]⟩)
 else if op = 20 then (⟨#[112, 108, 97, 110]⟩, ⟨#[97, 97]⟩)
 else (⟨#[]⟩, ⟨#[]⟩)
def aV := (de TP @nh @mQ)
set_option maxHeartbeats 4000000 in
theorem N1 (op : Int) (w : World) : Calls Tryz.prog 70 #[.int .i64 op] w fun e w' => e = .returned (.tuple #[.string (cP op).1, .string (cP op).2]) /\ ai w [] w' := by
 refine aj (nt := 47) [.tmp 2, .tmp 3] Tryz.func70 rfl rfl rfl ?_
 refine vR Γ0 aV ?_
 refine Wp.seq ?_
 refine vR Γ0 aV ?_
 refine Wp.block ?_
 unfold cP
 refine vR Γ0 aV ?_
 refine wC aV (fun hc => ?_) (fun hc => ?_)
 ·have h : op = 0 := by simpa using hc
  rw [if_pos h]
  refine vR Γ0 aV ?_
  refine wZ aV ?_
  exact fun E => rfl
 rw [if_neg (show ¬ op = 0 by simpa using hc)]
 clear hc
 refine vR Γ0 aV ?_
 refine wC aV (fun hc => ?_) (fun hc => ?_)
 ·have h : op = 1 := by simpa using hc
  rw [if_pos h]
  refine vR Γ0 aV ?_
  refine wZ aV ?_
  exact fun E => rfl
 rw [if_neg (show ¬ op = 1 by simpa using hc)]
 clear hc
 refine vR Γ0 aV ?_
 refine wC aV (fun hc => ?_) (fun hc => ?_)
 ·have h : op = 2 := by simpa using hc
  rw [if_pos h]
  refine vR Γ0 aV ?_
  refine wZ aV ?_
  exact fun E => rfl
 rw [if_neg (show ¬ op = 2 by simpa using hc)]
 clear hc
 refine vR Γ0 aV ?_
 refine wC aV (fun hc => ?_) (fun hc => ?_)
 ·have h : op = 3 := by simpa using hc
  rw [if_pos h]
  refine vR Γ0 aV ?_
  refine wZ aV ?_
  exact fun E => rfl
 rw [if_neg (show ¬ op = 3 by simpa using hc)]
 clear hc
 refine vR Γ0 aV ?_
 refine wC aV (fun hc => ?_) (fun hc => ?_)
 ·have h : op = 4 := by simpa using hc
  rw [if_pos h]
  refine vR Γ0 aV ?_
  refine wZ aV ?_
  exact fun E => rfl
 rw [if_neg (show ¬ op = 4 by simpa using hc)]
 clear hc
 refine vR Γ0 aV ?_
 refine wC aV (fun hc => ?_) (fun hc => ?_)
 ·have h : op = 5 := by simpa using hc
  rw [if_pos h]
  refine vR Γ0 aV ?_
  refine wZ aV ?_
  exact fun E => rfl
 rw [if_neg (show ¬ op = 5 by simpa using hc)]
 clear hc
 refine vR Γ0 aV ?_
 refine wC aV (fun hc => ?_) (fun hc => ?_)
 ·have h : op = 6 := by simpa using hc
  rw [if_pos h]
  refine vR Γ0 aV ?_
  refine wZ aV ?_
  exact fun E => rfl
 rw [if_neg (show ¬ op = 6 by simpa using hc)]
 clear hc
 refine vR Γ0 aV ?_
 refine wC aV (fun hc => ?_) (fun hc => ?_)
 ·have h : op = 7 := by simpa using hc
  rw [if_pos h]
  refine vR Γ0 aV ?_
  refine wZ aV ?_
  exact fun E => rfl
 rw [if_neg (show ¬ op = 7 by simpa using hc)]
 clear hc
 refine vR Γ0 aV ?_
 refine wC aV (fun hc => ?_) (fun hc => ?_)
 ·have h : op = 8 := by simpa using hc
  rw [if_pos h]
  refine vR Γ0 aV ?_
  refine wZ aV ?_
  exact fun E => rfl
 rw [if_neg (show ¬ op = 8 by simpa using hc)]
 clear hc
 refine vR Γ0 aV ?_
 refine wC aV (fun hc => ?_) (fun hc => ?_)
 ·have h : op = 9 := by simpa using hc
  rw [if_pos h]
  refine vR Γ0 aV ?_
  refine wZ aV ?_
  exact fun E => rfl
 rw [if_neg (show ¬ op = 9 by simpa using hc)]
 clear hc
 refine vR Γ0 aV ?_
 refine wC aV (fun hc => ?_) (fun hc => ?_)
 ·have h : op = 10 := by simpa using hc
  rw [if_pos h]
  refine vR Γ0 aV ?_
  refine wZ aV ?_
  exact fun E => rfl
 rw [if_neg (show ¬ op = 10 by simpa using hc)]
 clear hc
 refine vR Γ0 aV ?_
 refine wC aV (fun hc => ?_) (fun hc => ?_)
 ·have h : op = 11 := by simpa using hc
  rw [if_pos h]
  refine vR Γ0 aV ?_
  refine wZ aV ?_
  exact fun E => rfl
 rw [if_neg (show ¬ op = 11 by simpa using hc)]
 clear hc
 refine vR Γ0 aV ?_
 refine wC aV (fun hc => ?_) (fun hc => ?_)
 ·have h : op = 12 := by simpa using hc
  rw [if_pos h]
  refine vR Γ0 aV ?_
  refine wZ aV ?_
  exact fun E => rfl
 rw [if_neg (show ¬ op = 12 by simpa using hc)]
 clear hc
 refine vR Γ0 aV ?_
 refine wC aV (fun hc => ?_) (fun hc => ?_)
 ·have h : op = 13 := by simpa using hc
  rw [if_pos h]
  refine vR Γ0 aV ?_
  refine wZ aV ?_
  exact fun E => rfl
 rw [if_neg (show ¬ op = 13 by simpa using hc)]
 clear hc
 refine vR Γ0 aV ?_
 refine wC aV (fun hc => ?_) (fun hc => ?_)
 ·have h : op = 14 := by simpa using hc
  rw [if_pos h]
  refine vR Γ0 aV ?_
  refine wZ aV ?_
  exact fun E => rfl
 rw [if_neg (show ¬ op = 14 by simpa using hc)]
 clear hc
 refine vR Γ0 aV ?_
 refine wC aV (fun hc => ?_) (fun hc => ?_)
 ·have h : op = 15 := by simpa using hc
  rw [if_pos h]
  refine vR Γ0 aV ?_
  refine wZ aV ?_
  exact fun E => rfl
 rw [if_neg (show ¬ op = 15 by simpa using hc)]
 clear hc
 refine vR Γ0 aV ?_
 refine wC aV (fun hc => ?_) (fun hc => ?_)
 ·have h : op = 16 := by simpa using hc
  rw [if_pos h]
  refine vR Γ0 aV ?_
  refine wZ aV ?_
  exact fun E => rfl
 rw [if_neg (show ¬ op = 16 by simpa using hc)]
 clear hc
 refine vR Γ0 aV ?_
 refine wC aV (fun hc => ?_) (fun hc => ?_)
 ·have h : op = 17 := by simpa using hc
  rw [if_pos h]
  refine vR Γ0 aV ?_
  refine wZ aV ?_
  exact fun E => rfl
 rw [if_neg (show ¬ op = 17 by simpa using hc)]
 clear hc
 refine vR Γ0 aV ?_
 refine wC aV (fun hc => ?_) (fun hc => ?_)
 ·have h : op = 18 := by simpa using hc
  rw [if_pos h]
  refine vR Γ0 aV ?_
  refine wZ aV ?_
  exact fun E => rfl
 rw [if_neg (show ¬ op = 18 by simpa using hc)]
 clear hc
 refine vR Γ0 aV ?_
 refine wC aV (fun hc => ?_) (fun hc => ?_)
 ·have h : op = 19 := by simpa using hc
  rw [if_pos h]
  refine vR Γ0 aV ?_
  refine wZ aV ?_
  exact fun E => rfl
 rw [if_neg (show ¬ op = 19 by simpa using hc)]
 clear hc
 refine vR Γ0 aV ?_
 refine wC aV (fun hc => ?_) (fun hc => ?_)
 ·have h : op = 20 := by simpa using hc
  rw [if_pos h]
  refine vR Γ0 aV ?_
  refine wZ aV ?_
  exact fun E => rfl
 rw [if_neg (show ¬ op = 20 by simpa using hc)]
 clear hc
 refine wK ?_
 refine vR Γ0 aV ?_
 refine wZ aV ?_
 exact fun E => rfl
def yD : aU Tryz.prog 70 where
 pre := fun W bs => fun | [.val (.int .i64 op)] => True | _ => False
 res := fun W => fun | [.val (.int .i64 op)] => .tuple #[.string (cP op).1, .string (cP op).2] | _ => undef
 enters := Tryz.call70
 ok := by
  intro W w bs us as_ hk hu hp
  split at hp
  ·rename_i op
   match us, hu with
   | [u0], hu =>
    obtain ⟨rfl, _⟩ := hu
    exact N1 op w
  ·exact hp.elim
theorem rj (W : World) (op : Int) : yD.res W [.val (.int .i64 op)] = .tuple #[.string (cP op).1, .string (cP op).2] := rfl
theorem rB (W : World) (bs : List Nat) (op : Int) : yD.pre W bs [.val (.int .i64 op)] = (True) := rfl
abbrev Vv (a1 a2 a3 : Option Addr) (n1 n2 n3 c1 c2 c3 : Nat) (s v : Int) : Value := .agg #[.slice a1 n1 c1, .slice a2 n2 c2, .slice a3 n3 c3, .int .i64 s, .int .i64 v]
def pM (n1 n2 n3 : Nat) (u n : Int) : Bool := if u = 1 then lO n n3 else if u = 2 then lO n n1 else if u = 3 then lO n n2 else decide (n = 0)
def iu := (de aV @rj @rB)
set_option maxHeartbeats 2000000 in
theorem Pj (a1 a2 a3 : Option Addr) (n1 n2 n3 c1 c2 c3 : Nat) (s v u n : Int) (w : World) : Calls Tryz.prog 73 #[Vv a1 a2 a3 n1 n2 n3 c1 c2 c3 s v, .int .i64 u, .int .i64 n] w fun e w' => e = .returned (.bool (pM n1 n2 n3 u n)) /\ ai w [] w' := by
 refine aj (nt := 33) [.tmp 6] Tryz.func73 rfl rfl rfl ?_
 refine vR Γ0 iu ?_
 refine vR Γ0 iu ?_
 by_cases hu : u = 1 \/ u = 2 \/ u = 3
 ·obtain ⟨m, hm⟩ : ∃ m : Nat, m = if u = 1 then n3 else if u = 2 then n1 else n2 := ⟨_, rfl⟩
  have e : pM n1 n2 n3 u n = lO n m := by
   rw [pM]
   rcases hu with h | h | h
   ·rw [hm, if_pos h, if_pos h]
   ·rw [hm, if_neg (by omega), if_pos h, if_neg (by omega), if_pos h]
   ·rw [hm, if_neg (by omega), if_neg (by omega), if_pos h, if_neg (by omega), if_neg (by omega)]
  rw [e]
  refine bp ⟨60, bQ [(2, .is (.v (.int .i64 n))), (7, .is (.v (.int .i64 (m : Nat))))], bY []⟩ ?_ ?_
  ·skip
   refine vR Γ0 iu ?_
   refine Wp.block ?_
   refine vR Γ0 iu ?_
   refine wC iu (fun hc => ?_) (fun hc => ?_)
   ·have h : u = 1 := by simpa using hc
    rw [if_pos h] at hm
    subst hm
    refine vr Γ0 iu ?_
    exact wM (fun k => .key k) iu
   have n1' : ¬ u = 1 := by simpa using hc
   rw [if_neg n1'] at hm
   refine vR Γ0 iu ?_
   refine wC iu (fun hc => ?_) (fun hc => ?_)
   ·have h : u = 2 := by simpa using hc
    rw [if_pos h] at hm
    subst hm
    refine vr Γ0 iu ?_
    exact wM (fun k => .key k) iu
   have n2' : ¬ u = 2 := by simpa using hc
   rw [if_neg n2'] at hm
   refine vR Γ0 iu ?_
   refine wC iu (fun hc => ?_) (fun hc => ?_)
   ·subst hm
    refine vr Γ0 iu ?_
    exact wM (fun k => .key k) iu
   ·exact absurd (by omega : u = 3) (by simpa using hc)
  refine vR Γ0 iu ?_
  refine wZ iu ?_
  exact fun E => rfl
 ·have e : pM n1 n2 n3 u n = decide (n = 0) := by rw [pM, if_neg (by omega), if_neg (by omega), if_neg (by omega)]
  rw [e]
  refine Wp.seq ?_
  refine vR Γ0 iu ?_
  refine Wp.block ?_
  refine vR Γ0 iu ?_
  refine wC iu (fun hc => ?_) (fun hc => ?_)
  ·exact absurd (.inl (by simpa using hc)) hu
  refine vR Γ0 iu ?_
  refine wC iu (fun hc => ?_) (fun hc => ?_)
  ·exact absurd (.inr (.inl (by simpa using hc))) hu
  refine vR Γ0 iu ?_
  refine wC iu (fun hc => ?_) (fun hc => ?_)
  ·exact absurd (.inr (.inr (by simpa using hc))) hu
  refine vR Γ0 iu ?_
  refine wZ iu ?_
  exact fun E => rfl
def xY : aU Tryz.prog 73 where
 pre := fun W bs as_ => ∃ (a1 a2 a3 : Option Addr) (n1 n2 n3 c1 c2 c3 : Nat) (s v u n : Int), as_ = [.val (Vv a1 a2 a3 n1 n2 n3 c1 c2 c3 s v), .val (.int .i64 u), .val (.int .i64 n)]
 res := fun _ as_ => match as_ with
  | [.val (.agg arr), .val (.int _ u), .val (.int _ n)] => (match arr.toList with
   | [.slice _ n1 _, .slice _ n2 _, .slice _ n3 _, _, _] => .bool (pM n1 n2 n3 u n)
   | _ => undef)
  | _ => undef
 enters := Tryz.call73
 ok := by
  intro W w bs us as_ hk hu hp
  obtain ⟨a1, a2, a3, n1, n2, n3, c1, c2, c3, s, v, u, n, rfl⟩ := hp
  match us, hu with
  | [x, y, z], hu =>
   obtain ⟨rfl, rfl, rfl, _⟩ := hu
   exact Pj a1 a2 a3 n1 n2 n3 c1 c2 c3 s v u n w
section
variable (W : World) (bs : List Nat) (a1 a2 a3 : Option Addr) (n1 n2 n3 c1 c2 c3 : Nat) (s v u n : Int)
theorem yo : xY.pre W bs [.val (.agg #[.slice a1 n1 c1, .slice a2 n2 c2, .slice a3 n3 c3, .int .i64 s, .int .i64 v]), .val (.int .i64 u), .val (.int .i64 n)] = True := eq_true ⟨a1, a2, a3, n1, n2, n3, c1, c2, c3, s, v, u, n, rfl⟩
theorem xt : xY.res W [.val (.agg #[.slice a1 n1 c1, .slice a2 n2 c2, .slice a3 n3 c3, .int .i64 s, .int .i64 v]), .val (.int .i64 u), .val (.int .i64 n)] = .bool (pM n1 n2 n3 u n) := rfl
end
end
section
open Go.RowKit Go.LE
set_option maxRecDepth 10000
def SU : List (ByteArray × Bool × Int × Int) := [(⟨#[104, 97, 108, 116]⟩, false, 0, 0), (⟨#[99, 97, 108, 108]⟩, false, 1, 0), (⟨#[114, 101, 116]⟩, false, 0, 0), (⟨#[106, 117, 109, 112]⟩, false, 1, 0), (⟨#[101, 109, 105, 116]⟩, true, 0, 0), (⟨#[100, 114, 111, 112]⟩, true, 0, 0), (⟨#[116, 101, 120, 116]⟩, false, 3, 0), (⟨#[112, 117, 115, 104]⟩, true, 3, 0), (⟨#[100, 117, 112]⟩, true, 0, 0), (⟨#[102, 108, 105, 112]⟩, true, 0, 0), (⟨#[109, 111, 118, 101]⟩, true, 0, 0), (⟨#[111, 112, 101, 110]⟩, false, 0, 0), (⟨#[116, 97, 107, 101]⟩, true, 0, 0), (⟨#[108, 111, 119, 101, 114]⟩, true, 0, 0), (⟨#[99, 117, 116]⟩, true, 2, 2), (⟨#[105, 110]⟩, true, 2, 1), (⟨#[99, 104, 117, 110, 107]⟩, true, 2, 0), (⟨#[109, 111, 114, 101]⟩, false, 1, 0), (⟨#[122, 105, 112]⟩, false, 0, 0), (⟨#[97, 108, 105, 103, 110]⟩, false, 1, 1), (⟨#[112, 108, 97, 110]⟩, false, 1, 1)]
def l6 (n : Nat) : ByteArray × Bool × Int × Int := SU.getD n (⟨#[]⟩, false, 0, 0)
def dK (W : World) (S : Nat -> Prop) : Prop := S 0 /\ ∀ n < 21, W.cell? ⟨0, n * 4, none⟩ = some (.string (l6 n).1) /\ W.cell? ⟨0, n * 4 + 1, none⟩ = some (.bool (l6 n).2.1) /\ W.cell? ⟨0, n * 4 + 2, none⟩ = some (.int .i64 (l6 n).2.2.1) /\ W.cell? ⟨0, n * 4 + 3, none⟩ = some (.int .i64 (l6 n).2.2.2)
theorem dK.mono {W W' : World} {S S' : Nat -> Prop} (h : dK W S) (hs : cv W S W' S') : dK W' S' := by
 obtain ⟨h0, h1⟩ := h
 have g : ∀ o v, W.cell? ⟨0, o, none⟩ = some v -> W'.cell? ⟨0, o, none⟩ = some v /\ S' 0 := fun o v hv => by
  have := XC.mono (b := 0) (o := o) (v := v) ⟨h0, hv⟩ hs
  exact ⟨this.2, this.1⟩
 refine ⟨(g _ _ (h1 0 (by omega)).1).2, fun n hn => ?_⟩
 obtain ⟨a, b, c, d⟩ := h1 n hn
 exact ⟨(g _ _ a).1, (g _ _ b).1, (g _ _ c).1, (g _ _ d).1⟩
theorem dK.fM {W w : World} {bs fp : List Nat} (h : dK W (Out bs)) (hk : ai W bs w) (hm : ∀ b ∈ fp, W.heap.size <= b \/ b ∈ bs) : dK w (Out fp) :=
 h.mono fun b hb hs => ⟨hk.block b hb hs, fun hb' => (hm b hb').elim (fun g => absurd g (Nat.not_le.2 hb)) hs⟩
def lC (n1 n2 n3 : Nat) (op k a b : Int) : Bool :=
 decide (0 <= op /\ op < 21) && (decide (k = 0) || ((l6 op.toNat).2.1 && decide (k = 1))) && (pM n1 n2 n3 (l6 op.toNat).2.2.1 a && pM n1 n2 n3 (l6 op.toNat).2.2.2 b)
abbrev U3 (op k a b : Int) : Value := .agg #[.int .i64 op, .int .i64 k, .int .i64 a, .int .i64 b]
noncomputable def Γ89 : Env Tryz.prog := ⟨fun | 73 => some xY.spec | _ => none, fun | _ => none, fun _ _ => none⟩
theorem Gt89c73 : Γ89.sp 73 = some xY.spec := rfl
def sJ := (aq @List.replicate_succ.{0} @List.replicate_zero.{0} @av @af jV jW jb (aq cW cX c8 cT cZ c9 cR (aq cV GN GS GB GU Hl Gu (aq Fe E5 Fs Hm G5 HT Hj (aq HX Gy En F2 ua IZ JM (aq JL I4 U0 Ve Vc UP UX (aq U9 Vr Vp Vh UY Vd @aN (lX @au @aA @az @xt @yo Gt89c73))))))))
set_option maxHeartbeats 2000000 in
theorem MD (a1 a2 a3 : Option Addr) (n1 n2 n3 c1 c2 c3 : Nat) (s v op k a b : Int) (w : World) (hg : dK w (Out [])) : Calls Tryz.prog 74 #[Vv a1 a2 a3 n1 n2 n3 c1 c2 c3 s v, U3 op k a b] w fun e w' => e = .returned (.bool (lC n1 n2 n3 op k a b)) /\ ai w [] w' := by
 refine aj (nt := 45) [.tmp 4] Tryz.func74 rfl rfl rfl ?_
 refine vR Γ89 sJ ?_
 refine Wp.seq ?_
 refine vR Γ89 sJ ?_
 refine wC sJ (fun hc => ?_) (fun hc => ?_)
 ·have h : ¬ (0 <= op /\ op < 21) := by simp at hc; omega
  have e : lC n1 n2 n3 op k a b = false := by rw [lC, decide_eq_false h]; rfl
  rw [e]
  refine vR Γ89 sJ ?_
  refine wZ sJ ?_
  exact fun E => rfl
 have h : 0 <= op /\ op < 21 := by simp at hc; omega
 obtain ⟨n, rfl⟩ := Int.eq_ofNat_of_zero_le h.1
 obtain ⟨g1, g2, g3, g4⟩ := hg.2 n (by omega)
 refine wK ?_
 refine wR Γ89 (oc sJ g1 g2 g3 g4) ?_ ?_
 ·omega
 have hs : lC n1 n2 n3 n k a b = ((decide (k = 0) || ((l6 n).2.1 && decide (k = 1))) && (pM n1 n2 n3 (l6 n).2.2.1 a && pM n1 n2 n3 (l6 n).2.2.2 b)) := by
  rw [lC, decide_eq_true h, Bool.true_and, Int.toNat_natCast]
 rw [hs]
 generalize (l6 n).2.1 = st at *
 generalize (l6 n).2.2.1 = u1 at *
 generalize (l6 n).2.2.2 = u2 at *
 have hk : (decide (k = 0) || (st && decide (k = 1))) = !(!decide (k = 0) && (!st || !decide (k = 1))) := by
  cases st <;> cases decide (k = 0) <;> cases decide (k = 1) <;> rfl
 rw [hk]
 refine Wp.seq ?_
 refine vR Γ89 sJ ?_
 refine wC sJ (fun hc => ?_) (fun hc => ?_)
 ·rw [hc]
  refine vR Γ89 sJ ?_
  refine wZ sJ ?_
  exact fun E => rfl
 ·rw [hc]
  refine wK ?_
  refine vR Γ89 sJ ?_
  refine wZ sJ ?_
  exact fun E => rfl
def zE : aU Tryz.prog 74 where
 pre := fun W bs as_ => (∃ (a1 a2 a3 : Option Addr) (n1 n2 n3 c1 c2 c3 : Nat) (s v op k a b : Int), as_ = [.val (Vv a1 a2 a3 n1 n2 n3 c1 c2 c3 s v), .val (U3 op k a b)]) /\ dK W (Out bs)
 res := fun _ as_ => match as_ with
  | [.val (.agg arr), .val (.agg ins)] => (match arr.toList, ins.toList with
   | [.slice _ n1 _, .slice _ n2 _, .slice _ n3 _, _, _], [.int _ op, .int _ k, .int _ a, .int _ b] => .bool (lC n1 n2 n3 op k a b)
   | _, _ => undef)
  | _ => undef
 enters := Tryz.call74
 ok := by
  intro W w bs us as_ hk hu hp
  obtain ⟨⟨a1, a2, a3, n1, n2, n3, c1, c2, c3, s, v, op, k, a, b, rfl⟩, hg⟩ := hp
  match us, hu with
  | [x, y], hu =>
   obtain ⟨rfl, rfl, _⟩ := hu
   exact MD a1 a2 a3 n1 n2 n3 c1 c2 c3 s v op k a b w (hg.fM hk (by simp))
section
variable (W : World) (bs : List Nat) (a1 a2 a3 : Option Addr) (n1 n2 n3 c1 c2 c3 : Nat) (s v op k a b : Int)
theorem GD : zE.pre W bs [.val (.agg #[.slice a1 n1 c1, .slice a2 n2 c2, .slice a3 n3 c3, .int .i64 s, .int .i64 v]), .val (.agg #[.int .i64 op, .int .i64 k, .int .i64 a, .int .i64 b])] = dK W (Out bs) :=
 propext ⟨fun h => h.2, fun h => ⟨⟨a1, a2, a3, n1, n2, n3, c1, c2, c3, s, v, op, k, a, b, rfl⟩, h⟩⟩
theorem GW : zE.res W [.val (.agg #[.slice a1 n1 c1, .slice a2 n2 c2, .slice a3 n3 c3, .int .i64 s, .int .i64 v]), .val (.agg #[.int .i64 op, .int .i64 k, .int .i64 a, .int .i64 b])] = .bool (lC n1 n2 n3 op k a b) := rfl
end
end
section
open Go.RowKit Go.LE
set_option maxRecDepth 10000
section
variable (n1 n2 n3 : Nat)
def TK (c v : Int) : Bool := if c = 120 then lO v n2 else if c = 116 then lO v n1 else lO v n3
def yF (q : ByteArray) (i v : Int) : Bool := if (q.size : Int) <= i then decide (v = 0) else TK n1 n2 n3 (bt q i) v
def xL (q : ByteArray) (a b : Int) : Bool := yF n1 n2 n3 q 0 a && yF n1 n2 n3 q 1 b
def Vf (q : ByteArray) : Bool := decide (0 < (q.size : Int)) && decide (bt q 0 = 107)
def MF (ww q : ByteArray) (k a b : Int) : Bool :=
 !decide (ww = ⟨#[]⟩) && (bif Vf q then (decide (k = 0) || decide (k = 1)) && xL n1 n2 n3 (q.extract 1 q.size) a b else decide (k = 0) && xL n1 n2 n3 q a b)
theorem K0 (op : Int) (h : ¬ (0 <= op /\ op < 21)) : cP op = (⟨#[]⟩, ⟨#[]⟩) := by
 unfold cP
 rw [if_neg (show ¬ op = 0 by omega)]
 rw [if_neg (show ¬ op = 1 by omega)]
 rw [if_neg (show ¬ op = 2 by omega)]
 rw [if_neg (show ¬ op = 3 by omega)]
 rw [if_neg (show ¬ op = 4 by omega)]
 rw [if_neg (show ¬ op = 5 by omega)]
 rw [if_neg (show ¬ op = 6 by omega)]
 rw [if_neg (show ¬ op = 7 by omega)]
 rw [if_neg (show ¬ op = 8 by omega)]
 rw [if_neg (show ¬ op = 9 by omega)]
 rw [if_neg (show ¬ op = 10 by omega)]
 rw [if_neg (show ¬ op = 11 by omega)]
 rw [if_neg (show ¬ op = 12 by omega)]
 rw [if_neg (show ¬ op = 13 by omega)]
 rw [if_neg (show ¬ op = 14 by omega)]
 rw [if_neg (show ¬ op = 15 by omega)]
 rw [if_neg (show ¬ op = 16 by omega)]
 rw [if_neg (show ¬ op = 17 by omega)]
 rw [if_neg (show ¬ op = 18 by omega)]
 rw [if_neg (show ¬ op = 19 by omega)]
 rw [if_neg (show ¬ op = 20 by omega)]
theorem VD (op k a b : Int) : MF n1 n2 n3 (cP op).1 (cP op).2 k a b = lC n1 n2 n3 op k a b := by
 by_cases h : 0 <= op /\ op < 21
 ·obtain ⟨n, rfl⟩ := Int.eq_ofNat_of_zero_le h.1
  have hn : n < 21 := by omega
  unfold MF lC
  generalize decide (k = 0) = x
  generalize decide (k = 1) = y
  match n, hn with
  | 0, _ => cases x <;> cases y <;> rfl
  | 1, _ => cases x <;> cases y <;> rfl
  | 2, _ => cases x <;> cases y <;> rfl
  | 3, _ => cases x <;> cases y <;> rfl
  | 4, _ => cases x <;> cases y <;> rfl
  | 5, _ => cases x <;> cases y <;> rfl
  | 6, _ => cases x <;> cases y <;> rfl
  | 7, _ => cases x <;> cases y <;> rfl
  | 8, _ => cases x <;> cases y <;> rfl
  | 9, _ => cases x <;> cases y <;> rfl
  | 10, _ => cases x <;> cases y <;> rfl
  | 11, _ => cases x <;> cases y <;> rfl
  | 12, _ => cases x <;> cases y <;> rfl
  | 13, _ => cases x <;> cases y <;> rfl
  | 14, _ => cases x <;> cases y <;> rfl
  | 15, _ => cases x <;> cases y <;> rfl
  | 16, _ => cases x <;> cases y <;> rfl
  | 17, _ => cases x <;> cases y <;> rfl
  | 18, _ => cases x <;> cases y <;> rfl
  | 19, _ => cases x <;> cases y <;> rfl
  | 20, _ => cases x <;> cases y <;> rfl
 ·rw [K0 op h, lC, decide_eq_false h]
  rfl
end
noncomputable def Γ90 : Env Tryz.prog := ⟨fun | 31 => some nQ.spec | 70 => some yD.spec | _ => none, fun | _ => none, fun _ _ => none⟩
theorem Gt90c31 : Γ90.sp 31 = some nQ.spec := rfl
theorem Gt90c70 : Γ90.sp 70 = some yD.spec := rfl
def bq := (aq @List.replicate_succ.{0} @List.replicate_zero.{0} @av @af jV jW XN (aq XB X8 XQ jb cW cX c8 (aq cT cZ c9 cR cV gz gv (aq gi gk gn ez ey eB eC (aq eA ew Dw B4 DD DQ SH (aq Sz Sw SQ PI QU NX NJ (aq N0 M9 QJ Ps OU Bk CM (aq Bj Bw CJ DK Bv CP Dm (aq Vs UO CX B8 BC Du @aN (aq @au @aA @az @rj @rB @nh @mQ (ab Gt90c31 Gt90c70)))))))))))
set_option maxHeartbeats 8000000 in
theorem HW (a1 a2 a3 : Option Addr) (n1 n2 n3 c1 c2 c3 : Nat) (s v op k a b : Int) (w : World) : Calls Tryz.prog 32 #[Vv a1 a2 a3 n1 n2 n3 c1 c2 c3 s v, U3 op k a b] w fun e w' => e = .returned (.bool (lC n1 n2 n3 op k a b)) /\ ai w [] w' := by
 rw [<- VD]
 refine aj (nt := 91) [.tmp 4] Tryz.func32 rfl rfl rfl ?_
 refine vR Γ90 bq ?_
 refine vR Γ90 bq ?_
 generalize (cP op).1 = ww at *
 generalize (cP op).2 = q at *
 refine Wp.seq ?_
 refine vR Γ90 bq ?_
 refine wC bq (fun hc => ?_) (fun hc => ?_)
 ·have h : ww = ⟨#[]⟩ := by simpa using hc
  have e : MF n1 n2 n3 ww q k a b = false := by rw [MF, decide_eq_true h]; rfl
  rw [e]
  refine vR Γ90 bq ?_
  refine wZ bq ?_
  exact fun E => rfl
 have h : ¬ ww = ⟨#[]⟩ := by simpa using hc
 have e0 : MF n1 n2 n3 ww q k a b = (bif Vf q then (decide (k = 0) || decide (k = 1)) && xL n1 n2 n3 (q.extract 1 q.size) a b else decide (k = 0) && xL n1 n2 n3 q a b) := by rw [MF, decide_eq_false h]; rfl
 rw [e0]
 refine wK ?_
 have hcut : ∀ R : Bool, (R = (bif Vf q then (decide (k = 0) || decide (k = 1)) && xL n1 n2 n3 (q.extract 1 q.size) a b else decide (k = 0) && xL n1 n2 n3 q a b)) -> (∃ q', R = xL n1 n2 n3 q' a b) \/ R = false := fun R hR => by
  cases hk : Vf q with
  | true =>
   rw [hk, cond_true] at hR
   cases hx : (decide (k = 0) || decide (k = 1)) with
   | true => rw [hx, Bool.true_and] at hR; exact .inl ⟨_, hR⟩
   | false => rw [hx, Bool.false_and] at hR; exact .inr hR
  | false =>
   rw [hk, cond_false] at hR
   cases hx : decide (k = 0) with
   | true => rw [hx, Bool.true_and] at hR; exact .inl ⟨_, hR⟩
   | false => rw [hx, Bool.false_and] at hR; exact .inr hR
 clear hcut
 generalize hR : (bif Vf q then (decide (k = 0) || decide (k = 1)) && xL n1 n2 n3 (q.extract 1 q.size) a b else decide (k = 0) && xL n1 n2 n3 q a b) = R
 refine iR (fun q' : ByteArray => ⟨60, bQ [(2, .is (.own 0 0)), (3, .is (.own 8 0)), (6, .is (.v (.string q')))], bY [(0, .cells 35 [.v (.slice a1 n1 c1), .v (.slice a2 n2 c2), .v (.slice a3 n3 c3), .v (.int .i64 s), .v (.int .i64 v)]), (8, .cells 85 [.v (.int .i64 op), .v (.int .i64 k), .v (.int .i64 a), .v (.int .i64 b)])]⟩) (fun _ => w) (fun _ => []) (fun q' => R = xL n1 n2 n3 q' a b) ?_ ?_
 ·skip
  refine vR Γ90 bq ?_
  refine wC bq (fun hc => ?_) (fun hc => ?_)
  ·have hk : Vf q = true := hc
   rw [hk, cond_true] at hR
   have hq : 0 < (q.size : Int) := by
    rw [Vf, Bool.and_eq_true] at hk
    simpa using hk.1
   refine Wp.seq ?_
   refine vR Γ90 bq ?_
   refine wC bq (fun hc => ?_) (fun hc => ?_)
   ·have hx : (decide (k = 0) || decide (k = 1)) = false := by
     simp at hc ⊢
     omega
    rw [hx, Bool.false_and] at hR
    subst hR
    refine vR Γ90 bq ?_
    refine wZ bq ?_
    exact fun E => rfl
   ·have hx : (decide (k = 0) || decide (k = 1)) = true := by
     simp at hc ⊢
     omega
    rw [hx, Bool.true_and] at hR
    refine wK ?_
    refine wr Γ90 bq ?_ ?_
    ·omega
    refine ⟨q.extract 1 q.size, hR.symm, rfl, rfl, ?_⟩
    exact wM (fun k => .key k) bq
  ·have hk : Vf q = false := hc
   rw [hk, cond_false] at hR
   refine vR Γ90 bq ?_
   refine wC bq (fun hc => ?_) (fun hc => ?_)
   ·have hx : decide (k = 0) = false := by simpa using hc
    rw [hx, Bool.false_and] at hR
    subst hR
    refine vR Γ90 bq ?_
    refine wZ bq ?_
    exact fun E => rfl
   ·have hx : decide (k = 0) = true := by simpa using hc
    rw [hx, Bool.true_and] at hR
    refine wK ?_
    refine ⟨q, hR.symm, rfl, rfl, ?_⟩
    exact wM (fun k => .key k) bq
 clear hR e0 h
 refine fun q' hq' _ => ?_
 subst hq'
 refine vR Γ90 bq ?_
 refine Wp.seq ?_
 refine vR Γ90 bq ?_
 refine Wp.block ?_
 refine Wp.loop (fun i : Nat => ⟨90, bQ [(2, .is (.own 0 0)), (6, .is (.v (.string q'))), (7, .is (.hd 24)), (8, .is (.v (.int .i64 ((i : Nat)))))], bY [(0, .cells 35 [.v (.slice a1 n1 c1), .v (.slice a2 n2 c2), .v (.slice a3 n3 c3), .v (.int .i64 s), .v (.int .i64 v)]), (24, .row 3 1 2 [.v (.int .i64 a), .v (.int .i64 b)])]⟩) (fun i => i <= 2 /\ (1 <= i -> yF n1 n2 n3 q' 0 a = true) /\ (2 <= i -> yF n1 n2 n3 q' 1 b = true)) (fun i => 2 - i) 0 ?_ ⟨by omega, by omega, by omega⟩ ?_
 ·exact wM (fun k => if k = 24 then .key 512 else .key k) bq
 rintro i ⟨hi, h1, h2⟩
 refine Wp.seq ?_
 refine vR Γ90 bq ?_
 refine wC bq (fun hc => ?_) (fun hc => ?_)
 ·have hlt2 : i < 2 := by
   simp at hc
   omega
  clear hc
  have hcase : i = 0 \/ i = 1 := by omega
  rcases hcase with rfl | rfl
  ·refine wK ?_
   refine Wp.seq (Wp.block ?_)
   refine Wp.seq ?_
   refine vR Γ90 bq ?_
   refine wC bq (fun hc => ?_) (fun hc => ?_)
   ·have hle : (q'.size : Int) <= 0 := by simpa using hc
    refine Wp.seq ?_
    refine vR Γ90 bq ?_
    refine wC bq (fun hc => ?_) (fun hc => ?_)
    ·have hv : yF n1 n2 n3 q' 0 a = false := by rw [yF, if_pos hle]; simpa using hc
     have e : xL n1 n2 n3 q' a b = false := by rw [xL, hv]; rfl
     rw [e]
     refine vR Γ90 bq ?_
     refine wZ bq ?_
     exact fun E => rfl
    ·have hv : yF n1 n2 n3 q' 0 a = true := by rw [yF, if_pos hle]; simpa using hc
     refine wK ?_
     refine wE ?_
     refine vr Γ90 bq ?_
     refine ⟨1, ⟨by omega, fun _ => hv, by omega⟩, by omega, ?_⟩
     exact wM (fun k => .key k) bq
   have hlt : ¬ (q'.size : Int) <= 0 := by simpa using hc
   have ho : yF n1 n2 n3 q' 0 a = TK n1 n2 n3 (bt q' 0) a := by rw [yF, if_neg hlt]
   refine wK ?_
   refine l9 Γ90 bq ?_ ?_
   ·simp
   refine bp ⟨150, bQ [(2, .is (.own 0 0)), (6, .is (.v (.string q'))), (7, .is (.hd 24)), (8, .is (.v (.int .i64 (0)))), (9, .is (.v (.bool (if bt q' 0 = 116 then lO a n1 else lO a n3))))], bY [(0, .cells 35 [.v (.slice a1 n1 c1), .v (.slice a2 n2 c2), .v (.slice a3 n3 c3), .v (.int .i64 s), .v (.int .i64 v)]), (24, .row 3 1 2 [.v (.int .i64 a), .v (.int .i64 b)])]⟩ ?_ ?_
   ·skip
    refine wR Γ90 bq ?_ ?_
    ·omega
    refine wC bq (fun hc => ?_) (fun hc => ?_)
    ·have h6 : bt q' 0 = 116 := by simpa using hc
     rw [if_pos h6]
     refine sx Γ90 bq ?_ ?_
     ·simp
     exact wM (fun k => .key k) bq
    ·have h6 : ¬ bt q' 0 = 116 := by simpa using hc
     rw [if_neg h6]
     refine wK ?_
     exact wM (fun k => .key k) bq
   refine bp ⟨200, bQ [(2, .is (.own 0 0)), (6, .is (.v (.string q'))), (7, .is (.hd 24)), (8, .is (.v (.int .i64 (0)))), (9, .is (.v (.bool (TK n1 n2 n3 (bt q' 0) a))))], bY [(0, .cells 35 [.v (.slice a1 n1 c1), .v (.slice a2 n2 c2), .v (.slice a3 n3 c3), .v (.int .i64 s), .v (.int .i64 v)]), (24, .row 3 1 2 [.v (.int .i64 a), .v (.int .i64 b)])]⟩ ?_ ?_
   ·skip
    refine wR Γ90 bq ?_ ?_
    ·omega
    refine wC bq (fun hc => ?_) (fun hc => ?_)
    ·have h6 : bt q' 0 = 120 := by simpa using hc
     rw [TK, if_pos h6]
     refine sx Γ90 bq ?_ ?_
     ·simp
     exact wM (fun k => .key k) bq
    ·have h6 : ¬ bt q' 0 = 120 := by simpa using hc
     rw [TK, if_neg h6]
     refine wK ?_
     exact wM (fun k => .key k) bq
   rw [<- ho]
   refine vR Γ90 bq ?_
   refine wC bq (fun hc => ?_) (fun hc => ?_)
   ·have hv : yF n1 n2 n3 q' 0 a = false := by simpa using hc
    have e : xL n1 n2 n3 q' a b = false := by rw [xL, hv]; rfl
    rw [e]
    refine vR Γ90 bq ?_
    refine wZ bq ?_
    exact fun E => rfl
   ·have hv : yF n1 n2 n3 q' 0 a = true := by simpa using hc
    refine wK ?_
    refine vr Γ90 bq ?_
    refine ⟨1, ⟨by omega, fun _ => hv, by omega⟩, by omega, ?_⟩
    exact wM (fun k => .key k) bq
  ·refine wK ?_
   refine Wp.seq (Wp.block ?_)
   refine Wp.seq ?_
   refine vR Γ90 bq ?_
   refine wC bq (fun hc => ?_) (fun hc => ?_)
   ·have hle : (q'.size : Int) <= 1 := by simpa using hc
    refine Wp.seq ?_
    refine vR Γ90 bq ?_
    refine wC bq (fun hc => ?_) (fun hc => ?_)
    ·have hv : yF n1 n2 n3 q' 1 b = false := by rw [yF, if_pos hle]; simpa using hc
     have e : xL n1 n2 n3 q' a b = false := by rw [xL, hv, Bool.and_false]
     rw [e]
     refine vR Γ90 bq ?_
     refine wZ bq ?_
     exact fun E => rfl
    ·have hv : yF n1 n2 n3 q' 1 b = true := by rw [yF, if_pos hle]; simpa using hc
     refine wK ?_
     refine wE ?_
     refine vr Γ90 bq ?_
     refine ⟨2, ⟨by omega, fun _ => h1 (by omega), fun _ => hv⟩, by omega, ?_⟩
     exact wM (fun k => .key k) bq
   have hlt : ¬ (q'.size : Int) <= 1 := by simpa using hc
   have ho : yF n1 n2 n3 q' 1 b = TK n1 n2 n3 (bt q' 1) b := by rw [yF, if_neg hlt]
   refine wK ?_
   refine l9 Γ90 bq ?_ ?_
   ·simp
   refine bp ⟨150, bQ [(2, .is (.own 0 0)), (6, .is (.v (.string q'))), (7, .is (.hd 24)), (8, .is (.v (.int .i64 (1)))), (9, .is (.v (.bool (if bt q' 1 = 116 then lO b n1 else lO b n3))))], bY [(0, .cells 35 [.v (.slice a1 n1 c1), .v (.slice a2 n2 c2), .v (.slice a3 n3 c3), .v (.int .i64 s), .v (.int .i64 v)]), (24, .row 3 1 2 [.v (.int .i64 a), .v (.int .i64 b)])]⟩ ?_ ?_
   ·skip
    refine wR Γ90 bq ?_ ?_
    ·omega
    refine wC bq (fun hc => ?_) (fun hc => ?_)
    ·have h6 : bt q' 1 = 116 := by simpa using hc
     rw [if_pos h6]
     refine sx Γ90 bq ?_ ?_
     ·simp
     exact wM (fun k => .key k) bq
    ·have h6 : ¬ bt q' 1 = 116 := by simpa using hc
     rw [if_neg h6]
     refine wK ?_
     exact wM (fun k => .key k) bq
   refine bp ⟨200, bQ [(2, .is (.own 0 0)), (6, .is (.v (.string q'))), (7, .is (.hd 24)), (8, .is (.v (.int .i64 (1)))), (9, .is (.v (.bool (TK n1 n2 n3 (bt q' 1) b))))], bY [(0, .cells 35 [.v (.slice a1 n1 c1), .v (.slice a2 n2 c2), .v (.slice a3 n3 c3), .v (.int .i64 s), .v (.int .i64 v)]), (24, .row 3 1 2 [.v (.int .i64 a), .v (.int .i64 b)])]⟩ ?_ ?_
   ·skip
    refine wR Γ90 bq ?_ ?_
    ·omega
    refine wC bq (fun hc => ?_) (fun hc => ?_)
    ·have h6 : bt q' 1 = 120 := by simpa using hc
     rw [TK, if_pos h6]
     refine sx Γ90 bq ?_ ?_
     ·simp
     exact wM (fun k => .key k) bq
    ·have h6 : ¬ bt q' 1 = 120 := by simpa using hc
     rw [TK, if_neg h6]
     refine wK ?_
     exact wM (fun k => .key k) bq
   rw [<- ho]
   refine vR Γ90 bq ?_
   refine wC bq (fun hc => ?_) (fun hc => ?_)
   ·have hv : yF n1 n2 n3 q' 1 b = false := by simpa using hc
    have e : xL n1 n2 n3 q' a b = false := by rw [xL, hv, Bool.and_false]
    rw [e]
    refine vR Γ90 bq ?_
    refine wZ bq ?_
    exact fun E => rfl
   ·have hv : yF n1 n2 n3 q' 1 b = true := by simpa using hc
    refine wK ?_
    refine vr Γ90 bq ?_
    refine ⟨2, ⟨by omega, fun _ => h1 (by omega), fun _ => hv⟩, by omega, ?_⟩
    exact wM (fun k => .key k) bq
 ·have hi2 : i = 2 := by
   simp at hc
   omega
  have e : xL n1 n2 n3 q' a b = true := by rw [xL, h1 (by omega), h2 (by omega)]; rfl
  rw [e]
  refine wE ?_
  refine vR Γ90 bq ?_
  refine wZ bq ?_
  exact fun E => rfl
def s3 : aU Tryz.prog 32 where
 pre := fun W bs as_ => ∃ (a1 a2 a3 : Option Addr) (n1 n2 n3 c1 c2 c3 : Nat) (s v op k a b : Int), as_ = [.val (Vv a1 a2 a3 n1 n2 n3 c1 c2 c3 s v), .val (U3 op k a b)]
 res := fun _ as_ => match as_ with
  | [.val (.agg arr), .val (.agg ins)] => (match arr.toList, ins.toList with
   | [.slice _ n1 _, .slice _ n2 _, .slice _ n3 _, _, _], [.int _ op, .int _ k, .int _ a, .int _ b] => .bool (lC n1 n2 n3 op k a b)
   | _, _ => undef)
  | _ => undef
 enters := Tryz.call32
 ok := by
  intro W w bs us as_ hk hu hp
  obtain ⟨a1, a2, a3, n1, n2, n3, c1, c2, c3, s, v, op, k, a, b, rfl⟩ := hp
  match us, hu with
  | [x, y], hu =>
   obtain ⟨rfl, rfl, _⟩ := hu
   exact HW a1 a2 a3 n1 n2 n3 c1 c2 c3 s v op k a b w
section
variable (W : World) (bs : List Nat) (a1 a2 a3 : Option Addr) (n1 n2 n3 c1 c2 c3 : Nat) (s v op k a b : Int)
theorem Dz : s3.pre W bs [.val (.agg #[.slice a1 n1 c1, .slice a2 n2 c2, .slice a3 n3 c3, .int .i64 s, .int .i64 v]), .val (.agg #[.int .i64 op, .int .i64 k, .int .i64 a, .int .i64 b])] = True :=
 eq_true ⟨a1, a2, a3, n1, n2, n3, c1, c2, c3, s, v, op, k, a, b, rfl⟩
theorem BZ : s3.res W [.val (.agg #[.slice a1 n1 c1, .slice a2 n2 c2, .slice a3 n3 c3, .int .i64 s, .int .i64 v]), .val (.agg #[.int .i64 op, .int .i64 k, .int .i64 a, .int .i64 b])] = .bool (lC n1 n2 n3 op k a b) := rfl
end
end
section
open Go.RowKit Go.LE
set_option maxRecDepth 10000
noncomputable def Γ71 : Env Tryz.prog := ⟨fun | 116 => some yK.spec | _ => none, fun | _ => none, fun _ _ => none⟩
theorem Gt71c116 : Γ71.sp 116 = some yK.spec := rfl
noncomputable def Γ72 : Env Tryz.prog := ⟨fun | 117 => some qm.spec | _ => none, fun | _ => none, fun _ _ => none⟩
theorem Gt72c117 : Γ72.sp 117 = some qm.spec := rfl
def aM := (aq jV jW HS HB E9 jb cW (aq cX c8 cT cZ c9 cR cV (aq gz gv gi gk gn ez ey (aq eB eC eA ew rG rQ sr (aq pY vL vO vp vj tE ub (aq CX B8 BC Du IG Jz I0 (aq I6 IW Nb QV Ox Pk Iz (aq I3 Ji Ia Jo Jv IX Iu (aq Iv H3 Jm Iw H0 Jh Js (aq H5 Ii Oz RS P2 QW PD (aq XJ WV yt xp yw xi pX (aq sc sv qg su rT rS rJ (aq sa rD sq W9 XK CG DG (aq Cd DE Db @aN @au @aA @az (aq @x9 @x8 @dD @Fv @Ax @yY @sV (aq @uG @pI @ui @qS @List.append_assoc.{0} @Od @pC (aq @pq @AM @qc @wW @wF @FW @Hq (aq @p9 @p7 @Ar @zO @EJ.eq_1 @yf.eq_1 @WJ.eq_1 (aq @AL.eq_1 @Gt73c116 @Gt73c118 @Gt73c119 @Gt73c120 @Gt73c121 @Gt73c122 (aq @aE @dF @kY @dd @jI @kZ @j8 (aq @gp @Gv @Gt74c123 @Gt75c124 @EO.eq_1 @yX @qj (lX @qf @nz @nP @sW Gt71c116 Gt72c117))))))))))))))))))))))
set_option maxHeartbeats 8000000 in
theorem GH (s : ByteArray) (hs : s.size <= 140737488351232) (w : World) : Calls Tryz.prog 69 #[.string s] w fun e w' =>
   ∃ u fp, e = .returned (pG (iZ s) u) /\ (∀ E', bn E' u fp w' (.row 243 261 (pN (iZ s)) ((pV (iZ s)).map .v))) /\ (∀ b ∈ fp, w.heap.size <= b /\ b < w'.heap.size) /\ ai w [] w' := by
 refine mP (nt := 310) (pG (iZ s)) [.cell 2 64, .tmp 3, .tmp 4] Tryz.func69 rfl rfl rfl ?_
 refine vR Γ72 aM ?_
 refine Wp.seq ?_
 refine vR Γ72 aM ?_
 refine wC aM (fun hc => ?_) (fun hc => ?_)
 ·have hb : 1048576 < (s.size : Int) := by simpa using hc
  have he : iZ s = .error (1, 0) := by rw [iZ, gA, if_pos hb]
  rw [he]
  refine vR Γ72 aM ?_
  refine wZ aM ?_
  exact ⟨.v jx, ⟨by decide, .inr ⟨rfl, rfl, rfl⟩⟩, fun E => rfl⟩
 have hb : ¬ 1048576 < (s.size : Int) := by simpa using hc
 refine wK ?_
 refine vR Γ72 aM ?_
 refine l9 Γ71 aM ?_ ?_
 ·exact ⟨by decide, rfl⟩
 refine vR Γ72 aM ?_
 generalize hR : Dv s = R
 refine Wp.seq (Wp.block ?_)
 refine Wp.loop (fun p : Int × List Nd × Fm × List Fm => ⟨25, bQ [(0, .is (.v (.string s))), (2, .is (.own 0 0)), (5, .is (.own 56 0)), (6, .is (.v (.int .i64 p.1)))], bY [(0, .cells 64 [.v (.slice none 0 0), .v (.int .i64 0)]), (56, .cells 232 [.hd 57, .hd 58]), (57, .row 243 261 p.2.1.length (List.map SV.v (cN p.2.1))), (58, .row 234 6 (p.2.2.2.length + 1) (List.map SV.v (pL p.2.2.2 ++ p.2.2.1.bh)))]⟩)
  (fun p => (0 <= p.1 /\ p.1 <= s.size) /\ (p.2.1.length : Int) <= 3 * p.1 /\ p.2.2.2.length <= 1000 /\ ∃ n : Nat, s.size - p.1 < n /\ ow (bt s) s.size (fj s) n p.1 p.2.1 p.2.2.1 p.2.2.2.reverse = R) (fun p => (s.size - p.1).toNat) (0, [], iE (-1), []) ?_
  ⟨⟨Int.le_refl _, by omega⟩, by simp, by simp, s.size + 1, by simp only; omega, hR⟩ ?_
 ·exact wM (fun k => if k = 57 then .nil else if k = 58 then .key 128 else .key k) aM
 rintro ⟨i, ar, f, pre⟩ ⟨⟨h0, hi⟩, hl, hp, n, hn, hrun⟩
 simp only at h0 hi hl hp hn hrun
 have wp := sQ pre (by omega)
 obtain ⟨n, rfl⟩ : ∃ m, n = m + 1 := ⟨n - 1, by omega⟩
 rw [ow] at hrun
 refine Wp.seq ?_
 refine vR Γ72 aM ?_
 refine wC aM (fun hc => ?_) (fun hc => ?_)
 ·have hlt : i < s.size := by simpa using hc
  rw [if_pos hlt] at hrun
  have w1 : IntKind.i64.wrap (i + 1) = i + 1 := aa (by omega) (by omega)
  refine wK ?_
  refine Wp.block ?_
  refine wR Γ72 aM ?_ ?_
  ·omega
  refine l9 Γ72 (ab aM wp) ?_ ?_
  ·exact ⟨⟨_, rfl⟩, by omega, by omega⟩
  refine Wp.seq ?_
  refine vR Γ72 aM ?_
  refine wC aM (fun hc => ?_) (fun hc => ?_)
  ·have hpo : bf (bt s i) := by simpa [tF] using hc
   refine Wp.seq ?_
   refine wR Γ72 aM ?_ ?_
   ·omega
   refine wC aM (fun hc => ?_) (fun hc => ?_)
   ·have hf : f.fac < 0 := by simpa using hc
    have hst : l4 (bt s) s.size (fj s) i ar f pre.reverse = .error (20, i) := by rw [l4, if_pos hpo, if_pos hf]
    rw [hst] at hrun
    have he := mv hb (hR.trans hrun.symm)
    rw [he]
    refine vR Γ72 aM ?_
    refine wZ aM ?_
    exact ⟨.v jx, ⟨by decide, .inr ⟨rfl, rfl, rfl⟩⟩, fun E => rfl⟩
   have hf : ¬ f.fac < 0 := by simpa using hc
   have hst : l4 (bt s) s.size (fj s) i ar f pre.reverse = CU (bt s) s.size i ar f pre.reverse := by rw [l4, if_pos hpo, if_neg hf]
   rw [hst, CU] at hrun
   refine wK ?_
   refine vR Γ72 (ab aM w1) ?_
   refine bp ⟨100, bQ [(0, .is (.v (.string s))), (2, .is (.own 0 0)), (5, .is (.own 56 0)), (6, .is (.v (.int .i64 (i)))), (7, .is (.v (.int .u8 (bt s i)))), (8, .is (.own 58 (pre.length * 6))), (9, .is (.v (.int .i64 (if bt s i = 43 then -2 else 0)))), (10, .is (.v (.int .i64 (-1)))), (11, .is (.v (.int .i64 (i + 1))))], bY [(0, .cells 64 [.v (.slice none 0 0), .v (.int .i64 0)]), (56, .cells 232 [.hd 57, .hd 58]), (57, .row 243 261 ar.length (List.map SV.v (cN ar))), (58, .row 234 6 (pre.length + 1) (List.map SV.v (pL pre ++ f.bh)))]⟩ ?_ ?_
   ·skip
    refine vR Γ72 aM ?_
    refine wC aM (fun hc => ?_) (fun hc => ?_)
    ·have h43 : bt s i = 43 := by simpa using hc
     rw [if_pos h43]
     refine vr Γ72 aM ?_
     exact wM (fun k => .key k) (ab aM @a6)
    ·have h43 : ¬ bt s i = 43 := by simpa using hc
     rw [if_neg h43]
     refine wK ?_
     exact wM (fun k => .key k) (ab aM @a6)
   refine bp ⟨110, bQ [(0, .is (.v (.string s))), (2, .is (.own 0 0)), (5, .is (.own 56 0)), (6, .is (.v (.int .i64 (i)))), (7, .is (.v (.int .u8 (bt s i)))), (8, .is (.own 58 (pre.length * 6))), (9, .is (.v (.int .i64 (if bt s i = 43 then -2 else 0)))), (10, .is (.v (.int .i64 (if bt s i = 63 then 1 else -1)))), (11, .is (.v (.int .i64 (i + 1))))], bY [(0, .cells 64 [.v (.slice none 0 0), .v (.int .i64 0)]), (56, .cells 232 [.hd 57, .hd 58]), (57, .row 243 261 ar.length (List.map SV.v (cN ar))), (58, .row 234 6 (pre.length + 1) (List.map SV.v (pL pre ++ f.bh)))]⟩ ?_ ?_
   ·skip
    refine vR Γ72 aM ?_
    refine wC aM (fun hc => ?_) (fun hc => ?_)
    ·have h63 : bt s i = 63 := by simpa using hc
     rw [if_pos h63]
     refine vr Γ72 aM ?_
     exact wM (fun k => .key k) (ab aM @a6)
    ·have h63 : ¬ bt s i = 63 := by simpa using hc
     rw [if_neg h63]
     refine wK ?_
     exact wM (fun k => .key k) (ab aM @a6)
   cases hm : M4 (bt s) s.size i with
   | error e =>
    obtain ⟨ec, ep⟩ := e
    have h123 : bt s i = 123 := Classical.byContradiction fun h => by rw [zM h] at hm; cases hm
    rw [hm] at hrun
    rw [zr h123] at hm
    have hne := BU hm
    have he := mv hb (hR.trans hrun.symm)
    rw [he]
    refine Wp.seq ?_
    refine vR Γ72 aM ?_
    refine wC aM (fun hc => ?_) (fun hc => ?_)
    rotate_left
    ·exact absurd h123 (by simpa using hc)
    refine vR Γ72 aM ?_
    refine wR (Γ73 ar pre f) (de aM hm @RW) ?_ ?_
    ·omega
    refine vR Γ72 aM ?_
    refine wC aM (fun hc => ?_) (fun hc => ?_)
    rotate_left
    ·exact absurd (by simpa using hc) hne
    refine vR Γ72 aM ?_
    refine wZ aM ?_
    exact ⟨.v jx, ⟨by decide, .inr ⟨rfl, rfl, rfl⟩⟩, fun E => rfl⟩
   | ok q =>
    obtain ⟨m, k, j⟩ := q
    rw [hm] at hrun
    have hgt := WD hlt hm
    refine bp ⟨150, bQ [(0, .is (.v (.string s))), (2, .is (.own 0 0)), (5, .is (.own 56 0)), (6, .is (.v (.int .i64 (i)))), (8, .is (.own 58 (pre.length * 6))), (9, .is (.v (.int .i64 (m)))), (10, .is (.v (.int .i64 (k)))), (11, .is (.v (.int .i64 (j))))], bY [(0, .cells 64 [.v (.slice none 0 0), .v (.int .i64 0)]), (56, .cells 232 [.hd 57, .hd 58]), (57, .row 243 261 ar.length (List.map SV.v (cN ar))), (58, .row 234 6 (pre.length + 1) (List.map SV.v (pL pre ++ f.bh)))]⟩ ?_ ?_
    ·skip
     refine vR Γ72 aM ?_
     refine wC aM (fun hc => ?_) (fun hc => ?_)
     ·have h123 : bt s i = 123 := by simpa using hc
      rw [zr h123] at hm
      refine vR Γ72 aM ?_
      refine wR (Γ73 ar pre f) (de aM hm @SN) ?_ ?_
      ·omega
      refine vR Γ72 aM ?_
      refine wC aM (fun hc => ?_) (fun hc => ?_)
      ·exact absurd hc (by decide)
      refine wK ?_
      exact wM (fun k => .key k) (ab aM @a6)
     ·have h123 : ¬ bt s i = 123 := by simpa using hc
      rw [zM h123] at hm
      simp only [Except.ok.injEq, Prod.mk.injEq] at hm
      obtain ⟨rfl, rfl, rfl⟩ := hm
      refine wK ?_
      exact wM (fun k => .key k) (ab aM @a6)
    refine l9 Γ72 aM ?_ ?_
    ·exact ⟨by omega, by omega, by omega, by simp [nF], by unfold maxLen; omega, by omega, Nd.dn _⟩
    have wl : IntKind.i64.wrap (((ar.length + 1 : Nat) : Int) - 1) = ((ar.length : Nat) : Int) := by rw [aa (by omega) (by omega)]; omega
    refine wR Γ72 (ab aM wl) ?_ ?_
    ·exact ⟨⟨_, rfl⟩, by omega, by omega, by omega⟩
    refine vR Γ72 aM ?_
    refine wE ?_
    refine ⟨(j, ar ++ [⟨7, 0, f.fac, 0, m, k⟩], { f with fac := ar.length }, pre), ⟨⟨by omega, by omega⟩, by simp only [List.length_append, List.length_singleton]; omega, hp, n, by omega, hrun⟩, by simp only; omega, ?_⟩
    exact wM (fun k => if k = 57 then .key 1304 else .key k) (eH aM @qG @dD @a6)
  have hpo : ¬ bf (bt s i) := by simpa [tF] using hc
  rw [l4, if_neg hpo] at hrun
  refine wK ?_
  refine Wp.seq ?_
  refine vR Γ72 aM ?_
  refine wC aM (fun hc => ?_) (fun hc => ?_)
  ·have h124 : bt s i = 124 := by simpa using hc
   rw [if_pos h124] at hrun
   have hcl := mr ar f
   refine wR (Γ73 ar pre f) aM ?_ ?_
   ·exact ⟨⟨rfl, by omega, by omega⟩, by decide, by simp⟩
   refine vR Γ72 (ab aM w1) ?_
   refine wE ?_
   refine ⟨(i + 1, (aJ ar f).1, (aJ ar f).2, pre), ⟨⟨by omega, by omega⟩, by simp only; omega, hp, n, by omega, hrun⟩, by simp only; omega, ?_⟩
   exact wM (fun k => if k = 57 then .key 400 else if k = 58 then .key 401 else .key k) (de aM @dD @a6)
  have h124 : ¬ bt s i = 124 := by simpa using hc
  rw [if_neg h124] at hrun
  refine wK ?_
  refine Wp.seq ?_
  refine vR Γ72 aM ?_
  refine wC aM (fun hc => ?_) (fun hc => ?_)
  ·have h2 : bt s i = 38 \/ bt s i = 45 := by simpa using hc
   rw [if_pos h2] at hrun
   have hcl := vA ar f
   refine wR (Γ73 ar pre f) aM ?_ ?_
   ·exact ⟨⟨rfl, by omega, by omega⟩, by decide, by simp⟩
   refine l9 Γ72 (ab aM wp) ?_ ?_
   ·exact ⟨⟨_, rfl⟩, ⟨by omega, by omega⟩, by omega, by omega⟩
   refine vR Γ72 (ab aM w1) ?_
   refine wE ?_
   refine ⟨(i + 1, (eM ar f).1, { (eM ar f).2 with sgn := bt s i }, pre), ⟨⟨by omega, by omega⟩, by simp only; omega, hp, n, by omega, hrun⟩, by simp only; omega, ?_⟩
   exact wM (fun k => if k = 57 then .key 448 else if k = 58 then .key 449 else .key k) (de aM @dD @a6)
  have h2 : ¬ (bt s i = 38 \/ bt s i = 45) := by simpa using hc
  rw [if_neg h2] at hrun
  refine wK ?_
  refine Wp.seq ?_
  refine vR Γ72 aM ?_
  refine wC aM (fun hc => ?_) (fun hc => ?_)
  ·have h41 : bt s i = 41 := by simpa using hc
   rw [if_pos h41] at hrun
   refine Wp.seq ?_
   refine vR Γ72 aM ?_
   refine wC aM (fun hc => ?_) (fun hc => ?_)
   ·have hp0 : pre = [] := by
     have : pre.length = 0 := by simp at hc; omega
     exact List.eq_nil_of_length_eq_zero this
    subst hp0
    have he := mv hb (hR.trans hrun.symm)
    rw [he]
    refine vR Γ72 aM ?_
    refine wZ aM ?_
    exact ⟨.v jx, ⟨by decide, .inr ⟨rfl, rfl, rfl⟩⟩, fun E => rfl⟩
   have hp0 : pre ≠ [] := by
    rintro rfl
    simp at hc
   obtain ⟨pre, g, rfl⟩ : ∃ pre' g, pre = pre' ++ [g] := ⟨pre.dropLast, pre.getLast hp0, (List.dropLast_concat_getLast hp0).symm⟩
   have hcl := mr ar f
   rw [List.reverse_append, List.reverse_singleton, List.singleton_append, Wd] at hrun
   have hp' : pre.length + 1 <= 1000 := by simpa using hp
   have wg : IntKind.i64.wrap (((pre ++ [g]).length : Int) - 1) = ((pre.length : Nat) : Int) := by rw [List.length_append, List.length_singleton, aa (by omega) (by omega)]; omega
   refine wK ?_
   refine wR (Γ73 ar (pre ++ [g]) f) aM ?_ ?_
   ·exact ⟨⟨rfl, by omega, by omega⟩, by decide, by simp⟩
   refine l9 Γ72 (ab aM wp) ?_ ?_
   ·exact ⟨⟨_, rfl⟩, ⟨by omega, by omega⟩, by omega, by omega⟩
   refine l9 Γ72 (ab aM wp) ?_ ?_
   ·exact ⟨⟨_, rfl⟩, by omega, by omega⟩
   refine l9 Γ72 (de aM @x6 wg) ?_ ?_
   ·exact ⟨⟨_, rfl⟩, ⟨by omega, by simp only [List.length_append, List.length_singleton]; omega⟩, by omega, by omega⟩
   refine vR Γ72 (ab aM w1) ?_
   refine wE ?_
   refine ⟨(i + 1, (aJ ar f).1, { g with fac := (aJ ar f).2.alt }, pre), ⟨⟨by omega, by omega⟩, by simp only; omega, by show pre.length <= 1000; omega, n, by omega, hrun⟩, by simp only; omega, ?_⟩
   exact wM (fun k => if k = 57 then .key 512 else if k = 58 then .key 720 else .key k) (oc aM @dD @List.length_append.{0} @List.length_singleton.{0} @a6)
  have h41 : ¬ bt s i = 41 := by simpa using hc
  rw [if_neg h41] at hrun
  refine wK ?_
  have hse := mV ar f
  refine wR (Γ73 ar pre f) aM ?_ ?_
  ·exact ⟨⟨rfl, by omega, by omega⟩, by decide, by simp⟩
  refine Wp.seq ?_
  refine vR Γ72 aM ?_
  refine wC aM (fun hc => ?_) (fun hc => ?_)
  ·have h40 : bt s i = 40 := by simpa using hc
   rw [if_pos h40, List.length_reverse] at hrun
   refine Wp.seq ?_
   refine vR Γ72 aM ?_
   refine wC aM (fun hc => ?_) (fun hc => ?_)
   ·have hd : 1000 < pre.length + 1 := by simp at hc; omega
    rw [if_pos hd] at hrun
    have he := mv hb (hR.trans hrun.symm)
    rw [he]
    refine vR Γ72 aM ?_
    refine wZ aM ?_
    exact ⟨.v jx, ⟨by decide, .inr ⟨rfl, rfl, rfl⟩⟩, fun E => rfl⟩
   have hd : ¬ 1000 < pre.length + 1 := by simp at hc; omega
   rw [if_neg hd] at hrun
   refine wK ?_
   refine l9 Γ71 aM ?_ ?_
   ·exact ⟨by unfold maxLen; omega, by omega, rfl⟩
   refine vR Γ72 (ab aM w1) ?_
   refine wE ?_
   refine ⟨(i + 1, (aD ar f).1, iE i, pre ++ [(aD ar f).2]), ⟨⟨by omega, by omega⟩, by simp only; omega, by simp only [List.length_append, List.length_singleton]; omega, n, by omega, by simp only [List.reverse_append, List.reverse_singleton, List.singleton_append]; exact hrun⟩, by simp only; omega, ?_⟩
   exact wM (fun k => if k = 57 then .key 464 else if k = 58 then .key 600 else .key k) (lX aM @dD @x6 @List.length_append.{0} @List.length_singleton.{0} @a6)
  have h40 : ¬ bt s i = 40 := by simpa using hc
  rw [if_neg h40, JC] at hrun
  refine wK ?_
  cases hit : dr s i with
  | error j =>
   have hrd : fj s i = .error (10, j) := by rw [fj, hit]
   rw [hrd] at hrun
   have he := mv hb (hR.trans hrun.symm)
   rw [he]
   refine wR (Γ73 ar pre f) (eH aM hit @Wt.eq_1 @Wt.eq_2) ?_ ?_
   ·omega
   refine Wp.seq ?_
   refine vR Γ72 aM ?_
   refine wC aM (fun hc => ?_) (fun hc => ?_)
   rotate_left
   ·exact absurd hc (by decide)
   refine vR Γ72 aM ?_
   refine wZ aM ?_
   exact ⟨.v jx, ⟨by decide, .inr ⟨rfl, rfl, rfl⟩⟩, fun E => rfl⟩
  | ok q =>
   obtain ⟨S, j⟩ := q
   have hrd : fj s i = .ok (S, j) := by rw [fj, hit]
   rw [hrd] at hrun
   have hgt := vm hit h0 hlt
   refine wR (Γ73 ar pre f) (eH aM hit @Wt.eq_1 @Wt.eq_2) ?_ ?_
   ·omega
   refine Wp.seq ?_
   refine vR Γ72 aM ?_
   refine wC aM (fun hc => ?_) (fun hc => ?_)
   ·exact absurd hc (by decide)
   refine wK ?_
   refine l9 Γ72 aM ?_ ?_
   ·exact ⟨by simp [nF], by unfold maxLen; omega, by omega, Nd.dn _⟩
   have wl : IntKind.i64.wrap ((((aD ar f).1.length + 1 : Nat) : Int) - 1) = (((aD ar f).1.length : Nat) : Int) := by rw [aa (by omega) (by omega)]; omega
   refine l9 Γ72 (de aM wp wl) ?_ ?_
   ·exact ⟨⟨_, rfl⟩, ⟨_, rfl⟩, ⟨by omega, by omega⟩, by omega, by omega⟩
   refine vr Γ72 aM ?_
   refine ⟨(j, (aD ar f).1 ++ [⟨1, S, 0, 0, 0, 0⟩], { (aD ar f).2 with fac := (aD ar f).1.length }, pre), ⟨⟨by omega, by omega⟩, by simp only [List.length_append, List.length_singleton]; omega, hp, n, by omega, hrun⟩, by simp only; omega, ?_⟩
   exact wM (fun k => if k = 57 then .key 672 else if k = 58 then .key 465 else .key k) (eH aM @qG @dD @a6)
 ·have hN : ¬ i < s.size := by simpa using hc
  rw [if_neg hN] at hrun
  have hrq : Dv s = .ok (ar, f, pre.reverse) := hR.trans hrun.symm
  refine wE ?_
  refine Wp.seq ?_
  refine vR Γ72 aM ?_
  refine wC aM (fun hc => ?_) (fun hc => ?_)
  ·have hpn : pre.reverse ≠ [] := by
    intro h
    have := congrArg List.length h
    simp at this
    subst this
    simp at hc
   rw [Lc hb hrq hpn]
   refine l9 Γ72 (ab aM wp) ?_ ?_
   ·exact ⟨⟨_, rfl⟩, ⟨by omega, by omega⟩, by omega⟩
   refine wZ aM ?_
   exact ⟨.v jx, ⟨by decide, .inr ⟨rfl, rfl, rfl⟩⟩, fun E => rfl⟩
  have hp0 : pre = [] := by
   have : pre.length = 0 := by simp at hc; omega
   exact List.eq_nil_of_length_eq_zero this
  subst hp0
  have hcl := mr ar f
  obtain ⟨ts0, t0, a1, a2, a3⟩ := SX hrq
  have hlt0 : (aJ ar f).2.alt.toNat < ts0.length := (List.getElem?_eq_some_iff.1 a3).1
  have hle0 := a1.len
  refine wK ?_
  refine wR (Γ73 ar [] f) aM ?_ ?_
  ·exact ⟨⟨rfl, by omega⟩, by decide, by simp⟩
  refine wR Γ72 (ab aM @Ay) ?_ ?_
  ·decide
  refine Wp.seq ?_
  refine wR (Γ74 (aJ ar f).1) (eH aM @Ay @IV (yZ (lU (aJ ar f).1) (aJ ar f).2.alt.toNat (by rw [kb]; omega))) ?_ ?_
  ·exact ⟨⟨⟨_, rfl, rfl, rfl, rfl⟩, a1.ok, by omega⟩, ⟨by omega, by omega⟩, by rw [kb]; omega⟩
  refine wC aM (fun hc => ?_) (fun hc => ?_)
  ·have hz : 2000 < (lU (aJ ar f).1).getD (aJ ar f).2.alt.toNat 0 := by simpa using hc
   rw [Nn hb hrq hz]
   refine vR Γ72 aM ?_
   refine wZ aM ?_
   exact ⟨.v jx, ⟨by decide, .inr ⟨rfl, rfl, rfl⟩⟩, fun E => rfl⟩
  have hz : ¬ 2000 < (lU (aJ ar f).1).getD (aJ ar f).2.alt.toNat 0 := by simpa using hc
  obtain ⟨ts, t, hd, b1, b2, b3, b4, b5⟩ := Uz hb hrq hz
  rw [hd]
  refine wK ?_
  refine Wp.kf 288 (ev (ab aM @aB)) (fun E => by simp only [an, den, aB]; exact rfl) fun W1 bs1 ao c1 hx1 hs1 hc1 => ?_
  have htt : ts.getD (aJ ar f).2.alt.toNat .eps = t := by rw [List.getD_eq_getElem?_getD, b4]; rfl
  rw [<- htt] at b5 ⊢
  have hout : eP W1 (Out bs1) ao (cN (aJ ar f).1) := hs1.out fun b hb => hb.out
  refine bp ⟨100, bQ [(2, .is (.own 0 0)), (5, .is (.own 56 0)), (19, .is (.v (.int .i64 (aJ ar f).2.alt))), (20, .is (.own 64 0))], bY [(0, .cells 64 [.v (.slice none 0 0), .v (.int .i64 0)]), (56, .cells 232 [.v (.slice ao (aJ ar f).1.length c1), .hd 58]), (58, .row 234 6 1 (List.map SV.v ((aJ ar f).2.bh))), (64, .cells 64 [.hd 65, .v (.int .i64 0)]), (65, .row 243 261 0 [])]⟩ ?_ ?_
  ·skip
   refine vr Γ72 aM ?_
   exact wM (fun k => if k = 58 then .key 289 else if k = 64 then .key 432 else if k = 65 then .nil else .key k) (eH aM @dD @Ay @Fm.bh.eq_1)
  refine wR (Γ75 (aJ ar f).1 ts ao c1 _ (C5 (aJ ar f).1 ts ao c1 b1 (aJ ar f).1.length (Nat.le_refl _))) aM ?_ ?_
  ·exact ⟨⟨⟨[], rfl, rfl⟩, ⟨b2, by omega⟩, by omega, hout⟩, by decide, by simp⟩
  refine vR Γ72 aM ?_
  refine wZ aM ?_
  exact ⟨_, ⟨by decide, .inl ⟨_, rfl, rfl⟩⟩, fun E => rfl⟩
end
section
open Go.RowKit Go.LE
set_option maxRecDepth 10000
section
variable {c : Int -> Int} {N : Int} {rd : Int -> Except (Int × Int) (BitVec 256 × Int)} (hrd : ∀ i e, rd i = .error e -> e.1 ≠ 0)
include hrd
theorem HV {i : Int} {ar : List Nd} {f : Fm} {rest : List Fm} {e : Int × Int} (h : l4 c N rd i ar f rest = .error e) : e.1 ≠ 0 := by
 unfold l4 at h
 split at h
 ·split at h
  ·cases h; show (20 : Int) ≠ 0; omega
  ·unfold CU at h
   split at h
   ·rename_i e1 hm
    cases h
    by_cases h1 : c i = 123
    ·rw [zr h1] at hm; exact BU hm
    ·rw [zM h1] at hm; cases hm
   ·cases h
 ·split at h
  ·cases h
  ·split at h
   ·cases h
   ·split at h
    ·unfold Wd at h
     split at h
     ·cases h; show (20 : Int) ≠ 0; omega
     ·cases h
    ·split at h
     ·split at h
      ·cases h; show (23 : Int) ≠ 0; omega
      ·cases h
     ·unfold JC at h
      split at h
      ·rename_i e1 hm
       cases h
       exact hrd _ _ hm
      ·cases h
theorem yH : ∀ (n : Nat) (i : Int) (ar : List Nd) (f : Fm) (rest : List Fm) (e : Int × Int), ow c N rd n i ar f rest = .error e -> e.1 ≠ 0
 | 0, i, ar, f, rest, e, h => by cases h
 | n + 1, i, ar, f, rest, e, h => by
  rw [ow] at h
  split at h
  ·split at h
   ·rename_i e1 hs
    cases h
    exact HV hrd hs
   ·exact yH n _ _ _ _ e h
  ·cases h
theorem DW {e : Int × Int} (h : iD c N rd = .error e) : e.1 ≠ 0 := by
 unfold iD at h
 split at h
 ·cases h; show (1 : Int) ≠ 0; omega
 ·unfold Aw at h
  split at h
  ·rename_i e1 hr
   cases h
   exact yH hrd _ _ _ _ _ _ hr
  ·split at h
   ·cases h; show (21 : Int) ≠ 0; omega
   ·split at h
    ·cases h; show (24 : Int) ≠ 0; omega
    ·cases h
end
theorem yl {s : ByteArray} {c p : Int} (h : iZ s = .error (c, p)) : c ≠ 0 := by
 have hd : gA (bt s) s.size (fj s) = .error (c, p) := h
 have h1 := kE (c := bt s) (N := s.size) (rd := fj s) (by omega)
 rw [hd] at h1
 cases h2 : iD (bt s) s.size (fj s) with
 | error e =>
  rw [h2] at h1
  have he : (c, p) = e := h1
  have := DW (rd := fj s) (fun i e hi => by
   unfold fj at hi
   split at hi
   ·cases hi; show (10 : Int) ≠ 0; omega
   ·cases hi) h2
  rw [<- he] at this
  exact this
 | ok q => rw [h2] at h1; exact h1.elim
theorem PW {P : Program} {eqs : (T : TypeId) -> Option (EqSpec P T)} (h : Hp) (T : TypeId) (X Y : Operand) (b : ByteArray) : bE P eqs h .eql T X Y [.v undef, .v (.string b)] = .bad := rfl
theorem Fq (W : World) : j6.res W [.val .nilIface] = undef := by
 have hn : dec aF .nilIface = none := by
  unfold dec
  rw [dif_neg]
  rintro ⟨t, ht⟩
  cases t <;> cases ht
 simp only [j6, hn]
noncomputable def Γ85 : Env Tryz.prog := ⟨fun | 71 => some ze.spec | 72 => some j6.spec | _ => none, fun | 39 => some Ah | _ => none, fun _ _ => none⟩
theorem Gt85c71 : Γ85.sp 71 = some ze.spec := rfl
theorem Gt85c72 : Γ85.sp 72 = some j6.spec := rfl
theorem Gt85ceq39 : Γ85.eqs 39 = some Ah := rfl
def DZ := (aq @List.replicate_succ.{0} @List.replicate_zero.{0} @av @af jV jW jb (aq cW cX c8 cT cZ c9 cR (aq cV ez ey eB eC eA ew (aq Ak zz AP zl AJ z7 AE (aq Ae zI zd vL vO vp vj (aq tE ub W7 Xb rU rV sb (aq rX XY Yc @aN @au @aA @az (aq @He @GI @Cp @Ca @uB @dM @dm (aq @gG @bM @PW @bad_eq @Fq Gt85c71 Gt85c72 Gt85ceq39)))))))))
set_option maxHeartbeats 2000000 in
theorem LB (s : ByteArray) (w : World) (hs : s.size <= 140737488351232) (hg : ba w (Out [])) : Calls Tryz.prog 33 #[.string s] w fun e w' => e = .returned (.bool (yE s)) /\ ai w [] w' := by
 refine aj (nt := 19) [.tmp 2] Tryz.func33 rfl rfl rfl ?_
 refine vR Γ85 DZ ?_
 cases hd : iZ s with
 | error q =>
  obtain ⟨c, p⟩ := q
  have hp : oe s = .error (c, p) := by rw [xH, hd]; rfl
  have hne := yl hd
  have ht : yE s = false := by rw [yE, hd]
  rw [ht]
  refine wR Γ85 (oc DZ hp @oR.eq_1 @oR.eq_2 @tZ.eq_1) ?_ ?_
  ·exact ⟨hs, hg⟩
  refine wR Γ85 (ab DZ hne) ?_ ?_
  ·simp
  refine wZ DZ ?_
  exact fun E => rfl
 | ok t =>
  have hp : oe s = .ok t.expand := by rw [xH, hd]; rfl
  have hsz := vk hd
  have ht : yE s = decide (bU t.expand = s) := by rw [yE, hd]
  rw [ht]
  refine wR Γ85 (oc DZ hp @oR.eq_1 @oR.eq_2 @tZ.eq_1) ?_ ?_
  ·exact ⟨hs, hg⟩
  refine wR Γ85 DZ ?_ ?_
  ·exact fun _ => ⟨by omega, hg⟩
  refine wZ DZ ?_
  exact fun E => rfl
def qO : aU Tryz.prog 33 where
 pre := fun W bs => fun | [.val (.string s)] => s.size <= 140737488351232 /\ ba W (Out bs) | _ => False
 res := fun W => fun | [.val (.string s)] => .bool (yE s) | _ => undef
 enters := Tryz.call33
 ok := by
  intro W w bs us as_ hk hu hp
  split at hp
  ·rename_i s
   match us, hu with
   | [u0], hu =>
    obtain ⟨rfl, _⟩ := hu
    exact LB s w hp.1 (hp.2.fM hk (by simp))
  ·exact hp.elim
theorem um (W : World) (s : ByteArray) : qO.res W [.val (.string s)] = .bool (yE s) := rfl
theorem ud (W : World) (bs : List Nat) (s : ByteArray) : qO.pre W bs [.val (.string s)] = (s.size <= 140737488351232 /\ ba W (Out bs)) := rfl
def pT : Except (Int × Int) RT -> SV -> SV
 | .ok t, x => .tup [.agg [x, .v (.int .i64 ((aG t.expand - 1 : Nat) : Int))], .v (.int .i64 0), .v (.int .i64 0)]
 | .error (c, p), x => .tup [.agg [x, .v (.int .i64 0)], .v (.int .i64 c), .v (.int .i64 p)]
def Ap (s : ByteArray) : xP Tryz.prog 69 where
 pre := fun W bs as_ => as_ = [.val (.string s)] /\ s.size <= 140737488351232
 T := 243
 s := 261
 n := fun _ _ => pN (iZ s)
 vs := fun _ _ => pV (iZ s)
 tm := fun _ _ x => pT (iZ s) x
 g := fun _ _ v => pG (iZ s) v
 tmg := fun _ _ E x => by cases iZ s with | ok t => rfl | error q => rfl
 tmk := fun _ _ x k hk => by
  cases hd : iZ s with
  | ok t => rw [hd] at hk; simpa [pT, SV.keys, ax] using hk
  | error q => rw [hd] at hk; simpa [pT, SV.keys, ax] using hk
 enters := Tryz.call69
 ok := by
  intro W w bs us as_ hk hu hp
  obtain ⟨rfl, h1⟩ := hp
  match us, hu with
  | [u], hu =>
   obtain ⟨rfl, _⟩ := hu
   exact GH s h1 w
noncomputable def Γ86 (s : ByteArray) : Env Tryz.prog := ⟨fun | 69 => some (Ap s).spec | _ => none, fun _ => none, fun _ _ => none⟩
theorem Gt86c69 (s : ByteArray) : (Γ86 s).sp 69 = some (Ap s).spec := rfl
noncomputable def Γ87 (l : List Nd) (ao : Option Addr) (c : Nat) (i : Nat) (t : Rx) (hsz : aG t <= 4000000) (ht : ml l i t) : Env Tryz.prog := ⟨fun | 60 => some (tc l ao c i t hsz ht).spec | _ => none, fun _ => none, fun _ _ => none⟩
theorem Gt87c60 (l : List Nd) (ao : Option Addr) (c : Nat) (i : Nat) (t : Rx) (hsz : aG t <= 4000000) (ht : ml l i t) : (Γ87 l ao c i t hsz ht).sp 60 = some (tc l ao c i t hsz ht).spec := rfl
theorem TA : aG .eps <= 4000000 := by decide
theorem Ug : ml [bP 0 0 0] 0 .eps := ⟨_, rfl, rfl⟩
noncomputable def NQ : aU Tryz.prog 60 := tc [bP 0 0 0] none 0 0 .eps TA Ug
noncomputable def Γ88 : Env Tryz.prog := ⟨fun | 60 => some NQ.spec | _ => none, fun _ => none, fun _ _ => none⟩
theorem Gt88c60 : Γ88.sp 60 = some NQ.spec := rfl
theorem MY (W : World) (l : List AV) : NQ.res W l = .string (bU .eps) := rfl
def zY := (aq DZ @um @ud @Gt86c69 @Gt87c60 @Ap.eq_1 @tc.eq_1 (ab @Gt88c60 @MY))
set_option maxHeartbeats 2000000 in
theorem Ku (s : ByteArray) (w : World) (hs : s.size <= 140737488351232) : Calls Tryz.prog 30 #[.string s] w fun e w' => e = .returned (.bool (yE s)) /\ ai w [] w' := by
 refine aj (nt := 20) [.tmp 2] Tryz.func30 rfl rfl rfl ?_
 refine vR Γ85 zY ?_
 cases hd : iZ s with
 | error q =>
  obtain ⟨c, p⟩ := q
  have hne := yl hd
  have ht : yE s = false := by rw [yE, hd]
  rw [ht]
  refine wR (Γ86 s) (aq zY hd @pN.eq_1 @pN.eq_2 @pV.eq_1 @pV.eq_2 @pT.eq_1 @pT.eq_2) ?_ ?_
  ·exact hs
  refine Wp.kf 16 (ev zY) (fun E => by simp only [an, den, List.map_nil]; exact rfl) fun W1 bs1 ao c1 hx1 hs1 hc1 => ?_
  refine wR Γ88 (ab zY hne) ?_ ?_
  ·simp
  refine wZ zY ?_
  exact fun E => rfl
 | ok t =>
  have hsz := vk hd
  have ht : yE s = decide (bU t.expand = s) := by rw [yE, hd]
  have hit : ml (dx 0 t.expand) (aG t.expand - 1) t.expand := by
   have := VY t.expand [] []
   simpa using this
  have hll := eZ t.expand 0
  rw [ht]
  refine wR (Γ86 s) (aq zY hd @pN.eq_1 @pN.eq_2 @pV.eq_1 @pV.eq_2 @pT.eq_1 @pT.eq_2) ?_ ?_
  ·exact hs
  refine Wp.kf 16 (ev (ab zY @aB)) (fun E => by simp only [an, den, aB]; exact rfl) fun W1 bs1 ao c1 hx1 hs1 hc1 => ?_
  have hout : eP W1 (Out bs1) ao (cN (dx 0 t.expand)) := hs1.out fun b hb => hb.out
  refine wR (Γ87 (dx 0 t.expand) ao c1 (aG t.expand - 1) t.expand (by omega) hit) zY ?_ ?_
  ·exact ⟨by rw [hll], hout⟩
  refine wZ zY ?_
  exact fun E => rfl
def Ad : aU Tryz.prog 30 where
 pre := fun W bs => fun | [.val (.string s)] => s.size <= 140737488351232 | _ => False
 res := fun W => fun | [.val (.string s)] => .bool (yE s) | _ => undef
 enters := Tryz.call30
 ok := by
  intro W w bs us as_ hk hu hp
  split at hp
  ·rename_i s
   match us, hu with
   | [u0], hu =>
    obtain ⟨rfl, _⟩ := hu
    exact Ku s w hp
  ·exact hp.elim
theorem FP (W : World) (s : ByteArray) : Ad.res W [.val (.string s)] = .bool (yE s) := rfl
theorem Fu (W : World) (bs : List Nat) (s : ByteArray) : Ad.pre W bs [.val (.string s)] = (s.size <= 140737488351232) := rfl
end
section
open Go.RowKit Go.LE
set_option maxRecDepth 10000
structure Pg where
 ty : List ByteArray
 tx : List ByteArray
 co : List (Int × Int × Int × Int)
 src : Int
 vw : Int
def dH (l : List ByteArray) : List Value := l.map .string
def R4 (x : Int × Int × Int × Int) : List Value := [.int .i64 x.1, .int .i64 x.2.1, .int .i64 x.2.2.1, .int .i64 x.2.2.2]
def j4 (l : List (Int × Int × Int × Int)) : List Value := l.flatMap R4
theorem OS (l : List (Int × Int × Int × Int)) : (j4 l).length = l.length * 4 := by
 induction l with
 | nil => rfl
 | cons d r ih =>
  have : j4 (d :: r) = R4 d ++ j4 r := rfl
  rw [this, List.length_append, ih, List.length_cons]
  show 4 + _ = _
  omega
theorem BW : ∀ (l : List (Int × Int × Int × Int)) (k j : Nat) (hk : k < l.length), j < 4 -> (j4 l)[k * 4 + j]? = (R4 l[k])[j]?
 | d :: r, 0, j, hk, hj => by
  have : j4 (d :: r) = R4 d ++ j4 r := rfl
  rw [this, List.getElem?_append_left (by show 0 * 4 + j < 4; omega), Nat.zero_mul, Nat.zero_add]
  rfl
 | d :: r, k + 1, j, hk, hj => by
  have : j4 (d :: r) = R4 d ++ j4 r := rfl
  rw [this, List.getElem?_append_right (by show 4 <= _; omega), show (k + 1) * 4 + j - (R4 d).length = k * 4 + j by show _ - 4 = _; omega]
  exact BW r k j (by simpa using hk) hj
theorem ll {w : World} {ao : Option Addr} {l : List ByteArray} (h : kn w ao (dH l)) {k : Nat} (hk : k < l.length) : ∃ b o, ao = some ⟨b, o, none⟩ /\ w.cell? ⟨b, o + k, none⟩ = some (.string l[k]) := by
 rcases h with h | ⟨b, o, rfl, hc⟩
 ·have h0 : l = [] := by simpa [dH] using h
  subst h0
  cases hk
 ·refine ⟨b, o, rfl, ?_⟩
  have := hc k (by simpa [dH] using hk)
  rw [this]
  simp [dH]
theorem kD {w : World} {ao : Option Addr} {l : List (Int × Int × Int × Int)} (h : kn w ao (j4 l)) {k : Nat} (hk : k < l.length) : ∃ b o, ao = some ⟨b, o, none⟩ /\ w.cell? ⟨b, o + k * 4, none⟩ = some (.int .i64 l[k].1) /\
  w.cell? ⟨b, o + k * 4 + 1, none⟩ = some (.int .i64 l[k].2.1) /\ w.cell? ⟨b, o + k * 4 + 1 + 1, none⟩ = some (.int .i64 l[k].2.2.1) /\ w.cell? ⟨b, o + k * 4 + 1 + 1 + 1, none⟩ = some (.int .i64 l[k].2.2.2) := by
 have hl := OS l
 rcases h with h | ⟨b, o, rfl, hc⟩
 ·rw [h] at hl; simp at hl; omega
 ·have key : ∀ j (hj : j < 4) (v : Value), (R4 l[k])[j]? = some v -> w.cell? ⟨b, o + k * 4 + j, none⟩ = some v := fun j hj v hv => by
   have h1 := hc (k * 4 + j) (by omega)
   have h2 := BW l k j hk hj
   rw [hv, List.getElem?_eq_getElem (by omega)] at h2
   rw [<- Nat.add_assoc] at h1
   rw [h1]
   exact h2
  exact ⟨b, o, rfl, key 0 (by omega) _ rfl, key 1 (by omega) _ rfl, key 2 (by omega) _ rfl, key 3 (by omega) _ rfl⟩
def ek (P : Nat -> Bool) : Nat -> Nat -> Option Nat
 | 0, _ => none
 | k + 1, j => bif P j then some j else ek P k (j + 1)
theorem nM (P : Nat -> Bool) (n j : Nat) (hj : j < n) (h : ∀ i < j, P i = false) (hp : P j = true) : ek P n 0 = some j := by
 have key : ∀ k i, i + k = n -> i <= j -> ek P k i = some j := by
  intro k
  induction k with
  | zero => intro i h1 h2; omega
  | succ k ih =>
   intro i h1 h2
   unfold ek
   by_cases e : i = j
   ·subst e; rw [hp]; rfl
   ·rw [h i (by omega)]
    exact ih (i + 1) (by omega) (by omega)
 exact key n 0 (by omega) (Nat.zero_le _)
theorem ir (P : Nat -> Bool) (n : Nat) (h : ∀ i < n, P i = false) : ek P n 0 = none := by
 have key : ∀ k i, i + k = n -> ek P k i = none := by
  intro k
  induction k with
  | zero => intro i h1; rfl
  | succ k ih =>
   intro i h1
   unfold ek
   rw [h i (by omega)]
   exact ih (i + 1) (by omega)
 exact key n 0 (by omega)
section
variable (p : Pg)
def nV (i : Nat) : Bool := !yE (p.ty.getD i ⟨#[]⟩)
def oP (i : Nat) : Bool := !lC p.ty.length p.tx.length p.co.length (p.co.getD i (0, 0, 0, 0)).1 (p.co.getD i (0, 0, 0, 0)).2.1 (p.co.getD i (0, 0, 0, 0)).2.2.1 (p.co.getD i (0, 0, 0, 0)).2.2.2
def Na : ByteArray := ⟨#[109, 97, 105, 110]⟩
def jN : Int × Int × ByteArray :=
 if (!lO p.src p.ty.length || !lO p.vw p.ty.length) = true then (111, 0, Na)
 else match ek (oP p) p.co.length 0 with
  | some i => (111, i, ⟨#[]⟩)
  | none => (0, 0, ⟨#[]⟩)
def jZ : Int × Int × ByteArray :=
 if (131072 < p.ty.length \/ 131072 < p.tx.length) \/ 131072 < p.co.length then (24, 0, ⟨#[]⟩)
 else match ek (nV p) p.ty.length 0 with
  | some i => (110, i, ⟨#[]⟩)
  | none => jN p
structure PgB : Prop where
 l1 : p.ty.length <= 140737488351232
 l2 : p.tx.length <= 140737488351232
 l3 : p.co.length <= 140737488351232
 sz : ∀ s ∈ p.ty, s.size <= 140737488351232
structure qd (w : World) (a1 a2 a3 : Option Addr) : Prop extends PgB p where
 ty : kn w a1 (dH p.ty)
 tx : kn w a2 (dH p.tx)
 co : kn w a3 (j4 p.co)
def zQ (W : World) (S : Nat -> Prop) (a1 a2 a3 : Option Addr) : Prop := eP W S a1 (dH p.ty) /\ eP W S a2 (dH p.tx) /\ eP W S a3 (j4 p.co)
theorem zQ.ok {p : Pg} {W w : World} {bs : List Nat} {a1 a2 a3 : Option Addr} (h : zQ p W (Out bs) a1 a2 a3) (hb : PgB p) (hk : ai W bs w) : qd p w a1 a2 a3 :=
 ⟨hb, gN h.1 hk, gN h.2.1 hk, gN h.2.2 hk⟩
theorem qd.x {p : Pg} {w : World} {a1 a2 a3 : Option Addr} (h : qd p w a1 a2 a3) : zQ p w (Out []) a1 a2 a3 :=
 ⟨(eP.lW h.ty).out fun _ _ => by simp [Out], (eP.lW h.tx).out fun _ _ => by simp [Out], (eP.lW h.co).out fun _ _ => by simp [Out]⟩
abbrev Bc (a1 a2 a3 : Option Addr) (c1 c2 c3 : Nat) : Value := Vv a1 a2 a3 p.ty.length p.tx.length p.co.length c1 c2 c3 p.src p.vw
def HQ (q : Int × Int × ByteArray) : Value := tZ q.1 q.2.1 q.2.2
end
theorem YD (n1 n2 n3 : Nat) (n : Int) : pM n1 n2 n3 2 n = lO n n1 := rfl
noncomputable def Γ91 : Env Tryz.prog := ⟨fun | 33 => some qO.spec | 73 => some xY.spec | 74 => some zE.spec | _ => none, fun | _ => none, fun _ _ => none⟩
theorem Gt91c33 : Γ91.sp 33 = some qO.spec := rfl
theorem Gt91c73 : Γ91.sp 73 = some xY.spec := rfl
theorem Gt91c74 : Γ91.sp 74 = some zE.spec := rfl
def lK := (aq @List.replicate_succ.{0} @List.replicate_zero.{0} @av @af jV jW jb (aq cW cX c8 cT cZ c9 cR (aq cV ez ey eB eC eA ew (aq Dw B4 DD DQ O0 QD Pq (aq QZ GN GS GB GU Hl Gu (aq Fe E5 Fs Ak zz AP zl (aq AJ z7 AE Ae zI zd Hm (aq G5 HT Hj HX Gy En F2 (aq ua IZ JM JL I4 @aN @au (aq @aA @az @xt @yo @GW @GD @um (oc @ud @uB Gt91c33 Gt91c73 Gt91c74)))))))))))
set_option maxHeartbeats 4000000 in
theorem LP (p : Pg) (a1 a2 a3 : Option Addr) (c1 c2 c3 : Nat) (w : World) (hp : qd p w a1 a2 a3) (hg : dK w (Out [])) : Calls Tryz.prog 34 #[Bc p a1 a2 a3 c1 c2 c3] w fun e w' => e = .returned (HQ (jN p)) /\ ai w [] w' := by
 have h3 := hp.l3
 refine aj (nt := 34) [.cell 2 39] Tryz.func34 rfl rfl rfl ?_
 refine vR Γ91 lK ?_
 refine Wp.seq ?_
 refine vR Γ91 (ab lK @YD) ?_
 refine wC lK (fun hc => ?_) (fun hc => ?_)
 ·have e : jN p = (111, 0, Na) := by rw [jN, if_pos hc]
  rw [e]
  refine vR Γ91 lK ?_
  refine wZ lK ?_
  exact fun E => rfl
 have e0 : jN p = match ek (oP p) p.co.length 0 with
  | some i => (111, (i : Int), ⟨#[]⟩)
  | none => (0, 0, ⟨#[]⟩) := by rw [jN, if_neg (by rw [hc]; simp)]
 rw [e0]
 refine wK ?_
 refine Wp.seq ?_
 refine vR Γ91 lK ?_
 refine Wp.block ?_
 refine Wp.loop (fun k : Nat => ⟨40, bQ [(1, .is (.own 0 0)), (2, .is (.own 8 0)), (19, .is (.v (.slice a3 p.co.length c3))), (20, .is (.v (.int .i64 p.co.length))), (21, .is (.v (.int .i64 (k : Nat))))], bY [(0, .cells 29 [.v (.slice a1 p.ty.length c1), .v (.slice a2 p.tx.length c2), .v (.slice a3 p.co.length c3), .v (.int .i64 p.src), .v (.int .i64 p.vw)]), (8, .cells 39 [.v (.int .i64 0), .v (.int .i64 0), .v (.string ⟨#[]⟩)])]⟩) (fun k => k <= p.co.length /\ ∀ i < k, oP p i = false) (fun k => p.co.length - k) 0 ?_ ⟨Nat.zero_le _, fun i h => by omega⟩ ?_
 ·exact wM (fun k => .key k) lK
 rintro k ⟨hk, hn⟩
 refine vR Γ91 lK ?_
 refine Wp.seq ?_
 refine wC lK (fun hc => ?_) (fun hc => ?_)
 ·have hlt : k < p.co.length := by
   simp at hc
   omega
  have wk : IntKind.i64.wrap ((k : Int) + 1) = ((k + 1 : Nat) : Int) := by rw [aa (by omega) (by omega)]; omega
  obtain ⟨b, o, rfl, x1, x2, x3, x4⟩ := kD hp.co hlt
  have hbad : oP p k = !lC p.ty.length p.tx.length p.co.length p.co[k].1 p.co[k].2.1 p.co[k].2.2.1 p.co[k].2.2.2 := by
   rw [oP, List.getD_eq_getElem?_getD, List.getElem?_eq_getElem hlt]; rfl
  generalize p.co[k] = x at *
  refine wK ?_
  refine Wp.seq (Wp.block ?_)
  refine wR Γ91 (oc lK x1 x2 x3 x4) ?_ ?_
  ·omega
  refine wR Γ91 lK ?_ ?_
  ·exact hg
  refine wC lK (fun hc => ?_) (fun hc => ?_)
  ·rw [nM (oP p) p.co.length k hlt hn (hbad.trans hc)]
   refine vR Γ91 lK ?_
   refine wZ lK ?_
   exact fun E => rfl
  ·refine wK ?_
   refine vr Γ91 (ab lK wk) ?_
   refine ⟨k + 1, ⟨by omega, fun i hi => ?_⟩, by omega, ?_⟩
   ·by_cases h : i = k
    ·rw [h]; exact hbad.trans hc
    ·exact hn i (by omega)
   ·exact wM (fun k => .key k) lK
 ·have hk' : k = p.co.length := by
   simp at hc
   omega
  rw [ir (oP p) p.co.length (by rw [<- hk']; exact hn)]
  refine wE ?_
  refine vR Γ91 lK ?_
  refine wZ lK ?_
  exact fun E => rfl
section
variable (p : Pg) (a1 a2 a3 : Option Addr) (c1 c2 c3 : Nat) (hb : PgB p)
def El : aU Tryz.prog 34 where
 pre := fun W bs as_ => as_ = [.val (Bc p a1 a2 a3 c1 c2 c3)] /\ zQ p W (Out bs) a1 a2 a3 /\ dK W (Out bs)
 res := fun _ _ => HQ (jN p)
 enters := Tryz.call34
 ok := by
  intro W w bs us as_ hk hu hp
  obtain ⟨rfl, h1, h2⟩ := hp
  match us, hu with
  | [x], hu =>
   obtain ⟨rfl, _⟩ := hu
   exact LP p a1 a2 a3 c1 c2 c3 w (h1.ok hb hk) (h2.fM hk (by simp))
noncomputable def Γ92 : Env Tryz.prog := ⟨fun | 33 => some qO.spec | 34 => some (El p a1 a2 a3 c1 c2 c3 hb).spec | _ => none, fun _ => none, fun _ _ => none⟩
theorem Gt92c33 : (Γ92 p a1 a2 a3 c1 c2 c3 hb).sp 33 = some qO.spec := rfl
theorem Gt92c34 : (Γ92 p a1 a2 a3 c1 c2 c3 hb).sp 34 = some (El p a1 a2 a3 c1 c2 c3 hb).spec := rfl
end
theorem FJ (q : Int × Int × ByteArray) : partsOf (.v (HQ q)) = [.v (.int .i64 q.1), .v (.int .i64 q.2.1), .v (.string q.2.2)] := rfl
def me := (oc lK @Gt92c33 @Gt92c34 @El.eq_1 @FJ)
set_option maxHeartbeats 4000000 in
theorem Ex (p : Pg) (a1 a2 a3 : Option Addr) (c1 c2 c3 : Nat) (w : World) (hp : qd p w a1 a2 a3) (hg : dK w (Out [])) (he : ba w (Out [])) : Calls Tryz.prog 15 #[Bc p a1 a2 a3 c1 c2 c3] w fun e w' => e = .returned (HQ (jZ p)) /\ ai w [] w' := by
 have hx := hp.x
 have hb := hp.toPgB
 have h1 := hp.l1
 refine aj (nt := 33) [.cell 2 39] Tryz.func15 rfl rfl rfl ?_
 refine vR Γ91 me ?_
 refine Wp.seq ?_
 refine wR Γ91 me ?_ ?_
 ·exact ⟨⟨_, rfl⟩, ⟨_, rfl⟩, _, rfl⟩
 refine wC me (fun hc => ?_) (fun hc => ?_)
 ·have h : (131072 < p.ty.length \/ 131072 < p.tx.length) \/ 131072 < p.co.length := by
   simp at hc
   omega
  have e : jZ p = (24, 0, ⟨#[]⟩) := by rw [jZ, if_pos h]
  rw [e]
  refine vR Γ91 me ?_
  refine wZ me ?_
  exact fun E => rfl
 have h : ¬ ((131072 < p.ty.length \/ 131072 < p.tx.length) \/ 131072 < p.co.length) := by
  simp at hc
  omega
 have e0 : jZ p = match ek (nV p) p.ty.length 0 with
  | some i => (110, (i : Int), ⟨#[]⟩)
  | none => jN p := by rw [jZ, if_neg h]
 rw [e0]
 refine wK ?_
 refine Wp.seq ?_
 refine vR Γ91 me ?_
 refine Wp.block ?_
 refine Wp.loop (fun k : Nat => ⟨40, bQ [(1, .is (.own 0 0)), (2, .is (.own 8 0)), (18, .is (.v (.slice a1 p.ty.length c1))), (19, .is (.v (.int .i64 p.ty.length))), (20, .is (.v (.int .i64 (k : Nat))))], bY [(0, .cells 29 [.v (.slice a1 p.ty.length c1), .v (.slice a2 p.tx.length c2), .v (.slice a3 p.co.length c3), .v (.int .i64 p.src), .v (.int .i64 p.vw)]), (8, .cells 39 [.v (.int .i64 0), .v (.int .i64 0), .v (.string ⟨#[]⟩)])]⟩) (fun k => k <= p.ty.length /\ ∀ i < k, nV p i = false) (fun k => p.ty.length - k) 0 ?_ ⟨Nat.zero_le _, fun i h => by omega⟩ ?_
 ·exact wM (fun k => .key k) me
 rintro k ⟨hk, hn⟩
 refine vR Γ91 me ?_
 refine Wp.seq ?_
 refine wC me (fun hc => ?_) (fun hc => ?_)
 ·have hlt : k < p.ty.length := by
   simp at hc
   omega
  have wk : IntKind.i64.wrap ((k : Int) + 1) = ((k + 1 : Nat) : Int) := by rw [aa (by omega) (by omega)]; omega
  obtain ⟨b, o, rfl, x1⟩ := ll hp.ty hlt
  have hsz := hp.sz _ (List.getElem_mem hlt)
  have hbad : nV p k = !yE p.ty[k] := by
   rw [nV, List.getD_eq_getElem?_getD, List.getElem?_eq_getElem hlt]; rfl
  generalize p.ty[k] = x at *
  refine wK ?_
  refine Wp.seq (Wp.block ?_)
  refine wR (Γ92 p (some ⟨b, o, none⟩) a2 a3 c1 c2 c3 hb) (ab me x1) ?_ ?_
  ·omega
  refine wR (Γ92 p (some ⟨b, o, none⟩) a2 a3 c1 c2 c3 hb) me ?_ ?_
  ·exact ⟨hsz, he⟩
  refine wC me (fun hc => ?_) (fun hc => ?_)
  ·rw [nM (nV p) p.ty.length k hlt hn (hbad.trans hc)]
   refine vR Γ91 me ?_
   refine wZ me ?_
   exact fun E => rfl
  ·refine wK ?_
   refine vr Γ91 (ab me wk) ?_
   refine ⟨k + 1, ⟨by omega, fun i hi => ?_⟩, by omega, ?_⟩
   ·by_cases h : i = k
    ·rw [h]; exact hbad.trans hc
    ·exact hn i (by omega)
   ·exact wM (fun k => .key k) me
 ·have hk' : k = p.ty.length := by
   simp at hc
   omega
  rw [ir (nV p) p.ty.length (by rw [<- hk']; exact hn)]
  refine wE ?_
  refine wR (Γ92 p a1 a2 a3 c1 c2 c3 hb) me ?_ ?_
  ·exact ⟨hx, hg⟩
  refine wZ me ?_
  exact fun E => rfl
def nG (p : Pg) (a1 a2 a3 : Option Addr) (c1 c2 c3 : Nat) (hb : PgB p) : aU Tryz.prog 15 where
 pre := fun W bs as_ => as_ = [.val (Bc p a1 a2 a3 c1 c2 c3)] /\ zQ p W (Out bs) a1 a2 a3 /\ dK W (Out bs) /\ ba W (Out bs)
 res := fun _ _ => HQ (jZ p)
 enters := Tryz.call15
 ok := by
  intro W w bs us as_ hk hu hp
  obtain ⟨rfl, h1, h2, h3⟩ := hp
  match us, hu with
  | [x], hu =>
   obtain ⟨rfl, _⟩ := hu
   exact Ex p a1 a2 a3 c1 c2 c3 w (h1.ok hb hk) (h2.fM hk (by simp)) (h3.fM hk (by simp))
end
section
open Go.RowKit Go.LE
set_option maxRecDepth 10000
def Sh.Cj : Sh := ⟨fun k => .agg [.part k 0, .part k 1, .part k 2, .part k 3, .part k 4], fun _ _ => rfl, fun k j hj => by simpa [SV.keys, ax] using hj⟩
def Y9 (p : Pg) (cs : List Value) (W : World) (S : Nat -> Prop) : Prop := ∃ (b1 b2 b3 : Option Addr) (d1 d2 d3 : Nat), cs = [.slice b1 p.ty.length d1, .slice b2 p.tx.length d2, .slice b3 p.co.length d3, .int .i64 p.src, .int .i64 p.vw] /\ zQ p W S b1 b2 b3
theorem zQ.mono {p : Pg} {W W' : World} {S S' : Nat -> Prop} {a1 a2 a3 : Option Addr} (h : zQ p W S a1 a2 a3) (hs : cv W S W' S') : zQ p W' S' a1 a2 a3 := ⟨h.1.mono hs, h.2.1.mono hs, h.2.2.mono hs⟩
def VB (p : Pg) : FK := ⟨fun cs W S => Y9 p cs W S, fun hs ⟨b1, b2, b3, d1, d2, d3, h1, h2⟩ => ⟨b1, b2, b3, d1, d2, d3, h1, h2.mono hs⟩⟩
theorem Lt {W : World} {S : Nat -> Prop} {ao : Option Addr} {vs : List Value} {n sz : Nat} (h : eP W S ao vs) (hl : n * sz = vs.length) (hne : vs ≠ []) : ∃ b o, ao = some ⟨b, o, none⟩ /\ S b /\ bx W b o (n * sz) = List.map SV.v vs /\ cY W b o (n * sz) = True := by
 rcases h with h | ⟨b, o, rfl, hc⟩
 ·exact absurd h hne
 ·have h0 := hc 0 (by cases vs with | nil => exact absurd rfl hne | cons => simp)
  have := qA (w := W) (b := b) vs o fun j hj => (hc j hj).2
  rw [hl]
  exact ⟨b, o, rfl, h0.1, this.1, eq_true this.2⟩
theorem OK (l : List ByteArray) : (dH l).length = l.length := by simp [dH]
theorem XP (l : List Value) (h : ∀ v ∈ l, v.oneCell' = true) : (List.map SV.v l).all cu = true := by
 rw [List.all_eq_true]
 intro x hx
 obtain ⟨v, hv, rfl⟩ := List.mem_map.1 hx
 exact h v hv
theorem pS (l : List ByteArray) : (List.map SV.v (dH l)).all cu = true := XP _ fun v hv => by
 obtain ⟨s, _, rfl⟩ := List.mem_map.1 hv; rfl
theorem xQ (l : List (Int × Int × Int × Int)) (k : Nat) (hk : k < l.length) : List.map SV.v (j4 (l.take k)) ++ [.v (.int .i64 l[k].1), .v (.int .i64 l[k].2.1), .v (.int .i64 l[k].2.2.1), .v (.int .i64 l[k].2.2.2)] = List.map SV.v (j4 (l.take (k + 1))) := by
 rw [List.take_succ_eq_append_getElem hk]
 unfold j4
 rw [List.flatMap_append, List.map_append]
 rfl
theorem nH {α : Type} {l : List α} (h : l = []) : (l.length == 0) = true := by subst h; rfl
theorem pU {α : Type} {l : List α} (h : l ≠ []) : (l.length == 0) = false := by
 cases l with
 | nil => exact absurd rfl h
 | cons x r => rfl
theorem s8 {G : Nat -> Prop} {W W' : World} {bs bs' : List Nat} {ao : Option Addr} {vs : List Value} (hu : Up G W bs) (h : eP W' (UM W bs bs') ao vs) : eP W' (fg G bs') ao vs := h.out fun b hb => ⟨hu b hb.2, hb.1⟩
theorem AD {G : Nat -> Prop} {W W' : World} {bs bs' : List Nat} (hx : Ext W bs W' bs') : cv W (fg G bs) W' (fg G bs') := fun b hb hr => ⟨(hx.h9 b hb hr.2).1, hr.1, (hx.h9 b hb hr.2).2⟩
theorem s7 {W : World} {ao : Option Addr} {l : List ByteArray} (h : eP W (Out []) ao (dH l)) (hne : l ≠ []) : ∃ b o, ao = some ⟨b, o, none⟩ /\ bx W b o l.length = List.map SV.v (dH l) /\ cY W b o l.length = True := by
 obtain ⟨b, o, h1, _, h2, h3⟩ := Lt (n := l.length) (sz := 1) h (by rw [OK]; omega) (by intro h0; apply hne; simpa [dH] using h0)
 rw [Nat.mul_one] at h2 h3
 exact ⟨b, o, h1, h2, h3⟩
def eK := (aq @List.replicate_succ.{0} @List.replicate_zero.{0} @av @af jV jW HS (aq HB E9 jb cW cX c8 cT (aq cZ c9 cR cV ez ey eB (aq eC eA ew Dw B4 DD DQ (aq YS Yw YE YG Xt Xr X9 (aq Xi Xu XE Yd Xk XM O0 (aq QD Pq QZ GN GS GB GU (aq Hl Gu Fe E5 Fs SH Sz (aq Sw SQ PI QU NX NJ N0 (aq M9 QJ Ps OU Hm G5 HT (aq Hj HX Gy En F2 ua Ya (aq Yb Xa XV XL X6 WX WQ (aq XF Bk CM Bj Bw CJ DK (yR Bv CP Dm @aN @au @aA @az))))))))))))))
set_option maxHeartbeats 4000000 in
theorem Ds (p : Pg) (a1 a2 a3 : Option Addr) (c1 c2 c3 : Nat) (w : World) (S : Nat -> Prop) (h1 : p.ty.length <= 1048576) (h2 : p.tx.length <= 1048576) (h3 : p.co.length <= 1048576) (hp : qd p w a1 a2 a3) :
  Calls Tryz.prog 12 #[Bc p a1 a2 a3 c1 c2 c3] w fun e w' => mw w S e w' (.fact Sh.Cj (VB p)) := by
 have hx := hp.x
 refine eI (nt := 46) S [.cell 2 29] Tryz.func12 rfl rfl rfl ?_
 refine vR Γ0 eK ?_
 refine bp ⟨60, bQ [(1, .is (.own 0 0)), (2, .is (.own 8 0)), (3, .is (.own 16 0))], bY [(0, .cells 25 [.v (.slice a1 p.ty.length c1), .v (.slice a2 p.tx.length c2), .v (.slice a3 p.co.length c3), .v (.int .i64 p.src), .v (.int .i64 p.vw)]), (8, .cells 29 [.v (.slice none 0 0), .v (.slice none 0 0), .v (.slice none 0 0), .v (.int .i64 0), .v (.int .i64 0)]), (16, .cells 29 [.hd 17, .hd 18, .v (.slice none 0 0), .v (.int .i64 p.src), .v (.int .i64 p.vw)]), (17, .row 9 1 p.ty.length (List.map SV.v (dH p.ty))), (18, .row 9 1 p.tx.length (List.map SV.v (dH p.tx)))]⟩ ?_ ?_
 ·by_cases e1 : p.ty = []
  ·by_cases e2 : p.tx = []
   ·have k1 := nH e1
    have k2 := nH e2
    refine sx Γ0 (de eK k1 k2) ?_ ?_
    ·exact ⟨by rw [e1]; rfl, by rw [e2]; rfl⟩
    exact wM (fun k => if k = 16 then .key 120 else if k = 17 then .key 16 else if k = 18 then .key 48 else .key k) (eH eK e1 e2 @dH.eq_1)
   ·have k1 := nH e1
    have k2 := pU e2
    obtain ⟨b2, o2, rfl, x2, y2⟩ := s7 hx.2.1 e2
    refine sx Γ0 (oc eK k1 k2 x2 y2) ?_ ?_
    ·exact ⟨by rw [e1]; rfl, by unfold maxLen; omega, by omega, pS _⟩
    exact wM (fun k => if k = 16 then .key 120 else if k = 17 then .key 16 else if k = 18 then .key 72 else .key k) (eH eK e1 @dH.eq_1 @a6)
  ·by_cases e2 : p.tx = []
   ·have k1 := pU e1
    have k2 := nH e2
    obtain ⟨b1, o1, rfl, x1, y1⟩ := s7 hx.1 e1
    refine sx Γ0 (oc eK k1 k2 x1 y1) ?_ ?_
    ·exact ⟨⟨by unfold maxLen; omega, by omega, pS _⟩, by rw [e2]; rfl⟩
    exact wM (fun k => if k = 16 then .key 120 else if k = 17 then .key 40 else if k = 18 then .key 48 else .key k) (eH eK e2 @dH.eq_1 @a6)
   ·have k1 := pU e1
    have k2 := pU e2
    obtain ⟨b1, o1, rfl, x1, y1⟩ := s7 hx.1 e1
    obtain ⟨b2, o2, rfl, x2, y2⟩ := s7 hx.2.1 e2
    refine sx Γ0 (yR eK k1 k2 x1 y1 x2 y2) ?_ ?_
    ·exact ⟨⟨by unfold maxLen; omega, by omega, pS _⟩, by unfold maxLen; omega, by omega, pS _⟩
    exact wM (fun k => if k = 16 then .key 120 else if k = 17 then .key 40 else if k = 18 then .key 72 else .key k) eK
 refine Wp.seq ?_
 refine vR Γ0 eK ?_
 refine Wp.block ?_
 refine Wp.loop (fun k : Nat => ⟨80, bQ [(1, .is (.own 0 0)), (2, .is (.own 8 0)), (3, .is (.own 16 0)), (4, .is (.v (.int .i64 (k : Nat))))], bY [(0, .cells 25 [.v (.slice a1 p.ty.length c1), .v (.slice a2 p.tx.length c2), .v (.slice a3 p.co.length c3), .v (.int .i64 p.src), .v (.int .i64 p.vw)]), (8, .cells 29 [.v (.slice none 0 0), .v (.slice none 0 0), .v (.slice none 0 0), .v (.int .i64 0), .v (.int .i64 0)]), (16, .cells 29 [.hd 17, .hd 18, .hd 19, .v (.int .i64 p.src), .v (.int .i64 p.vw)]), (17, .row 9 1 p.ty.length (List.map SV.v (dH p.ty))), (18, .row 9 1 p.tx.length (List.map SV.v (dH p.tx))), (19, .row 50 4 k (List.map SV.v (j4 (p.co.take k))))]⟩) (fun k => k <= p.co.length) (fun k => p.co.length - k) 0 ?_ (Nat.zero_le _) ?_
 ·exact wM (fun k => if k = 19 then .nil else .key k) (eH eK @a6 @j4.eq_1 @List.flatMap_nil.{0,0})
 intro k hk
 refine Wp.seq ?_
 refine vR Γ0 eK ?_
 refine wC eK (fun hc => ?_) (fun hc => ?_)
 ·have hlt : k < p.co.length := by
   simp at hc
   omega
  have wk : IntKind.i64.wrap ((k : Int) + 1) = ((k + 1 : Nat) : Int) := by rw [aa (by omega) (by omega)]; omega
  obtain ⟨b, o, rfl, x1, x2, x3, x4⟩ := kD hp.co hlt
  have hsn := xQ p.co k hlt
  refine wK ?_
  refine Wp.seq (Wp.block ?_)
  refine wR Γ0 (oc eK x1 x2 x3 x4) ?_ ?_
  ·omega
  refine wr Γ0 (ab eK hsn) ?_ ?_
  ·exact ⟨by unfold maxLen; omega, by omega⟩
  refine vr Γ0 (ab eK wk) ?_
  refine ⟨k + 1, by omega, by omega, ?_⟩
  exact wM (fun k => if k = 19 then .key 832 else .key k) eK
 ·have hk' : k = p.co.length := by
   simp at hc
   omega
  subst hk'
  rw [List.take_length]
  have up := cG.up w S
  refine wE ?_
  refine Wp.kf 17 (ev (ab eK @aB)) (fun E => by simp only [an, den, aB]; exact rfl) fun W1 bs1 ao1 d1 hx1 hs1 hd1 => ?_
  refine Wp.kf 18 (ev (ab eK @aB)) (fun E => by simp only [an, den, aB]; exact rfl) fun W2 bs2 ao2 d2 hx2 hs2 hd2 => ?_
  refine Wp.kf 19 (ev (ab eK @aB)) (fun E => by simp only [an, den, aB]; exact rfl) fun W3 bs3 ao3 d3 hx3 hs3 hd3 => ?_
  have r1 : eP W3 (fg (cG w S) bs3) ao1 (dH p.ty) := ((s8 up hs1).mono (AD hx2)).mono (AD hx3)
  have r2 : eP W3 (fg (cG w S) bs3) ao2 (dH p.tx) := (s8 (up.ext hx1) hs2).mono (AD hx3)
  have r3 : eP W3 (fg (cG w S) bs3) ao3 (j4 p.co) := s8 ((up.ext hx1).ext hx2) hs3
  refine vR Γ0 eK ?_
  refine wZ eK ?_
  exact ⟨[.slice ao1 p.ty.length d1, .slice ao2 p.tx.length d2, .slice ao3 p.co.length d3, .int .i64 p.src, .int .i64 p.vw], fun E => rfl, ao1, ao2, ao3, d1, d2, d3, rfl, r1, r2, r3⟩
theorem Ir {w W1 : World} {bs1 : List Nat} {S : Nat -> Prop} {ao : Option Addr} {vs : List Value} (h : eP w S ao vs) (hx : Ext w [] W1 bs1) : eP W1 (fg (cG w S) bs1) ao vs :=
 h.mono fun b hb hs => ⟨(hx.h9 b hb (by simp [Out])).1, fun _ => hs, (hx.h9 b hb (by simp [Out])).2⟩
set_option maxHeartbeats 4000000 in
theorem TJ (p : Pg) (a1 a2 a3 : Option Addr) (c1 c2 c3 : Nat) (w : World) (S : Nat -> Prop) (h3 : p.co.length <= 1048576) (hp : qd p w a1 a2 a3) (hpx : zQ p w S a1 a2 a3) :
  Calls Tryz.prog 14 #[Bc p a1 a2 a3 c1 c2 c3] w fun e w' => mw w S e w' (.fact Sh.Cj (VB p)) := by
 refine eI (nt := 42) S [.cell 2 35] Tryz.func14 rfl rfl rfl ?_
 refine vR Γ0 eK ?_
 refine vR Γ0 eK ?_
 refine Wp.seq ?_
 refine vR Γ0 eK ?_
 refine Wp.block ?_
 refine Wp.loop (fun k : Nat => ⟨80, bQ [(1, .is (.own 0 0)), (2, .is (.own 8 0)), (3, .is (.own 16 0)), (4, .is (.v (.int .i64 (k : Nat))))], bY [(0, .cells 25 [.v (.slice a1 p.ty.length c1), .v (.slice a2 p.tx.length c2), .v (.slice a3 p.co.length c3), .v (.int .i64 p.src), .v (.int .i64 p.vw)]), (8, .cells 35 [.v (.slice none 0 0), .v (.slice none 0 0), .v (.slice none 0 0), .v (.int .i64 0), .v (.int .i64 0)]), (16, .cells 35 [.v (.slice a1 p.ty.length c1), .v (.slice a2 p.tx.length c2), .hd 19, .v (.int .i64 p.src), .v (.int .i64 p.vw)]), (19, .row 85 4 k (List.map SV.v (j4 (p.co.take k))))]⟩) (fun k => k <= p.co.length) (fun k => p.co.length - k) 0 ?_ (Nat.zero_le _) ?_
 ·exact wM (fun k => if k = 16 then .key 88 else if k = 19 then .nil else .key k) (eH eK @a6 @j4.eq_1 @List.flatMap_nil.{0,0})
 intro k hk
 refine Wp.seq ?_
 refine vR Γ0 eK ?_
 refine wC eK (fun hc => ?_) (fun hc => ?_)
 ·have hlt : k < p.co.length := by
   simp at hc
   omega
  have wk : IntKind.i64.wrap ((k : Int) + 1) = ((k + 1 : Nat) : Int) := by rw [aa (by omega) (by omega)]; omega
  obtain ⟨b, o, rfl, x1, x2, x3, x4⟩ := kD hp.co hlt
  have hsn := xQ p.co k hlt
  refine wK ?_
  refine Wp.seq (Wp.block ?_)
  refine wR Γ0 (oc eK x1 x2 x3 x4) ?_ ?_
  ·omega
  refine wr Γ0 (ab eK hsn) ?_ ?_
  ·exact ⟨by unfold maxLen; omega, by omega⟩
  refine vr Γ0 (ab eK wk) ?_
  refine ⟨k + 1, by omega, by omega, ?_⟩
  exact wM (fun k => if k = 19 then .key 832 else .key k) eK
 ·have hk' : k = p.co.length := by
   simp at hc
   omega
  subst hk'
  rw [List.take_length]
  have up := cG.up w S
  refine wE ?_
  refine Wp.kf 19 (ev (ab eK @aB)) (fun E => by simp only [an, den, aB]; exact rfl) fun W1 bs1 ao3 d3 hx1 hs3 hd3 => ?_
  have r3 : eP W1 (fg (cG w S) bs1) ao3 (j4 p.co) := s8 up hs3
  refine vR Γ0 eK ?_
  refine wZ eK ?_
  exact ⟨[.slice a1 p.ty.length c1, .slice a2 p.tx.length c2, .slice ao3 p.co.length d3, .int .i64 p.src, .int .i64 p.vw], fun E => rfl, a1, a2, ao3, c1, c2, d3, rfl, Ir hpx.1 hx1, Ir hpx.2.1 hx1, r3⟩
theorem zQ.is {p : Pg} {w : World} {S : Nat -> Prop} {a1 a2 a3 : Option Addr} (h : zQ p w S a1 a2 a3) (hb : PgB p) : qd p w a1 a2 a3 := ⟨hb, h.1.is, h.2.1.is, h.2.2.is⟩
section
variable (p : Pg) (a1 a2 a3 : Option Addr) (c1 c2 c3 : Nat) (hb : PgB p) (hn : p.ty.length <= 1048576 /\ p.tx.length <= 1048576 /\ p.co.length <= 1048576)
def v8 : lg Tryz.prog 12 where
 kinds := [none]
 pre := fun as_ W S => as_ = [.val (Bc p a1 a2 a3 c1 c2 c3)] /\ zQ p W S a1 a2 a3
 premono := fun as_ W S W' S' hs h => ⟨h.1, h.2.mono hs⟩
 out := fun _ => .fact Sh.Cj (VB p)
 enters := Tryz.call12
 ok := by
  intro w S us as_ hg hp
  obtain ⟨rfl, h1⟩ := hp
  match us, hg with
  | [x], hg =>
   obtain ⟨rfl, _⟩ := hg
   exact Ds p a1 a2 a3 c1 c2 c3 w S hn.1 hn.2.1 hn.2.2 (h1.is hb)
def Ws : lg Tryz.prog 14 where
 kinds := [none]
 pre := fun as_ W S => as_ = [.val (Bc p a1 a2 a3 c1 c2 c3)] /\ zQ p W S a1 a2 a3
 premono := fun as_ W S W' S' hs h => ⟨h.1, h.2.mono hs⟩
 out := fun _ => .fact Sh.Cj (VB p)
 enters := Tryz.call14
 ok := by
  intro w S us as_ hg hp
  obtain ⟨rfl, h1⟩ := hp
  match us, hg with
  | [x], hg =>
   obtain ⟨rfl, _⟩ := hg
   exact TJ p a1 a2 a3 c1 c2 c3 w S hn.2.2 (h1.is hb) h1
end
end
section
open Go.RowKit Go.LE
set_option maxRecDepth 10000
end
section
open Go.RowKit Go.LE
set_option maxRecDepth 10000
noncomputable def Γ93 : Env Tryz.prog := ⟨fun | 30 => some Ad.spec | 31 => some nQ.spec | 32 => some s3.spec | _ => none, fun | _ => none, fun _ _ => none⟩
theorem Gt93c30 : Γ93.sp 30 = some Ad.spec := rfl
theorem Gt93c31 : Γ93.sp 31 = some nQ.spec := rfl
theorem Gt93c32 : Γ93.sp 32 = some s3.spec := rfl
def PX (q : Int × Int × ByteArray) : Value := .tuple #[.int .i64 q.1, .int .i64 q.2.1, .string q.2.2]
def fw := (aq @List.replicate_succ.{0} @List.replicate_zero.{0} @av @af jV jW jb (aq cW cX c8 cT cZ c9 cR (aq cV ez ey eB eC eA ew (aq Dw B4 DD DQ SH Sz Sw (aq SQ PI QU NX NJ N0 M9 (aq QJ Ps OU Bk CM Bj Bw (aq CJ DK Bv CP Dm @aN @au (aq @aA @az @nh @mQ @BZ @Dz @FP (eH @Fu Gt93c30 Gt93c31 Gt93c32)))))))))
set_option maxHeartbeats 8000000 in
theorem HJ (p : Pg) (a1 a2 a3 : Option Addr) (c1 c2 c3 : Nat) (w : World) (hp : qd p w a1 a2 a3) : Calls Tryz.prog 13 #[Bc p a1 a2 a3 c1 c2 c3] w fun e w' => e = .returned (PX (jZ p)) /\ ai w [] w' := by
 have h1 := hp.l1
 have h3 := hp.l3
 refine aj (nt := 70) [.tmp 2, .tmp 3, .tmp 4] Tryz.func13 rfl rfl rfl ?_
 refine vR Γ93 fw ?_
 refine Wp.seq ?_
 refine wR Γ93 fw ?_ ?_
 ·exact ⟨⟨_, rfl⟩, fun _ => ⟨_, rfl⟩, fun _ => ⟨_, rfl⟩⟩
 refine wC fw (fun hc => ?_) (fun hc => ?_)
 ·have h : (131072 < p.ty.length \/ 131072 < p.tx.length) \/ 131072 < p.co.length := by
   simp at hc
   omega
  have e : jZ p = (24, 0, ⟨#[]⟩) := by rw [jZ, if_pos h]
  rw [e]
  refine vR Γ93 fw ?_
  refine wZ fw ?_
  exact fun E => rfl
 have h : ¬ ((131072 < p.ty.length \/ 131072 < p.tx.length) \/ 131072 < p.co.length) := by
  simp at hc
  omega
 have e0 : jZ p = match ek (nV p) p.ty.length 0 with
  | some i => (110, (i : Int), ⟨#[]⟩)
  | none => jN p := by rw [jZ, if_neg h]; all_goals rfl
 rw [e0]
 refine wK ?_
 refine iR (fun _ : Unit => ⟨100, bQ [(1, .is (.own 0 0))], bY [(0, .cells 35 [.v (.slice a1 p.ty.length c1), .v (.slice a2 p.tx.length c2), .v (.slice a3 p.co.length c3), .v (.int .i64 p.src), .v (.int .i64 p.vw)])]⟩) (fun _ => w) (fun _ => []) (fun _ => ek (nV p) p.ty.length 0 = none) ?_ ?_
 ·skip
  refine vR Γ93 fw ?_
  refine Wp.block ?_
  refine Wp.loop (fun k : Nat => ⟨40, bQ [(1, .is (.own 0 0)), (5, .is (.v (.int .i64 (k : Nat))))], bY [(0, .cells 35 [.v (.slice a1 p.ty.length c1), .v (.slice a2 p.tx.length c2), .v (.slice a3 p.co.length c3), .v (.int .i64 p.src), .v (.int .i64 p.vw)])]⟩) (fun k => k <= p.ty.length /\ ∀ i < k, nV p i = false) (fun k => p.ty.length - k) 0 ?_ ⟨Nat.zero_le _, fun i h => by omega⟩ ?_
  ·exact wM (fun k => .key k) fw
  rintro k ⟨hk, hn⟩
  refine Wp.seq ?_
  refine vR Γ93 fw ?_
  refine wC fw (fun hc => ?_) (fun hc => ?_)
  ·have hlt : k < p.ty.length := by
    simp at hc
    omega
   have wk : IntKind.i64.wrap ((k : Int) + 1) = ((k + 1 : Nat) : Int) := by rw [aa (by omega) (by omega)]; omega
   obtain ⟨b, o, rfl, x1⟩ := ll hp.ty hlt
   have hsz := hp.sz _ (List.getElem_mem hlt)
   have hbad : nV p k = !yE p.ty[k] := by
    rw [nV, List.getD_eq_getElem?_getD, List.getElem?_eq_getElem hlt]; rfl
   generalize p.ty[k] = x at *
   refine wK ?_
   refine Wp.seq (Wp.block ?_)
   refine wR Γ93 (ab fw x1) ?_ ?_
   ·exact ⟨by omega, hsz⟩
   refine wC fw (fun hc => ?_) (fun hc => ?_)
   ·rw [nM (nV p) p.ty.length k hlt hn (hbad.trans hc)]
    refine vR Γ93 fw ?_
    refine wZ fw ?_
    exact fun E => rfl
   ·refine wK ?_
    refine vr Γ93 (ab fw wk) ?_
    refine ⟨k + 1, ⟨by omega, fun i hi => ?_⟩, by omega, ?_⟩
    ·by_cases h : i = k
     ·rw [h]; exact hbad.trans hc
     ·exact hn i (by omega)
    ·exact wM (fun k => .key k) fw
  ·have hk' : k = p.ty.length := by
    simp at hc
    omega
   refine wE ?_
   refine ⟨(), ir (nV p) p.ty.length (by rw [<- hk']; exact hn), rfl, rfl, ?_⟩
   exact wM (fun k => .key k) fw
 refine fun _ hnone _ => ?_
 rw [hnone]
 refine Wp.seq ?_
 refine wR Γ93 fw ?_ ?_
 ·exact ⟨⟨_, rfl⟩, fun _ => ⟨_, rfl⟩⟩
 refine wC fw (fun hc => ?_) (fun hc => ?_)
 ·have e : jN p = (111, 0, Na) := by rw [jN, if_pos hc]
  rw [e]
  refine vR Γ93 fw ?_
  refine wZ fw ?_
  exact fun E => rfl
 have e1 : jN p = match ek (oP p) p.co.length 0 with
  | some i => (111, (i : Int), ⟨#[]⟩)
  | none => (0, 0, ⟨#[]⟩) := by rw [jN, if_neg (by rw [hc]; simp)]; all_goals rfl
 rw [e1]
 refine wK ?_
 refine Wp.seq ?_
 refine vR Γ93 fw ?_
 refine Wp.block ?_
 refine Wp.loop (fun k : Nat => ⟨140, bQ [(1, .is (.own 0 0)), (6, .is (.v (.int .i64 (k : Nat))))], bY [(0, .cells 35 [.v (.slice a1 p.ty.length c1), .v (.slice a2 p.tx.length c2), .v (.slice a3 p.co.length c3), .v (.int .i64 p.src), .v (.int .i64 p.vw)])]⟩) (fun k => k <= p.co.length /\ ∀ i < k, oP p i = false) (fun k => p.co.length - k) 0 ?_ ⟨Nat.zero_le _, fun i h => by omega⟩ ?_
 ·exact wM (fun k => .key k) fw
 rintro k ⟨hk, hn⟩
 refine Wp.seq ?_
 refine vR Γ93 fw ?_
 refine wC fw (fun hc => ?_) (fun hc => ?_)
 ·have hlt : k < p.co.length := by
   simp at hc
   omega
  have wk : IntKind.i64.wrap ((k : Int) + 1) = ((k + 1 : Nat) : Int) := by rw [aa (by omega) (by omega)]; omega
  obtain ⟨b, o, rfl, x1, x2, x3, x4⟩ := kD hp.co hlt
  have hbad : oP p k = !lC p.ty.length p.tx.length p.co.length p.co[k].1 p.co[k].2.1 p.co[k].2.2.1 p.co[k].2.2.2 := by
   rw [oP, List.getD_eq_getElem?_getD, List.getElem?_eq_getElem hlt]; rfl
  generalize p.co[k] = x at *
  refine wK ?_
  refine Wp.seq (Wp.block ?_)
  refine l9 Γ93 (oc fw x1 x2 x3 x4) ?_ ?_
  ·omega
  refine wC fw (fun hc => ?_) (fun hc => ?_)
  ·rw [nM (oP p) p.co.length k hlt hn (hbad.trans hc)]
   refine vR Γ93 fw ?_
   refine wZ fw ?_
   exact fun E => rfl
  ·refine wK ?_
   refine vr Γ93 (ab fw wk) ?_
   refine ⟨k + 1, ⟨by omega, fun i hi => ?_⟩, by omega, ?_⟩
   ·by_cases h : i = k
    ·rw [h]; exact hbad.trans hc
    ·exact hn i (by omega)
   ·exact wM (fun k => .key k) fw
 ·have hk' : k = p.co.length := by
   simp at hc
   omega
  rw [ir (oP p) p.co.length (by rw [<- hk']; exact hn)]
  refine wE ?_
  refine vR Γ93 fw ?_
  refine wZ fw ?_
  exact fun E => rfl
def zW (p : Pg) (a1 a2 a3 : Option Addr) (c1 c2 c3 : Nat) (hb : PgB p) : aU Tryz.prog 13 where
 pre := fun W bs as_ => as_ = [.val (Bc p a1 a2 a3 c1 c2 c3)] /\ zQ p W (Out bs) a1 a2 a3
 res := fun _ _ => PX (jZ p)
 enters := Tryz.call13
 ok := by
  intro W w bs us as_ hk hu hp
  obtain ⟨rfl, h1⟩ := hp
  match us, hu with
  | [x], hu =>
   obtain ⟨rfl, _⟩ := hu
   exact HJ p a1 a2 a3 c1 c2 c3 w (h1.ok hb hk)
end
end Go.Proofs.YtnemkecffmdlnaaGreatDoor
namespace Go.Proofs
section
open Go.Shelf
def Tryz.D5 : Go.Shelf.Ren := ⟨fun | 171 => 39 | 243 => 76 | 246 => 131 | 283 => 183 | 284 => 184 | 285 => 185 | 286 => 186 | 129 => 227 | 317 => 226 | 318 => 228 | 319 => 229 | 320 => 230 | 337 => 254 | 338 => 255 | n => n, fun | 3 => 3 | 9 => 9 | 2 => 2 | 4 => 4 | 171 => 313 | 0 => 0 | 53 => 203 | 37 => 89 | 5 => 5 | 173 => 316 | 212 => 334 | 51 => 335 | 20 => 20 | 213 => 336 | 46 => 158 | 232 => 363 | 233 => 364 | n => n, fun | 17 => 3 | 18 => 7 | 19 => 8 | n => n⟩
theorem Tryz.Sb : Go.Proofs.LaysM.n171 Tryz.prog Tryz.D5 := {
 mixed := by kernel_rfl
 f129 := Tryz.func227.trans (congrArg some (by kernel_rfl))
 f171 := Tryz.func39.trans (congrArg some (by kernel_rfl))
 f243 := Tryz.func76.trans (congrArg some (by kernel_rfl))
 f246 := Tryz.func131.trans (congrArg some (by kernel_rfl))
 f283 := Tryz.func183.trans (congrArg some (by kernel_rfl))
 f284 := Tryz.func184.trans (congrArg some (by kernel_rfl))
 f285 := Tryz.func185.trans (congrArg some (by kernel_rfl))
 f286 := Tryz.func186.trans (congrArg some (by kernel_rfl))
 f317 := Tryz.func226.trans (congrArg some (by kernel_rfl))
 f318 := Tryz.func228.trans (congrArg some (by kernel_rfl))
 f319 := Tryz.func229.trans (congrArg some (by kernel_rfl))
 f320 := Tryz.func230.trans (congrArg some (by kernel_rfl))
 f337 := Tryz.func254.trans (congrArg some (by kernel_rfl))
 f338 := Tryz.func255.trans (congrArg some (by kernel_rfl))
 t0 := Tryz.underlying0
 a0 := Tryz.isAgg0
 z0 := Tryz.sizeOf0
 v0 := Tryz.zeroValue0
 t2 := Tryz.underlying2
 a2 := Tryz.isAgg2
 z2 := Tryz.sizeOf2
 v2 := Tryz.zeroValue2
 t3 := Tryz.underlying3
 a3 := Tryz.isAgg3
 z3 := Tryz.sizeOf3
 v3 := Tryz.zeroValue3
 t4 := Tryz.underlying4
 a4 := Tryz.isAgg4
 z4 := Tryz.sizeOf4
 v4 := Tryz.zeroValue4
 t5 := Tryz.underlying5
 a5 := Tryz.isAgg5
 z5 := Tryz.sizeOf5
 v5 := Tryz.zeroValue5
 t9 := Tryz.underlying9
 a9 := Tryz.isAgg9
 z9 := Tryz.sizeOf9
 v9 := Tryz.zeroValue9
 t20 := Tryz.underlying20
 a20 := Tryz.isAgg20
 z20 := Tryz.sizeOf20
 v20 := Tryz.zeroValue20
 t37 := Tryz.underlying89
 a37 := Tryz.isAgg89
 z37 := Tryz.sizeOf89
 v37 := Tryz.zeroValue89
 t46 := Tryz.underlying158
 a46 := Tryz.isAgg158
 z46 := Tryz.sizeOf158
 v46 := Tryz.zeroValue158
 t51 := Tryz.underlying335
 a51 := Tryz.isAgg335
 z51 := Tryz.sizeOf335
 v51 := Tryz.zeroValue335
 t53 := Tryz.underlying203
 a53 := Tryz.isAgg203
 z53 := Tryz.sizeOf203
 v53 := Tryz.zeroValue203
 t171 := Tryz.underlying313
 a171 := Tryz.isAgg313
 z171 := Tryz.sizeOf313
 v171 := Tryz.zeroValue313
 t173 := Tryz.underlying316
 a173 := Tryz.isAgg316
 z173 := Tryz.sizeOf316
 v173 := Tryz.zeroValue316
 t212 := Tryz.underlying334
 a212 := Tryz.isAgg334
 z212 := Tryz.sizeOf334
 v212 := Tryz.zeroValue334
 t213 := Tryz.underlying336
 a213 := Tryz.isAgg336
 z213 := Tryz.sizeOf336
 t232 := Tryz.underlying363
 a232 := Tryz.isAgg363
 z232 := Tryz.sizeOf363
 v232 := Tryz.zeroValue363
 t233 := Tryz.underlying364
 a233 := Tryz.isAgg364
 z233 := Tryz.sizeOf364
 v233 := Tryz.zeroValue364
 g17 := by kernel_rfl
 g18 := by kernel_rfl
 g19 := by kernel_rfl
 i0 := by kernel_rfl
 i2 := by kernel_rfl
 i3 := by kernel_rfl
 i4 := by kernel_rfl
 i5 := by kernel_rfl
 i9 := by kernel_rfl
 i20 := by kernel_rfl
 i37 := by kernel_rfl
 i46 := by kernel_rfl
 i51 := by kernel_rfl
 i53 := by kernel_rfl
 i171 := by kernel_rfl
 i173 := by kernel_rfl
 i212 := by kernel_rfl
 i232 := by kernel_rfl
 i233 := by kernel_rfl
 m17 := by kernel_rfl
 m18 := by kernel_rfl
 m19 := by kernel_rfl }
end
end Go.Proofs
