/-
 Part 5 of the proof (packed).
-/
import Derived.Test.YtnemkecffmdlnaaGreatDoorA4
set_option linter.unusedSimpArgs false
set_option linter.unusedVariables false
set_option linter.defProp false
namespace Go.Proofs.YtnemkecffmdlnaaGreatDoor
section
open Go.RowKit Go.LE
set_option maxRecDepth 10000
theorem oe (d : Nd) : partsOf (.v (.agg d.bh.toArray)) = List.map SV.v d.bh := rfl
theorem zu (d : Nd) : (List.map SV.v d.bh).length = 261 := by rw [List.length_map, Nd.gp]
theorem U0 (d : Nd) (x : SV) : (List.map SV.v d.bh).getD 0 x = .v (.int .i64 d.op) := rfl
theorem R4 (d : Nd) (x : SV) (j : Nat) (v : Value) (h : [Value.int .i64 d.a, .int .i64 d.b, .int .i64 d.m, .int .i64 d.n][j]? = some v) : (List.map SV.v d.bh).getD (257 + j) x = .v v := by
 rw [List.getD_eq_getElem?_getD, List.getElem?_map, Nd.mg, h]; rfl
theorem VX (d : Nd) (x : SV) : (List.map SV.v d.bh).getD 257 x = .v (.int .i64 d.a) := R4 d x 0 _ rfl
theorem Vq (d : Nd) (x : SV) : (List.map SV.v d.bh).getD 258 x = .v (.int .i64 d.b) := R4 d x 1 _ rfl
theorem VW (d : Nd) (x : SV) : (List.map SV.v d.bh).getD 259 x = .v (.int .i64 d.m) := R4 d x 2 _ rfl
theorem Vj (d : Nd) (x : SV) : (List.map SV.v d.bh).getD 260 x = .v (.int .i64 d.n) := R4 d x 3 _ rfl
theorem xE (x : Rx) (m : Int) : ∀ (j : Nat) (k : Int) (w : Rx), aG w <= aG (cR x m j k w)
 | 0, _, w => Nat.le_refl _
 | j + 1, k, w => by
  have := xE x m j (k + 1) (.cat w (cC x m k))
  show _ <= aG (cR x m j (k + 1) (.cat w (cC x m k)))
  have e : aG (.cat w (cC x m k)) = aG w + aG (cC x m k) + 1 := rfl
  omega
def HG (o : Option Rx) : Nat := o.elim 0 aG
def MT (m : Nat) (o : Option Rx) : List Nd := o.elim [] (dr m)
def UO (m : Nat) (o : Option Rx) : Int := o.elim (-1) fun w => ((m + aG w - 1 : Nat) : Int)
theorem T0 (m : Nat) (o : Option Rx) : (MT m o).length = HG o := by
 cases o with
 | none => rfl
 | some w => exact eG w m
section
variable (ar : List Nd) (ts : List RT) (ao : Option Addr) (c n : Nat)
noncomputable def Γ69 (h : gQ ar ts ao c n) (h' : KN ar ts ao c n) : Env Tryz.prog := ⟨fun | 124 => some (nR ar ao c 124 Tryz.call124 (below n) (Mn ts) h).spec | 215 => some (nR ar ao c 215 Tryz.call215 (below n) (Ly ts) h').spec | 177 => some yu.spec | _ => none, fun _ => none, fun _ _ => none⟩
theorem Gt69c124 (h : gQ ar ts ao c n) (h' : KN ar ts ao c n) : (Γ69 ar ts ao c n h h').sp 124 = some (nR ar ao c 124 Tryz.call124 (below n) (Mn ts) h).spec := rfl
theorem Gt69c215 (h : gQ ar ts ao c n) (h' : KN ar ts ao c n) : (Γ69 ar ts ao c n h h').sp 215 = some (nR ar ao c 215 Tryz.call215 (below n) (Ly ts) h').spec := rfl
theorem Gt69c177 (h : gQ ar ts ao c n) (h' : KN ar ts ao c n) : (Γ69 ar ts ao c n h h').sp 177 = some yu.spec := rfl
def cw := (aq jS jP jn cQ cV cX cS (aq da c9 c8 db rB rC rG (aq pJ s3 sY tZ u9 s7 sP (aq o7 qX qZ oI rQ rM qT (aq rE qU q5 rS AQ Bg A6 (aq CP AN @aO @au @aB @aC @tH (aq @tC @FI @zv @po @o9 @mR @nr (aq @sC @U0 @VX @Vq @VW @Vj @zu (fj @oe @Gt69c124 @Gt69c215 @Gt69c177)))))))))
set_option maxHeartbeats 4000000 in
theorem tX (hg : gQ ar ts ao c n) (ho' : KN ar ts ao c n) (d : Nd) (ha : 0 <= d.a /\ d.a < n) (hmn : qo d.m d.n) : GV ar ao c 176 (.agg d.bh.toArray) (cv (ts.getD d.a.toNat .eps).expand d.m d.n) := by
 intro l r u fp w hl ho hlt hs
 have hix : Mn ts (.int .i64 d.a) = (ts.getD d.a.toNat .eps).expand := rfl
 have hop : Ly ts (.int .i64 d.a) = .alt (ts.getD d.a.toNat .eps).expand .eps := rfl
 refine kb (nt := 79) _ _ [.tmp 6] (by show 2 <= 7; omega) ho hlt Tryz.func176 rfl rfl rfl ?_
 unfold qo at hmn
 refine vR Γ0 cw ?_
 refine vR Γ0 cw ?_
 generalize hX : (ts.getD d.a.toNat .eps).expand = X at *
 refine bx ⟨20, bV [(0, .is (.v (.slice ao ar.length c))), (2, .is (.own 0 0)), (4, .is (.own 8 0)), (7, .is (.v (.int .i64 (bX d.m))))], cd [(0, .cells 64 [.hd 1, .v (.int .i64 r)]), (1, .row 243 261 l.length (List.map SV.v (cK l))), (8, .cells 243 (List.map SV.v d.bh))]⟩ ?_ ?_
 ·skip
  refine vR Γ0 cw ?_
  refine wC cw (fun hc => ?_) (fun hc => ?_)
  ·have h2 : d.m = -2 := by simpa using hc
   rw [bX, if_pos h2]
   refine vr Γ0 cw ?_
   exact wM (fun k => .key k) cw
  ·have h2 : ¬ d.m = -2 := by simpa using hc
   rw [bX, if_neg h2]
   refine wK ?_
   exact wM (fun k => .key k) cw
 refine Wp.seq ?_
 refine vR Γ0 cw ?_
 refine wC cw (fun hc => ?_) (fun hc => ?_)
 ·have h3 : d.n < 0 /\ bX d.m = 0 := by simpa using hc
  have he : cv X d.m d.n = .star X := by rw [cv, if_pos h3]
  rw [he] at hl ⊢
  have hT := eG X l.length
  have hrs : aG (.star X) = aG X + 1 := rfl
  have hla : dr l.length (.star X) = dr l.length X ++ [bO 4 ((l.length + aG X - 1 : Nat) : Int) 0] := rfl
  refine wR (Γ69 ar ts ao c n hg ho') (ab cw hX) ?_ ?_
  ·exact ⟨⟨⟨⟨l, rfl, rfl⟩, ha, by omega, hs⟩, by decide, by simp⟩, ⟨l ++ dr l.length X, by rw [bE], by rw [List.length_append, hT], by rw [List.length_append, hT]; omega⟩, by decide, by simp⟩
  refine wZ cw ?_
  rw [hla, hrs, bE, j7, <- List.append_assoc, show l.length + (aG X + 1) - 1 = l.length + aG X by omega, show l.length + (aG X + 1) = l.length + aG X + 1 by omega]
  exact ⟨_, _, rfl, fun E => rfl, _, _, rfl, by simp only [dM, Op.operands, Value.cells, σ0, σB, Nat.reduceEqDiff, Nat.reduceAdd, Nat.reduceMul, Nat.reduceLT, Nat.reduceLeDiff, Nat.reduceBEq, ae, Int.reduceToNat, Int.reduceLT, Int.reduceLE, Nat.reduceDiv, Nat.reduceMod, Nat.reduceSub, Int.reducePow, Nat.reducePow, σP, σB3, cw, aE]; rfl, by decide⟩
 have h3 : ¬ (d.n < 0 /\ bX d.m = 0) := by
  intro h
  apply Bool.eq_false_iff.1 hc
  simp [h.1, h.2]
 refine wK ?_
 refine Wp.seq ?_
 refine vR Γ0 cw ?_
 refine wC cw (fun hc => ?_) (fun hc => ?_)
 ·have h4 : d.n = 0 := by simpa using hc
  have he : cv X d.m d.n = .eps := by rw [cv, if_neg h3, if_pos h4]
  rw [he] at hl ⊢
  have hrs : aG .eps = 1 := rfl
  have hla : dr l.length .eps = [bO 0 0 0] := rfl
  refine wR (Γ69 ar ts ao c n hg ho') cw ?_ ?_
  ·exact ⟨⟨l, rfl, rfl, by omega⟩, by decide, by simp⟩
  refine wZ cw ?_
  rw [hla, hrs, j7, Nat.add_sub_cancel]
  exact ⟨_, _, rfl, fun E => rfl, _, _, rfl, by simp only [dM, Op.operands, Value.cells, σ0, σB, Nat.reduceEqDiff, Nat.reduceAdd, Nat.reduceMul, Nat.reduceLT, Nat.reduceLeDiff, Nat.reduceBEq, ae, Int.reduceToNat, Int.reduceLT, Int.reduceLE, Nat.reduceDiv, Nat.reduceMod, Nat.reduceSub, Int.reducePow, Nat.reducePow, σP, σB3, cw, aE]; rfl, by decide⟩
 have h4 : ¬ d.n = 0 := by simpa using hc
 refine wK ?_
 have hpm : 0 <= bX d.m /\ bX d.m <= 255 := by unfold bX; split <;> omega
 obtain ⟨cnt, hcnt⟩ : ∃ cnt : Nat, (if d.n < 0 then bX d.m else d.n) = (cnt : Int) := ⟨(if d.n < 0 then bX d.m else d.n).toNat, by split <;> omega⟩
 have hcnt1 : 1 <= cnt := by
  by_cases h : d.n < 0
  ·rw [if_pos h] at hcnt; omega
  ·rw [if_neg h] at hcnt; omega
 have hcnt2 : cnt <= 255 := by
  by_cases h : d.n < 0
  ·rw [if_pos h] at hcnt; omega
  ·rw [if_neg h] at hcnt; omega
 obtain ⟨fin, hfin⟩ : ∃ fin, fin = cR X (bX d.m) (cnt - 1) 1 (cC X (bX d.m) 0) := ⟨_, rfl⟩
 have he : cv X d.m d.n = if d.n < 0 then .cat fin (.star X) else fin := by
  rw [cv, if_neg h3, if_neg h4]
  by_cases h : d.n < 0
  ·rw [if_pos h] at hcnt
   rw [if_pos h, if_pos h, hfin, hcnt, show ((cnt : Int) - 1).toNat = cnt - 1 by omega]
  ·rw [if_neg h] at hcnt
   rw [if_neg h, if_neg h, hfin, hcnt, show ((cnt : Int) - 1).toNat = cnt - 1 by omega]
 have hlf : l.length + aG fin <= 4000000 := by
  rw [he] at hl
  by_cases h : d.n < 0
  ·rw [if_pos h] at hl
   have : aG (.cat fin (.star X)) = aG fin + (aG X + 1) + 1 := rfl
   omega
  ·rw [if_neg h] at hl
   exact hl
 refine vR Γ0 cw ?_
 refine bx ⟨40, bV [(0, .is (.v (.slice ao ar.length c))), (2, .is (.own 0 0)), (4, .is (.own 8 0)), (7, .is (.v (.int .i64 (bX d.m)))), (8, .is (.v (.int .i64 (cnt : Nat))))], cd [(0, .cells 64 [.hd 1, .v (.int .i64 r)]), (1, .row 243 261 l.length (List.map SV.v (cK l))), (8, .cells 243 (List.map SV.v d.bh))]⟩ ?_ ?_
 ·skip
  refine vR Γ0 cw ?_
  refine wC cw (fun hc => ?_) (fun hc => ?_)
  ·have h5 : d.n < 0 := by simpa using hc
   rw [if_pos h5] at hcnt
   rw [<- hcnt]
   refine vr Γ0 cw ?_
   exact wM (fun k => .key k) cw
  ·have h5 : ¬ d.n < 0 := by simpa using hc
   rw [if_neg h5] at hcnt
   rw [<- hcnt]
   refine wK ?_
   exact wM (fun k => .key k) cw
 refine vR Γ0 cw ?_
 refine Wp.seq ?_
 refine vR Γ0 cw ?_
 refine Wp.block ?_
 refine Wp.loop (fun p : Nat × Option Rx => ⟨60, bV [(0, .is (.v (.slice ao ar.length c))), (2, .is (.own 0 0)), (4, .is (.own 8 0)), (7, .is (.v (.int .i64 (bX d.m)))), (8, .is (.v (.int .i64 (cnt : Nat)))), (9, .is (.v (.int .i64 (UO l.length p.2)))), (10, .is (.v (.int .i64 (p.1 : Nat))))], cd [(0, .cells 64 [.hd 1, .v (.int .i64 r)]), (1, .row 243 261 (l.length + HG p.2) (List.map SV.v (cK l ++ cK (MT l.length p.2)))), (8, .cells 243 (List.map SV.v d.bh))]⟩)
  (fun p => p.1 <= cnt /\ match p.2 with | none => p.1 = 0 | some y => 1 <= p.1 /\ cR X (bX d.m) (cnt - p.1) p.1 y = fin) (fun p => cnt - p.1) (0, none) ?_ ⟨Nat.zero_le _, rfl⟩ ?_
 ·exact wM (fun k => .key k) (Ci cw @UO.eq_1 @HG.eq_1 @MT.eq_1 @Option.elim.eq_1.{0,1} @Option.elim.eq_2.{0,1} (show cK [] = [] from rfl))
 rintro ⟨k, o⟩ ⟨h1, ho2⟩
 simp only at h1 ho2
 refine Wp.seq ?_
 refine vR Γ0 cw ?_
 refine wC cw (fun hc => ?_) (fun hc => ?_)
 ·have hk : k < cnt := by
   simp at hc
   omega
  refine wK ?_
  refine Wp.seq (Wp.block ?_)
  refine vR Γ0 cw ?_
  have hO := T0 l.length o
  have hnext : ∃ w2, cR X (bX d.m) (cnt - (k + 1)) (k + 1 : Nat) w2 = fin /\ (match o with | none => w2 = cC X (bX d.m) k | some y => w2 = .cat y (cC X (bX d.m) k)) := by
   cases o with
   | none =>
    simp only at ho2
    subst ho2
    exact ⟨_, hfin.symm, rfl⟩
   | some y =>
    refine ⟨_, ?_, rfl⟩
    have h2 := ho2.2
    rw [show cnt - k = (cnt - (k + 1)) + 1 by omega] at h2
    exact h2
  obtain ⟨w2, hw2, hw2o⟩ := hnext
  have hr2 := xE X (bX d.m) (cnt - (k + 1)) (k + 1 : Nat) w2
  rw [hw2] at hr2
  have hrp : HG o + aG (cC X (bX d.m) k) <= aG w2 /\ (o.isSome -> HG o + aG (cC X (bX d.m) k) + 1 <= aG w2) := by
   cases o with
   | none =>
    simp only at hw2o
    subst hw2o
    exact ⟨by simp [HG], fun h => by cases h⟩
   | some y =>
    simp only at hw2o
    subst hw2o
    exact ⟨by show aG y + _ <= aG y + _ + 1; omega, fun _ => Nat.le_refl _⟩
  refine bx ⟨90, bV [(0, .is (.v (.slice ao ar.length c))), (2, .is (.own 0 0)), (4, .is (.own 8 0)), (7, .is (.v (.int .i64 (bX d.m)))), (8, .is (.v (.int .i64 (cnt : Nat)))), (9, .is (.v (.int .i64 (UO l.length o)))), (10, .is (.v (.int .i64 (k : Nat)))), (11, .is (.v (.int .i64 ((l.length + HG o + aG (cC X (bX d.m) k) - 1 : Nat) : Int))))], cd [(0, .cells 64 [.hd 1, .v (.int .i64 r)]), (1, .row 243 261 (l.length + HG o + aG (cC X (bX d.m) k)) (List.map SV.v (cK l ++ cK (MT l.length o) ++ cK (dr (l.length + HG o) (cC X (bX d.m) k))))), (8, .cells 243 (List.map SV.v d.bh))]⟩ ?_ ?_
  ·skip
   refine vR Γ0 cw ?_
   refine wC cw (fun hc => ?_) (fun hc => ?_)
   ·have h5 : (k : Int) < bX d.m := by simpa using hc
    have hp : cC X (bX d.m) k = X := by rw [cC, if_pos h5]
    rw [hp] at hrp ⊢
    refine wr (Γ69 ar ts ao c n hg ho') (ab cw hX) ?_ ?_
    ·exact ⟨⟨⟨l ++ MT l.length o, by rw [bE], by rw [List.length_append, hO]⟩, ha, by omega, hs⟩, by decide, by simp⟩
    exact wM (fun x => if x = 1 then .key 568 else .key x) cw
   ·have h5 : ¬ (k : Int) < bX d.m := by simpa using hc
    have hp : cC X (bX d.m) k = .alt X .eps := by rw [cC, if_neg h5]
    rw [hp] at hrp ⊢
    refine wr (Γ69 ar ts ao c n hg ho') (ab cw hop) ?_ ?_
    ·exact ⟨⟨⟨l ++ MT l.length o, by rw [bE], by rw [List.length_append, hO]⟩, ha, by omega, hs⟩, by decide, by simp⟩
    exact wM (fun x => if x = 1 then .key 568 else .key x) cw
  generalize cC X (bX d.m) k = q at *
  have hq := gP q
  cases o with
  | none =>
   simp only at hw2o ho2
   subst hw2o ho2
   have e1 : UO l.length (none : Option Rx) = -1 := rfl
   have e2 : cK l ++ cK (MT l.length (none : Option Rx)) = cK l := List.append_nil _
   have e3 : l.length + HG (none : Option Rx) = l.length := rfl
   rw [e1, e2, e3]
   refine vR Γ0 cw ?_
   refine wC cw (fun hc => ?_) (fun hc => ?_)
   rotate_left
   ·exfalso
    simp at hc
   refine vr Γ0 cw ?_
   refine vr Γ0 cw ?_
   refine ⟨(1, some w2), ⟨by omega, Nat.le_refl _, hw2⟩, by omega, ?_⟩
   exact wM (fun x => .key x) (nC cw @UO.eq_1 @HG.eq_1 @MT.eq_1 @Option.elim.eq_1.{0,1} @Option.elim.eq_2.{0,1})
  | some y =>
   simp only at hw2o ho2
   have e1 : UO l.length (some y) = ((l.length + aG y - 1 : Nat) : Int) := rfl
   have e2 : MT l.length (some y) = dr l.length y := rfl
   have e3 : HG (some y) = aG y := rfl
   have hrp' := hrp.2 rfl
   rw [e1, e2, e3]
   rw [e3] at hrp'
   have hL1 := eG y l.length
   have hL2 := eG q (l.length + aG y)
   refine vR Γ0 cw ?_
   refine wC cw (fun hc => ?_) (fun hc => ?_)
   ·exfalso
    simp at hc
    omega
   refine wr (Γ69 ar ts ao c n hg ho') cw ?_ ?_
   ·exact ⟨⟨l ++ dr l.length y ++ dr (l.length + aG y) q, by rw [bE, bE], by rw [List.length_append, List.length_append, hL1, hL2], by rw [List.length_append, List.length_append, hL1, hL2]; omega⟩, by decide, by simp⟩
   have wk : IntKind.i64.wrap ((k : Int) + 1) = ((k + 1 : Nat) : Int) := by rw [aa (by omega) (by omega)]; omega
   refine vr Γ0 (ab cw wk) ?_
   subst hw2o
   refine ⟨(k + 1, some (.cat y q)), ⟨by omega, by simp only; omega, hw2⟩, by simp only; omega, ?_⟩
   have f1 : UO l.length (some (.cat y q)) = ((l.length + aG y + aG q : Nat) : Int) := by
    show ((l.length + (aG y + aG q + 1) - 1 : Nat) : Int) = _
    congr 1; omega
   have f2 : l.length + HG (some (.cat y q)) = l.length + aG y + aG q + 1 := by
    show l.length + (aG y + aG q + 1) = _
    omega
   have f3 : cK l ++ cK (MT l.length (some (.cat y q))) = cK l ++ cK (dr l.length y) ++ cK (dr (l.length + aG y) q) ++ (bO 2 ((l.length + aG y - 1 : Nat) : Int) ((l.length + aG y + aG q - 1 : Nat) : Int)).bh := by
    show cK l ++ cK (dr l.length y ++ (dr (l.length + aG y) q ++ [_])) = _
    rw [bE, bE, j7]
    simp only [List.append_assoc]
   exact wM (fun x => if x = 1 then .key 760 else .key x) (fj cw f1 f2 f3)
 ·have hk : k = cnt := by
   simp at hc
   omega
  subst hk
  refine wE ?_
  cases o with
  | none =>
   simp only at ho2
   omega
  | some y =>
   simp only at ho2
   have hy : y = fin := by
    have := ho2.2
    rw [Nat.sub_self] at this
    exact this
   subst hy
   have e1 : UO l.length (some y) = ((l.length + aG y - 1 : Nat) : Int) := rfl
   have e2 : MT l.length (some y) = dr l.length y := rfl
   have e3 : HG (some y) = aG y := rfl
   rw [e1, e2, e3]
   have hL1 := eG y l.length
   refine Wp.seq ?_
   refine vR Γ0 cw ?_
   refine wC cw (fun hc => ?_) (fun hc => ?_)
   ·have h5 : d.n < 0 := by simpa using hc
    rw [if_pos h5] at he
    rw [he] at hl ⊢
    have hrs : aG (.cat y (.star X)) = aG y + (aG X + 1) + 1 := rfl
    have hL2 := eG X (l.length + aG y)
    refine wr (Γ69 ar ts ao c n hg ho') (ab cw hX) ?_ ?_
    ·refine ⟨⟨⟨⟨l ++ dr l.length y, by rw [bE], by rw [List.length_append, hL1]⟩, ha, by omega, hs⟩, by decide, by simp⟩,
      ⟨⟨l ++ dr l.length y ++ dr (l.length + aG y) X, by rw [bE, bE], by rw [List.length_append, List.length_append, hL1, hL2], by rw [List.length_append, List.length_append, hL1, hL2]; omega⟩, by decide, by simp⟩,
      ⟨l ++ dr l.length y ++ dr (l.length + aG y) X ++ [bO 4 ((l.length + aG y + aG X - 1 : Nat) : Int) 0], by rw [bE, bE, bE, j7], by rw [List.length_append, List.length_append, List.length_append, hL1, hL2, List.length_singleton], by rw [List.length_append, List.length_append, List.length_append, hL1, hL2, List.length_singleton]; omega⟩, by decide, by simp⟩
    refine vR Γ0 cw ?_
    refine wZ cw ?_
    have g1 : l.length + aG (.cat y (.star X)) = l.length + aG y + aG X + 1 + 1 := by rw [hrs]; omega
    have g2 : l.length + aG y + aG X + 1 + 1 - 1 = l.length + aG y + aG X + 1 := by omega
    have g3 : cK l ++ cK (dr l.length (.cat y (.star X))) = cK l ++ cK (dr l.length y) ++ cK (dr (l.length + aG y) X) ++ (bO 4 ((l.length + aG y + aG X - 1 : Nat) : Int) 0).bh ++ (bO 2 ((l.length + aG y - 1 : Nat) : Int) ((l.length + aG y + aG X : Nat) : Int)).bh := by
     show cK l ++ cK (dr l.length y ++ ((dr (l.length + aG y) X ++ [_]) ++ [_])) = _
     rw [bE, bE, bE, j7, j7]
     simp only [List.append_assoc]
     rw [show l.length + aG y + aG (.star X) - 1 = l.length + aG y + aG X from rfl]
    rw [g1, g2, g3]
    exact ⟨_, _, rfl, fun E => rfl, _, _, rfl, by simp only [dM, Op.operands, Value.cells, σ0, σB, Nat.reduceEqDiff, Nat.reduceAdd, Nat.reduceMul, Nat.reduceLT, Nat.reduceLeDiff, Nat.reduceBEq, ae, Int.reduceToNat, Int.reduceLT, Int.reduceLE, Nat.reduceDiv, Nat.reduceMod, Nat.reduceSub, Int.reducePow, Nat.reducePow, σP, σB3, cw, aE]; rfl, by decide⟩
   ·have h5 : ¬ d.n < 0 := by simpa using hc
    rw [if_neg h5] at he
    rw [he] at hl ⊢
    refine wK ?_
    refine vR Γ0 cw ?_
    refine wZ cw ?_
    exact ⟨_, _, rfl, fun E => rfl, _, _, rfl, by simp only [dM, Op.operands, Value.cells, σ0, σB, Nat.reduceEqDiff, Nat.reduceAdd, Nat.reduceMul, Nat.reduceLT, Nat.reduceLeDiff, Nat.reduceBEq, ae, Int.reduceToNat, Int.reduceLT, Int.reduceLE, Nat.reduceDiv, Nat.reduceMod, Nat.reduceSub, Int.reducePow, Nat.reducePow, σP, σB3, cw, aE]; rfl, by decide⟩
end
end
section
open Go.RowKit Go.LE
set_option maxRecDepth 10000
theorem AR.nm {ar : List Nd} {ts : List RT} (h : AR ar ts) : ∀ k (hk : k < ar.length), ∃ t, ts[k]? = some t /\ NM (ts.take k) ar[k] t := by
 induction h with
 | nil => intro k hk; cases hk
 | @snoc ar ts d t ha hn ih =>
  intro k hk
  by_cases hlt : k < ar.length
  ·obtain ⟨t', h1, h2⟩ := ih k hlt
   have hl := ha.len
   refine ⟨t', by rw [List.getElem?_append_left (by omega)]; exact h1, ?_⟩
   rw [List.getElem_append_left hlt, List.take_append_of_le_length (by omega)]
   exact h2
  ·have hk' : k = ar.length := by simp at hk; omega
   subst hk'
   have hl := ha.len
   refine ⟨t, by rw [<- hl]; simp, ?_⟩
   have e : (ts ++ [t]).take ar.length = ts := by rw [<- hl, List.take_left]
   rw [List.getElem_append_right (Nat.le_refl _), e]
   simpa using hn
theorem qf {w : World} {b : Nat} : ∀ (vs : List Value) (o : Nat), (∀ j (h : j < vs.length), w.cell? ⟨b, o + j, none⟩ = some vs[j]) -> bA w b o vs.length = List.map SV.v vs /\ cM w b o vs.length
 | [], _, _ => ⟨rfl, trivial⟩
 | v :: r, o, h => by
  have h0 := h 0 (by simp)
  have hr := qf r (o + 1) fun j hj => by
   have := h (j + 1) (by simpa using hj)
   rw [show o + (j + 1) = o + 1 + j by omega] at this
   simpa using this
  rw [Nat.add_zero] at h0
  simp only [List.getElem_cons_zero] at h0
  rw [List.length_cons]
  exact ⟨by rw [bA, h0, hr.1]; rfl, by rw [cM, h0]; exact ⟨rfl, hr.2⟩⟩
theorem gV {w : World} {S : Nat -> Prop} {ao : Option Addr} {l : List Nd} (h : ej w S ao (cK l)) {k : Nat} (hk : k < l.length) : ∃ b o, ao = some ⟨b, o, none⟩ /\ S b /\ bA w b (o + k * 261) 261 = List.map SV.v l[k].bh /\ (cM w b (o + k * 261) 261) = True := by
 have hl := Ic l
 rcases h with h | ⟨b, o, rfl, hc⟩
 ·rw [h] at hl; simp at hl; omega
 ·have h0 := hc 0 (by omega)
  have := qf (w := w) (b := b) l[k].bh (o + k * 261) fun j hj => by
   rw [Nd.gp] at hj
   have h1 := hc (k * 261 + j) (by omega)
   have h2 := FN l k j hk hj
   rw [List.getElem?_eq_getElem (by omega), List.getElem?_eq_getElem (by rw [Nd.gp]; exact hj)] at h2
   simp only [Option.some.injEq] at h2
   rw [<- h2, <- h1.2, Nat.add_assoc]
  rw [Nd.gp] at this
  exact ⟨b, o, rfl, h0.1, this.1, eq_true this.2⟩
theorem Hm (d : Nd) : List.take 256 (List.drop 1 (List.map SV.v d.bh)) = List.map SV.v (eI d.set.getLsbD) := by
 have e : List.drop 1 (List.map SV.v d.bh) = List.map SV.v (eI d.set.getLsbD) ++ List.map SV.v [.int .i64 d.a, .int .i64 d.b, .int .i64 d.m, .int .i64 d.n] := by
  show List.map SV.v (eI d.set.getLsbD ++ _) = _
  rw [List.map_append]
 rw [e, List.take_left' (by rw [cY])]
theorem tc (d : Nd) : List.take 261 (List.map SV.v d.bh) = List.map SV.v d.bh := List.take_of_length_le (by rw [zu]; omega)
theorem oC (op : Int) (S : CS) : cU Tryz.prog 243 [0, 1] [.v (.int .i64 op), .agg (List.map SV.v (eI S.getLsbD))] = ⟨True, .agg ((⟨op, S, 0, 0, 0, 0⟩ : Nd).bh.map .v), [], none, [], []⟩ := by
 kernel_rfl
theorem NM.leaf {ts : List RT} {d : Nd} {t : RT} (h : NM ts d t) (h2 : d.op < 2) : (∀ m, dr m t.expand = [⟨d.op, d.set, 0, 0, 0, 0⟩]) /\ aG t.expand = 1 := by
 cases h with
 | eps h0 h1 => exact ⟨fun m => by rw [h0, h1]; rfl, rfl⟩
 | cls h0 => exact ⟨fun m => by rw [h0]; rfl, rfl⟩
 | cat a b h0 | alt a b h0 | and a b h0 | minus a b h0 | rep a h0 => omega
theorem NM.two {ts : List RT} {d : Nd} {t : RT} (h : NM ts d t) (h2 : 2 <= d.op) (h7 : d.op ≠ 7) : ∃ a b, ts[d.a.toNat]? = some a /\ ts[d.b.toNat]? = some b /\ aG t.expand = aG a.expand + aG b.expand + 1 /\
  ∀ m, dr m t.expand = dr m a.expand ++ (dr (m + aG a.expand) b.expand ++ [bO d.op ((m + aG a.expand - 1 : Nat) : Int) ((m + aG a.expand + aG b.expand - 1 : Nat) : Int)]) := by
 cases h with
 | eps h0 | cls h0 => omega
 | cat a b h0 _ h1 _ h2 => exact ⟨a, b, h1, h2, rfl, fun m => by rw [h0]; rfl⟩
 | alt a b h0 _ h1 _ h2 => exact ⟨a, b, h1, h2, rfl, fun m => by rw [h0]; rfl⟩
 | and a b h0 _ h1 _ h2 => exact ⟨a, b, h1, h2, rfl, fun m => by rw [h0]; rfl⟩
 | minus a b h0 _ h1 _ h2 => exact ⟨a, b, h1, h2, rfl, fun m => by rw [h0]; rfl⟩
 | rep a h0 => exact absurd h0 h7
theorem NM.seven {ts : List RT} {d : Nd} {t : RT} (h : NM ts d t) (h7 : d.op = 7) : ∃ a, ts[d.a.toNat]? = some a /\ t.expand = cv a.expand d.m d.n := by
 cases h with
 | eps h0 | cls h0 | cat a b h0 | alt a b h0 | and a b h0 | minus a b h0 => omega
 | rep a h0 _ h1 _ => exact ⟨a, h1, rfl⟩
theorem Dr : List.drop 260 (List.map SV.v (List.replicate 256 (Value.bool false) ++ [Value.int .i64 0] ++ [Value.int .i64 0] ++ [Value.int .i64 0] ++ [Value.int .i64 0])) = [] := by
 apply List.drop_of_length_le
 simp
section
variable (ar : List Nd) (ts : List RT) (ao : Option Addr) (c n : Nat) (d : Nd)
abbrev V7 : Prop := ∀ v, v = .agg d.bh.toArray -> GV ar ao c 176 v ((fun _ => cv (ts.getD d.a.toNat .eps).expand d.m d.n) v)
noncomputable def Γ70 (h : gQ ar ts ao c n) (h' : V7 ar ts ao c d) : Env Tryz.prog := ⟨fun | 124 => some (nR ar ao c 124 Tryz.call124 (below n) (Mn ts) h).spec | 176 => some (nR ar ao c 176 Tryz.call176 (fun v => v = .agg d.bh.toArray) (fun _ => cv (ts.getD d.a.toNat .eps).expand d.m d.n) h').spec | 177 => some yu.spec | _ => none, fun _ => none, fun _ _ => none⟩
theorem Gt70c124 (h : gQ ar ts ao c n) (h' : V7 ar ts ao c d) : (Γ70 ar ts ao c n d h h').sp 124 = some (nR ar ao c 124 Tryz.call124 (below n) (Mn ts) h).spec := rfl
theorem Gt70c176 (h : gQ ar ts ao c n) (h' : V7 ar ts ao c d) : (Γ70 ar ts ao c n d h h').sp 176 = some (nR ar ao c 176 Tryz.call176 (fun v => v = .agg d.bh.toArray) (fun _ => cv (ts.getD d.a.toNat .eps).expand d.m d.n) h').spec := rfl
theorem Gt70c177 (h : gQ ar ts ao c n) (h' : V7 ar ts ao c d) : (Γ70 ar ts ao c n d h h').sp 177 = some yu.spec := rfl
def gZ := (aq jS jP Mv Mq Mr jn cQ (aq cV cX cS da c9 c8 db (aq rB rC rG pJ s3 sY tZ (aq u9 s7 sP xW xo yo xL (aq o7 qX qZ oI rQ rM qT (aq rE qU q5 rS AQ Bg A6 (aq CP AN @aO @au @aB @aC @tH (aq @tC @FI @zv @po @o9 @mR @nr (aq @sC @U0 @VX @Vq @VW @Vj @zu (aq @oe @Gt70c124 @Gt70c176 @Gt70c177 @oN @pM @Hm (fj @oC @Dr @tc @aE)))))))))))
set_option maxHeartbeats 4000000 in
theorem Nw (har : AR ar ts) (k : Nat) (hk : k < ar.length) (hg : gQ ar ts ao c k) : GV ar ao c 124 (.int .i64 k) (ts.getD k .eps).expand := by
 obtain ⟨t, ht, hnm⟩ := har.nm k hk
 have htk : (ts.getD k .eps) = t := by rw [List.getD_eq_getElem?_getD, ht]; rfl
 have hok := har.ok k hk
 have at' : ∀ (x : Int) (a : RT), (ts.take k)[x.toNat]? = some a -> ts.getD x.toNat .eps = a := fun x a hx => by
  rw [List.getElem?_take] at hx
  split at hx
  ·rw [List.getD_eq_getElem?_getD, hx]; rfl
  ·cases hx
 rw [htk]
 intro l r u fp w hl ho hlt hs
 obtain ⟨b, o, hao, hb, hx1, hx2⟩ := gV hs hk
 have hun : V7 ar ts ao c ar[k] \/ ar[k].op ≠ 7 := by
  by_cases h7 : ar[k].op = 7
  ·left
   rintro _ rfl
   exact tX ar ts ao c k hg (Hn ar ts ao c k hg) ar[k] (hok.2.1 (by omega)) (hok.2.2.2 h7)
  ·exact .inr h7
 generalize ar[k] = d at *
 refine kb (nt := 61) _ _ [.tmp 6] (by show 2 <= 7; omega) ho hlt Tryz.func124 rfl rfl rfl ?_
 subst hao
 refine vR Γ0 gZ ?_
 refine Wp.ny Γ0 bP (by simp only [dM, Op.operands, Value.cells, σ0, σB, Nat.reduceEqDiff, Nat.reduceAdd, Nat.reduceMul, Nat.reduceLT, Nat.reduceLeDiff, Nat.reduceBEq, ae, Int.reduceToNat, Int.reduceLT, Int.reduceLE, Nat.reduceDiv, Nat.reduceMod, Nat.reduceSub, Int.reducePow, Nat.reducePow, σP, σB3, gZ, ↓hx1, ↓hx2]; exact rfl) rfl ?_ ?_
 ·exact ⟨by omega, hb, by simp, Nd.dh d⟩
 refine Wp.seq ?_
 refine vR Γ0 gZ ?_
 refine Wp.block ?_
 refine Wp.seq ?_
 refine vR Γ0 gZ ?_
 have hnl : ∀ m : Nat, aG t.expand = 1 -> l.length + aG t.expand - 1 = l.length := fun _ h => by omega
 have leaf : d.op < 2 -> True := fun _ => trivial
 refine wC gZ (fun hc => ?_) (fun hc => ?_)
 ·have h0 : d.op = 0 := by simpa using hc
  obtain ⟨hla, hrs⟩ := hnm.leaf (by omega)
  refine wK ?_
  refine wC gZ (fun hc => ?_) (fun hc => ?_)
  rotate_left
  ·exfalso
   simp [h0] at hc
  rw [hla, hrs, <- bE, Nat.add_sub_cancel]
  refine kY Γ0 gZ ?_ ?_
  ·exact ⟨by simp, by unfold maxLen; omega, by omega, Nd.dh _⟩
  have w1 : IntKind.i64.wrap (((l.length + 1 : Nat) : Int) - 1) = ((l.length : Nat) : Int) := by rw [aa (by omega) (by omega)]; omega
  refine vR Γ0 (ab gZ w1) ?_
  refine wZ gZ ?_
  exact ⟨_, _, rfl, fun E => rfl, _, _, rfl, by simp only [dM, Op.operands, Value.cells, σ0, σB, Nat.reduceEqDiff, Nat.reduceAdd, Nat.reduceMul, Nat.reduceLT, Nat.reduceLeDiff, Nat.reduceBEq, ae, Int.reduceToNat, Int.reduceLT, Int.reduceLE, Nat.reduceDiv, Nat.reduceMod, Nat.reduceSub, Int.reducePow, Nat.reducePow, σP, σB3, gZ, aE]; rfl, by decide⟩
 ·have h0 : ¬ d.op = 0 := by simpa using hc
  refine vr Γ0 gZ ?_
  refine wC gZ (fun hc => ?_) (fun hc => ?_)
  ·have h1 : d.op = 1 := by simpa using hc
   obtain ⟨hla, hrs⟩ := hnm.leaf (by omega)
   rw [hla, hrs, <- bE, Nat.add_sub_cancel]
   refine kY Γ0 gZ ?_ ?_
   ·exact ⟨by simp, by unfold maxLen; omega, by omega, Nd.dh _⟩
   have w1 : IntKind.i64.wrap (((l.length + 1 : Nat) : Int) - 1) = ((l.length : Nat) : Int) := by rw [aa (by omega) (by omega)]; omega
   refine vR Γ0 (ab gZ w1) ?_
   refine wZ gZ ?_
   exact ⟨_, _, rfl, fun E => rfl, _, _, rfl, by simp only [dM, Op.operands, Value.cells, σ0, σB, Nat.reduceEqDiff, Nat.reduceAdd, Nat.reduceMul, Nat.reduceLT, Nat.reduceLeDiff, Nat.reduceBEq, ae, Int.reduceToNat, Int.reduceLT, Int.reduceLE, Nat.reduceDiv, Nat.reduceMod, Nat.reduceSub, Int.reducePow, Nat.reducePow, σP, σB3, gZ, aE]; rfl, by decide⟩
  have h1 : ¬ d.op = 1 := by simpa using hc
  refine vR Γ0 gZ ?_
  refine wC gZ (fun hc => ?_) (fun hc => ?_)
  ·have h7 : d.op = 7 := by simpa using hc
   obtain ⟨a, g1, g2⟩ := hnm.seven h7
   have g3 := at' _ _ g1
   have hun' := hun.resolve_right (fun h => h h7)
   rw [g2] at hl ⊢
   rw [<- g3] at hl ⊢
   refine wR (Γ70 ar ts (some ⟨b, o, none⟩) c k d hg hun') gZ ?_ ?_
   ·exact ⟨⟨⟨l, rfl, rfl⟩, hl, hs⟩, by decide, by simp⟩
   refine wZ gZ ?_
   exact ⟨_, _, rfl, fun E => rfl, _, _, rfl, by simp only [dM, Op.operands, Value.cells, σ0, σB, Nat.reduceEqDiff, Nat.reduceAdd, Nat.reduceMul, Nat.reduceLT, Nat.reduceLeDiff, Nat.reduceBEq, ae, Int.reduceToNat, Int.reduceLT, Int.reduceLE, Nat.reduceDiv, Nat.reduceMod, Nat.reduceSub, Int.reducePow, Nat.reducePow, σP, σB3, gZ, aE]; rfl, by decide⟩
  have h7 : ¬ d.op = 7 := by simpa using hc
  obtain ⟨a, a', g1, g2, hrs, hla⟩ := hnm.two (by omega) h7
  have g3 := at' _ _ g1
  have g4 := at' _ _ g2
  have ha := hok.2.1 (by omega)
  have hb' := hok.2.2.1 (by omega) h7
  have hL1 := eG a.expand l.length
  have hL2 := eG a'.expand (l.length + aG a.expand)
  rw [hla, hrs]
  rw [hrs] at hl
  have hun' : V7 ar ts (some ⟨b, o, none⟩) c ⟨7, 0, d.a, 0, 0, 0⟩ := by
   rintro _ rfl
   exact tX ar ts _ c k hg (Hn ar ts _ c k hg) ⟨7, 0, d.a, 0, 0, 0⟩ ha (.inr (by show (0 : Int) <= 0 /\ (0 : Int) <= 255 /\ (0 : Int) <= 255 /\ ((0 : Int) = -1 \/ (0 : Int) <= 0 /\ (0 : Int) <= 0); omega))
  refine wK ?_
  refine wR (Γ70 ar ts (some ⟨b, o, none⟩) c k ⟨7, 0, d.a, 0, 0, 0⟩ hg hun') (ab gZ g3) ?_ ?_
  ·exact ⟨⟨⟨l, rfl, rfl⟩, ha, by omega, hs⟩, by decide, by simp⟩
  refine wR (Γ70 ar ts (some ⟨b, o, none⟩) c k ⟨7, 0, d.a, 0, 0, 0⟩ hg hun') (ab gZ g4) ?_ ?_
  ·exact ⟨⟨⟨l ++ dr l.length a.expand, by rw [bE], by rw [List.length_append, hL1]⟩, hb', by omega, hs⟩, by decide, by simp⟩
  refine wR (Γ70 ar ts (some ⟨b, o, none⟩) c k ⟨7, 0, d.a, 0, 0, 0⟩ hg hun') gZ ?_ ?_
  ·exact ⟨⟨l ++ dr l.length a.expand ++ dr (l.length + aG a.expand) a'.expand, by rw [bE, bE], by rw [List.length_append, List.length_append, hL1, hL2], by rw [List.length_append, List.length_append, hL1, hL2]; omega⟩, by decide, by simp⟩
  refine wZ gZ ?_
  have e : l.length + (aG a.expand + aG a'.expand + 1) = l.length + aG a.expand + aG a'.expand + 1 := by omega
  rw [e, Nat.add_sub_cancel, bE, bE, j7, <- List.append_assoc, <- List.append_assoc]
  exact ⟨_, _, rfl, fun E => rfl, _, _, rfl, by simp only [dM, Op.operands, Value.cells, σ0, σB, Nat.reduceEqDiff, Nat.reduceAdd, Nat.reduceMul, Nat.reduceLT, Nat.reduceLeDiff, Nat.reduceBEq, ae, Int.reduceToNat, Int.reduceLT, Int.reduceLE, Nat.reduceDiv, Nat.reduceMod, Nat.reduceSub, Int.reducePow, Nat.reducePow, σP, σB3, gZ, aE]; rfl, by decide⟩
theorem BJ (har : AR ar ts) : ∀ n, n <= ar.length -> gQ ar ts ao c n
 | 0, _ => by
  rintro _ ⟨x, rfl, hx⟩
  omega
 | n + 1, hn => by
  have ih := BJ har n (by omega)
  rintro _ ⟨x, rfl, hx⟩
  by_cases h : x < n
  ·exact ih _ ⟨x, rfl, hx.1, h⟩
  ·have e : x = (n : Int) := by omega
   subst e
   exact Nw ar ts ao c har n (by omega) ih
end
end
section
def kh (r : RL) : Prop := r.1 = b7 (aG r.2)
theorem kh.leaf {t : Rx} (h : aG t = 1) : kh (bK t) := by
 show 1 = b7 (aG t)
 rw [h]; rfl
theorem kh.join {mk : Rx -> Rx -> Rx} (hm : ∀ x y, aG (mk x y) = aG x + aG y + 1) {a b : RL} (ha : kh a) (hb : kh b) : kh (aQ mk a b) := by
 show b7 (1 + a.1 + b.1) = b7 (aG (mk a.2 b.2))
 rw [hm, ha, hb, GQ, F5]
 congr 1
 omega
theorem kh.star {a : RL} (ha : kh a) : kh (eo a) := by
 show b7 (1 + a.1) = b7 (aG a.2 + 1)
 rw [ha]
 unfold b7
 omega
theorem kh.maybe {a : RL} (ha : kh a) : kh (bw a) := kh.join (fun _ _ => rfl) ha (kh.leaf rfl)
theorem kh.iter {f : RL -> RL} (hf : ∀ x, kh x -> kh (f x)) : ∀ (k : Nat) {x : RL}, kh x -> kh (bq f k x)
 | 0, _, h => h
 | k + 1, _, h => kh.iter hf k (hf _ h)
theorem kh.times {a : RL} (ha : kh a) (m n : Int) : kh (cJ a m n) := by
 have h1 : kh (if m = 0 then bw a else a) := by split; exact ha.maybe; exact ha
 have h2 : kh (bq (fun x => aQ .cat x a) (m - 1).toNat (if m = 0 then bw a else a)) := kh.iter (fun x hx => kh.join (fun _ _ => rfl) hx ha) _ h1
 unfold cJ
 split
 ·exact ha.star
 ·split
  ·exact kh.leaf rfl
  ·split
   ·exact kh.join (fun _ _ => rfl) h2 ha.star
   ·exact kh.iter (fun x hx => kh.join (fun _ _ => rfl) hx ha.maybe) _ h2
theorem RT.rr (t : RT) : t.sz <= 2001 := by
 cases t with
 | eps => decide
 | cls S => show 1 <= 2001; decide
 | cat a b => exact iS _
 | alt a b => exact iS _
 | and a b => exact iS _
 | minus a b => exact iS _
 | rep a m n => exact iS _
theorem NM.size {ts : List RT} {d : Nd} {t : RT} (h : NM ts d t) (hts : ∀ s ∈ ts, kh s.val) : kh t.val := by
 have at' : ∀ {x : Nat} {a : RT}, ts[x]? = some a -> kh a.val := fun h => hts _ (List.mem_of_getElem? h)
 cases h with
 | eps h0 h1 => exact kh.leaf rfl
 | cls h0 => exact kh.leaf rfl
 | cat a b _ _ h1 _ h2 => exact kh.join (mk := .cat) (fun _ _ => rfl) (at' h1) (at' h2)
 | alt a b _ _ h1 _ h2 => exact kh.join (mk := .alt) (fun _ _ => rfl) (at' h1) (at' h2)
 | and a b _ _ h1 _ h2 => exact kh.join (mk := .and) (fun _ _ => rfl) (at' h1) (at' h2)
 | minus a b _ _ h1 _ h2 => exact kh.join (mk := .minus) (fun _ _ => rfl) (at' h1) (at' h2)
 | rep a _ _ h1 h2 =>
  rcases h2 with ⟨e1, e2⟩ | ⟨g0, _, _, g1⟩
  ·rw [e1, e2, <- uR]
   exact kh.join (fun _ _ => rfl) (at' h1) (at' h1).star
  ·rw [<- qA a d.m d.n g0 g1 a.rr]
   exact (at' h1).times _ _
theorem AR.size {ar : List Nd} {ts : List RT} (h : AR ar ts) : ∀ t ∈ ts, kh t.val := by
 induction h with
 | nil => intro t ht; cases ht
 | snoc ha hn ih =>
  intro s hs
  rcases List.mem_append.1 hs with hs | hs
  ·exact ih s hs
  ·rw [List.mem_singleton.1 hs]
   exact hn.size ih
theorem AR.small {ar : List Nd} {ts : List RT} (h : AR ar ts) {t : RT} (ht : t ∈ ts) (hs : t.sz <= 2000) : aG t.expand <= 2000 := by
 have := h.size t ht
 have e : t.sz = b7 (aG t.expand) := this
 unfold b7 at e
 omega
end
section
open Go.RowKit Go.LE
set_option maxRecDepth 10000
def Ri (n : Int) : UInt8 := if n < 10 then (48 + n).toNat.toUInt8 else (87 + n).toNat.toUInt8
def iX (b : Int) (barred : Bool) : ByteArray :=
 if b = 10 then ⟨#[92, 110]⟩ else if b = 13 then ⟨#[92, 114]⟩ else if b = 9 then ⟨#[92, 116]⟩
 else if b < 32 \/ 126 < b then ⟨#[92, 120, Ri (b / 16), Ri (b % 16)]⟩
 else if barred = true then ⟨#[92, b.toNat.toUInt8]⟩ else ⟨#[b.toNat.toUInt8]⟩
theorem jx (b : Int) (q : Bool) : (iX b q).size <= 4 := by
 unfold iX
 repeat' split
 all_goals (show Array.size _ <= 4; simp)
def jF (S : CS) : Nat -> Nat
 | 0 => 0
 | n + 1 => jF S n + if S.getLsbD n = true then 1 else 0
def hH (S : CS) : Nat := jF S 256
theorem zS (S : CS) (n : Nat) : jF S n <= n := by
 induction n with
 | zero => exact Nat.le_refl _
 | succ n ih =>
  unfold jF
  split <;> omega
def za (S : CS) : Nat -> Nat -> Nat
 | 0, b => b
 | k + 1, b => if S.getLsbD b = true then b else za S k (b + 1)
def va (S : CS) : Nat := za S 256 0
theorem IZ (S : CS) : ∀ k b, b <= za S k b /\ za S k b <= b + k
 | 0, b => ⟨Nat.le_refl _, Nat.le_refl _⟩
 | k + 1, b => by
  unfold za
  split
  ·omega
  ·have := IZ S k (b + 1)
   omega
theorem IU (S : CS) (b : Nat) (hb : b < 256) (h1 : ∀ j < b, S.getLsbD j = false) (h2 : S.getLsbD b = true) : va S = b := by
 have key : ∀ k j, j + k = 256 -> j <= b -> za S k j = b := by
  intro k
  induction k with
  | zero => intro j hj hjb; omega
  | succ k ih =>
   intro j hj hjb
   unfold za
   by_cases e : j = b
   ·subst e; rw [if_pos h2]
   ·rw [if_neg (by rw [h1 j (by omega)]; simp)]
    exact ih (j + 1) (by omega) (by omega)
 exact key 256 0 rfl (Nat.zero_le _)
theorem wY (S : CS) (n : Nat) (h : ∀ j < n, S.getLsbD j = false) : jF S n = 0 := by
 induction n with
 | zero => rfl
 | succ n ih =>
  unfold jF
  rw [ih fun j hj => h j (by omega), h n (by omega)]
  rfl
def iz (T : CS) : Nat -> Nat -> Nat
 | 0, b => b
 | k + 1, b => if T.getLsbD (b + 1) = true then iz T k (b + 1) else b
def iq (T : CS) (b : Nat) : Nat := iz T (255 - b) b
theorem xN (T : CS) (b : Nat) (hb : b < 255) (h : T.getLsbD (b + 1) = true) : iq T b = iq T (b + 1) := by
 unfold iq
 rw [show 255 - b = (255 - (b + 1)) + 1 by omega, iz, if_pos h]
theorem wL (T : CS) (b : Nat) (h : b < 255 -> T.getLsbD (b + 1) = false) : iq T b = b := by
 unfold iq
 by_cases hb : b < 255
 ·rw [show 255 - b = (255 - (b + 1)) + 1 by omega, iz, if_neg (by rw [h hb]; simp)]
 ·rw [show 255 - b = 0 by omega, iz]
theorem HI (T : CS) (b : Nat) (hb : b < 256) : b <= iq T b /\ iq T b < 256 := by
 have key : ∀ k j, b <= j -> j + k <= 255 -> b <= iz T k j /\ iz T k j < 256 := by
  intro k
  induction k with
  | zero => intro j h1 h2; exact ⟨h1, by rw [iz]; omega⟩
  | succ k ih =>
   intro j h1 h2
   unfold iz
   split
   ·exact ih (j + 1) (by omega) (by omega)
   ·omega
 exact key (255 - b) b (Nat.le_refl _) (by omega)
theorem TF (T : CS) (b j : Nat) (hb : b < 256) (h0 : T.getLsbD b = true) (h1 : b <= j) (h2 : j <= iq T b) : T.getLsbD j = true := by
 have key : ∀ k i, T.getLsbD i = true -> i <= j -> j <= iz T k i -> T.getLsbD j = true := by
  intro k
  induction k with
  | zero =>
   intro i hi h1 h2
   rw [iz] at h2
   have : i = j := by omega
   rw [<- this]; exact hi
  | succ k ih =>
   intro i hi h1 h2
   unfold iz at h2
   by_cases e : i = j
   ·rw [<- e]; exact hi
   ·split at h2
    ·rename_i hn
     exact ih (i + 1) hn (by omega) h2
    ·omega
 exact key _ b h0 h1 h2
theorem Ok (T : CS) (b : Nat) (hb : b < 256) (h : iq T b < 255) : T.getLsbD (iq T b + 1) = false := by
 have key : ∀ k i, i + k = 255 -> iz T k i < 255 -> T.getLsbD (iz T k i + 1) = false := by
  intro k
  induction k with
  | zero => intro i h1 h2; rw [iz] at h2; omega
  | succ k ih =>
   intro i h1 h2
   unfold iz at h2 ⊢
   split at h2
   ·rename_i hn
    rw [if_pos hn]
    exact ih (i + 1) (by omega) h2
   ·rename_i hn
    rw [if_neg hn]
    simpa using hn
 exact key (255 - b) b (by omega) h
def lL : ByteArray := ⟨#[45]⟩
def DW (out : ByteArray) (b e : Nat) : ByteArray :=
 if b < e then (if b + 1 < e then out ++ iX b (iN ki b) ++ lL else out ++ iX b (iN ki b)) ++ iX e (iN ki e) else out ++ iX b (iN ki b)
theorem Kj (out : ByteArray) (b e : Nat) : (DW out b e).size <= out.size + 9 := by
 have h1 := jx b (iN ki b)
 have h2 := jx e (iN ki e)
 have h3 : lL.size = 1 := rfl
 unfold DW
 repeat' split
 all_goals simp only [ByteArray.size_append]; omega
def Mt (T : CS) (b : Nat) : Bool := T.getLsbD b && (b == 0 || !T.getLsbD (b - 1))
def cA (T : CS) (pre : ByteArray) : Nat -> ByteArray
 | 0 => pre
 | b + 1 => if Mt T b = true then DW (cA T pre b) b (iq T b) else cA T pre b
theorem gH (T : CS) (pre : ByteArray) (b : Nat) : (cA T pre b).size <= pre.size + 9 * b := by
 induction b with
 | zero => simp [cA]
 | succ b ih =>
  unfold cA
  split
  ·have := Kj (cA T pre b) b (iq T b)
   omega
  ·omega
theorem D8 (T : CS) (pre : ByteArray) (b : Nat) (hb : b < 256) (h0 : T.getLsbD b = true) : ∀ j, b < j -> j <= iq T b + 1 -> cA T pre j = cA T pre (b + 1) := by
 intro j
 induction j with
 | zero => intro h; omega
 | succ j ih =>
  intro h1 h2
  by_cases e : j = b
  ·rw [e]
  ·have hs : Mt T j = false := by
    have g1 := TF T b (j - 1) hb h0 (by omega) (by omega)
    unfold Mt
    rw [g1]
    have : (j == 0) = false := by simp; omega
    rw [this]; simp
   rw [cA, if_neg (by rw [hs]; simp)]
   exact ih (by omega) (by omega)
def uw : ByteArray := ⟨#[91]⟩
def tp : ByteArray := ⟨#[91, 94]⟩
def Ig : ByteArray := ⟨#[93]⟩
def fL (S : CS) : ByteArray :=
 if hH S = 1 then iX (va S) (iN vB (va S))
 else (if 128 < hH S then cA (~~~S) tp 256 else cA S uw 256) ++ Ig
theorem Fp (S : CS) : (fL S).size <= 2400 := by
 have h0 : tp.size = 2 := rfl
 have h1 : uw.size = 1 := rfl
 have h2 : Ig.size = 1 := rfl
 unfold fL
 split
 ·have := jx (va S) (iN vB (va S))
  omega
 ·rw [ByteArray.size_append]
  split
  ·have := gH (~~~S) tp 256
   omega
  ·have := gH S uw 256
   omega
def qO : Rx -> Int
 | .eps => 4
 | .cls _ => 4
 | .cat _ _ => 2
 | .alt _ _ => 0
 | .star _ => 3
 | .and _ _ => 1
 | .minus _ _ => 1
def XK : ByteArray := ⟨#[40]⟩
def XF : ByteArray := ⟨#[41]⟩
def Yi : ByteArray := ⟨#[40, 41]⟩
def Wr : ByteArray := ⟨#[124]⟩
def Wc : ByteArray := ⟨#[38]⟩
def UG : ByteArray := ⟨#[42]⟩
def mC (r need : Int) (s : ByteArray) : ByteArray := if r < need then XK ++ s ++ XF else s
def bS : Rx -> ByteArray
 | .eps => Yi
 | .cls S => fL S
 | .cat a b => mC (qO a) 2 (bS a) ++ mC (qO b) 3 (bS b)
 | .alt a b => mC (qO a) 0 (bS a) ++ Wr ++ mC (qO b) 1 (bS b)
 | .star a => mC (qO a) 3 (bS a) ++ UG
 | .and a b => mC (qO a) 1 (bS a) ++ Wc ++ mC (qO b) 2 (bS b)
 | .minus a b => mC (qO a) 1 (bS a) ++ lL ++ mC (qO b) 2 (bS b)
def Au (t : Rx) (need : Int) : ByteArray := mC (qO t) need (bS t)
theorem dW (r need : Int) (s : ByteArray) : (mC r need s).size <= s.size + 2 := by
 have h1 : XK.size = 1 := rfl
 have h2 : XF.size = 1 := rfl
 unfold mC
 split
 ·rw [ByteArray.size_append, ByteArray.size_append]; omega
 ·omega
theorem cG : ∀ t : Rx, (bS t).size <= 2400 * aG t
 | .eps => by show 2 <= 2400 * 1; omega
 | .cls S => by
  have := Fp S
  show (fL S).size <= 2400 * 1
  omega
 | .cat a b => by
  have h1 := cG a
  have h2 := cG b
  have h3 := dW (qO a) 2 (bS a)
  have h4 := dW (qO b) 3 (bS b)
  have h5 : aG (.cat a b) = aG a + aG b + 1 := rfl
  unfold bS
  rw [ByteArray.size_append]
  omega
 | .alt a b => by
  have h1 := cG a
  have h2 := cG b
  have h3 := dW (qO a) 0 (bS a)
  have h4 := dW (qO b) 1 (bS b)
  have h5 : aG (.alt a b) = aG a + aG b + 1 := rfl
  have h6 : Wr.size = 1 := rfl
  unfold bS
  rw [ByteArray.size_append, ByteArray.size_append]
  omega
 | .star a => by
  have h1 := cG a
  have h3 := dW (qO a) 3 (bS a)
  have h5 : aG (.star a) = aG a + 1 := rfl
  have h6 : UG.size = 1 := rfl
  unfold bS
  rw [ByteArray.size_append]
  omega
 | .and a b => by
  have h1 := cG a
  have h2 := cG b
  have h3 := dW (qO a) 1 (bS a)
  have h4 := dW (qO b) 2 (bS b)
  have h5 : aG (.and a b) = aG a + aG b + 1 := rfl
  have h6 : Wc.size = 1 := rfl
  unfold bS
  rw [ByteArray.size_append, ByteArray.size_append]
  omega
 | .minus a b => by
  have h1 := cG a
  have h2 := cG b
  have h3 := dW (qO a) 1 (bS a)
  have h4 := dW (qO b) 2 (bS b)
  have h5 : aG (.minus a b) = aG a + aG b + 1 := rfl
  have h6 : lL.size = 1 := rfl
  unfold bS
  rw [ByteArray.size_append, ByteArray.size_append]
  omega
end
section
open Go.RowKit Go.LE
set_option maxRecDepth 10000
theorem mh (k a b c d : Nat) (hc : c < 2 ^ k) (hd : d < 2 ^ k) : (2 ^ k * a + c) &&& (2 ^ k * b + d) = 2 ^ k * (a &&& b) + (c &&& d) := by
 have he : (c &&& d) < 2 ^ k := Nat.lt_of_le_of_lt Nat.and_le_left hc
 apply Nat.eq_of_testBit_eq
 intro j
 rw [Nat.testBit_and, Nat.testBit_two_pow_mul_add a hc, Nat.testBit_two_pow_mul_add b hd, Nat.testBit_two_pow_mul_add _ he]
 by_cases h : j < k
 ·rw [if_pos h, if_pos h, if_pos h, Nat.testBit_and]
 ·rw [if_neg h, if_neg h, if_neg h, Nat.testBit_and]
def M0 : Nat -> Nat
 | 0 => 0
 | n + 1 => 4 * M0 n + 1
def f0 (n x : Nat) : Nat := ((x / 2) &&& M0 n) + (x &&& M0 n)
theorem Rz (x : Nat) : f0 0 x = 0 := by simp [f0, M0]
theorem sx (n q d : Nat) (hd : d < 4) : f0 (n + 1) (4 * q + d) = 4 * f0 n q + (d / 2 + d % 2) := by
 have h1 : (4 * q + d) / 2 = 2 ^ 2 * (q / 2) + (2 * (q % 2) + d / 2) := by omega
 have h2 := mh 2 (q / 2) (M0 n) (2 * (q % 2) + d / 2) 1 (by omega) (by omega)
 have h3 := mh 2 q (M0 n) d 1 (by omega) (by omega)
 have h4 : (2 * (q % 2) + d / 2) &&& 1 = d / 2 := by rw [Nat.and_one_is_mod]; omega
 have h5 : d &&& 1 = d % 2 := Nat.and_one_is_mod d
 rw [h4] at h2
 rw [h5] at h3
 unfold f0
 rw [h1, M0]
 rw [show 4 * M0 n + 1 = 2 ^ 2 * M0 n + 1 by omega, show 4 * q + d = 2 ^ 2 * q + d by omega, h2, h3]
 omega
theorem Sy (n q b : Nat) (hb : b < 256) : f0 (n + 4) (256 * q + b) = 256 * f0 n q + f0 4 b := by
 have key : ∀ m r, f0 (m + 4) (256 * r + b) = 256 * f0 m r + (64 * (b / 64 / 2 + b / 64 % 2) + (16 * (b / 16 % 4 / 2 + b / 16 % 4 % 2) + (4 * (b / 4 % 4 / 2 + b / 4 % 4 % 2) + (b % 4 / 2 + b % 4 % 2)))) := fun m r => by
  rw [show 256 * r + b = 4 * (4 * (4 * (4 * r + b / 64) + b / 16 % 4) + b / 4 % 4) + b % 4 by omega]
  rw [sx _ _ _ (by omega), sx _ _ _ (by omega), sx _ _ _ (by omega), sx _ _ _ (by omega)]
  omega
 have h0 := key 0 0
 rw [Rz] at h0
 rw [key, show f0 4 b = f0 (0 + 4) (256 * 0 + b) by rw [Nat.mul_zero, Nat.zero_add, Nat.zero_add], h0]
 omega
def M1 : Nat -> Nat
 | 0 => 0
 | n + 1 => 16 * M1 n + 3
def f1 (n x : Nat) : Nat := ((x / 4) &&& M1 n) + (x &&& M1 n)
theorem G0 (x : Nat) : f1 0 x = 0 := by simp [f1, M1]
theorem Wk (x : Nat) : x &&& 3 = x % 4 := Nat.and_two_pow_sub_one_eq_mod x 2
theorem Wz (x : Nat) : x &&& 15 = x % 16 := Nat.and_two_pow_sub_one_eq_mod x 4
theorem IK (n q d : Nat) (hd : d < 16) : f1 (n + 1) (16 * q + d) = 16 * f1 n q + (d / 4 + d % 4) := by
 have h1 : (16 * q + d) / 4 = 2 ^ 4 * (q / 4) + (4 * (q % 4) + d / 4) := by omega
 have h2 := mh 4 (q / 4) (M1 n) (4 * (q % 4) + d / 4) 3 (by omega) (by omega)
 have h3 := mh 4 q (M1 n) d 3 (by omega) (by omega)
 have h4 : (4 * (q % 4) + d / 4) &&& 3 = d / 4 := by rw [Wk]; omega
 rw [h4] at h2
 rw [Wk] at h3
 unfold f1
 rw [h1, M1]
 rw [show 16 * M1 n + 3 = 2 ^ 4 * M1 n + 3 by omega, show 16 * q + d = 2 ^ 4 * q + d by omega, h2, h3]
 omega
theorem SY (n q b : Nat) (hb : b < 256) : f1 (n + 2) (256 * q + b) = 256 * f1 n q + f1 2 b := by
 have key : ∀ m r, f1 (m + 2) (256 * r + b) = 256 * f1 m r + (16 * (b / 16 / 4 + b / 16 % 4) + (b % 16 / 4 + b % 16 % 4)) := fun m r => by
  rw [show 256 * r + b = 16 * (16 * r + b / 16) + b % 16 by omega]
  rw [IK _ _ _ (by omega), IK _ _ _ (by omega)]
  omega
 have h0 := key 0 0
 rw [G0] at h0
 rw [key, show f1 2 b = f1 (0 + 2) (256 * 0 + b) by rw [Nat.mul_zero, Nat.zero_add, Nat.zero_add], h0]
 omega
def M2 : Nat -> Nat
 | 0 => 0
 | n + 1 => 256 * M2 n + 15
def f2 (n x : Nat) : Nat := (x / 16 + x) &&& M2 n
theorem Si (x : Nat) : f2 0 x = 0 := by simp [f2, M2]
theorem TL (n q d : Nat) (hd : d % 16 <= 4 /\ d / 16 <= 4) (hq : q % 16 <= 4) : f2 (n + 1) (256 * q + d) = 256 * f2 n q + (d / 16 + d % 16) := by
 have h1 : (256 * q + d) / 16 + (256 * q + d) = 2 ^ 8 * (q / 16 + q) + (16 * (q % 16) + d / 16 + d) := by omega
 have h2 := mh 8 (q / 16 + q) (M2 n) (16 * (q % 16) + d / 16 + d) 15 (by omega) (by omega)
 have h4 : (16 * (q % 16) + d / 16 + d) &&& 15 = d / 16 + d % 16 := by rw [Wz]; omega
 rw [h4] at h2
 unfold f2
 rw [h1, M2]
 rw [show 256 * M2 n + 15 = 2 ^ 8 * M2 n + 15 by omega, h2]
def dO (x : Nat) : Nat -> Nat
 | 0 => 0
 | k + 1 => dO x k + if x.testBit k = true then 1 else 0
theorem CE (q b : Nat) (hb : b < 256) : ∀ k, k <= 8 -> dO (256 * q + b) k = dO b k
 | 0, _ => rfl
 | k + 1, h => by
  have h8 := Nat.testBit_two_pow_mul_add (i := 8) q (b := b) hb k
  rw [if_pos (show k < 8 by omega), show 2 ^ 8 * q + b = 256 * q + b by omega] at h8
  rw [dO, dO, CE q b hb k (by omega), h8]
theorem yg (q b : Nat) (hb : b < 256) : ∀ k, dO (256 * q + b) (8 + k) = dO b 8 + dO q k
 | 0 => CE q b hb 8 (Nat.le_refl _)
 | k + 1 => by
  have h8 := Nat.testBit_two_pow_mul_add (i := 8) q (b := b) hb (8 + k)
  rw [if_neg (show ¬ 8 + k < 8 by omega), show 2 ^ 8 * q + b = 256 * q + b by omega, show 8 + k - 8 = k by omega] at h8
  have ih := yg q b hb k
  have e1 : dO (256 * q + b) (8 + (k + 1)) = dO (256 * q + b) (8 + k) + if (256 * q + b).testBit (8 + k) = true then 1 else 0 := rfl
  have e2 : dO q (k + 1) = dO q k + if q.testBit k = true then 1 else 0 := rfl
  rw [e1, e2, ih, h8]
  omega
theorem vj : ∀ b : Fin 256, f0 4 b.val < 256 /\ f1 2 (f0 4 b.val) < 256 /\ f1 2 (f0 4 b.val) % 16 <= 4 /\ f1 2 (f0 4 b.val) / 16 <= 4 /\ f1 2 (f0 4 b.val) / 16 + f1 2 (f0 4 b.val) % 16 = dO b.val 8 /\ dO b.val 8 <= 8 := by decide +kernel
theorem ED (n q b : Nat) (hb : b < 256) (hq : f1 (n * 2) (f0 (n * 4) q) % 16 <= 4) :
  f2 (n + 1) (f1 ((n + 1) * 2) (f0 ((n + 1) * 4) (256 * q + b))) = 256 * f2 n (f1 (n * 2) (f0 (n * 4) q)) + dO b 8 /\ f1 ((n + 1) * 2) (f0 ((n + 1) * 4) (256 * q + b)) % 16 <= 4 := by
 obtain ⟨h1, h2, h3, h4, h5, h6⟩ := vj ⟨b, hb⟩
 simp only at h1 h2 h3 h4 h5 h6
 rw [show (n + 1) * 4 = n * 4 + 4 by omega, show (n + 1) * 2 = n * 2 + 2 by omega, Sy _ _ _ hb, SY _ _ _ h1]
 refine ⟨?_, by omega⟩
 rw [TL _ _ _ ⟨h3, h4⟩ hq, h5]
def CY : Nat -> Nat -> Nat
 | 0, _ => 0
 | n + 1, x => 256 * CY n (x / 256) + dO (x % 256) 8
theorem xk : ∀ n x, f2 n (f1 (n * 2) (f0 (n * 4) x)) = CY n x /\ f1 (n * 2) (f0 (n * 4) x) % 16 <= 4
 | 0, x => by
  show f2 0 (f1 0 (f0 0 x)) = CY 0 x /\ f1 0 (f0 0 x) % 16 <= 4
  rw [Si, G0]
  exact ⟨rfl, by omega⟩
 | n + 1, x => by
  have ih := xk n (x / 256)
  have h := ED n (x / 256) (x % 256) (by omega) ih.2
  rw [show 256 * (x / 256) + x % 256 = x by omega, ih.1] at h
  exact h
theorem Gl (x : Nat) : dO x 64 = dO (x % 256) 8 + (dO (x / 256 % 256) 8 + (dO (x / 256 / 256 % 256) 8 + (dO (x / 256 / 256 / 256 % 256) 8 + (dO (x / 256 / 256 / 256 / 256 % 256) 8 + (dO (x / 256 / 256 / 256 / 256 / 256 % 256) 8 + (dO (x / 256 / 256 / 256 / 256 / 256 / 256 % 256) 8 + dO (x / 256 / 256 / 256 / 256 / 256 / 256 / 256 % 256) 8)))))) := by
 have step : ∀ k y, dO y (8 + k) = dO (y % 256) 8 + dO (y / 256) k := fun k y => by
  have h := yg (y / 256) (y % 256) (by omega) k
  rw [show 256 * (y / 256) + y % 256 = y by omega] at h
  exact h
 rw [show 64 = 8 + (8 + (8 + (8 + (8 + (8 + (8 + (8 + 0))))))) from rfl]
 rw [step, step, step, step, step, step, step, step]
 rfl
theorem j4 (x : Nat) : dO (x % 256) 8 <= 8 := (vj ⟨x % 256, by omega⟩).2.2.2.2.2
theorem Ea (x : Nat) : ∃ c0 c1 c2 c3 c4 c5 c6 c7 : Nat, (c0 <= 8 /\ c1 <= 8 /\ c2 <= 8 /\ c3 <= 8 /\ c4 <= 8 /\ c5 <= 8 /\ c6 <= 8 /\ c7 <= 8) /\
  CY 8 x = 256 * (256 * (256 * (256 * (256 * (256 * (256 * (256 * 0 + c7) + c6) + c5) + c4) + c3) + c2) + c1) + c0 /\ dO x 64 = c0 + (c1 + (c2 + (c3 + (c4 + (c5 + (c6 + c7)))))) :=
 ⟨_, _, _, _, _, _, _, _, ⟨j4 _, j4 _, j4 _, j4 _, j4 _, j4 _, j4 _, j4 _⟩, rfl, Gl x⟩
theorem Qb (x : Nat) : ∃ y, y = CY 8 x /\ y + y / 256 < 2 ^ 64 /\ (y + y / 256) + (y + y / 256) / 65536 < 2 ^ 64 /\ (y + y / 256) + (y + y / 256) / 65536 + ((y + y / 256) + (y + y / 256) / 65536) / 4294967296 < 2 ^ 63 /\
  ((y + y / 256) + (y + y / 256) / 65536 + ((y + y / 256) + (y + y / 256) / 65536) / 4294967296) % 128 = dO x 64 := by
 obtain ⟨c0, c1, c2, c3, c4, c5, c6, c7, hc, h1, h2⟩ := Ea x
 refine ⟨CY 8 x, rfl, ?_⟩
 rw [h2]
 have h3 : CY 8 x = c0 + 256 * c1 + 65536 * c2 + 16777216 * c3 + 4294967296 * c4 + 1099511627776 * c5 + 281474976710656 * c6 + 72057594037927936 * c7 := by rw [h1]; omega
 generalize CY 8 x = y at *
 have h4 : y / 256 = c1 + 256 * c2 + 65536 * c3 + 16777216 * c4 + 4294967296 * c5 + 1099511627776 * c6 + 281474976710656 * c7 := by omega
 obtain ⟨d0, e0⟩ : ∃ d, d = c0 + c1 := ⟨_, rfl⟩
 obtain ⟨d1, e1⟩ : ∃ d, d = c1 + c2 := ⟨_, rfl⟩
 obtain ⟨d2, e2⟩ : ∃ d, d = c2 + c3 := ⟨_, rfl⟩
 obtain ⟨d3, e3⟩ : ∃ d, d = c3 + c4 := ⟨_, rfl⟩
 obtain ⟨d4, e4⟩ : ∃ d, d = c4 + c5 := ⟨_, rfl⟩
 obtain ⟨d5, e5⟩ : ∃ d, d = c5 + c6 := ⟨_, rfl⟩
 obtain ⟨d6, e6⟩ : ∃ d, d = c6 + c7 := ⟨_, rfl⟩
 have h5 : y + y / 256 = d0 + 256 * d1 + 65536 * d2 + 16777216 * d3 + 4294967296 * d4 + 1099511627776 * d5 + 281474976710656 * d6 + 72057594037927936 * c7 := by omega
 have hs : c0 + (c1 + (c2 + (c3 + (c4 + (c5 + (c6 + c7)))))) = d0 + d2 + d4 + d6 := by omega
 have hd : d0 <= 16 /\ d1 <= 16 /\ d2 <= 16 /\ d3 <= 16 /\ d4 <= 16 /\ d5 <= 16 /\ d6 <= 16 /\ c7 <= 16 := by omega
 rw [hs]
 clear h1 h2 h3 h4 hs hc e0 e1 e2 e3 e4 e5 e6
 generalize y + y / 256 = z at *
 have h6 : z / 65536 = d2 + 256 * d3 + 65536 * d4 + 16777216 * d5 + 4294967296 * d6 + 1099511627776 * c7 := by omega
 obtain ⟨g0, k0⟩ : ∃ d, d = d0 + d2 := ⟨_, rfl⟩
 obtain ⟨g1, k1⟩ : ∃ d, d = d1 + d3 := ⟨_, rfl⟩
 obtain ⟨g2, k2⟩ : ∃ d, d = d2 + d4 := ⟨_, rfl⟩
 obtain ⟨g3, k3⟩ : ∃ d, d = d3 + d5 := ⟨_, rfl⟩
 obtain ⟨g4, k4⟩ : ∃ d, d = d4 + d6 := ⟨_, rfl⟩
 obtain ⟨g5, k5⟩ : ∃ d, d = d5 + c7 := ⟨_, rfl⟩
 have h7 : z + z / 65536 = g0 + 256 * g1 + 65536 * g2 + 16777216 * g3 + 4294967296 * g4 + 1099511627776 * g5 + 281474976710656 * d6 + 72057594037927936 * c7 := by omega
 have hz : z < 2 ^ 64 := by omega
 have hs2 : d0 + d2 + d4 + d6 = g0 + g4 := by omega
 have hg : g0 <= 32 /\ g1 <= 32 /\ g2 <= 32 /\ g3 <= 32 /\ g4 <= 32 /\ g5 <= 32 /\ d6 <= 16 /\ c7 <= 16 := by omega
 rw [hs2]
 clear h5 h6 hs2 hd k0 k1 k2 k3 k4 k5
 generalize z + z / 65536 = u at *
 have h8 : u / 4294967296 = g4 + 256 * g5 + 65536 * d6 + 16777216 * c7 := by omega
 refine ⟨hz, by omega, by omega, ?_⟩
 omega
theorem Cs (S : CS) (j : Nat) : ∀ k, k <= 64 -> jF S (64 * j + k) = jF S (64 * j) + dO (wd S j).toNat k
 | 0, _ => rfl
 | k + 1, h => by
  have e : (wd S j).toNat.testBit k = S.getLsbD (64 * j + k) := by
   rw [wd, Int.toNat_natCast]
   show (S.extractLsb' (64 * j) 64).getLsbD k = _
   rw [BitVec.getLsbD_extractLsb']
   simp; omega
  rw [show 64 * j + (k + 1) = (64 * j + k) + 1 by omega, jF, dO, Cs S j k (by omega), e]
  omega
theorem Wg (S : CS) (j : Nat) : (wd S j).toNat < 2 ^ 64 := by
 rw [wd, Int.toNat_natCast]
 exact (S.extractLsb' (64 * j) 64).isLt
end
section
open Go.RowKit Go.LE
set_option maxRecDepth 10000
theorem JK : ∀ b : Fin 256, (0 <= IntKind.u8.wrap (((b.val : Nat) : Int).tdiv 16) /\ IntKind.u8.wrap (((b.val : Nat) : Int).tdiv 16) < 16) /\ (0 <= ((b.val : Nat) : Int).tmod 16 /\ ((b.val : Nat) : Int).tmod 16 < 16) /\
  (⟨#[92, 120]⟩ : ByteArray) ++ gu [bt ⟨#[48, 49, 50, 51, 52, 53, 54, 55, 56, 57, 97, 98, 99, 100, 101, 102]⟩ (IntKind.u8.wrap (((b.val : Nat) : Int).tdiv 16)), bt ⟨#[48, 49, 50, 51, 52, 53, 54, 55, 56, 57, 97, 98, 99, 100, 101, 102]⟩ (((b.val : Nat) : Int).tmod 16)] = ⟨#[92, 120, Ri (((b.val : Nat) : Int) / 16), Ri (((b.val : Nat) : Int) % 16)]⟩ := by decide +kernel
def iQ := (aq @List.replicate_succ.{0} @List.replicate_zero.{0} @aw @ah Mv Mq Mr (aq X9 Yj XP Yk da c9 c8 (aq db iv ie ig ir iw eW (aq eV eX eZ e8 e9 Oa Ny (aq Q3 Nj @aO @au @aB @aC @kz (nC @cY @jk @kK @jX @aE @fZ))))))
set_option maxHeartbeats 2000000 in
theorem PB (b : Int) (q : Bool) (h0 : 0 <= b) (h1 : b < 256) (w : World) : Calls Tryz.prog 204 #[.int .u8 b, .bool q] w fun e w' => e = .returned (.string (iX b q)) /\ ai w [] w' := by
 refine al (nt := 37) [.tmp 4] Tryz.func204 rfl rfl rfl ?_
 refine vR Γ0 iQ ?_
 refine Wp.seq ?_
 refine vR Γ0 iQ ?_
 refine wC iQ (fun hc => ?_) (fun hc => ?_)
 ·have h : b = 10 := by simpa using hc
  have e : iX b q = ⟨#[92, 110]⟩ := by rw [iX, if_pos h]
  rw [e]
  refine vR Γ0 iQ ?_
  refine wZ iQ ?_
  exact fun E => rfl
 have n10 : ¬ b = 10 := by simpa using hc
 refine wK ?_
 refine Wp.seq ?_
 refine vR Γ0 iQ ?_
 refine wC iQ (fun hc => ?_) (fun hc => ?_)
 ·have h : b = 13 := by simpa using hc
  have e : iX b q = ⟨#[92, 114]⟩ := by rw [iX, if_neg n10, if_pos h]
  rw [e]
  refine vR Γ0 iQ ?_
  refine wZ iQ ?_
  exact fun E => rfl
 have n13 : ¬ b = 13 := by simpa using hc
 refine wK ?_
 refine Wp.seq ?_
 refine vR Γ0 iQ ?_
 refine wC iQ (fun hc => ?_) (fun hc => ?_)
 ·have h : b = 9 := by simpa using hc
  have e : iX b q = ⟨#[92, 116]⟩ := by rw [iX, if_neg n10, if_neg n13, if_pos h]
  rw [e]
  refine vR Γ0 iQ ?_
  refine wZ iQ ?_
  exact fun E => rfl
 have n9 : ¬ b = 9 := by simpa using hc
 refine wK ?_
 refine Wp.seq ?_
 refine vR Γ0 iQ ?_
 refine wC iQ (fun hc => ?_) (fun hc => ?_)
 ·have h : b < 32 \/ 126 < b := by simpa using hc
  have e : iX b q = ⟨#[92, 120, Ri (b / 16), Ri (b % 16)]⟩ := by rw [iX, if_neg n10, if_neg n13, if_neg n9, if_pos h]
  rw [e]
  obtain ⟨n, rfl⟩ := Int.eq_ofNat_of_zero_le h0
  obtain ⟨f1, f2, f3⟩ := JK ⟨n, by omega⟩
  simp only at f1 f2 f3
  refine vR Γ0 iQ ?_
  refine kY Γ0 iQ ?_ ?_
  ·exact ⟨by omega, f1, by omega, f2, by show 2 + 2 <= 9223372036854775807; omega⟩
  refine wZ iQ ?_
  exact fun E => congrArg Value.string f3
 have n32 : ¬ (b < 32 \/ 126 < b) := by simpa using hc
 refine wK ?_
 refine Wp.seq ?_
 refine vR Γ0 iQ ?_
 refine wC iQ (fun hc => ?_) (fun hc => ?_)
 ·subst hc
  have e : iX b true = ⟨#[92, b.toNat.toUInt8]⟩ := by rw [iX, if_neg n10, if_neg n13, if_neg n9, if_neg n32, if_pos rfl]
  rw [e]
  refine wR Γ0 iQ ?_ ?_
  ·show 1 + 1 <= 9223372036854775807; omega
  refine wZ iQ ?_
  exact fun E => rfl
 ·subst hc
  have e : iX b false = ⟨#[b.toNat.toUInt8]⟩ := by rw [iX, if_neg n10, if_neg n13, if_neg n9, if_neg n32, if_neg (by simp)]
  rw [e]
  refine wK ?_
  refine vR Γ0 iQ ?_
  refine wZ iQ ?_
  exact fun E => rfl
def IV : a7 Tryz.prog 204 where
 pre := fun W bs => fun | [.val (.int .u8 b), .val (.bool q)] => 0 <= b /\ b < 256 | _ => False
 res := fun W => fun | [.val (.int .u8 b), .val (.bool q)] => .string (iX b q) | _ => undef
 enters := Tryz.call204
 ok := by
  intro W w bs us as_ hk hu hp
  split at hp
  ·rename_i b q
   match us, hu with
   | [u0, u1], hu =>
    obtain ⟨rfl, rfl, _⟩ := hu
    exact PB b q hp.1 hp.2 w
  ·exact hp.elim
theorem Jp (W : World) (b : Int) (q : Bool) : IV.res W [.val (.int .u8 b), .val (.bool q)] = .string (iX b q) := rfl
theorem Jv (W : World) (bs : List Nat) (b : Int) (q : Bool) : IV.pre W bs [.val (.int .u8 b), .val (.bool q)] = (0 <= b /\ b < 256) := rfl
end
section
open Go.RowKit Go.LE
set_option maxRecDepth 10000
theorem kH (S T : CS) (h : kp S = kp T) : S = T := by
 have h : eI S.getLsbD = eI T.getLsbD := congrArg (fun v => match v with | Value.agg a => a.toList | _ => []) h
 apply BitVec.eq_of_getLsbD_eq
 intro i hi
 have h1 := jY S.getLsbD i hi
 rw [h, jY T.getLsbD i hi] at h1
 simpa using h1.symm
def js := (aq @aw @ah jS jP jn cQ cV (aq cX cS da c9 c8 db iv (aq ie ig ir iw eW eV eX (aq eZ e8 e9 xW xo yo xL (aq @aO @au @aB @aC @kz @cY @jk (fj @kK @jX @aE @fZ))))))
set_option maxHeartbeats 2000000 in
theorem Ey (S : CS) (w : World) : Calls Tryz.prog 203 #[kp S] w fun e w' => e = .returned (.int .i64 (hH S : Nat)) /\ ai w [] w' := by
 refine al (nt := 15) [.tmp 2] Tryz.func203 rfl rfl rfl ?_
 refine vR Γ0 (ab js @kp.eq_1) ?_
 refine vR Γ0 js ?_
 refine Wp.seq ?_
 refine vR Γ0 js ?_
 refine Wp.block ?_
 refine Wp.loop (fun j : Nat => ⟨20, bV [(1, .is (.own 0 0)), (3, .is (.v (.int .i64 (jF S j : Nat)))), (4, .is (.v (.int .i64 (j : Nat))))], cd [(0, .cells 241 ((eI S.getLsbD).map .v))]⟩) (fun j => j <= 256) (fun j => 256 - j) 0 ?_ (Nat.zero_le _) ?_
 ·exact wM (fun k => .key k) js
 rintro j hj
 have hle := zS S j
 refine Wp.seq ?_
 refine vR Γ0 js ?_
 refine wC js (fun hc => ?_) (fun hc => ?_)
 ·have hlt : j < 256 := by
   simp at hc
   omega
  have wj : IntKind.i64.wrap ((j : Int) + 1) = ((j + 1 : Nat) : Int) := by rw [aa (by omega) (by omega)]; omega
  refine wK ?_
  refine Wp.seq (Wp.block ?_)
  refine Wp.ny Γ0 bP (by simp only [dM, Op.operands, Value.cells, σ0, σB, Nat.reduceEqDiff, Nat.reduceAdd, Nat.reduceMul, Nat.reduceLT, Nat.reduceLeDiff, Nat.reduceBEq, ae, Int.reduceToNat, Int.reduceLT, Int.reduceLE, Nat.reduceDiv, Nat.reduceMod, Nat.reduceSub, Int.reducePow, Nat.reducePow, σP, σB3, js, jY _ j hlt]; exact rfl) rfl ?_ ?_
  ·omega
  refine wC js (fun hc => ?_) (fun hc => ?_)
  ·have e : jF S (j + 1) = jF S j + 1 := by rw [jF, if_pos hc]
   have wc : IntKind.i64.wrap ((jF S j : Int) + 1) = ((jF S (j + 1) : Nat) : Int) := by rw [aa (by omega) (by omega), e]; omega
   refine vr Γ0 (ab js wc) ?_
   refine vr Γ0 (ab js wj) ?_
   refine ⟨j + 1, by omega, by omega, ?_⟩
   exact wM (fun k => .key k) js
  ·have e : jF S (j + 1) = jF S j := by rw [jF, if_neg (by rw [hc]; simp)]; omega
   refine wK ?_
   refine vr Γ0 (ab js wj) ?_
   refine ⟨j + 1, by omega, by omega, ?_⟩
   rw [e]
   exact wM (fun k => .key k) js
 ·have hj' : j = 256 := by
   simp at hc
   omega
  subst hj'
  refine wE ?_
  refine vR Γ0 js ?_
  refine wZ js ?_
  exact fun E => rfl
noncomputable def ng : a7 Tryz.prog 203 where
 pre := fun W bs => fun | [.val y0] => (match dec kp y0 with | some S => True | _ => False) | _ => False
 res := fun W => fun | [.val y0] => (match dec kp y0 with | some S => .int .i64 (hH S : Nat) | _ => undef) | _ => undef
 enters := Tryz.call203
 ok := by
  intro W w bs us as_ hk hu hp
  split at hp
  ·rename_i y0
   split at hp
   ·rename_i S h0
    match us, hu with
    | [u0], hu =>
     obtain ⟨rfl, _⟩ := hu
     obtain rfl := fq h0
     try dsimp only
     try simp only [b9 kH]
     exact Ey S w
   ·exact hp.elim
  ·exact hp.elim
theorem Cv (W : World) (S : CS) : ng.res W [.val (kp S)] = .int .i64 (hH S : Nat) := by simp only [ng, b9 kH]
theorem Dl (W : World) (bs : List Nat) (S : CS) : ng.pre W bs [.val (kp S)] = (True) := by simp only [ng, b9 kH]
end
section
open Go.RowKit Go.LE
set_option maxRecDepth 10000
theorem Gy (S : CS) : partsOf (.v (kp S)) = List.map SV.v (eI S.getLsbD) := rfl
theorem xu (S : CS) : Value.agg (eI S.getLsbD).toArray = kp S := rfl
noncomputable def Γ76 : Env Tryz.prog := ⟨fun | 203 => some ng.spec | 204 => some IV.spec | 205 => some kr.spec | 206 => some pU.spec | _ => none, fun | _ => none, fun _ _ => none⟩
theorem Gt76c203 : Γ76.sp 203 = some ng.spec := rfl
theorem Gt76c204 : Γ76.sp 204 = some IV.spec := rfl
theorem Gt76c205 : Γ76.sp 205 = some kr.spec := rfl
theorem Gt76c206 : Γ76.sp 206 = some pU.spec := rfl
theorem Fj (S : CS) (h1 : hH S ≠ 1) : ∃ (T : CS) (pre : ByteArray) (want : Bool), fL S = cA T pre 256 ++ Ig /\ pre.size <= 2 /\ (∀ k < 256, (S.getLsbD k == want) = T.getLsbD k) /\ want = !decide (128 < hH S) /\ pre = bif decide (128 < hH S) then tp else uw := by
 by_cases h : 128 < hH S
 ·refine ⟨~~~S, tp, false, ?_, by decide, fun k hk => ?_, by simp [h], by simp [h]⟩
  ·rw [fL, if_neg h1, if_pos h]
  ·rw [BitVec.getLsbD_not]
   cases S.getLsbD k <;> simp [hk]
 ·refine ⟨S, uw, true, ?_, by decide, fun k hk => ?_, by simp [h], by simp [h]⟩
  ·rw [fL, if_neg h1, if_neg h]
  ·cases S.getLsbD k <;> simp
theorem As {P : Program} {eqs : (T : TypeId) -> Option (EqSpec P T)} (h : Hp) (T : TypeId) (X Y : Operand) (b : Bool) : bF P eqs h .eql T X Y [.v undef, .v (.bool b)] = .bad := rfl
theorem bad_eq : R.bad = ⟨False, .v undef, [], none, [], []⟩ := rfl
theorem IT (out : ByteArray) (b e : Nat) : DW out b e = if b < e then (if b + 1 < e then out ++ iX b (iN ki b) ++ lL else out ++ iX b (iN ki b)) ++ iX e (iN ki e) else (if b + 1 < e then out ++ iX b (iN ki b) ++ lL else out ++ iX b (iN ki b)) := by
 unfold DW
 split
 ·rfl
 ·rw [if_neg (by omega)]
def ba := (aq @aw @ah jS jP jn cQ cV (aq cX cS da c9 c8 db iv (aq ie ig ir iw eW eV eX (aq eZ e8 e9 xW xo yo xL (aq @aO @au @aB @aC @kz @cY @jk (aq @kK @jX @aE @fZ @Cv @Dl @Jp (aq @Jv @oS @oQ @uI @uD @xu @Gy (fj Gt76c203 Gt76c204 Gt76c205 Gt76c206))))))))
set_option maxHeartbeats 4000000 in
theorem I7 (S : CS) (w : World) : Calls Tryz.prog 156 #[kp S] w fun e w' => e = .returned (.string (fL S)) /\ ai w [] w' := by
 refine al (nt := 92) [.tmp 2] Tryz.func156 rfl rfl rfl ?_
 refine vR Γ76 ba ?_
 refine vR Γ76 ba ?_
 refine Wp.seq ?_
 refine vR Γ76 ba ?_
 refine wC ba (fun hc => ?_) (fun hc => ?_)
 ·have h1 : hH S = 1 := by simp at hc; omega
  refine vR Γ76 ba ?_
  refine Wp.block ?_
  refine Wp.loop (fun j : Nat => ⟨20, bV [(1, .is (.own 0 0)), (4, .is (.v (.int .i64 (j : Nat))))], cd [(0, .cells 241 ((eI S.getLsbD).map .v))]⟩) (fun j => j <= 256 /\ ∀ k < j, S.getLsbD k = false) (fun j => 256 - j) 0 ?_ ⟨Nat.zero_le _, fun k h => by omega⟩ ?_
  ·exact wM (fun k => .key k) ba
  rintro j ⟨hj, hn⟩
  refine Wp.seq ?_
  refine vR Γ76 ba ?_
  refine wC ba (fun hc => ?_) (fun hc => ?_)
  ·have hlt : j < 256 := by
    simp at hc
    omega
   have wj : IntKind.i64.wrap ((j : Int) + 1) = ((j + 1 : Nat) : Int) := by rw [aa (by omega) (by omega)]; omega
   have wu : IntKind.u8.wrap (j : Int) = (j : Int) := gn (by omega) (by omega)
   refine wK ?_
   refine Wp.seq (Wp.block ?_)
   refine Wp.ny Γ76 bP (by simp only [dM, Op.operands, Value.cells, σ0, σB, Nat.reduceEqDiff, Nat.reduceAdd, Nat.reduceMul, Nat.reduceLT, Nat.reduceLeDiff, Nat.reduceBEq, ae, Int.reduceToNat, Int.reduceLT, Int.reduceLE, Nat.reduceDiv, Nat.reduceMod, Nat.reduceSub, Int.reducePow, Nat.reducePow, σP, σB3, ba, jY _ j hlt]; exact rfl) rfl ?_ ?_
   ·omega
   refine wC ba (fun hc => ?_) (fun hc => ?_)
   ·have e : fL S = iX j (iN vB j) := by rw [fL, if_pos h1, IU S j hlt hn hc]
    rw [e]
    refine wR Γ76 (ab ba wu) ?_ ?_
    ·omega
    refine wZ ba ?_
    exact fun E => rfl
   ·refine wK ?_
    refine vr Γ76 (ab ba wj) ?_
    refine ⟨j + 1, ⟨by omega, fun k hk => ?_⟩, by omega, ?_⟩
    ·by_cases h : k = j
     ·rw [h]; exact hc
     ·exact hn k (by omega)
    ·exact wM (fun k => .key k) ba
  ·exfalso
   have hj' : j = 256 := by
    simp at hc
    omega
   subst hj'
   have := wY S 256 hn
   rw [hH] at h1
   omega
 have h1 : hH S ≠ 1 := by simp at hc; omega
 obtain ⟨T, pre, want, he, hpre, hT, hw, hp⟩ := Fj S h1
 rw [he]
 refine wK ?_
 refine vR Γ76 ba ?_
 refine vR Γ76 ba ?_
 refine bx ⟨60, bV [(1, .is (.own 0 0)), (5, .is (.v (.string pre))), (6, .is (.v (.bool want)))], cd [(0, .cells 241 ((eI S.getLsbD).map .v))]⟩ ?_ ?_
 ·skip
  refine vR Γ76 ba ?_
  refine wC ba (fun hc => ?_) (fun hc => ?_)
  ·have h : decide (128 < hH S) = true := by simp at hc ⊢; omega
   rw [h] at hw hp
   subst hw hp
   refine vR Γ76 ba ?_
   refine vr Γ76 ba ?_
   exact wM (fun k => .key k) ba
  ·have h : decide (128 < hH S) = false := by simp at hc ⊢; omega
   rw [h] at hw hp
   subst hw hp
   refine wK ?_
   exact wM (fun k => .key k) ba
 clear hw hp
 refine Wp.seq ?_
 refine vR Γ76 ba ?_
 refine Wp.block ?_
 refine Wp.loop (fun b : Nat => ⟨70, bV [(1, .is (.own 0 0)), (5, .is (.v (.string (cA T pre b)))), (6, .is (.v (.bool want))), (7, .is (.v (.int .i64 (b : Nat))))], cd [(0, .cells 241 ((eI S.getLsbD).map .v))]⟩) (fun b => b <= 256) (fun b => 256 - b) 0 ?_ (Nat.zero_le _) ?_
 ·exact wM (fun k => .key k) ba
 intro b hb
 refine Wp.seq ?_
 refine vR Γ76 ba ?_
 refine wC ba (fun hc => ?_) (fun hc => ?_)
 ·have hlt : b < 256 := by
   simp at hc
   omega
  have wj : IntKind.i64.wrap ((b : Int) + 1) = ((b + 1 : Nat) : Int) := by rw [aa (by omega) (by omega)]; omega
  have w1 : IntKind.i64.wrap ((b : Int) - 1) = (b : Int) - 1 := aa (by omega) (by omega)
  have w2 : ((b : Int) - 1).toNat = b - 1 := by omega
  have wu : IntKind.u8.wrap (b : Int) = (b : Int) := gn (by omega) (by omega)
  have hsz := gH T pre b
  have hst : (!(S.getLsbD b == want) || (decide (0 < (b : Int)) && (S.getLsbD (b - 1) == want))) = !Mt T b := by
   rw [hT b hlt, hT (b - 1) (by omega), Mt]
   by_cases h0 : b = 0
   ·subst h0; simp
   ·rw [show decide (0 < (b : Int)) = true by simp; omega, show (b == 0) = false by simpa using h0]
    cases T.getLsbD b <;> cases T.getLsbD (b - 1) <;> rfl
  refine wK ?_
  refine Wp.seq (Wp.block ?_)
  refine Wp.seq ?_
  refine Wp.ny Γ76 bP (by simp only [dM, Op.operands, Value.cells, σ0, σB, Nat.reduceEqDiff, Nat.reduceAdd, Nat.reduceMul, Nat.reduceLT, Nat.reduceLeDiff, Nat.reduceBEq, ae, Int.reduceToNat, Int.reduceLT, Int.reduceLE, Nat.reduceDiv, Nat.reduceMod, Nat.reduceSub, Int.reducePow, Nat.reducePow, σP, σB3, ba, w1, w2, jY _ b hlt, jY _ (b - 1) (show b - 1 < 256 by omega)]; exact rfl) rfl ?_ ?_
  ·exact ⟨⟨by omega, by omega⟩, by omega, fun h => ⟨by simp at h; omega, by omega⟩, fun h => by omega⟩
  refine wC ba (fun hc => ?_) (fun hc => ?_)
  ·have hs : Mt T b = false := by
    rw [hst] at hc
    simpa using hc
   have e : cA T pre (b + 1) = cA T pre b := by rw [cA, if_neg (by rw [hs]; simp)]
   refine wE ?_
   refine vr Γ76 (ab ba wj) ?_
   refine ⟨b + 1, by omega, by omega, ?_⟩
   rw [e]
   exact wM (fun k => .key k) ba
  have hs : Mt T b = true := by
   rw [hst] at hc
   simpa using hc
  have hTb : T.getLsbD b = true := by
   rw [Mt, Bool.and_eq_true] at hs
   exact hs.1
  have hbd := HI T b hlt
  have e : cA T pre (b + 1) = DW (cA T pre b) b (iq T b) := by rw [cA, if_pos hs]
  generalize hO : cA T pre b = O at *
  generalize hO' : cA T pre (b + 1) = O' at *
  refine wK ?_
  refine vR Γ76 ba ?_
  obtain ⟨m, hm⟩ : ∃ m, iq T b = b + m := ⟨iq T b - b, by omega⟩
  refine bx ⟨120, bV [(1, .is (.own 0 0)), (5, .is (.v (.string O))), (6, .is (.v (.bool want))), (7, .is (.v (.int .i64 (b : Nat)))), (8, .is (.v (.int .i64 ((m : Int) + 1))))], cd [(0, .cells 241 ((eI S.getLsbD).map .v))]⟩ ?_ ?_
  ·skip
   refine Wp.block ?_
   refine Wp.loop (fun k : Nat => ⟨100, bV [(1, .is (.own 0 0)), (5, .is (.v (.string O))), (6, .is (.v (.bool want))), (7, .is (.v (.int .i64 (b : Nat)))), (8, .is (.v (.int .i64 (k : Nat))))], cd [(0, .cells 241 ((eI S.getLsbD).map .v))]⟩) (fun k => (1 <= k /\ b + k <= 256) /\ iq T b = iq T (b + k - 1)) (fun k => 256 - k) 1 ?_ ⟨⟨Nat.le_refl _, by omega⟩, by rw [Nat.add_sub_cancel]⟩ ?_
   ·exact wM (fun k => .key k) ba
   rintro k ⟨⟨hk1, hk⟩, hke⟩
   have wbk : IntKind.i64.wrap ((b : Int) + (k : Int)) = (b : Int) + (k : Int) := aa (by omega) (by omega)
   have w3 : ((b : Int) + (k : Int)).toNat = b + k := by omega
   have wk : IntKind.i64.wrap ((k : Int) + 1) = ((k + 1 : Nat) : Int) := by rw [aa (by omega) (by omega)]; omega
   have fin : (b + k < 256 -> T.getLsbD (b + k) = false) -> (k : Int) = (m : Int) + 1 := fun h => by
    have := wL T (b + k - 1) (fun h2 => by rw [show b + k - 1 + 1 = b + k by omega]; exact h (by omega))
    omega
   by_cases hbk : b + k < 256
   ·have hd : decide ((b : Int) + (k : Int) < 256) = true := by simp; omega
    refine Wp.seq ?_
    refine Wp.ny Γ76 bP (by simp only [dM, Op.operands, Value.cells, σ0, σB, Nat.reduceEqDiff, Nat.reduceAdd, Nat.reduceMul, Nat.reduceLT, Nat.reduceLeDiff, Nat.reduceBEq, ae, Int.reduceToNat, Int.reduceLT, Int.reduceLE, Nat.reduceDiv, Nat.reduceMod, Nat.reduceSub, Int.reducePow, Nat.reducePow, σP, σB3, ba, wbk, w3, hd, jY _ (b + k) hbk]; exact rfl) rfl ?_ ?_
    ·exact ⟨⟨by omega, by omega⟩, by omega⟩
    refine wC ba (fun hc => ?_) (fun hc => ?_)
    ·rw [hT _ hbk] at hc
     refine wK ?_
     refine Wp.block ?_
     refine vr Γ76 (ab ba wk) ?_
     have hst2 := xN T (b + k - 1) (by omega) (by rw [show b + k - 1 + 1 = b + k by omega]; exact hc)
     refine ⟨k + 1, ⟨⟨by omega, by omega⟩, by rw [hke, hst2]; congr 1; omega⟩, by omega, ?_⟩
     exact wM (fun k => .key k) ba
    ·rw [hT _ hbk] at hc
     refine wE ?_
     have hf := fin fun _ => hc
     exact wM (fun k => .key k) (ab ba hf)
   ·have hd : decide ((b : Int) + (k : Int) < 256) = false := by simp; omega
    have ho : (List.map SV.v (eI S.getLsbD)).getD (b + k) (SV.v undef) = SV.v undef := by rw [List.getD_eq_getElem?_getD, List.getElem?_eq_none (by rw [cY]; omega)]; rfl
    refine Wp.seq ?_
    refine wR Γ76 (Ci ba wbk w3 hd ho @As @bad_eq) ?_ ?_
    ·simp
    refine wC ba (fun hc => ?_) (fun hc => ?_)
    ·exact absurd hc (by simp)
    ·refine wE ?_
     have hf := fin fun h => absurd h hbk
     exact wM (fun k => .key k) (ab ba hf)
  have we1 : IntKind.i64.wrap ((b : Int) + ((m : Int) + 1)) = (b : Int) + ((m : Int) + 1) := aa (by omega) (by omega)
  have we2 : IntKind.i64.wrap ((b : Int) + ((m : Int) + 1) - 1) = ((b + m : Nat) : Int) := by rw [aa (by omega) (by omega)]; omega
  have we3 : IntKind.u8.wrap ((b + m : Nat) : Int) = ((b + m : Nat) : Int) := gn (by omega) (by omega)
  have hb1 := jx b (iN ki b)
  have hb2 := jx ((b + m : Nat) : Int) (iN ki ((b + m : Nat) : Int))
  rw [IT, hm] at e
  refine wR Γ76 (ab ba wu) ?_ ?_
  ·exact ⟨⟨by omega, by omega⟩, ⟨by omega, by omega⟩, by omega⟩
  have hO1 : (O ++ iX b (iN ki b)).size <= 2400 := by rw [ByteArray.size_append]; omega
  generalize O ++ iX b (iN ki b) = O1 at *
  refine vR Γ76 (fj ba we1 we2 we3) ?_
  refine bx ⟨150, bV [(1, .is (.own 0 0)), (5, .is (.v (.string (if b + 1 < b + m then O1 ++ lL else O1)))), (6, .is (.v (.bool want))), (7, .is (.v (.int .i64 (b : Nat)))), (8, .is (.v (.int .i64 ((m : Int) + 1)))), (9, .is (.v (.int .u8 ((b + m : Nat) : Int))))], cd [(0, .cells 241 ((eI S.getLsbD).map .v))]⟩ ?_ ?_
  ·skip
   refine vR Γ76 ba ?_
   refine wC ba (fun hc => ?_) (fun hc => ?_)
   ·have h : b + 1 < b + m := by simp at hc; omega
    rw [if_pos h]
    refine wr Γ76 ba ?_ ?_
    ·show O1.size + 1 <= _; omega
    exact wM (fun k => .key k) ba
   ·have h : ¬ b + 1 < b + m := by simp at hc; omega
    rw [if_neg h]
    refine wK ?_
    exact wM (fun k => .key k) ba
  have hO2 : (if b + 1 < b + m then O1 ++ lL else O1).size <= 2401 := by
   split
   ·rw [ByteArray.size_append]
    show O1.size + 1 <= 2401
    omega
   ·omega
  generalize (if b + 1 < b + m then O1 ++ lL else O1) = O2 at *
  refine vR Γ76 ba ?_
  refine wC ba (fun hc => ?_) (fun hc => ?_)
  ·have h : b < b + m := by simp at hc; omega
   rw [if_pos h] at e
   subst e
   refine wr Γ76 ba ?_ ?_
   ·exact ⟨⟨by omega, by omega⟩, ⟨by omega, by omega⟩, by omega⟩
   refine vr Γ76 (ab ba wj) ?_
   refine ⟨b + 1, by omega, by omega, ?_⟩
   rw [hO']
   exact wM (fun k => .key k) ba
  ·have h : ¬ b < b + m := by simp at hc; omega
   rw [if_neg h] at e
   subst e
   refine wK ?_
   refine vr Γ76 (ab ba wj) ?_
   refine ⟨b + 1, by omega, by omega, ?_⟩
   rw [hO']
   exact wM (fun k => .key k) ba
 ·have hb' : b = 256 := by
   simp at hc
   omega
  subst hb'
  have hsz := gH T pre 256
  refine wE ?_
  refine wR Γ76 ba ?_ ?_
  ·show (cA T pre 256).size + 1 <= _; omega
  refine wZ ba ?_
  exact fun E => rfl
noncomputable def mG : a7 Tryz.prog 156 where
 pre := fun W bs => fun | [.val y0] => (match dec kp y0 with | some S => True | _ => False) | _ => False
 res := fun W => fun | [.val y0] => (match dec kp y0 with | some S => .string (fL S) | _ => undef) | _ => undef
 enters := Tryz.call156
 ok := by
  intro W w bs us as_ hk hu hp
  split at hp
  ·rename_i y0
   split at hp
   ·rename_i S h0
    match us, hu with
    | [u0], hu =>
     obtain ⟨rfl, _⟩ := hu
     obtain rfl := fq h0
     try dsimp only
     try simp only [b9 kH]
     exact I7 S w
   ·exact hp.elim
  ·exact hp.elim
theorem FD (W : World) (S : CS) : mG.res W [.val (kp S)] = .string (fL S) := by simp only [mG, b9 kH]
theorem F1 (W : World) (bs : List Nat) (S : CS) : mG.pre W bs [.val (kp S)] = (True) := by simp only [mG, b9 kH]
end
section
open Go.RowKit Go.LE
set_option maxRecDepth 10000
def Yv : Rx -> Int
 | .eps => 0
 | .cls _ => 1
 | .cat _ _ => 2
 | .alt _ _ => 3
 | .star _ => 4
 | .and _ _ => 5
 | .minus _ _ => 6
def V8 (op : Int) : Int := if op = 3 then 0 else if op = 5 \/ op = 6 then 1 else if op = 2 then 2 else if op = 4 then 3 else 4
theorem VA (t : Rx) : V8 (Yv t) = qO t := by cases t <;> rfl
def im := (aq jS jP jn cQ cV cX cS (aq da c9 c8 db eW eV eX (aq eZ e8 e9 rB rC rG pJ (aq s3 sY tZ u9 s7 sP xW (aq xo yo xL o7 qX qZ oI (aq rQ rM qT rE qU q5 rS (aq @aO @au @aB @aC @FD @F1 @U0 (aq @VX @Vq @VW @Vj @zu @oe @Hm (aq @Dr @tc @aE @cY @jk @jX @fZ @xu)))))))))
set_option maxHeartbeats 2000000 in
theorem K2 (op : Int) (w : World) : Calls Tryz.prog 207 #[.int .i64 op] w fun e w' => e = .returned (.int .i64 (V8 op)) /\ ai w [] w' := by
 refine al (nt := 13) [.tmp 2] Tryz.func207 rfl rfl rfl ?_
 refine vR Γ0 im ?_
 refine Wp.seq ?_
 refine vR Γ0 im ?_
 refine Wp.block ?_
 refine vR Γ0 im ?_
 refine wC im (fun hc => ?_) (fun hc => ?_)
 ·have h : op = 3 := by simpa using hc
  rw [V8, if_pos h]
  refine vR Γ0 im ?_
  refine wZ im ?_
  exact fun E => rfl
 have n3 : ¬ op = 3 := by simpa using hc
 rw [V8, if_neg n3]
 refine bx ⟨40, bV [(3, .is (.v (.int .i64 op))), (6, .is (.v (.bool (decide (op = 5 \/ op = 6)))))], cd []⟩ ?_ ?_
 ·skip
  refine vR Γ0 im ?_
  refine wC im (fun hc => ?_) (fun hc => ?_)
  ·have h : op = 5 := by simpa using hc
   rw [show decide (op = 5 \/ op = 6) = true by simp [h]]
   refine wK ?_
   exact wM (fun k => .key k) (ab im hc)
  ·have h : ¬ op = 5 := by simpa using hc
   rw [show decide (op = 5 \/ op = 6) = decide (op = 6) by simp [h]]
   refine vr Γ0 im ?_
   exact wM (fun k => .key k) im
 refine wC im (fun hc => ?_) (fun hc => ?_)
 ·have h : op = 5 \/ op = 6 := by simpa using hc
  rw [if_pos h]
  refine vR Γ0 im ?_
  refine wZ im ?_
  exact fun E => rfl
 have n5 : ¬ (op = 5 \/ op = 6) := by simpa using hc
 rw [if_neg n5]
 refine vR Γ0 im ?_
 refine wC im (fun hc => ?_) (fun hc => ?_)
 ·have h : op = 2 := by simpa using hc
  rw [if_pos h]
  refine vR Γ0 im ?_
  refine wZ im ?_
  exact fun E => rfl
 have n2 : ¬ op = 2 := by simpa using hc
 rw [if_neg n2]
 refine vR Γ0 im ?_
 refine wC im (fun hc => ?_) (fun hc => ?_)
 ·have h : op = 4 := by simpa using hc
  rw [if_pos h]
  refine vR Γ0 im ?_
  refine wZ im ?_
  exact fun E => rfl
 have n4 : ¬ op = 4 := by simpa using hc
 rw [if_neg n4]
 refine wK ?_
 refine vR Γ0 im ?_
 refine wZ im ?_
 exact fun E => rfl
def Ah : a7 Tryz.prog 207 where
 pre := fun W bs => fun | [.val (.int .i64 op)] => True | _ => False
 res := fun W => fun | [.val (.int .i64 op)] => .int .i64 (V8 op) | _ => undef
 enters := Tryz.call207
 ok := by
  intro W w bs us as_ hk hu hp
  split at hp
  ·rename_i op
   match us, hu with
   | [u0], hu =>
    obtain ⟨rfl, _⟩ := hu
    exact K2 op w
  ·exact hp.elim
theorem Ed (W : World) (op : Int) : Ah.res W [.val (.int .i64 op)] = .int .i64 (V8 op) := rfl
theorem FH (W : World) (bs : List Nat) (op : Int) : Ah.pre W bs [.val (.int .i64 op)] = (True) := rfl
def lW (l : List Nd) : Nat -> Rx -> Prop
 | i, .eps => ∃ d, l[i]? = some d /\ d.op = 0
 | i, .cls S => ∃ d, l[i]? = some d /\ d.op = 1 /\ d.set = S
 | i, .cat a b => ∃ d, ∃ x y : Nat, l[i]? = some d /\ d.op = 2 /\ d.a = x /\ d.b = y /\ x < y /\ lW l x a /\ lW l y b
 | i, .alt a b => ∃ d, ∃ x y : Nat, l[i]? = some d /\ d.op = 3 /\ d.a = x /\ d.b = y /\ x < y /\ lW l x a /\ lW l y b
 | i, .star a => ∃ d, ∃ x : Nat, l[i]? = some d /\ d.op = 4 /\ d.a = x /\ lW l x a
 | i, .and a b => ∃ d, ∃ x y : Nat, l[i]? = some d /\ d.op = 5 /\ d.a = x /\ d.b = y /\ x < y /\ lW l x a /\ lW l y b
 | i, .minus a b => ∃ d, ∃ x y : Nat, l[i]? = some d /\ d.op = 6 /\ d.a = x /\ d.b = y /\ x < y /\ lW l x a /\ lW l y b
theorem lW.op {l : List Nd} {i : Nat} {t : Rx} (h : lW l i t) : ∃ d, l[i]? = some d /\ d.op = Yv t := by
 cases t with
 | eps => obtain ⟨d, h1, h2⟩ := h; exact ⟨d, h1, h2⟩
 | cls S => obtain ⟨d, h1, h2, _⟩ := h; exact ⟨d, h1, h2⟩
 | star a => obtain ⟨d, _, h1, h2, _⟩ := h; exact ⟨d, h1, h2⟩
 | cat a b => obtain ⟨d, _, _, h1, h2, _⟩ := h; exact ⟨d, h1, h2⟩
 | alt a b => obtain ⟨d, _, _, h1, h2, _⟩ := h; exact ⟨d, h1, h2⟩
 | and a b => obtain ⟨d, _, _, h1, h2, _⟩ := h; exact ⟨d, h1, h2⟩
 | minus a b => obtain ⟨d, _, _, h1, h2, _⟩ := h; exact ⟨d, h1, h2⟩
theorem so {α : Type} (l : List α) (d : α) (r : List α) {k : Nat} (hk : k = l.length) : (l ++ d :: r)[k]? = some d := by
 subst hk
 simp
theorem VD : ∀ (t : Rx) (pre post : List Nd), lW (pre ++ dr pre.length t ++ post) (pre.length + aG t - 1) t := by
 have two : ∀ (a b : Rx) (d : Nd) (pre post : List Nd), (∀ pre post : List Nd, lW (pre ++ dr pre.length a ++ post) (pre.length + aG a - 1) a) -> (∀ pre post : List Nd, lW (pre ++ dr pre.length b ++ post) (pre.length + aG b - 1) b) ->
   (pre ++ (dr pre.length a ++ (dr (pre.length + aG a) b ++ [d])) ++ post)[pre.length + (aG a + aG b + 1) - 1]? = some d /\ lW (pre ++ (dr pre.length a ++ (dr (pre.length + aG a) b ++ [d])) ++ post) (pre.length + aG a - 1) a /\ lW (pre ++ (dr pre.length a ++ (dr (pre.length + aG a) b ++ [d])) ++ post) (pre.length + aG a + aG b - 1) b := by
  intro a b d pre post ha hb
  have la := eG a pre.length
  have lb := eG b (pre.length + aG a)
  have e1 : pre ++ (dr pre.length a ++ (dr (pre.length + aG a) b ++ [d])) ++ post = (pre ++ dr pre.length a ++ dr (pre.length + aG a) b) ++ d :: post := by simp
  have e2 : pre ++ (dr pre.length a ++ (dr (pre.length + aG a) b ++ [d])) ++ post = pre ++ dr pre.length a ++ (dr (pre.length + aG a) b ++ d :: post) := by simp
  have e3 : pre ++ (dr pre.length a ++ (dr (pre.length + aG a) b ++ [d])) ++ post = (pre ++ dr pre.length a) ++ dr (pre ++ dr pre.length a).length b ++ d :: post := by rw [List.length_append, la]; simp
  refine ⟨?_, ?_, ?_⟩
  ·rw [e1]
   exact so _ _ _ (by rw [List.length_append, List.length_append, la, lb]; omega)
  ·rw [e2]; exact ha pre _
  ·rw [e3]
   have h := hb (pre ++ dr pre.length a) (d :: post)
   rw [List.length_append, la] at h ⊢
   exact h
 intro t
 induction t with
 | eps => intro pre post; exact ⟨_, by show (pre ++ [bO 0 0 0] ++ post)[pre.length + 1 - 1]? = _; rw [List.append_assoc]; exact so _ _ _ (by omega), rfl⟩
 | cls S => intro pre post; exact ⟨_, by show (pre ++ [⟨1, S, 0, 0, 0, 0⟩] ++ post)[pre.length + 1 - 1]? = _; rw [List.append_assoc]; exact so _ _ _ (by omega), rfl, rfl⟩
 | star a ih =>
  intro pre post
  have la := eG a pre.length
  have hp := gP a
  refine ⟨bO 4 ((pre.length + aG a - 1 : Nat) : Int) 0, pre.length + aG a - 1, ?_, rfl, rfl, ?_⟩
  ·have e1 : pre ++ dr pre.length (.star a) ++ post = (pre ++ dr pre.length a) ++ bO 4 ((pre.length + aG a - 1 : Nat) : Int) 0 :: post := by simp [dr]
   rw [e1]
   exact so _ _ _ (by rw [List.length_append, la]; show pre.length + (aG a + 1) - 1 = _; omega)
  ·have e2 : pre ++ dr pre.length (.star a) ++ post = pre ++ dr pre.length a ++ bO 4 ((pre.length + aG a - 1 : Nat) : Int) 0 :: post := by simp [dr]
   rw [e2]; exact ih pre _
 | cat a b iha ihb =>
  intro pre post
  have hp := gP a
  have hq := gP b
  obtain ⟨h1, h2, h3⟩ := two a b _ pre post iha ihb
  exact ⟨_, pre.length + aG a - 1, pre.length + aG a + aG b - 1, h1, rfl, rfl, rfl, by omega, h2, h3⟩
 | alt a b iha ihb =>
  intro pre post
  have hp := gP a
  have hq := gP b
  obtain ⟨h1, h2, h3⟩ := two a b _ pre post iha ihb
  exact ⟨_, pre.length + aG a - 1, pre.length + aG a + aG b - 1, h1, rfl, rfl, rfl, by omega, h2, h3⟩
 | and a b iha ihb =>
  intro pre post
  have hp := gP a
  have hq := gP b
  obtain ⟨h1, h2, h3⟩ := two a b _ pre post iha ihb
  exact ⟨_, pre.length + aG a - 1, pre.length + aG a + aG b - 1, h1, rfl, rfl, rfl, by omega, h2, h3⟩
 | minus a b iha ihb =>
  intro pre post
  have hp := gP a
  have hq := gP b
  obtain ⟨h1, h2, h3⟩ := two a b _ pre post iha ihb
  exact ⟨_, pre.length + aG a - 1, pre.length + aG a + aG b - 1, h1, rfl, rfl, rfl, by omega, h2, h3⟩
abbrev Vw (ao : Option Addr) (n c : Nat) (r : Int) : Value := .agg #[.slice ao n c, .int .i64 r]
abbrev kL (l : List Nd) (ao : Option Addr) (c : Nat) (r : Int) (i : Nat) (t : Rx) : Prop := ∀ w, jA w ao (cK l) -> Calls Tryz.prog 102 #[Vw ao l.length c r, .int .i64 (i : Nat)] w fun e w' => e = .returned (.string (bS t)) /\ ai w [] w'
abbrev Rn (l : List Nd) (ao : Option Addr) (c : Nat) (r : Int) (i : Nat) (t : Rx) : Prop := ∀ (need : Int) (w : World), jA w ao (cK l) -> Calls Tryz.prog 157 #[Vw ao l.length c r, .int .i64 (i : Nat), .int .i64 need] w fun e w' => e = .returned (.string (Au t need)) /\ ai w [] w'
theorem eM {W w : World} {bs : List Nat} {ao : Option Addr} {vs : List Value} (h : ej W (Out bs) ao vs) (hk : ai W bs w) : jA w ao vs := (h.mono hk.gT).is
section
variable (l : List Nd) (ao : Option Addr) (c : Nat) (r : Int)
def Oj (i : Nat) (t : Rx) (h : kL l ao c r i t) : a7 Tryz.prog 102 where
 pre := fun W bs as_ => as_ = [.val (Vw ao l.length c r), .val (.int .i64 (i : Nat))] /\ ej W (Out bs) ao (cK l)
 res := fun _ _ => .string (bS t)
 enters := Tryz.call102
 ok := by
  intro W w bs us as_ hk hu hp
  obtain ⟨rfl, h1⟩ := hp
  match us, hu with
  | [x, y], hu =>
   obtain ⟨rfl, rfl, _⟩ := hu
   exact h w (eM h1 hk)
noncomputable def Γ81 (i : Nat) (t : Rx) (h : kL l ao c r i t) : Env Tryz.prog := ⟨fun | 102 => some (Oj l ao c r i t h).spec | 207 => some Ah.spec | _ => none, fun _ => none, fun _ _ => none⟩
theorem Gt81c102 (i : Nat) (t : Rx) (h : kL l ao c r i t) : (Γ81 l ao c r i t h).sp 102 = some (Oj l ao c r i t h).spec := rfl
theorem Gt81c207 (i : Nat) (t : Rx) (h : kL l ao c r i t) : (Γ81 l ao c r i t h).sp 207 = some Ah.spec := rfl
theorem L5 {w : World} {i : Nat} {d : Nd} (hs : jA w ao (cK l)) (hd : l[i]? = some d) : i < l.length /\ ∃ b o, ao = some ⟨b, o, none⟩ /\ w.cell? ⟨b, o + i * 261, none⟩ = some (.int .i64 d.op) := by
 obtain ⟨hk, hd⟩ := List.getElem?_eq_some_iff.1 hd
 obtain ⟨b, o, h1, h2, _⟩ := jA.nd hs hk
 rw [hd] at h2
 exact ⟨hk, b, o, h1, h2⟩
def yT := (nC im Ed FH @Gt81c102 @Gt81c207 @Oj.eq_1)
set_option maxHeartbeats 2000000 in
theorem iP (i : Nat) (t : Rx) (ht : lW l i t) (hsz : aG t <= 4000000) (h : kL l ao c r i t) : Rn l ao c r i t := by
 intro need w hs
 obtain ⟨d, hd, hop⟩ := ht.op
 obtain ⟨hi, b, o, rfl, hx⟩ := L5 l ao hs hd
 have hrk := VA t
 rw [<- hop] at hrk
 have hbs := cG t
 refine al (nt := 24) [.tmp 6] Tryz.func157 rfl rfl rfl ?_
 refine vR Γ0 yT ?_
 refine wR (Γ81 l (some ⟨b, o, none⟩) c r i t h) yT ?_ ?_
 ·exact (ej.lN hs).out fun _ _ => by simp [Out]
 refine Wp.seq ?_
 refine wR (Γ81 l (some ⟨b, o, none⟩) c r i t h) (dk yT hx hrk) ?_ ?_
 ·omega
 refine wC yT (fun hc => ?_) (fun hc => ?_)
 ·have hlt : qO t < need := by simpa using hc
  have e : Au t need = XK ++ bS t ++ XF := by rw [Au, mC, if_pos hlt]
  rw [e]
  refine wR Γ0 yT ?_ ?_
  ·refine ⟨?_, ?_⟩
   ·show 1 + _ <= _; omega
   ·rw [ByteArray.size_append]; show 1 + _ + 1 <= _; omega
  refine wZ yT ?_
  exact fun E => rfl
 ·have hlt : ¬ qO t < need := by simpa using hc
  have e : Au t need = bS t := by rw [Au, mC, if_neg hlt]
  rw [e]
  refine wK ?_
  refine vR Γ0 yT ?_
  refine wZ yT ?_
  exact fun E => rfl
def XO (x y : Nat) (a b : Rx) (ha : Rn l ao c r x a) (hb : Rn l ao c r y b) : a7 Tryz.prog 157 where
 pre := fun W bs as_ => ∃ i need : Int, as_ = [.val (Vw ao l.length c r), .val (.int .i64 i), .val (.int .i64 need)] /\ (i = x \/ i = y) /\ ej W (Out bs) ao (cK l)
 res := fun _ as_ => match as_ with
  | [_, .val (.int _ i), .val (.int _ need)] => .string (Au (if i = x then a else b) need)
  | _ => undef
 enters := Tryz.call157
 ok := by
  intro W w bs us as_ hk hu hp
  obtain ⟨i, need, rfl, h1, h2⟩ := hp
  match us, hu with
  | [u1, u2, u3], hu =>
   obtain ⟨rfl, rfl, rfl, _⟩ := hu
   by_cases hx : i = x
   ·subst hx
    simp only [if_true]
    exact ha need w (eM h2 hk)
   ·obtain rfl := h1.resolve_left hx
    simp only [if_neg hx]
    exact hb need w (eM h2 hk)
section
variable (x y : Nat) (a b : Rx) (ha : Rn l ao c r x a) (hb : Rn l ao c r y b)
theorem Sc (W : World) (bs : List Nat) (i need : Int) : (XO l ao c r x y a b ha hb).pre W bs [.val (Vw ao l.length c r), .val (.int .i64 i), .val (.int .i64 need)] = ((i = x \/ i = y) /\ ej W (Out bs) ao (cK l)) := by
 apply propext
 constructor
 ·rintro ⟨i', need', h1, h2⟩
  simp only [List.cons.injEq, AV.val.injEq, Value.int.injEq, true_and, and_true] at h1
  obtain ⟨rfl, rfl⟩ := h1
  exact h2
 ·exact fun h => ⟨i, need, rfl, h⟩
theorem Sb (W : World) (v : AV) (k k' : IntKind) (i need : Int) : (XO l ao c r x y a b ha hb).res W [v, .val (.int k i), .val (.int k' need)] = .string (Au (if i = x then a else b) need) := rfl
noncomputable def Γ82 : Env Tryz.prog := ⟨fun | 157 => some (XO l ao c r x y a b ha hb).spec | 156 => some mG.spec | _ => none, fun _ => none, fun _ _ => none⟩
theorem Gt82c157 : (Γ82 l ao c r x y a b ha hb).sp 157 = some (XO l ao c r x y a b ha hb).spec := rfl
theorem Gt82c156 : (Γ82 l ao c r x y a b ha hb).sp 156 = some mG.spec := rfl
end
noncomputable def Γ83 : Env Tryz.prog := ⟨fun | 156 => some mG.spec | _ => none, fun | _ => none, fun _ _ => none⟩
theorem Gt83c156 : Γ83.sp 156 = some mG.spec := rfl
theorem cp (t : Rx) (need : Int) : (Au t need).size <= 2400 * aG t + 2 := by
 have h1 := cG t
 have h2 := dW (qO t) need (bS t)
 unfold Au
 omega
def aT := (nC yT Gt83c156 @Gt82c157 @Gt82c156 @Sc @Sb)
set_option maxHeartbeats 2000000 in
theorem On (i : Nat) (hsz : aG (.eps) <= 4000000) (ht : lW l i (.eps)) : kL l ao c r i (.eps) := by
 intro w hs
 obtain ⟨d, hd, hop⟩ := ht
 obtain ⟨hi, hd⟩ := List.getElem?_eq_some_iff.1 hd
 have hsx : ej w (Out []) ao (cK l) := (ej.lN hs).out fun _ _ => by simp [Out]
 obtain ⟨b, o, rfl, hb, hx1, hx2⟩ := gV hsx hi
 rw [hd] at hx1
 refine al (nt := 72) [.tmp 4] Tryz.func102 rfl rfl rfl ?_
 refine vR Γ83 aT ?_
 refine Wp.ny Γ83 bP (by simp only [dM, Op.operands, Value.cells, σ0, σB, Nat.reduceEqDiff, Nat.reduceAdd, Nat.reduceMul, Nat.reduceLT, Nat.reduceLeDiff, Nat.reduceBEq, ae, Int.reduceToNat, Int.reduceLT, Int.reduceLE, Nat.reduceDiv, Nat.reduceMod, Nat.reduceSub, Int.reducePow, Nat.reducePow, σP, σB3, aT, ↓hx1, ↓hx2]; exact rfl) rfl ?_ ?_
 ·exact ⟨by omega, by simp, Nd.dh d⟩
 refine Wp.seq ?_
 refine vR Γ83 (ab aT hop) ?_
 refine Wp.block ?_
 refine vR Γ83 aT ?_
 refine wC aT (fun hc => ?_) (fun hc => ?_)
 rotate_left
 ·exact absurd hc (by decide)
 refine vR Γ83 aT ?_
 refine wZ aT ?_
 exact fun E => rfl
set_option maxHeartbeats 2000000 in
theorem OY (S : CS) (i : Nat) (hsz : aG (.cls S) <= 4000000) (ht : lW l i (.cls S)) : kL l ao c r i (.cls S) := by
 intro w hs
 obtain ⟨d, hd, hop, rfl⟩ := ht
 obtain ⟨hi, hd⟩ := List.getElem?_eq_some_iff.1 hd
 have hsx : ej w (Out []) ao (cK l) := (ej.lN hs).out fun _ _ => by simp [Out]
 obtain ⟨b, o, rfl, hb, hx1, hx2⟩ := gV hsx hi
 rw [hd] at hx1
 refine al (nt := 72) [.tmp 4] Tryz.func102 rfl rfl rfl ?_
 refine vR Γ83 aT ?_
 refine Wp.ny Γ83 bP (by simp only [dM, Op.operands, Value.cells, σ0, σB, Nat.reduceEqDiff, Nat.reduceAdd, Nat.reduceMul, Nat.reduceLT, Nat.reduceLeDiff, Nat.reduceBEq, ae, Int.reduceToNat, Int.reduceLT, Int.reduceLE, Nat.reduceDiv, Nat.reduceMod, Nat.reduceSub, Int.reducePow, Nat.reducePow, σP, σB3, aT, ↓hx1, ↓hx2]; exact rfl) rfl ?_ ?_
 ·exact ⟨by omega, by simp, Nd.dh d⟩
 refine Wp.seq ?_
 refine vR Γ83 (ab aT hop) ?_
 refine Wp.block ?_
 refine vR Γ83 aT ?_
 refine wC aT (fun hc => ?_) (fun hc => ?_)
 ·exact absurd hc (by decide)
 refine vR Γ83 aT ?_
 refine wC aT (fun hc => ?_) (fun hc => ?_)
 rotate_left
 ·exact absurd hc (by decide)
 refine vR Γ83 aT ?_
 refine wZ aT ?_
 exact fun E => rfl
set_option maxHeartbeats 2000000 in
theorem QU (a b : Rx) (i : Nat) (hsz : aG (.cat a b) <= 4000000) (ht : lW l i (.cat a b)) (IH : ∀ (j : Nat), (∀ t, (t = a \/ t = b) -> lW l j t -> Rn l ao c r j t)) : kL l ao c r i (.cat a b) := by
 intro w hs
 obtain ⟨d, x, y, hd, hop, hda, hdb, hxy, hta, htb⟩ := ht
 have hA := IH x a (.inl rfl) hta
 have hB := IH y b (.inr rfl) htb
 have hne : ¬ ((y : Nat) : Int) = ((x : Nat) : Int) := by omega
 have s1 := cp a 2
 have s2 := cp b 3
 have hsz' : aG a + aG b + 1 <= 4000000 := hsz
 obtain ⟨hi, hd⟩ := List.getElem?_eq_some_iff.1 hd
 have hsx : ej w (Out []) ao (cK l) := (ej.lN hs).out fun _ _ => by simp [Out]
 obtain ⟨bb, o, rfl, hb, hx1, hx2⟩ := gV hsx hi
 rw [hd] at hx1
 refine al (nt := 72) [.tmp 4] Tryz.func102 rfl rfl rfl ?_
 refine vR Γ83 aT ?_
 refine Wp.ny Γ83 bP (by simp only [dM, Op.operands, Value.cells, σ0, σB, Nat.reduceEqDiff, Nat.reduceAdd, Nat.reduceMul, Nat.reduceLT, Nat.reduceLeDiff, Nat.reduceBEq, ae, Int.reduceToNat, Int.reduceLT, Int.reduceLE, Nat.reduceDiv, Nat.reduceMod, Nat.reduceSub, Int.reducePow, Nat.reducePow, σP, σB3, aT, ↓hx1, ↓hx2]; exact rfl) rfl ?_ ?_
 ·exact ⟨by omega, by simp, Nd.dh d⟩
 refine Wp.seq ?_
 refine vR Γ83 (ab aT hop) ?_
 refine Wp.block ?_
 refine vR Γ83 aT ?_
 refine wC aT (fun hc => ?_) (fun hc => ?_)
 ·exact absurd hc (by decide)
 refine vR Γ83 aT ?_
 refine wC aT (fun hc => ?_) (fun hc => ?_)
 ·exact absurd hc (by decide)
 refine vR Γ83 aT ?_
 refine wC aT (fun hc => ?_) (fun hc => ?_)
 ·exact absurd hc (by decide)
 refine vR Γ83 aT ?_
 refine wC aT (fun hc => ?_) (fun hc => ?_)
 ·exact absurd hc (by decide)
 refine vR Γ83 aT ?_
 refine wC aT (fun hc => ?_) (fun hc => ?_)
 ·exact absurd hc (by decide)
 refine vR Γ83 aT ?_
 refine wC aT (fun hc => ?_) (fun hc => ?_)
 rotate_left
 ·exact absurd hc (by decide)
 refine kY (Γ82 l (some ⟨bb, o, none⟩) c r x y a b hA hB) (fj aT hda hdb hne) ?_ ?_
 ·exact ⟨hsx, ⟨.inr trivial, hsx⟩, by omega⟩
 refine wZ aT ?_
 exact fun E => rfl
set_option maxHeartbeats 2000000 in
theorem Qu (a b : Rx) (i : Nat) (hsz : aG (.alt a b) <= 4000000) (ht : lW l i (.alt a b)) (IH : ∀ (j : Nat), (∀ t, (t = a \/ t = b) -> lW l j t -> Rn l ao c r j t)) : kL l ao c r i (.alt a b) := by
 intro w hs
 obtain ⟨d, x, y, hd, hop, hda, hdb, hxy, hta, htb⟩ := ht
 have hA := IH x a (.inl rfl) hta
 have hB := IH y b (.inr rfl) htb
 have hne : ¬ ((y : Nat) : Int) = ((x : Nat) : Int) := by omega
 have s1 := cp a 0
 have s2 := cp b 1
 have hsz' : aG a + aG b + 1 <= 4000000 := hsz
 obtain ⟨hi, hd⟩ := List.getElem?_eq_some_iff.1 hd
 have hsx : ej w (Out []) ao (cK l) := (ej.lN hs).out fun _ _ => by simp [Out]
 obtain ⟨bb, o, rfl, hb, hx1, hx2⟩ := gV hsx hi
 rw [hd] at hx1
 refine al (nt := 72) [.tmp 4] Tryz.func102 rfl rfl rfl ?_
 refine vR Γ83 aT ?_
 refine Wp.ny Γ83 bP (by simp only [dM, Op.operands, Value.cells, σ0, σB, Nat.reduceEqDiff, Nat.reduceAdd, Nat.reduceMul, Nat.reduceLT, Nat.reduceLeDiff, Nat.reduceBEq, ae, Int.reduceToNat, Int.reduceLT, Int.reduceLE, Nat.reduceDiv, Nat.reduceMod, Nat.reduceSub, Int.reducePow, Nat.reducePow, σP, σB3, aT, ↓hx1, ↓hx2]; exact rfl) rfl ?_ ?_
 ·exact ⟨by omega, by simp, Nd.dh d⟩
 refine Wp.seq ?_
 refine vR Γ83 (ab aT hop) ?_
 refine Wp.block ?_
 refine vR Γ83 aT ?_
 refine wC aT (fun hc => ?_) (fun hc => ?_)
 ·exact absurd hc (by decide)
 refine vR Γ83 aT ?_
 refine wC aT (fun hc => ?_) (fun hc => ?_)
 ·exact absurd hc (by decide)
 refine vR Γ83 aT ?_
 refine wC aT (fun hc => ?_) (fun hc => ?_)
 rotate_left
 ·exact absurd hc (by decide)
 refine kY (Γ82 l (some ⟨bb, o, none⟩) c r x y a b hA hB) (fj aT hda hdb hne) ?_ ?_
 ·exact ⟨hsx, by show _ + 1 <= _; omega, ⟨.inr trivial, hsx⟩, by rw [ByteArray.size_append]; show _ + 1 + _ <= _; omega⟩
 refine wZ aT ?_
 exact fun E => rfl
set_option maxHeartbeats 2000000 in
theorem My (a b : Rx) (i : Nat) (hsz : aG (.and a b) <= 4000000) (ht : lW l i (.and a b)) (IH : ∀ (j : Nat), (∀ t, (t = a \/ t = b) -> lW l j t -> Rn l ao c r j t)) : kL l ao c r i (.and a b) := by
 intro w hs
 obtain ⟨d, x, y, hd, hop, hda, hdb, hxy, hta, htb⟩ := ht
 have hA := IH x a (.inl rfl) hta
 have hB := IH y b (.inr rfl) htb
 have hne : ¬ ((y : Nat) : Int) = ((x : Nat) : Int) := by omega
 have s1 := cp a 1
 have s2 := cp b 2
 have hsz' : aG a + aG b + 1 <= 4000000 := hsz
 obtain ⟨hi, hd⟩ := List.getElem?_eq_some_iff.1 hd
 have hsx : ej w (Out []) ao (cK l) := (ej.lN hs).out fun _ _ => by simp [Out]
 obtain ⟨bb, o, rfl, hb, hx1, hx2⟩ := gV hsx hi
 rw [hd] at hx1
 refine al (nt := 72) [.tmp 4] Tryz.func102 rfl rfl rfl ?_
 refine vR Γ83 aT ?_
 refine Wp.ny Γ83 bP (by simp only [dM, Op.operands, Value.cells, σ0, σB, Nat.reduceEqDiff, Nat.reduceAdd, Nat.reduceMul, Nat.reduceLT, Nat.reduceLeDiff, Nat.reduceBEq, ae, Int.reduceToNat, Int.reduceLT, Int.reduceLE, Nat.reduceDiv, Nat.reduceMod, Nat.reduceSub, Int.reducePow, Nat.reducePow, σP, σB3, aT, ↓hx1, ↓hx2]; exact rfl) rfl ?_ ?_
 ·exact ⟨by omega, by simp, Nd.dh d⟩
 refine Wp.seq ?_
 refine vR Γ83 (ab aT hop) ?_
 refine Wp.block ?_
 refine vR Γ83 aT ?_
 refine wC aT (fun hc => ?_) (fun hc => ?_)
 ·exact absurd hc (by decide)
 refine vR Γ83 aT ?_
 refine wC aT (fun hc => ?_) (fun hc => ?_)
 ·exact absurd hc (by decide)
 refine vR Γ83 aT ?_
 refine wC aT (fun hc => ?_) (fun hc => ?_)
 ·exact absurd hc (by decide)
 refine vR Γ83 aT ?_
 refine wC aT (fun hc => ?_) (fun hc => ?_)
 rotate_left
 ·exact absurd hc (by decide)
 refine kY (Γ82 l (some ⟨bb, o, none⟩) c r x y a b hA hB) (fj aT hda hdb hne) ?_ ?_
 ·exact ⟨hsx, by show _ + 1 <= _; omega, ⟨.inr trivial, hsx⟩, by rw [ByteArray.size_append]; show _ + 1 + _ <= _; omega⟩
 refine wZ aT ?_
 exact fun E => rfl
set_option maxHeartbeats 2000000 in
theorem Ek (a b : Rx) (i : Nat) (hsz : aG (.minus a b) <= 4000000) (ht : lW l i (.minus a b)) (IH : ∀ (j : Nat), (∀ t, (t = a \/ t = b) -> lW l j t -> Rn l ao c r j t)) : kL l ao c r i (.minus a b) := by
 intro w hs
 obtain ⟨d, x, y, hd, hop, hda, hdb, hxy, hta, htb⟩ := ht
 have hA := IH x a (.inl rfl) hta
 have hB := IH y b (.inr rfl) htb
 have hne : ¬ ((y : Nat) : Int) = ((x : Nat) : Int) := by omega
 have s1 := cp a 1
 have s2 := cp b 2
 have hsz' : aG a + aG b + 1 <= 4000000 := hsz
 obtain ⟨hi, hd⟩ := List.getElem?_eq_some_iff.1 hd
 have hsx : ej w (Out []) ao (cK l) := (ej.lN hs).out fun _ _ => by simp [Out]
 obtain ⟨bb, o, rfl, hb, hx1, hx2⟩ := gV hsx hi
 rw [hd] at hx1
 refine al (nt := 72) [.tmp 4] Tryz.func102 rfl rfl rfl ?_
 refine vR Γ83 aT ?_
 refine Wp.ny Γ83 bP (by simp only [dM, Op.operands, Value.cells, σ0, σB, Nat.reduceEqDiff, Nat.reduceAdd, Nat.reduceMul, Nat.reduceLT, Nat.reduceLeDiff, Nat.reduceBEq, ae, Int.reduceToNat, Int.reduceLT, Int.reduceLE, Nat.reduceDiv, Nat.reduceMod, Nat.reduceSub, Int.reducePow, Nat.reducePow, σP, σB3, aT, ↓hx1, ↓hx2]; exact rfl) rfl ?_ ?_
 ·exact ⟨by omega, by simp, Nd.dh d⟩
 refine Wp.seq ?_
 refine vR Γ83 (ab aT hop) ?_
 refine Wp.block ?_
 refine vR Γ83 aT ?_
 refine wC aT (fun hc => ?_) (fun hc => ?_)
 ·exact absurd hc (by decide)
 refine vR Γ83 aT ?_
 refine wC aT (fun hc => ?_) (fun hc => ?_)
 ·exact absurd hc (by decide)
 refine vR Γ83 aT ?_
 refine wC aT (fun hc => ?_) (fun hc => ?_)
 ·exact absurd hc (by decide)
 refine vR Γ83 aT ?_
 refine wC aT (fun hc => ?_) (fun hc => ?_)
 ·exact absurd hc (by decide)
 refine vR Γ83 aT ?_
 refine wC aT (fun hc => ?_) (fun hc => ?_)
 rotate_left
 ·exact absurd hc (by decide)
 refine kY (Γ82 l (some ⟨bb, o, none⟩) c r x y a b hA hB) (fj aT hda hdb hne) ?_ ?_
 ·exact ⟨hsx, by show _ + 1 <= _; omega, ⟨.inr trivial, hsx⟩, by rw [ByteArray.size_append]; show _ + 1 + _ <= _; omega⟩
 refine wZ aT ?_
 exact fun E => rfl
set_option maxHeartbeats 2000000 in
theorem Lr (a : Rx) (i : Nat) (hsz : aG (.star a) <= 4000000) (ht : lW l i (.star a)) (IH : ∀ (j : Nat), (∀ t, t = a -> lW l j t -> Rn l ao c r j t)) : kL l ao c r i (.star a) := by
 intro w hs
 obtain ⟨d, x, hd, hop, hda, hta⟩ := ht
 have hA := IH x a rfl hta
 have s1 := cp a 3
 have hsz' : aG a + 1 <= 4000000 := hsz
 obtain ⟨hi, hd⟩ := List.getElem?_eq_some_iff.1 hd
 have hsx : ej w (Out []) ao (cK l) := (ej.lN hs).out fun _ _ => by simp [Out]
 obtain ⟨bb, o, rfl, hb, hx1, hx2⟩ := gV hsx hi
 rw [hd] at hx1
 refine al (nt := 72) [.tmp 4] Tryz.func102 rfl rfl rfl ?_
 refine vR Γ83 aT ?_
 refine Wp.ny Γ83 bP (by simp only [dM, Op.operands, Value.cells, σ0, σB, Nat.reduceEqDiff, Nat.reduceAdd, Nat.reduceMul, Nat.reduceLT, Nat.reduceLeDiff, Nat.reduceBEq, ae, Int.reduceToNat, Int.reduceLT, Int.reduceLE, Nat.reduceDiv, Nat.reduceMod, Nat.reduceSub, Int.reducePow, Nat.reducePow, σP, σB3, aT, ↓hx1, ↓hx2]; exact rfl) rfl ?_ ?_
 ·exact ⟨by omega, by simp, Nd.dh d⟩
 refine Wp.seq ?_
 refine vR Γ83 (ab aT hop) ?_
 refine Wp.block ?_
 refine vR Γ83 aT ?_
 refine wC aT (fun hc => ?_) (fun hc => ?_)
 ·exact absurd hc (by decide)
 refine vR Γ83 aT ?_
 refine wC aT (fun hc => ?_) (fun hc => ?_)
 ·exact absurd hc (by decide)
 refine vR Γ83 aT ?_
 refine wC aT (fun hc => ?_) (fun hc => ?_)
 ·exact absurd hc (by decide)
 refine vR Γ83 aT ?_
 refine wC aT (fun hc => ?_) (fun hc => ?_)
 ·exact absurd hc (by decide)
 refine vR Γ83 aT ?_
 refine wC aT (fun hc => ?_) (fun hc => ?_)
 ·exact absurd hc (by decide)
 refine vR Γ83 aT ?_
 refine wC aT (fun hc => ?_) (fun hc => ?_)
 ·exact absurd hc (by decide)
 refine wK ?_
 refine wR (Γ82 l (some ⟨bb, o, none⟩) c r x x a a hA hA) (ab aT hda) ?_ ?_
 ·exact ⟨hsx, by show _ + 1 <= _; omega⟩
 refine wZ aT ?_
 exact fun E => rfl
theorem PK : ∀ (t : Rx) (i : Nat), aG t <= 4000000 -> lW l i t -> kL l ao c r i t := by
 intro t
 induction t with
 | eps => exact fun i hsz ht => On l ao c r i hsz ht
 | cls S => exact fun i hsz ht => OY l ao c r S i hsz ht
 | star a ih =>
  intro i hsz ht
  exact Lr l ao c r a i hsz ht fun j t h hj => by
   have h0 : aG a + 1 <= 4000000 := hsz
   subst h
   exact iP l ao c r j _ hj (by omega) (ih j (by omega) hj)
 | cat a b iha ihb =>
  intro i hsz ht
  exact QU l ao c r a b i hsz ht fun j t h hj => by
   have h0 : aG a + aG b + 1 <= 4000000 := hsz
   rcases h with rfl | rfl
   ·exact iP l ao c r j _ hj (by omega) (iha j (by omega) hj)
   ·exact iP l ao c r j _ hj (by omega) (ihb j (by omega) hj)
 | alt a b iha ihb =>
  intro i hsz ht
  exact Qu l ao c r a b i hsz ht fun j t h hj => by
   have h0 : aG a + aG b + 1 <= 4000000 := hsz
   rcases h with rfl | rfl
   ·exact iP l ao c r j _ hj (by omega) (iha j (by omega) hj)
   ·exact iP l ao c r j _ hj (by omega) (ihb j (by omega) hj)
 | and a b iha ihb =>
  intro i hsz ht
  exact My l ao c r a b i hsz ht fun j t h hj => by
   have h0 : aG a + aG b + 1 <= 4000000 := hsz
   rcases h with rfl | rfl
   ·exact iP l ao c r j _ hj (by omega) (iha j (by omega) hj)
   ·exact iP l ao c r j _ hj (by omega) (ihb j (by omega) hj)
 | minus a b iha ihb =>
  intro i hsz ht
  exact Ek l ao c r a b i hsz ht fun j t h hj => by
   have h0 : aG a + aG b + 1 <= 4000000 := hsz
   rcases h with rfl | rfl
   ·exact iP l ao c r j _ hj (by omega) (iha j (by omega) hj)
   ·exact iP l ao c r j _ hj (by omega) (ihb j (by omega) hj)
set_option maxHeartbeats 2000000 in
theorem DI (i : Nat) (t : Rx) (hsz : aG t <= 4000000) (ht : lW l i t) (w : World) (hs : jA w ao (cK l)) : Calls Tryz.prog 60 #[Vw ao l.length c i] w fun e w' => e = .returned (.string (bS t)) /\ ai w [] w' := by
 have hsx : ej w (Out []) ao (cK l) := (ej.lN hs).out fun _ _ => by simp [Out]
 refine al (nt := 7) [.tmp 2] Tryz.func60 rfl rfl rfl ?_
 refine vR Γ83 aT ?_
 refine wR (Γ81 l ao c i i t (PK l ao c i t i hsz ht)) aT ?_ ?_
 ·exact hsx
 refine wZ aT ?_
 exact fun E => rfl
def sB (i : Nat) (t : Rx) (hsz : aG t <= 4000000) (ht : lW l i t) : a7 Tryz.prog 60 where
 pre := fun W bs as_ => as_ = [.val (Vw ao l.length c i)] /\ ej W (Out bs) ao (cK l)
 res := fun _ _ => .string (bS t)
 enters := Tryz.call60
 ok := by
  intro W w bs us as_ hk hu hp
  obtain ⟨rfl, h1⟩ := hp
  match us, hu with
  | [x], hu =>
   obtain ⟨rfl, _⟩ := hu
   exact DI l ao c i t hsz ht w (eM h1 hk)
end
end
section
open Go.RowKit Go.LE
set_option maxRecDepth 10000
theorem OA (a b : Nat) (ha : a < 2 ^ 64) (hb : b < 2 ^ 64) : bU .and .u64 (a : Int) (b : Int) = ((a &&& b : Nat) : Int) := by
 have h := QA (BitVec.ofNat 64 a) (BitVec.ofNat 64 b)
 rw [BitVec.toNat_and, BitVec.toNat_ofNat, BitVec.toNat_ofNat, Nat.mod_eq_of_lt ha, Nat.mod_eq_of_lt hb] at h
 exact h
theorem yK (a : Nat) (ha : a < 2 ^ 64) : IntKind.u64.wrap (a : Int) = (a : Int) := by
 have h := pO (BitVec.ofNat 64 a)
 rw [BitVec.toNat_ofNat, Nat.mod_eq_of_lt ha] at h
 exact h
theorem IS (a n : Nat) : (a : Int).fdiv (n : Int) = ((a / n : Nat) : Int) := by
 rw [Int.fdiv_eq_ediv_of_nonneg _ (Int.natCast_nonneg _)]
 rfl
theorem SJ (x : Nat) (hx : x < 2 ^ 64) : IntKind.u64.wrap (bU .and .u64 ((x : Int).fdiv 2) 6148914691236517205 + bU .and .u64 (x : Int) 6148914691236517205) = ((f0 32 x : Nat) : Int) /\ f0 32 x < 2 ^ 64 := by
 have hm : M0 32 = 6148914691236517205 := by decide
 have h1 := Nat.and_le_right (n := x / 2) (m := 6148914691236517205)
 have h2 := Nat.and_le_right (n := x) (m := 6148914691236517205)
 have hf : f0 32 x = (x / 2 &&& 6148914691236517205) + (x &&& 6148914691236517205) := by rw [f0, hm]
 have hl : f0 32 x < 2 ^ 64 := by omega
 refine ⟨?_, hl⟩
 have e1 : (x : Int).fdiv 2 = ((x / 2 : Nat) : Int) := IS x 2
 have e2 := OA (x / 2) 6148914691236517205 (by omega) (by omega)
 have e3 := OA x 6148914691236517205 (by omega) (by omega)
 rw [e1, show (6148914691236517205 : Int) = ((6148914691236517205 : Nat) : Int) from rfl, e2, e3, <- Int.natCast_add, <- hf, yK _ hl]
theorem RR (x : Nat) (hx : x < 2 ^ 64) : IntKind.u64.wrap (bU .and .u64 ((x : Int).fdiv 4) 3689348814741910323 + bU .and .u64 (x : Int) 3689348814741910323) = ((f1 16 x : Nat) : Int) /\ f1 16 x <= 7378697629483820646 := by
 have hm : M1 16 = 3689348814741910323 := by decide
 have h1 := Nat.and_le_right (n := x / 4) (m := 3689348814741910323)
 have h2 := Nat.and_le_right (n := x) (m := 3689348814741910323)
 have hf : f1 16 x = (x / 4 &&& 3689348814741910323) + (x &&& 3689348814741910323) := by rw [f1, hm]
 have hl : f1 16 x <= 7378697629483820646 := by omega
 refine ⟨?_, hl⟩
 have e1 : (x : Int).fdiv 4 = ((x / 4 : Nat) : Int) := IS x 4
 have e2 := OA (x / 4) 3689348814741910323 (by omega) (by omega)
 have e3 := OA x 3689348814741910323 (by omega) (by omega)
 rw [e1, show (3689348814741910323 : Int) = ((3689348814741910323 : Nat) : Int) from rfl, e2, e3, <- Int.natCast_add, <- hf, yK _ (by omega)]
theorem TM (x : Nat) (hx : x <= 7378697629483820646) : bU .and .u64 (IntKind.u64.wrap ((x : Int).fdiv 16 + (x : Int))) 1085102592571150095 = ((f2 8 x : Nat) : Int) := by
 have hm : M2 8 = 1085102592571150095 := by decide
 have e1 : (x : Int).fdiv 16 = ((x / 16 : Nat) : Int) := IS x 16
 rw [e1, <- Int.natCast_add, yK _ (by omega), show (1085102592571150095 : Int) = ((1085102592571150095 : Nat) : Int) from rfl, OA _ _ (by omega) (by omega), f2, hm]
theorem yO (x n : Nat) (h : x + x / n < 2 ^ 64) : IntKind.u64.wrap ((x : Int) + (x : Int).fdiv (n : Int)) = ((x + x / n : Nat) : Int) := by
 rw [IS, <- Int.natCast_add, yK _ h]
theorem RW (x : Nat) (hx : x < 2 ^ 63) : bU .and .i64 (IntKind.i64.wrap (x : Int)) 127 = ((x % 128 : Nat) : Int) := by
 rw [aa (by omega) (by omega)]
 show IntKind.i64.wrap (((BitVec.ofInt 64 (x : Int) &&& BitVec.ofInt 64 127 : BitVec 64).toNat : Nat) : Int) = _
 have h1 : (BitVec.ofInt 64 (x : Int)).toNat = x := by
  rw [BitVec.toNat_ofInt]
  omega
 have h2 : (BitVec.ofInt 64 127).toNat = 127 := rfl
 have h3 : x &&& 127 = x % 128 := Nat.and_two_pow_sub_one_eq_mod x 7
 rw [BitVec.toNat_and, h1, h2, h3, aa (by omega) (by omega)]
def vM := (aq @List.replicate_succ.{0} @List.replicate_zero.{0} @aw @ah jS jP jn (aq cQ cV cX cS da c9 c8 (aq db iv ie ig ir iw rv (aq ri q7 rD ry rI qW qY (fj @aO @au @aB @aC)))))
set_option maxHeartbeats 2000000 in
theorem Q7 (x : Nat) (hx : x < 2 ^ 64) (w : World) : Calls Tryz.prog 253 #[.int .u64 (x : Nat)] w fun e w' => e = .returned (.int .i64 (dO x 64 : Nat)) /\ ai w [] w' := by
 obtain ⟨r1, l1⟩ := SJ x hx
 obtain ⟨r2, l2⟩ := RR (f0 32 x) l1
 have r3 := TM _ l2
 have hst := (xk 8 x).1
 obtain ⟨y, hy, b1, b2, b3, hp⟩ := Qb x
 have r4 := yO y 256 b1
 have r5 := yO _ 65536 b2
 have r6 := yO (y + y / 256 + (y + y / 256) / 65536) 4294967296 (by omega)
 have r7 := RW _ b3
 have r3' : bU .and .u64 (IntKind.u64.wrap (((f1 16 (f0 32 x) : Nat) : Int).fdiv 16 + ((f1 16 (f0 32 x) : Nat) : Int))) 1085102592571150095 = ((y : Nat) : Int) := by rw [r3, hy, <- hst]
 rw [<- hp]
 refine al (nt := 35) [.tmp 2] Tryz.func253 rfl rfl rfl ?_
 refine vR Γ0 vM ?_
 refine vR Γ0 (ab vM r1) ?_
 refine vR Γ0 (ab vM r2) ?_
 refine vR Γ0 (ab vM r3') ?_
 refine vR Γ0 vM ?_
 refine vR Γ0 vM ?_
 refine vR Γ0 vM ?_
 refine vR Γ0 vM ?_
 refine wZ vM ?_
 intro E
 show Value.int IntKind.i64 _ = _
 congr 1
 refine Eq.trans ?_ r7
 congr 2
 refine Eq.trans ?_ r6
 have e5 : IntKind.u64.wrap (((y + y / 256 : Nat) : Int) + ((y + y / 256 : Nat) : Int).fdiv 65536) = ((y + y / 256 + (y + y / 256) / 65536 : Nat) : Int) := r5
 have e4 : IntKind.u64.wrap ((y : Int) + (y : Int).fdiv 256) = ((y + y / 256 : Nat) : Int) := r4
 rw [e4, e5]
 rfl
def HU : a7 Tryz.prog 253 where
 pre := fun W bs => fun | [.val (.int .u64 x)] => 0 <= x /\ x < 18446744073709551616 | _ => False
 res := fun W => fun | [.val (.int .u64 x)] => .int .i64 (dO x.toNat 64 : Nat) | _ => undef
 enters := Tryz.call253
 ok := by
  intro W w bs us as_ hk hu hp
  split at hp
  ·rename_i x
   match us, hu with
   | [u0], hu =>
    obtain ⟨rfl, _⟩ := hu
    have := Q7 x.toNat (by omega) w; rw [Int.toNat_of_nonneg hp.1] at this; exact this
  ·exact hp.elim
theorem JS (W : World) (x : Int) : HU.res W [.val (.int .u64 x)] = .int .i64 (dO x.toNat 64 : Nat) := rfl
theorem Jz (W : World) (bs : List Nat) (x : Int) : HU.pre W bs [.val (.int .u64 x)] = (0 <= x /\ x < 18446744073709551616) := rfl
noncomputable def Γ77 : Env Tryz.prog := ⟨fun | 253 => some HU.spec | _ => none, fun | _ => none, fun _ _ => none⟩
theorem Gt77c253 : Γ77.sp 253 = some HU.spec := rfl
attribute [local simp] aN
def qJ := (aq vM JS Jz Gt77c253 @gJ @kU @kR (ab @iZ @nh))
set_option maxHeartbeats 2000000 in
theorem Em (S : CS) (w : World) : Calls Tryz.prog 221 #[bY S] w fun e w' => e = .returned (.int .i64 (hH S : Nat)) /\ ai w [] w' := by
 refine al (nt := 16) [.tmp 2] Tryz.func221 rfl rfl rfl ?_
 refine vR Γ77 (ab qJ @dJ) ?_
 refine vR Γ77 qJ ?_
 refine Wp.seq ?_
 refine vR Γ77 qJ ?_
 refine Wp.block ?_
 refine Wp.loop (fun k : Nat => ⟨20, bV [(3, .is (.v (.int .i64 (jF S (64 * k) : Nat)))), (6, .is (.agg ((jN S).map .v))), (7, .is (.v (.int .i64 (k : Nat))))], cd []⟩) (fun k => k <= 4) (fun k => 4 - k) 0 ?_ (Nat.zero_le _) ?_
 ·exact wM (fun k => .key k) qJ
 rintro k hk
 have hle := zS S (64 * k)
 have hle2 := zS S (64 * (k + 1))
 refine vR Γ77 qJ ?_
 refine Wp.seq ?_
 refine wC qJ (fun hc => ?_) (fun hc => ?_)
 ·have hlt : k < 4 := by
   simp at hc
   omega
  have hw := Cs S k 64 (Nat.le_refl _)
  have hx := Wg S k
  have hx0 : 0 <= wd S k := by rw [wd]; omega
  have wk : IntKind.i64.wrap ((k : Int) + 1) = ((k + 1 : Nat) : Int) := by rw [aa (by omega) (by omega)]; omega
  have e : jF S (64 * (k + 1)) = jF S (64 * k) + dO (wd S k).toNat 64 := hw
  have wc : IntKind.i64.wrap ((jF S (64 * k) : Int) + ((dO (wd S k).toNat 64 : Nat) : Int)) = ((jF S (64 * (k + 1)) : Nat) : Int) := by rw [aa (by omega) (by omega), e]; omega
  refine wK ?_
  refine Wp.seq (Wp.block ?_)
  refine wR Γ77 (ab qJ (fJ S k hlt)) ?_ ?_
  ·omega
  refine wr Γ77 (ab qJ wc) ?_ ?_
  ·omega
  refine vr Γ77 (ab qJ wk) ?_
  refine ⟨k + 1, by omega, by omega, ?_⟩
  exact wM (fun k => .key k) qJ
 ·have hk' : k = 4 := by
   simp at hc
   omega
  subst hk'
  refine wE ?_
  refine vR Γ77 qJ ?_
  refine wZ qJ ?_
  exact fun E => rfl
noncomputable def mS : a7 Tryz.prog 221 where
 pre := fun W bs => fun | [.val y0] => (match dec bY y0 with | some S => True | _ => False) | _ => False
 res := fun W => fun | [.val y0] => (match dec bY y0 with | some S => .int .i64 (hH S : Nat) | _ => undef) | _ => undef
 enters := Tryz.call221
 ok := by
  intro W w bs us as_ hk hu hp
  split at hp
  ·rename_i y0
   split at hp
   ·rename_i S h0
    match us, hu with
    | [u0], hu =>
     obtain ⟨rfl, _⟩ := hu
     obtain rfl := fq h0
     try dsimp only
     try simp only [b9 cg]
     exact Em S w
   ·exact hp.elim
  ·exact hp.elim
theorem rk (W : World) (S : CS) : mS.res W [.val (bY S)] = .int .i64 (hH S : Nat) := by simp only [mS, b9 cg]
theorem qS (W : World) (bs : List Nat) (S : CS) : mS.pre W bs [.val (bY S)] = (True) := by simp only [mS, b9 cg]
noncomputable def qV : a7 Tryz.prog 225 where
 pre := fun W bs => fun | [.val y0, .val (.int .u8 b)] => (match dec bY y0 with | some S => 0 <= b /\ b < 256 | _ => False) | _ => False
 res := fun W => fun | [.val y0, .val (.int .u8 b)] => (match dec bY y0 with | some S => .bool (S.getLsbD b.toNat) | _ => undef) | _ => undef
 enters := Tryz.call225
 ok := by
  intro W w bs us as_ hk hu hp
  split at hp
  ·rename_i y0 b
   split at hp
   ·rename_i S h0
    match us, hu with
    | [u0, u1], hu =>
     obtain ⟨rfl, rfl, _⟩ := hu
     obtain rfl := fq h0
     try dsimp only
     try simp only [b9 cg]
     have := RM S b.toNat (by omega) w; rw [Int.toNat_of_nonneg hp.1] at this; exact this
   ·exact hp.elim
  ·exact hp.elim
theorem w8 (W : World) (S : CS) (b : Int) : qV.res W [.val (bY S), .val (.int .u8 b)] = .bool (S.getLsbD b.toNat) := by simp only [qV, b9 cg]
theorem x7 (W : World) (bs : List Nat) (S : CS) (b : Int) : qV.pre W bs [.val (bY S), .val (.int .u8 b)] = (0 <= b /\ b < 256) := by simp only [qV, b9 cg]
noncomputable def Γ78 : Env Tryz.prog := ⟨fun | 225 => some qV.spec | _ => none, fun | _ => none, fun _ _ => none⟩
theorem Gt78c225 : Γ78.sp 225 = some qV.spec := rfl
def sQ := (nC qJ @rk @qS @w8 @x7 Gt78c225)
set_option maxHeartbeats 2000000 in
theorem LP (S : CS) (hS : ∃ b < 256, S.getLsbD b = true) (w : World) : Calls Tryz.prog 222 #[bY S, .int .i64 0] w fun e w' => e = .returned (.tuple #[.int .u8 (va S : Nat), .bool true]) /\ ai w [] w' := by
 refine al (nt := 19) [.tmp 4, .tmp 5] Tryz.func222 rfl rfl rfl ?_
 refine vR Γ78 (ab sQ @dJ) ?_
 refine Wp.seq ?_
 refine vR Γ78 sQ ?_
 refine Wp.block ?_
 refine Wp.loop (fun j : Nat => ⟨20, bV [(2, .is (.own 0 0)), (6, .is (.v (.int .i64 (j : Nat))))], cd [(0, .cells 309 ((jN S).map .v))]⟩) (fun j => j <= 256 /\ ∀ k < j, S.getLsbD k = false) (fun j => 256 - j) 0 ?_ ⟨Nat.zero_le _, fun k h => by omega⟩ ?_
 ·exact wM (fun k => .key k) sQ
 rintro j ⟨hj, hn⟩
 refine Wp.seq ?_
 refine vR Γ78 sQ ?_
 refine wC sQ (fun hc => ?_) (fun hc => ?_)
 ·have hlt : j < 256 := by
   simp at hc
   omega
  have wj : IntKind.i64.wrap ((j : Int) + 1) = ((j + 1 : Nat) : Int) := by rw [aa (by omega) (by omega)]; omega
  have wu : IntKind.u8.wrap (j : Int) = (j : Int) := gn (by omega) (by omega)
  refine wK ?_
  refine Wp.seq (Wp.block ?_)
  refine wR Γ78 (dk sQ wu @de) ?_ ?_
  ·omega
  refine wC sQ (fun hc => ?_) (fun hc => ?_)
  ·rw [IU S j hlt hn hc]
   refine vR Γ78 (ab sQ wu) ?_
   refine wZ sQ ?_
   exact fun E => rfl
  ·refine wK ?_
   refine vr Γ78 (ab sQ wj) ?_
   refine ⟨j + 1, ⟨by omega, fun k hk => ?_⟩, by omega, ?_⟩
   ·by_cases h : k = j
    ·rw [h]; exact hc
    ·exact hn k (by omega)
   ·exact wM (fun k => .key k) sQ
 ·exfalso
  have hj' : j = 256 := by
   simp at hc
   omega
  subst hj'
  obtain ⟨b, h1, h2⟩ := hS
  rw [hn b h1] at h2
  cases h2
theorem QX (S : CS) (h : hH S = 1) : ∃ b < 256, S.getLsbD b = true := by
 refine Classical.byContradiction fun hn => ?_
 have := wY S 256 fun j hj => by
  cases hb : S.getLsbD j with
  | false => rfl
  | true => exact absurd ⟨j, hj, hb⟩ hn
 rw [hH] at h
 omega
noncomputable def qg : a7 Tryz.prog 222 where
 pre := fun W bs => fun | [.val y0, .val (.int .i64 x)] => (match dec bY y0 with | some S => x = 0 /\ ∃ b < 256, S.getLsbD b = true | _ => False) | _ => False
 res := fun W => fun | [.val y0, .val (.int .i64 x)] => (match dec bY y0 with | some S => .tuple #[.int .u8 (va S : Nat), .bool true] | _ => undef) | _ => undef
 enters := Tryz.call222
 ok := by
  intro W w bs us as_ hk hu hp
  split at hp
  ·rename_i y0 x
   split at hp
   ·rename_i S h0
    match us, hu with
    | [u0, u1], hu =>
     obtain ⟨rfl, rfl, _⟩ := hu
     obtain rfl := fq h0
     try dsimp only
     try simp only [b9 cg]
     obtain ⟨rfl, hS⟩ := hp; exact LP S hS w
   ·exact hp.elim
  ·exact hp.elim
theorem D1 (W : World) (S : CS) (x : Int) : qg.res W [.val (bY S), .val (.int .i64 x)] = .tuple #[.int .u8 (va S : Nat), .bool true] := by simp only [qg, b9 cg]
theorem E5 (W : World) (bs : List Nat) (S : CS) (x : Int) : qg.pre W bs [.val (bY S), .val (.int .i64 x)] = (x = 0 /\ ∃ b < 256, S.getLsbD b = true) := by simp only [qg, b9 cg]
end
section
open Go.RowKit Go.LE
set_option maxRecDepth 10000
noncomputable def Γ79 : Env Tryz.prog := ⟨fun | 138 => some Rm.spec | _ => none, fun | _ => none, fun _ _ => none⟩
theorem Gt79c138 : Γ79.sp 138 = some Rm.spec := rfl
theorem zd : ∀ n : Fin 256, let b := ((n.val : Nat) : Int); let h : ByteArray := ⟨#[48, 49, 50, 51, 52, 53, 54, 55, 56, 57, 97, 98, 99, 100, 101, 102]⟩;
  let x := h.extract (b.fdiv 16).toNat (IntKind.u8.wrap (b.fdiv 16 + 1)).toNat; let y := h.extract (bU .and .u8 b 15).toNat (IntKind.u8.wrap (bU .and .u8 b 15 + 1)).toNat;
  (0 <= b.fdiv 16 /\ b.fdiv 16 <= IntKind.u8.wrap (b.fdiv 16 + 1) /\ IntKind.u8.wrap (b.fdiv 16 + 1) <= 16) /\ (0 <= bU .and .u8 b 15 /\ bU .and .u8 b 15 <= IntKind.u8.wrap (bU .and .u8 b 15 + 1) /\ IntKind.u8.wrap (bU .and .u8 b 15 + 1) <= 16) /\
  (x.size = 1 /\ y.size = 1) /\ (⟨#[92, 120]⟩ : ByteArray) ++ x ++ y = ⟨#[92, 120, Ri (b / 16), Ri (b % 16)]⟩ := by decide +kernel
def ct := (aq @List.replicate_succ.{0} @List.replicate_zero.{0} @aw @ah jS jP Mv (aq Mq Mr jn cQ cV cX cS (aq da c9 c8 db iv ie ig (aq ir iw eW eV eX eZ e8 (aq e9 Oa Ny Q3 Nj UE Uq (aq UD UN Uh UH Uz UB Ud (aq Uo @aO @au @aB @aC @yv @yZ Gt79c138)))))))
set_option maxHeartbeats 4000000 in
theorem Dv (b : Int) (q : ByteArray) (h0 : 0 <= b) (h1 : b < 256) (w : World) (hg : bc w (Out [])) : Calls Tryz.prog 223 #[.int .u8 b, .string q] w fun e w' => e = .returned (.string (iX b (iN q b))) /\ ai w [] w' := by
 obtain ⟨g0, g1, g2, g3, g4, g5, g6⟩ := hg
 refine al (nt := 54) [.tmp 4] Tryz.func223 rfl rfl rfl ?_
 refine vR Γ79 ct ?_
 refine Wp.seq ?_
 refine vR Γ79 (Ci ct g1 g2 g3 g4 g5 g6) ?_
 refine Wp.block ?_
 refine Wp.loop (fun k : Nat => ⟨40, bV [(0, .is (.v (.int .u8 b))), (1, .is (.v (.string q))), (7, .is (.agg [.v (.int .u8 110), .v (.int .u8 10), .v (.int .u8 114), .v (.int .u8 13), .v (.int .u8 116), .v (.int .u8 9)])), (8, .is (.v (.int .i64 k)))], cd []⟩)
  (fun k => k <= 3 /\ (0 < k -> b ≠ 10) /\ (1 < k -> b ≠ 13) /\ (2 < k -> b ≠ 9)) (fun k => 3 - k) 0 ?_ ⟨by omega, by omega, by omega, by omega⟩ ?_
 ·exact wM (fun k => .key k) ct
 rintro k ⟨k0, k1, k2, k3⟩
 refine vR Γ79 ct ?_
 refine Wp.seq ?_
 refine wC ct (fun hc => ?_) (fun hc => ?_)
 ·simp at hc
  refine wK ?_
  have hk3 : k < 3 := by omega
  have hcase : k = 0 \/ k = 1 \/ k = 2 := by omega
  refine Wp.seq (Wp.block ?_)
  rcases hcase with rfl | rfl | rfl
  ·skip
   refine vR Γ79 ct ?_
   refine vR Γ79 ct ?_
   refine wC ct (fun hc => ?_) (fun hc => ?_)
   ·have hb : b = 10 := by simp at hc; omega
    have he : iX b (iN q b) = ⟨#[92, 110]⟩ := by rw [iX, if_pos hb]
    rw [he]
    refine wR Γ79 ct ?_ ?_
    ·show 1 + 1 <= 9223372036854775807; omega
    refine wZ ct ?_
    exact fun E => rfl
   ·have hb : ¬ b = 10 := by simp at hc; omega
    refine wK ?_
    refine vr Γ79 ct ?_
    refine ⟨1, ⟨by omega, fun _ => hb, by omega, by omega⟩, by omega, ?_⟩
    exact wM (fun k => .key k) ct
  ·skip
   refine vR Γ79 ct ?_
   refine vR Γ79 ct ?_
   refine wC ct (fun hc => ?_) (fun hc => ?_)
   ·have hb : b = 13 := by simp at hc; omega
    have he : iX b (iN q b) = ⟨#[92, 114]⟩ := by rw [iX, if_neg (k1 (by omega)), if_pos hb]
    rw [he]
    refine wR Γ79 ct ?_ ?_
    ·show 1 + 1 <= 9223372036854775807; omega
    refine wZ ct ?_
    exact fun E => rfl
   ·have hb : ¬ b = 13 := by simp at hc; omega
    refine wK ?_
    refine vr Γ79 ct ?_
    refine ⟨2, ⟨by omega, fun _ => k1 (by omega), fun _ => hb, by omega⟩, by omega, ?_⟩
    exact wM (fun k => .key k) ct
  ·skip
   refine vR Γ79 ct ?_
   refine vR Γ79 ct ?_
   refine wC ct (fun hc => ?_) (fun hc => ?_)
   ·have hb : b = 9 := by simp at hc; omega
    have he : iX b (iN q b) = ⟨#[92, 116]⟩ := by rw [iX, if_neg (k1 (by omega)), if_neg (k2 (by omega)), if_pos hb]
    rw [he]
    refine wR Γ79 ct ?_ ?_
    ·show 1 + 1 <= 9223372036854775807; omega
    refine wZ ct ?_
    exact fun E => rfl
   ·have hb : ¬ b = 9 := by simp at hc; omega
    refine wK ?_
    refine vr Γ79 ct ?_
    refine ⟨3, ⟨by omega, fun _ => k1 (by omega), fun _ => k2 (by omega), fun _ => hb⟩, by omega, ?_⟩
    exact wM (fun k => .key k) ct
 ·have hk : k = 3 := by
   simp at hc
   omega
  have n10 := k1 (by omega)
  have n13 := k2 (by omega)
  have n9 := k3 (by omega)
  refine wE ?_
  refine Wp.seq (Wp.block ?_)
  refine vR Γ79 ct ?_
  refine wC ct (fun hc => ?_) (fun hc => ?_)
  ·have h : b < 32 \/ 126 < b := by simpa using hc
   have e : iX b (iN q b) = ⟨#[92, 120, Ri (b / 16), Ri (b % 16)]⟩ := by rw [iX, if_neg n10, if_neg n13, if_neg n9, if_pos h]
   rw [e]
   obtain ⟨n, rfl⟩ := Int.eq_ofNat_of_zero_le h0
   obtain ⟨f1, f2, ⟨f3, f4⟩, f5⟩ := zd ⟨n, by omega⟩
   simp only at f1 f2 f3 f4 f5
   refine kY Γ79 ct ?_ ?_
   ·refine ⟨f1, ?_, f2, ?_⟩
    ·rw [f3]; show 2 + 1 <= 9223372036854775807; omega
    ·rw [f4, ByteArray.size_append, f3]; show 2 + 1 + 1 <= 9223372036854775807; omega
   refine wZ ct ?_
   exact fun E => congrArg Value.string f5
  have n32 : ¬ (b < 32 \/ 126 < b) := by simpa using hc
  refine vR Γ79 ct ?_
  refine wC ct (fun hc => ?_) (fun hc => ?_)
  ·have hi : iN q b = true := by rw [iN]; simpa using hc
   have e : iX b (iN q b) = ⟨#[92, b.toNat.toUInt8]⟩ := by rw [iX, if_neg n10, if_neg n13, if_neg n9, if_neg n32, if_pos hi]
   rw [e]
   refine wR Γ79 ct ?_ ?_
   ·show 1 + 1 <= 9223372036854775807; omega
   refine wZ ct ?_
   exact fun E => rfl
  ·have hi : ¬ iN q b = true := by rw [iN]; simpa using hc
   have e : iX b (iN q b) = ⟨#[b.toNat.toUInt8]⟩ := by rw [iX, if_neg n10, if_neg n13, if_neg n9, if_neg n32, if_neg hi]
   rw [e]
   refine wK ?_
   refine vR Γ79 ct ?_
   refine wZ ct ?_
   exact fun E => rfl
def oO : a7 Tryz.prog 223 where
 pre := fun W bs => fun | [.val (.int .u8 b), .val (.string q)] => (0 <= b /\ b < 256) /\ bc W (Out bs) | _ => False
 res := fun W => fun | [.val (.int .u8 b), .val (.string q)] => .string (iX b (iN q b)) | _ => undef
 enters := Tryz.call223
 ok := by
  intro W w bs us as_ hk hu hp
  split at hp
  ·rename_i b q
   match us, hu with
   | [u0, u1], hu =>
    obtain ⟨rfl, rfl, _⟩ := hu
    exact Dv b q hp.1.1 hp.1.2 w (hp.2.fD hk (by simp))
  ·exact hp.elim
theorem yX (W : World) (b : Int) (q : ByteArray) : oO.res W [.val (.int .u8 b), .val (.string q)] = .string (iX b (iN q b)) := rfl
theorem zl (W : World) (bs : List Nat) (b : Int) (q : ByteArray) : oO.pre W bs [.val (.int .u8 b), .val (.string q)] = ((0 <= b /\ b < 256) /\ bc W (Out bs)) := rfl
end
section
open Go.RowKit Go.LE
set_option maxRecDepth 10000
noncomputable def Γ80 : Env Tryz.prog := ⟨fun | 221 => some mS.spec | 222 => some qg.spec | 223 => some oO.spec | 224 => some v7.spec | 225 => some qV.spec | _ => none, fun | _ => none, fun _ _ => none⟩
theorem Gt80c221 : Γ80.sp 221 = some mS.spec := rfl
theorem Gt80c222 : Γ80.sp 222 = some qg.spec := rfl
theorem Gt80c223 : Γ80.sp 223 = some oO.spec := rfl
theorem Gt80c224 : Γ80.sp 224 = some v7.spec := rfl
theorem Gt80c225 : Γ80.sp 225 = some qV.spec := rfl
attribute [local simp] aN
theorem Bc (S : CS) (h1 : hH S ≠ 1) : ∃ (T : CS) (pre : ByteArray), fL S = cA T pre 256 ++ Ig /\ pre.size <= 2 /\ (T, pre) = (if 128 < hH S then (~~~S, tp) else (S, uw)) := by
 by_cases h : 128 < hH S
 ·exact ⟨~~~S, tp, by rw [fL, if_neg h1, if_pos h], by decide, by rw [if_pos h]⟩
 ·exact ⟨S, uw, by rw [fL, if_neg h1, if_neg h], by decide, by rw [if_neg h]⟩
def bC := (aq @List.replicate_succ.{0} @List.replicate_zero.{0} @aw @ah jS jP jn (aq cQ cV cX cS da c9 c8 (aq db iv ie ig ir iw eW (aq eV eX eZ e8 e9 rv ri (aq q7 rD ry rI qW qY Hi (aq Ix @aO @au @aB @aC @rk @qS (aq @D1 @E5 @yX @zl @CL @CT @w8 (aq @x7 @gJ @kU @kR @iZ @nh @VC (nC @VN Gt80c221 Gt80c222 Gt80c223 Gt80c224 Gt80c225)))))))))
set_option maxHeartbeats 4000000 in
theorem KJ (S : CS) (w : World) (hg : bc w (Out [])) : Calls Tryz.prog 182 #[bY S] w fun e w' => e = .returned (.string (fL S)) /\ ai w [] w' := by
 refine al (nt := 67) [.tmp 2] Tryz.func182 rfl rfl rfl ?_
 refine vR Γ80 (ab bC @dJ) ?_
 refine vR Γ80 (ab bC @de) ?_
 refine Wp.seq ?_
 refine vR Γ80 bC ?_
 refine wC bC (fun hc => ?_) (fun hc => ?_)
 ·have h1 : hH S = 1 := by simp at hc; omega
  have hl := IZ S 256 0
  obtain ⟨b0, hb0, hb1⟩ := QX S h1
  have hlt : va S < 256 := by
   have hx : ∀ k j, j + k = 256 -> j <= b0 -> za S k j < 256 := by
    intro k
    induction k with
    | zero => intro j h1 h2; omega
    | succ k ih =>
     intro j h1 h2
     unfold za
     split
     ·omega
     ·rename_i hn
      refine ih (j + 1) (by omega) ?_
      by_cases he : j = b0
      ·rw [he] at hn; exact absurd hb1 hn
      ·omega
   exact hx 256 0 rfl (Nat.zero_le _)
  have e : fL S = iX (va S) (iN vB (va S)) := by rw [fL, if_pos h1]
  rw [e]
  refine wR Γ80 (ab bC @de) ?_ ?_
  ·exact ⟨b0, hb0, hb1⟩
  refine wR Γ80 bC ?_ ?_
  ·exact ⟨⟨by omega, by omega⟩, hg⟩
  refine wZ bC ?_
  exact fun E => rfl
 have h1 : hH S ≠ 1 := by simp at hc; omega
 obtain ⟨T, pre, he, hpre, hp⟩ := Bc S h1
 rw [he]
 refine wK ?_
 refine vR Γ80 bC ?_
 refine bx ⟨60, bV [(1, .is (.own 0 0)), (6, .is (.v (.string pre)))], cd [(0, .cells 309 ((jN T).map .v))]⟩ ?_ ?_
 ·skip
  refine vR Γ80 bC ?_
  refine wC bC (fun hc => ?_) (fun hc => ?_)
  ·have h : 128 < hH S := by simp at hc; omega
   rw [if_pos h, Prod.mk.injEq] at hp
   obtain ⟨rfl, rfl⟩ := hp
   refine vR Γ80 bC ?_
   refine vr Γ80 (dk bC @de @dJ) ?_
   exact wM (fun k => .key k) bC
  ·have h : ¬ 128 < hH S := by simp at hc; omega
   rw [if_neg h, Prod.mk.injEq] at hp
   obtain ⟨rfl, rfl⟩ := hp
   refine wK ?_
   exact wM (fun k => .key k) bC
 clear hp
 refine Wp.seq ?_
 refine vR Γ80 bC ?_
 refine Wp.block ?_
 refine Wp.loop (fun b : Nat => ⟨70, bV [(1, .is (.own 0 0)), (6, .is (.v (.string (cA T pre b)))), (7, .is (.v (.int .i64 (b : Nat))))], cd [(0, .cells 309 ((jN T).map .v))]⟩) (fun b => b <= 256 /\ (b = 0 \/ T.getLsbD (b - 1) = false \/ T.getLsbD b = false)) (fun b => 256 - b) 0 ?_ ⟨Nat.zero_le _, .inl rfl⟩ ?_
 ·exact wM (fun k => .key k) bC
 rintro b ⟨hb, hinv⟩
 refine Wp.seq ?_
 refine vR Γ80 bC ?_
 refine wC bC (fun hc => ?_) (fun hc => ?_)
 ·have hlt : b < 256 := by
   simp at hc
   omega
  have wj : IntKind.i64.wrap ((b : Int) + 1) = ((b + 1 : Nat) : Int) := by rw [aa (by omega) (by omega)]; omega
  have wu : IntKind.u8.wrap (b : Int) = (b : Int) := gn (by omega) (by omega)
  have hsz := gH T pre b
  refine wK ?_
  refine Wp.seq (Wp.block ?_)
  refine Wp.seq ?_
  refine wR Γ80 (dk bC wu @de) ?_ ?_
  ·omega
  refine wC bC (fun hc => ?_) (fun hc => ?_)
  ·have hTb : T.getLsbD b = false := by simpa using hc
   have hs : Mt T b = false := by rw [Mt, hTb]; rfl
   have e : cA T pre (b + 1) = cA T pre b := by rw [cA, if_neg (by rw [hs]; simp)]
   refine wE ?_
   refine vr Γ80 (ab bC wj) ?_
   refine ⟨b + 1, ⟨by omega, .inr (.inl hTb)⟩, by omega, ?_⟩
   rw [e]
   exact wM (fun k => .key k) bC
  have hTb : T.getLsbD b = true := by simpa using hc
  have hs : Mt T b = true := by
   rw [Mt, hTb, Bool.true_and]
   rcases hinv with h | h | h
   ·subst h; rfl
   ·rw [h]; simp
   ·rw [hTb] at h; cases h
  have hbd := HI T b hlt
  have e : cA T pre (b + 1) = DW (cA T pre b) b (iq T b) := by rw [cA, if_pos hs]
  have e2 : cA T pre (iq T b + 1) = cA T pre (b + 1) := D8 T pre b hlt hTb _ (by omega) (Nat.le_refl _)
  have hout : T.getLsbD (iq T b + 1) = false := by
   by_cases h : iq T b < 255
   ·exact Ok T b hlt h
   ·exact BitVec.getLsbD_of_ge _ _ (by omega)
  obtain ⟨m, hm⟩ : ∃ m, iq T b = m := ⟨_, rfl⟩
  generalize hO : cA T pre b = O at *
  rw [hm] at hbd e e2 hout
  rw [e] at e2
  refine wK ?_
  refine vR Γ80 bC ?_
  refine bx ⟨120, bV [(1, .is (.own 0 0)), (6, .is (.v (.string O))), (7, .is (.v (.int .i64 (b : Nat)))), (8, .is (.v (.int .i64 (m : Nat))))], cd [(0, .cells 309 ((jN T).map .v))]⟩ ?_ ?_
  ·skip
   refine Wp.block ?_
   refine Wp.loop (fun k : Nat => ⟨100, bV [(1, .is (.own 0 0)), (6, .is (.v (.string O))), (7, .is (.v (.int .i64 (b : Nat)))), (8, .is (.v (.int .i64 (k : Nat))))], cd [(0, .cells 309 ((jN T).map .v))]⟩) (fun k => (b <= k /\ k < 256) /\ iq T b = iq T k) (fun k => 256 - k) b ?_ ⟨⟨Nat.le_refl _, hlt⟩, rfl⟩ ?_
   ·exact wM (fun k => .key k) bC
   rintro k ⟨⟨hk1, hk⟩, hke⟩
   have wk : IntKind.i64.wrap ((k : Int) + 1) = ((k + 1 : Nat) : Int) := by rw [aa (by omega) (by omega)]; omega
   have fin : (k < 255 -> T.getLsbD (k + 1) = false) -> k = m := fun h => by
    have := wL T k h
    omega
   by_cases hbk : k < 255
   ·have hd : decide ((k : Int) < 255) = true := by simp; omega
    have wu : IntKind.u8.wrap ((k + 1 : Nat) : Int) = ((k + 1 : Nat) : Int) := gn (by omega) (by omega)
    refine Wp.seq ?_
    refine wR Γ80 (p8 bC wk hd wu @de) ?_ ?_
    ·omega
    refine wC bC (fun hc => ?_) (fun hc => ?_)
    ·refine wK ?_
     refine Wp.block ?_
     refine vr Γ80 (ab bC wk) ?_
     refine ⟨k + 1, ⟨⟨by omega, by omega⟩, by rw [hke]; exact xN T k hbk hc⟩, by omega, ?_⟩
     exact wM (fun k => .key k) bC
    ·refine wE ?_
     have hf := fin fun _ => hc
     subst hf
     exact wM (fun k => .key k) bC
   ·have hd : decide ((k : Int) < 255) = false := by simp; omega
    refine Wp.seq ?_
    refine wR Γ80 (fj bC wk hd @de) ?_ ?_
    ·simp
    refine wC bC (fun hc => ?_) (fun hc => ?_)
    ·exact absurd hc (by simp)
    ·refine wE ?_
     have hf := fin fun h => absurd h hbk
     subst hf
     exact wM (fun k => .key k) bC
  have wm : IntKind.u8.wrap ((m : Nat) : Int) = ((m : Nat) : Int) := gn (by omega) (by omega)
  have wm1 : IntKind.i64.wrap ((m : Int) + 1) = ((m + 1 : Nat) : Int) := by rw [aa (by omega) (by omega)]; omega
  have hb1 := jx b (iN ki b)
  have hb2 := jx ((m : Nat) : Int) (iN ki ((m : Nat) : Int))
  rw [IT] at e2
  refine wR Γ80 (ab bC wu) ?_ ?_
  ·exact ⟨⟨⟨by omega, by omega⟩, hg⟩, by omega⟩
  have hO1 : (O ++ iX b (iN ki b)).size <= 2400 := by rw [ByteArray.size_append]; omega
  generalize O ++ iX b (iN ki b) = O1 at *
  refine bx ⟨150, bV [(1, .is (.own 0 0)), (6, .is (.v (.string (if b + 1 < m then O1 ++ lL else O1)))), (7, .is (.v (.int .i64 (b : Nat)))), (8, .is (.v (.int .i64 (m : Nat))))], cd [(0, .cells 309 ((jN T).map .v))]⟩ ?_ ?_
  ·skip
   refine vR Γ80 (ab bC wj) ?_
   refine wC bC (fun hc => ?_) (fun hc => ?_)
   ·have h : b + 1 < m := by simp at hc; omega
    rw [if_pos h]
    refine wr Γ80 bC ?_ ?_
    ·show O1.size + 1 <= _; omega
    exact wM (fun k => .key k) bC
   ·have h : ¬ b + 1 < m := by simp at hc; omega
    rw [if_neg h]
    refine wK ?_
    exact wM (fun k => .key k) bC
  have hO2 : (if b + 1 < m then O1 ++ lL else O1).size <= 2401 := by
   split
   ·rw [ByteArray.size_append]
    show O1.size + 1 <= 2401
    omega
   ·omega
  generalize (if b + 1 < m then O1 ++ lL else O1) = O2 at *
  refine bx ⟨170, bV [(1, .is (.own 0 0)), (6, .is (.v (.string (cA T pre (m + 1))))), (8, .is (.v (.int .i64 (m : Nat))))], cd [(0, .cells 309 ((jN T).map .v))]⟩ ?_ ?_
  ·skip
   refine vR Γ80 bC ?_
   refine wC bC (fun hc => ?_) (fun hc => ?_)
   ·have h : b < m := by simp at hc; omega
    rw [if_pos h] at e2
    rw [e2]
    refine wr Γ80 (ab bC wm) ?_ ?_
    ·exact ⟨⟨⟨by omega, by omega⟩, hg⟩, by omega⟩
    exact wM (fun k => .key k) bC
   ·have h : ¬ b < m := by simp at hc; omega
    rw [if_neg h] at e2
    rw [e2]
    refine wK ?_
    exact wM (fun k => .key k) bC
  refine vr Γ80 bC ?_
  refine vr Γ80 (ab bC wm1) ?_
  refine ⟨m + 1, ⟨by omega, .inr (.inr hout)⟩, by omega, ?_⟩
  exact wM (fun k => .key k) bC
 ·have hb' : b = 256 := by
   simp at hc
   omega
  subst hb'
  have hsz := gH T pre 256
  refine wE ?_
  refine wR Γ80 bC ?_ ?_
  ·show (cA T pre 256).size + 1 <= _; omega
  refine wZ bC ?_
  exact fun E => rfl
noncomputable def pY : a7 Tryz.prog 182 where
 pre := fun W bs => fun | [.val y0] => (match dec bY y0 with | some S => bc W (Out bs) | _ => False) | _ => False
 res := fun W => fun | [.val y0] => (match dec bY y0 with | some S => .string (fL S) | _ => undef) | _ => undef
 enters := Tryz.call182
 ok := by
  intro W w bs us as_ hk hu hp
  split at hp
  ·rename_i y0
   split at hp
   ·rename_i S h0
    match us, hu with
    | [u0], hu =>
     obtain ⟨rfl, _⟩ := hu
     obtain rfl := fq h0
     try dsimp only
     try simp only [b9 cg]
     exact KJ S w (hp.fD hk (by simp))
   ·exact hp.elim
  ·exact hp.elim
theorem Ga (W : World) (S : CS) : pY.res W [.val (bY S)] = .string (fL S) := by simp only [pY, b9 cg]
theorem DM (W : World) (bs : List Nat) (S : CS) : pY.pre W bs [.val (bY S)] = (bc W (Out bs)) := by simp only [pY, b9 cg]
end
section
open Go.RowKit Go.LE
set_option maxRecDepth 10000
theorem Ln {ar : List Nd} {f : Fm} (h : ¬ f.row < 0) : ic ar f = (ar, f) := by rw [ic, if_neg h]
theorem Gb (ar : List Nd) (f : Fm) : (ic (aD ar f).1 (aD ar f).2).1.length <= ar.length + 1 := by
 by_cases h1 : f.fac < 0
 ·rw [aD, if_pos h1]
  exact pz ar f
 ·by_cases h2 : f.row < 0
  ·rw [aD, if_neg h1, if_pos h2]
   exact pz ar _
  ·rw [aD, if_neg h1, if_neg h2, Ln (by show ¬ (ar.length : Int) < 0; omega)]
   simp
theorem uK (ar : List Nd) (f : Fm) : (eA ar f).1.length <= ar.length + 2 := by
 have h1 := Gb ar f
 have h3 := xw (ic (aD ar f).1 (aD ar f).2).1 (ic (aD ar f).1 (aD ar f).2).2
 unfold eA
 omega
theorem mF (ar : List Nd) (f : Fm) : (aJ ar f).1.length <= ar.length + 3 := by
 have h1 := uK ar f
 unfold aJ rF
 split
 ·simp only; omega
 ·simp only [List.length_append, List.length_cons, List.length_nil]; omega
def iT (s : ByteArray) : Except (Int × Int) RT := fY (bt s) s.size (fc s)
def pN : Except (Int × Int) RT -> Nat
 | .ok t => aG t.expand
 | .error _ => 0
def pV : Except (Int × Int) RT -> List Value
 | .ok t => cK (dr 0 t.expand)
 | .error _ => []
def pG : Except (Int × Int) RT -> Value -> Value
 | .ok t, v => .tuple #[.agg #[v, .int .i64 ((aG t.expand - 1 : Nat) : Int)], .int .i64 0, .int .i64 0]
 | .error (c, p), v => .tuple #[.agg #[v, .int .i64 0], .int .i64 c, .int .i64 p]
theorem vJ : cU Tryz.prog 64 [] [] = ⟨True, .agg [.v (.slice none 0 0), .v (.int .i64 0)], [], none, [], []⟩ := by kernel_rfl
theorem wA : cU Tryz.prog 232 [] [] = ⟨True, .agg [.v (.slice none 0 0), .v (.slice none 0 0)], [], none, [], []⟩ := by kernel_rfl
theorem Js {P : Program} {T e : TypeId} {sz : Nat} {zs : List Value} (κ : Nat) (x : SV) (l : List SV) (hp : partsOf x = l) (h1 : P.underlying T = some (.slice e)) (h2 : ts P e = some sz) (h3 : tz P e = some zs) (h4 : zs.length = sz) (h5 : sz <= 16777216) (h6 : 0 < sz) (h7 : l.length = sz) :
  bj P κ T 1 [0] [x] = ⟨True, .hd (8 * κ), [(8 * κ, some (.row e sz 1 l))], none, [], []⟩ := by
 have hf : cN (fun i => some (i * sz, sz)) ((List.replicate 1 zs).flatten.map .v) ([0].zip [x]) = some l := by
  simp only [List.zip_cons_cons, List.zip_nil_right, cN, hp, Nat.zero_mul, Nat.zero_add]
  rw [if_pos ⟨h7, by simp [h4]⟩]
  simp [ae, h7, <- h4]
 unfold bj
 simp only [h1, h2, h3, hf]
 congr 1
 exact eq_true ⟨by omega, h4, h6⟩
theorem Nu (κ : Nat) (f : Fm) : bj Tryz.prog κ 230 1 [0] [.v (.agg f.bh.toArray)] = ⟨True, .hd (8 * κ), [(8 * κ, some (.row 234 6 1 (f.bh.map .v)))], none, [], []⟩ :=
 Js (e := 234) (sz := 6) (zs := [.int .i64 0, .int .i64 0, .int .i64 0, .int .u8 0, .int .i64 0, .int .i64 0]) κ _ _ rfl (by kernel_rfl) (by kernel_rfl) (by kernel_rfl) rfl (by omega) (by omega) rfl
def CG (s : ByteArray) : Except (Int × Int) (List Nd × Fm × List Fm) := nU (bt s) s.size (fc s) (s.size + 1) 0 [] (iE (-1)) []
theorem l5 {s : ByteArray} {e : Int × Int} (hb : ¬ 1048576 < (s.size : Int)) (h : CG s = .error e) : iT s = .error e := by
 have h1 := kn (c := bt s) (N := s.size) (rd := fc s) (by omega)
 have h2 : ij (bt s) s.size (fc s) = .error e := by
  rw [ij, if_neg hb]
  have : nU (bt s) s.size (fc s) ((s.size : Int).toNat + 1) 0 [] (iE (-1)) [] = .error e := h
  rw [this]; rfl
 rw [h2] at h1
 show fY _ _ _ = _
 cases h3 : fY (bt s) s.size (fc s) with
 | error e' => rw [h3] at h1; simp only at h1; rw [h1]
 | ok t => rw [h3] at h1; exact h1.elim
theorem AB {s : ByteArray} {ar : List Nd} {f : Fm} {rest : List Fm} (hb : ¬ 1048576 < (s.size : Int)) (h : CG s = .ok (ar, f, rest)) : iT s = match Am (.ok (ar, f, rest)) with
  | .error e => .error e
  | .ok _ => iT s := by
 have h1 := kn (c := bt s) (N := s.size) (rd := fc s) (by omega)
 have h2 : ij (bt s) s.size (fc s) = Am (.ok (ar, f, rest)) := by
  rw [ij, if_neg hb]
  have : nU (bt s) s.size (fc s) ((s.size : Int).toNat + 1) 0 [] (iE (-1)) [] = .ok (ar, f, rest) := h
  rw [this]
 rw [h2] at h1
 cases h4 : Am (.ok (ar, f, rest)) with
 | error e =>
  rw [h4] at h1
  show fY _ _ _ = _
  cases h3 : fY (bt s) s.size (fc s) with
  | error e' => rw [h3] at h1; simp only at h1; rw [h1]
  | ok t => rw [h3] at h1; exact h1.elim
 | ok q => rfl
theorem Tn {s : ByteArray} {ar : List Nd} {f : Fm} {rest : List Fm} (h : CG s = .ok (ar, f, rest)) : ∃ ts t, AR (aJ ar f).1 ts /\ 0 <= (aJ ar f).2.alt /\ ts[(aJ ar f).2.alt.toNat]? = some t := by
 have hm : ∀ o : Int, o = -1 -> OD [] o none := fun o h => by show o < 0; omega
 have h1 := y7 (c := bt s) (N := s.size) (rd := fc s) (s.size + 1) 0 [] [] (iE (-1)) (eT (-1)) [] [] .nil ⟨rfl, hm _ rfl, hm _ rfl, rfl, hm _ rfl, hm _ rfl⟩ trivial
 have h2 : nU (bt s) s.size (fc s) (s.size + 1) 0 [] (iE (-1)) [] = .ok (ar, f, rest) := h
 rw [h2] at h1
 cases h3 : runN (bt s) s.size (fc s) (s.size + 1) 0 (eT (-1)) [] with
 | error e => rw [h3] at h1; exact h1.elim
 | ok p =>
  obtain ⟨L, Ls⟩ := p
  rw [h3] at h1
  obtain ⟨ts, ha, hf, hr⟩ := h1
  obtain ⟨l, a1, f1⟩ := mV ha hf
  have h2 := f1.alt
  rw [show (nZ L).alt = some (gl L) from rfl] at h2
  exact ⟨_, _, a1, h2.1, h2.2⟩
theorem S6 {s : ByteArray} {ar : List Nd} {f : Fm} (hb : ¬ 1048576 < (s.size : Int)) (h : CG s = .ok (ar, f, [])) (hz : ¬ 2000 < (lG (aJ ar f).1).getD (aJ ar f).2.alt.toNat 0) :
  ∃ ts t, iT s = .ok t /\ AR (aJ ar f).1 ts /\ 0 <= (aJ ar f).2.alt /\ (aJ ar f).2.alt < (aJ ar f).1.length /\ ts[(aJ ar f).2.alt.toNat]? = some t /\ aG t.expand <= 2000 := by
 have h1 := kn (c := bt s) (N := s.size) (rd := fc s) (by omega)
 have h2 : ij (bt s) s.size (fc s) = .ok ((aJ ar f).1, (aJ ar f).2.alt) := by
  rw [ij, if_neg hb]
  have : nU (bt s) s.size (fc s) ((s.size : Int).toNat + 1) 0 [] (iE (-1)) [] = .ok (ar, f, []) := h
  rw [this, Am, if_neg (show ¬ ([] : List Fm) ≠ [] by simp), if_neg hz]
 rw [h2] at h1
 cases h3 : fY (bt s) s.size (fc s) with
 | error e' => rw [h3] at h1; exact h1.elim
 | ok t =>
  rw [h3] at h1
  obtain ⟨ts, a1, a2, a3⟩ := h1
  have hlt : (aJ ar f).2.alt.toNat < ts.length := (List.getElem?_eq_some_iff.1 a3).1
  have hle := a1.len
  have e1 : (lG (aJ ar f).1).getD (aJ ar f).2.alt.toNat 0 = (t.sz : Int) := by
   rw [Ob a1, List.getD_eq_getElem?_getD, List.getElem?_map, a3]; rfl
  rw [e1] at hz
  exact ⟨ts, t, h3, a1, a2, by omega, a3, a1.small (List.mem_of_getElem? a3) (by omega)⟩
theorem Kl {s : ByteArray} {ar : List Nd} {f : Fm} {rest : List Fm} (hb : ¬ 1048576 < (s.size : Int)) (h : CG s = .ok (ar, f, rest)) (hr : rest ≠ []) : iT s = .error (21, f.place) := by
 have h1 := AB hb h
 rw [Am, if_pos hr] at h1
 exact h1
theorem MU {s : ByteArray} {ar : List Nd} {f : Fm} (hb : ¬ 1048576 < (s.size : Int)) (h : CG s = .ok (ar, f, [])) (hz : 2000 < (lG (aJ ar f).1).getD (aJ ar f).2.alt.toNat 0) : iT s = .error (24, 0) := by
 have h1 := AB hb h
 rw [Am, if_neg (show ¬ ([] : List Fm) ≠ [] by simp), if_pos hz] at h1
 exact h1
theorem A9 {c : Int -> Int} {N i : Int} {e : Int × Int} (h : lE c N i = .error e) : e.1 ≠ 0 := by
 have hn : ∀ i e, fO c N i = .error e -> e.1 ≠ 0 := fun i e h => by
  unfold fO at h
  split at h
  ·cases h; show (20 : Int) ≠ 0; omega
  ·cases h
 have hu : ∀ m i e, tB c N m i = .error e -> e.1 ≠ 0 := fun m i e h => by
  unfold tB at h
  split at h
  ·split at h
   ·exact hn _ _ h
   ·cases h
  ·cases h
 unfold lE at h
 cases h1 : fO c N (i + 1) with
 | error e1 => rw [h1] at h; cases h; exact hn _ _ h1
 | ok p =>
  rw [h1] at h
  simp only at h
  cases h2 : tB c N p.1 p.2 with
  | error e2 => rw [h2] at h; cases h; exact hu _ _ _ h2
  | ok q =>
   rw [h2] at h
   simp only at h
   unfold kD at h
   split at h
   ·cases h; show (20 : Int) ≠ 0; omega
   ·split at h
    ·cases h; show (22 : Int) ≠ 0; omega
    ·cases h
theorem zq {c : Int -> Int} {N i : Int} (h : c i ≠ 123) : Mp c N i = .ok (if c i = 43 then -2 else 0, if c i = 63 then 1 else -1, i + 1) := by
 unfold Mp
 by_cases h1 : c i = 43
 ·rw [if_pos h1, if_pos h1, if_neg (by omega)]
 ·rw [if_neg h1, if_neg h1]
  by_cases h2 : c i = 63
  ·rw [if_pos h2, if_pos h2]
  ·rw [if_neg h2, if_neg h2, if_neg h]
theorem zJ {c : Int -> Int} {N i : Int} (h : c i = 123) : Mp c N i = lE c N i := by
 unfold Mp
 rw [if_neg (by omega), if_neg (by omega), if_pos h]
theorem VY {c : Int -> Int} {N i m n j : Int} (hi : i < N) (h : Mp c N i = .ok (m, n, j)) : i < j /\ j <= N := by
 by_cases h1 : c i = 123
 ·rw [zJ h1] at h
  exact tA h
 ·rw [zq h1] at h
  simp only [Except.ok.injEq, Prod.mk.injEq] at h
  omega
theorem yW (a m n : Int) : cU Tryz.prog 243 [0, 2, 4, 5] [.v (.int .i64 7), .v (.int .i64 a), .v (.int .i64 m), .v (.int .i64 n)] = ⟨True, .agg ((⟨7, 0, a, 0, m, n⟩ : Nd).bh.map .v), [], none, [], []⟩ := by
 kernel_rfl
theorem zt : oV [] = [] := rfl
theorem N0 (pre : List Fm) (f : Fm) : oV (pre ++ [f]) = oV pre ++ f.bh := by simp [oV]
theorem xQ (pre : List Fm) (f : Fm) : List.map SV.v (oV (pre ++ [f])) = List.map SV.v (oV pre) ++ [.v (.int .i64 f.place), .v (.int .i64 f.alt), .v (.int .i64 f.meet), .v (.int .u8 f.sgn), .v (.int .i64 f.row), .v (.int .i64 f.fac)] := by rw [N0, dy]
theorem Ry (m n j : Int) : OB (.ok (m, n, j)) = .tuple #[.int .i64 m, .int .i64 n, .int .i64 j, .int .i64 0, .int .i64 0] := rfl
theorem Ng (c j : Int) : OB (.error (c, j)) = .tuple #[.int .i64 0, .int .i64 0, .int .i64 0, .int .i64 c, .int .i64 j] := rfl
theorem Gf (S : CS) : partsOf (.v (kp S)) = List.map SV.v (eI S.getLsbD) := rfl
noncomputable def Γ73 (ar : List Nd) (pre : List Fm) (f : Fm) : Env Tryz.prog := ⟨fun | 116 => some xq.spec | 118 => some o5.spec | 119 => some (EV ar pre f).spec | 120 => some (xC ar pre f).spec | 121 => some (VZ 121 aD Tryz.call121 lu ar pre f).spec | 122 => some yR.spec | _ => none, fun _ => none, fun _ _ => none⟩
theorem Gt73c116 (ar : List Nd) (pre : List Fm) (f : Fm) : (Γ73 ar pre f).sp 116 = some xq.spec := rfl
theorem Gt73c118 (ar : List Nd) (pre : List Fm) (f : Fm) : (Γ73 ar pre f).sp 118 = some o5.spec := rfl
theorem Gt73c119 (ar : List Nd) (pre : List Fm) (f : Fm) : (Γ73 ar pre f).sp 119 = some (EV ar pre f).spec := rfl
theorem Gt73c120 (ar : List Nd) (pre : List Fm) (f : Fm) : (Γ73 ar pre f).sp 120 = some (xC ar pre f).spec := rfl
theorem Gt73c121 (ar : List Nd) (pre : List Fm) (f : Fm) : (Γ73 ar pre f).sp 121 = some (VZ 121 aD Tryz.call121 lu ar pre f).spec := rfl
theorem Gt73c122 (ar : List Nd) (pre : List Fm) (f : Fm) : (Γ73 ar pre f).sp 122 = some yR.spec := rfl
noncomputable def Γ74 (ar : List Nd) : Env Tryz.prog := ⟨fun | 123 => some (FO ar).spec | _ => none, fun _ => none, fun _ _ => none⟩
theorem Gt74c123 (ar : List Nd) : (Γ74 ar).sp 123 = some (FO ar).spec := rfl
section
variable (ar : List Nd) (ts : List RT) (ao : Option Addr) (c n : Nat)
noncomputable def Γ75 (h : gQ ar ts ao c n) : Env Tryz.prog := ⟨fun | 124 => some (nR ar ao c 124 Tryz.call124 (below n) (Mn ts) h).spec | _ => none, fun _ => none, fun _ _ => none⟩
theorem Gt75c124 (h : gQ ar ts ao c n) : (Γ75 ar ts ao c n h).sp 124 = some (nR ar ao c 124 Tryz.call124 (below n) (Mn ts) h).spec := rfl
end
end
section
open Go.RowKit Go.LE
set_option maxRecDepth 10000
abbrev uO (n : Nat) : Prop := ∀ (t : Rx) (need : Int) (w : World), dp t < n -> aG t <= 4000000 -> bc w (Out []) -> Calls Tryz.prog 129 #[aF t, .int .i64 need] w fun e w' => e = .returned (.string (Au t need)) /\ ai w [] w'
noncomputable def B1 (n : Nat) (h : uO n) : a7 Tryz.prog 129 where
 pre := fun W bs as_ => ∃ (t : Rx) (need : Int), as_ = [.val (aF t), .val (.int .i64 need)] /\ dp t < n /\ aG t <= 4000000 /\ bc W (Out bs)
 res := fun _ as_ => match as_ with
  | [.val v, .val (.int _ need)] => (match dec aF v with
   | some t => .string (Au t need)
   | _ => undef)
  | _ => undef
 enters := Tryz.call129
 ok := by
  intro W w bs us as_ hk hu hp
  obtain ⟨t, need, rfl, h1, h2, h3⟩ := hp
  match us, hu with
  | [x, y], hu =>
   obtain ⟨rfl, rfl, _⟩ := hu
   simp only [b9 cj]
   exact h t need w h1 h2 (h3.fD hk (by simp))
section
variable (n : Nat) (h : uO n)
theorem LV (W : World) (bs : List Nat) (t : Rx) (need : Int) : (B1 n h).pre W bs [.val (aF t), .val (.int .i64 need)] = (dp t < n /\ aG t <= 4000000 /\ bc W (Out bs)) := by
 apply propext
 constructor
 ·rintro ⟨t', need', h1, h2⟩
  simp only [List.cons.injEq, AV.val.injEq, Value.int.injEq, true_and, and_true] at h1
  obtain ⟨h1, rfl⟩ := h1
  obtain rfl := cj _ _ h1
  exact h2
 ·exact fun h => ⟨t, need, rfl, h⟩
theorem LJ (W : World) (t : Rx) (need : Int) : (B1 n h).res W [.val (aF t), .val (.int .i64 need)] = .string (Au t need) := by
 simp only [B1, b9 cj]
noncomputable def Γ84 : Env Tryz.prog := ⟨fun | 129 => some (B1 n h).spec | 182 => some pY.spec | _ => none, fun _ => none, fun _ _ => none⟩
theorem Gt84c129 : (Γ84 n h).sp 129 = some (B1 n h).spec := rfl
theorem Gt84c182 : (Γ84 n h).sp 182 = some pY.spec := rfl
end
def aU := (aq @List.replicate_succ.{0} @List.replicate_zero.{0} @aw @ah jS jP jn (aq cQ cV cX cS da c9 c8 (aq db eW eV eX eZ e8 e9 (aq rz rh rm rj rv ri q7 (aq rD PZ Ph OW QY Ps Od (aq ML P3 QT N6 Ni NF PW (aq QS M6 OZ MO G1 G2 H7 (aq Ht H6 Hr Hs QQ Qo MX (aq Om QG Qm NY NT QJ Pt (aq M5 QI Pc Pu PT NV MJ (aq NI Of OH NA PQ P5 Mw (aq MH Qz Q4 ry rI qW qY (aq Uw Ue UK UC UL Uf UF (aq Uy @aO @au @aB @aC @Ga @DM (aq @gJ @kU @kR @iZ @nh @gD @bM (nC @dJ @de @Gt84c129 @Gt84c182 @LV @LJ))))))))))))))))
set_option maxHeartbeats 8000000 in
theorem KQ (n : Nat) (h : uO n) : uO (n + 1) := by
 intro t need w hdp hsz hg
 have hbs := cG t
 refine al (nt := 82) [.tmp 4] Tryz.func129 rfl rfl rfl ?_
 refine vR (Γ84 n h) aU ?_
 refine vR (Γ84 n h) aU ?_
 refine bx ⟨200, bV [(1, .is (.v (.int .i64 need))), (5, .is (.v (.string (bS t)))), (6, .is (.v (.int .i64 (qO t))))], cd []⟩ ?_ ?_
 ·skip
  refine vR (Γ84 n h) aU ?_
  refine Wp.block ?_
  cases t with
  | eps =>
   have hv : aF (.eps) = _ := rfl
   unfold aF
   refine vR (Γ84 n h) aU ?_
   refine wC aU (fun hc => ?_) (fun hc => ?_)
   rotate_left
   ·exact absurd hc (by simp)
   refine wR (Γ84 n h) aU ?_ ?_
   ·first | trivial | simp
   refine vr (Γ84 n h) aU ?_
   exact wM (fun k => .key k) aU
  | cls S =>
   have hv : aF (.cls S) = _ := rfl
   unfold aF
   refine vR (Γ84 n h) aU ?_
   refine wC aU (fun hc => ?_) (fun hc => ?_)
   ·exact absurd hc (by simp)
   refine vR (Γ84 n h) aU ?_
   refine wC aU (fun hc => ?_) (fun hc => ?_)
   rotate_left
   ·exact absurd hc (by simp)
   refine wR (Γ84 n h) aU ?_ ?_
   ·first | trivial | simp
   refine wr (Γ84 n h) aU ?_ ?_
   ·exact hg
   exact wM (fun k => .key k) aU
  | alt a b =>
   have hd : dp a + dp b + 1 < n + 1 := hdp
   have hz : aG a + aG b + 1 <= 4000000 := hsz
   have s1 := cp a 0
   have s2 := cp b 1
   have hv : aF (.alt a b) = _ := rfl
   unfold aF
   refine vR (Γ84 n h) aU ?_
   refine wC aU (fun hc => ?_) (fun hc => ?_)
   ·exact absurd hc (by simp)
   refine vR (Γ84 n h) aU ?_
   refine wC aU (fun hc => ?_) (fun hc => ?_)
   ·exact absurd hc (by simp)
   refine vR (Γ84 n h) aU ?_
   refine wC aU (fun hc => ?_) (fun hc => ?_)
   rotate_left
   ·exact absurd hc (by simp)
   refine wR (Γ84 n h) aU ?_ ?_
   ·rw [Bool.and_eq_true]; exact ⟨bM a, bM b⟩
   refine rX (Γ84 n h) aU ?_ ?_
   ·exact ⟨⟨by omega, by omega, hg⟩, by show _ + 1 <= _; omega, ⟨by omega, by omega, hg⟩, by rw [ByteArray.size_append]; show _ + 1 + _ <= _; omega⟩
   exact wM (fun k => .key k) aU
  | and a b =>
   have hd : dp a + dp b + 1 < n + 1 := hdp
   have hz : aG a + aG b + 1 <= 4000000 := hsz
   have s1 := cp a 1
   have s2 := cp b 2
   have hv : aF (.and a b) = _ := rfl
   unfold aF
   refine vR (Γ84 n h) aU ?_
   refine wC aU (fun hc => ?_) (fun hc => ?_)
   ·exact absurd hc (by simp)
   refine vR (Γ84 n h) aU ?_
   refine wC aU (fun hc => ?_) (fun hc => ?_)
   ·exact absurd hc (by simp)
   refine vR (Γ84 n h) aU ?_
   refine wC aU (fun hc => ?_) (fun hc => ?_)
   ·exact absurd hc (by simp)
   refine vR (Γ84 n h) aU ?_
   refine wC aU (fun hc => ?_) (fun hc => ?_)
   rotate_left
   ·exact absurd hc (by simp)
   refine wR (Γ84 n h) aU ?_ ?_
   ·rw [Bool.and_eq_true]; exact ⟨bM a, bM b⟩
   refine rX (Γ84 n h) aU ?_ ?_
   ·exact ⟨⟨by omega, by omega, hg⟩, by show _ + 1 <= _; omega, ⟨by omega, by omega, hg⟩, by rw [ByteArray.size_append]; show _ + 1 + _ <= _; omega⟩
   exact wM (fun k => .key k) aU
  | minus a b =>
   have hd : dp a + dp b + 1 < n + 1 := hdp
   have hz : aG a + aG b + 1 <= 4000000 := hsz
   have s1 := cp a 1
   have s2 := cp b 2
   have hv : aF (.minus a b) = _ := rfl
   unfold aF
   refine vR (Γ84 n h) aU ?_
   refine wC aU (fun hc => ?_) (fun hc => ?_)
   ·exact absurd hc (by simp)
   refine vR (Γ84 n h) aU ?_
   refine wC aU (fun hc => ?_) (fun hc => ?_)
   ·exact absurd hc (by simp)
   refine vR (Γ84 n h) aU ?_
   refine wC aU (fun hc => ?_) (fun hc => ?_)
   ·exact absurd hc (by simp)
   refine vR (Γ84 n h) aU ?_
   refine wC aU (fun hc => ?_) (fun hc => ?_)
   ·exact absurd hc (by simp)
   refine vR (Γ84 n h) aU ?_
   refine wC aU (fun hc => ?_) (fun hc => ?_)
   rotate_left
   ·exact absurd hc (by simp)
   refine wR (Γ84 n h) aU ?_ ?_
   ·rw [Bool.and_eq_true]; exact ⟨bM a, bM b⟩
   refine rX (Γ84 n h) aU ?_ ?_
   ·exact ⟨⟨by omega, by omega, hg⟩, by show _ + 1 <= _; omega, ⟨by omega, by omega, hg⟩, by rw [ByteArray.size_append]; show _ + 1 + _ <= _; omega⟩
   exact wM (fun k => .key k) aU
  | cat a b =>
   have hd : dp a + dp b + 1 < n + 1 := hdp
   have hz : aG a + aG b + 1 <= 4000000 := hsz
   have s1 := cp a 2
   have s2 := cp b 3
   have hv : aF (.cat a b) = _ := rfl
   unfold aF
   refine vR (Γ84 n h) aU ?_
   refine wC aU (fun hc => ?_) (fun hc => ?_)
   ·exact absurd hc (by simp)
   refine vR (Γ84 n h) aU ?_
   refine wC aU (fun hc => ?_) (fun hc => ?_)
   ·exact absurd hc (by simp)
   refine vR (Γ84 n h) aU ?_
   refine wC aU (fun hc => ?_) (fun hc => ?_)
   ·exact absurd hc (by simp)
   refine vR (Γ84 n h) aU ?_
   refine wC aU (fun hc => ?_) (fun hc => ?_)
   ·exact absurd hc (by simp)
   refine vR (Γ84 n h) aU ?_
   refine wC aU (fun hc => ?_) (fun hc => ?_)
   ·exact absurd hc (by simp)
   refine vR (Γ84 n h) aU ?_
   refine wC aU (fun hc => ?_) (fun hc => ?_)
   rotate_left
   ·exact absurd hc (by simp)
   refine wR (Γ84 n h) aU ?_ ?_
   ·rw [Bool.and_eq_true]; exact ⟨bM a, bM b⟩
   refine rX (Γ84 n h) aU ?_ ?_
   ·exact ⟨⟨by omega, by omega, hg⟩, ⟨by omega, by omega, hg⟩, by omega⟩
   exact wM (fun k => .key k) aU
  | star a =>
   have hd : dp a + 1 < n + 1 := hdp
   have hz : aG a + 1 <= 4000000 := hsz
   have s1 := cp a 3
   have hv : aF (.star a) = _ := rfl
   unfold aF
   refine vR (Γ84 n h) aU ?_
   refine wC aU (fun hc => ?_) (fun hc => ?_)
   ·exact absurd hc (by simp)
   refine vR (Γ84 n h) aU ?_
   refine wC aU (fun hc => ?_) (fun hc => ?_)
   ·exact absurd hc (by simp)
   refine vR (Γ84 n h) aU ?_
   refine wC aU (fun hc => ?_) (fun hc => ?_)
   ·exact absurd hc (by simp)
   refine vR (Γ84 n h) aU ?_
   refine wC aU (fun hc => ?_) (fun hc => ?_)
   ·exact absurd hc (by simp)
   refine vR (Γ84 n h) aU ?_
   refine wC aU (fun hc => ?_) (fun hc => ?_)
   ·exact absurd hc (by simp)
   refine vR (Γ84 n h) aU ?_
   refine wC aU (fun hc => ?_) (fun hc => ?_)
   ·exact absurd hc (by simp)
   refine vR (Γ84 n h) aU ?_
   refine wC aU (fun hc => ?_) (fun hc => ?_)
   rotate_left
   ·exact absurd hc (by simp)
   refine wR (Γ84 n h) aU ?_ ?_
   ·exact bM a
   refine wr (Γ84 n h) aU ?_ ?_
   ·exact ⟨⟨by omega, by omega, hg⟩, by show _ + 1 <= _; omega⟩
   exact wM (fun k => .key k) aU
 refine Wp.seq ?_
 refine vR (Γ84 n h) aU ?_
 refine wC aU (fun hc => ?_) (fun hc => ?_)
 ·have hlt : qO t < need := by simpa using hc
  have e : Au t need = XK ++ bS t ++ XF := by rw [Au, mC, if_pos hlt]
  rw [e]
  refine wR (Γ84 n h) aU ?_ ?_
  ·refine ⟨?_, ?_⟩
   ·show 1 + _ <= _; omega
   ·rw [ByteArray.size_append]; show 1 + _ + 1 <= _; omega
  refine wZ aU ?_
  exact fun E => rfl
 ·have hlt : ¬ qO t < need := by simpa using hc
  have e : Au t need = bS t := by rw [Au, mC, if_neg hlt]
  rw [e]
  refine wK ?_
  refine vR (Γ84 n h) aU ?_
  refine wZ aU ?_
  exact fun E => rfl
theorem uv : ∀ n, uO n
 | 0 => fun t _ _ h => absurd h (Nat.not_lt_zero _)
 | n + 1 => KQ n (uv n)
theorem Qx (t : Rx) : Au t 0 = bS t := by
 rw [Au, mC, if_neg]
 cases t <;> simp [qO]
set_option maxHeartbeats 2000000 in
theorem F4 (t : Rx) (w : World) (hsz : aG t <= 4000000) (hg : bc w (Out [])) : Calls Tryz.prog 72 #[aF t] w fun e w' => e = .returned (.string (bS t)) /\ ai w [] w' := by
 refine al (nt := 5) [.tmp 2] Tryz.func72 rfl rfl rfl ?_
 refine vR (Γ84 (dp t + 1) (uv _)) aU ?_
 refine wR (Γ84 (dp t + 1) (uv _)) (ab aU @Qx) ?_ ?_
 ·exact ⟨by omega, hsz, hg⟩
 refine wZ aU ?_
 exact fun E => rfl
noncomputable def j9 : a7 Tryz.prog 72 where
 pre := fun W bs => fun | [.val y0] => (match dec aF y0 with | some t => aG t <= 4000000 /\ bc W (Out bs) | _ => False) | _ => False
 res := fun W => fun | [.val y0] => (match dec aF y0 with | some t => .string (bS t) | _ => undef) | _ => undef
 enters := Tryz.call72
 ok := by
  intro W w bs us as_ hk hu hp
  split at hp
  ·rename_i y0
   split at hp
   ·rename_i t h0
    match us, hu with
    | [u0], hu =>
     obtain ⟨rfl, _⟩ := hu
     obtain rfl := fq h0
     try dsimp only
     try simp only [b9 cj]
     exact F4 t w hp.1 (hp.2.fD hk (by simp))
   ·exact hp.elim
  ·exact hp.elim
theorem Cj (W : World) (t : Rx) : j9.res W [.val (aF t)] = .string (bS t) := by simp only [j9, b9 cj]
theorem Bk (W : World) (bs : List Nat) (t : Rx) : j9.pre W bs [.val (aF t)] = (aG t <= 4000000 /\ bc W (Out bs)) := by simp only [j9, b9 cj]
theorem u4 {s : ByteArray} {t : RT} (h : iT s = .ok t) : aG t.expand <= 2000 := by
 have hd : fY (bt s) s.size (fc s) = .ok t := h
 have h1 := kn (c := bt s) (N := s.size) (rd := fc s) (by omega)
 have hz : t.sz <= 2000 := by
  unfold fY at hd
  split at hd
  ·cases hd
  ·unfold mm at hd
   split at hd
   ·cases hd
   ·split at hd
    ·cases hd
    ·split at hd
     ·cases hd
     ·simp only [Except.ok.injEq] at hd
      rename_i hn
      rw [<- hd]; omega
 rw [hd] at h1
 cases h2 : ij (bt s) s.size (fc s) with
 | error e => rw [h2] at h1; exact h1.elim
 | ok q =>
  rw [h2] at h1
  obtain ⟨ts, a1, a2, a3⟩ := h1
  exact a1.small (List.mem_of_getElem? a3) hz
theorem xD (s : ByteArray) : nO s = Wl (iT s) := J7 (q6 s) (by omega)
def ya (s : ByteArray) : Bool := match iT s with
 | .ok t => decide (bS t.expand = s)
 | .error _ => false
end
section
open Go.RowKit Go.LE
set_option maxRecDepth 10000
def lq (n m : Int) : Bool := decide (0 <= n) && decide (n < m)
def Rw := (aq @List.replicate_succ.{0} @List.replicate_zero.{0} @aw @ah jS jP jn (aq cQ cV cX cS da c9 c8 (aq db eW eV eX eZ e8 e9 (aq C7 Dq B6 B7 K5 Ld LY (aq Mb BX Dd Bi Ck BH BK (aq BP Ce Ct C1 BF Dt CC (aq Dh B3 Dw Cn rK Hg HH (nC Iz IG @aO @au @aB @aC))))))))
set_option maxHeartbeats 1000000 in
theorem GR (n m : Int) (w : World) : Calls Tryz.prog 31 #[.int .i64 n, .int .i64 m] w fun e w' => e = .returned (.bool (lq n m)) /\ ai w [] w' := by
 refine al (nt := 12) [.tmp 4] Tryz.func31 rfl rfl rfl ?_
 refine vR Γ0 Rw ?_
 refine vR Γ0 Rw ?_
 refine wZ Rw ?_
 exact fun E => rfl
def nj : a7 Tryz.prog 31 where
 pre := fun W bs => fun | [.val (.int .i64 n), .val (.int .i64 m)] => True | _ => False
 res := fun W => fun | [.val (.int .i64 n), .val (.int .i64 m)] => .bool (lq n m) | _ => undef
 enters := Tryz.call31
 ok := by
  intro W w bs us as_ hk hu hp
  split at hp
  ·rename_i n m
   match us, hu with
   | [u0, u1], hu =>
    obtain ⟨rfl, rfl, _⟩ := hu
    exact GR n m w
  ·exact hp.elim
theorem me (W : World) (n : Int) (m : Int) : nj.res W [.val (.int .i64 n), .val (.int .i64 m)] = .bool (lq n m) := rfl
theorem mE (W : World) (bs : List Nat) (n : Int) (m : Int) : nj.pre W bs [.val (.int .i64 n), .val (.int .i64 m)] = (True) := rfl
def kC (op : Int) : ByteArray × ByteArray :=
 if op = 0 then (⟨#[104, 97, 108, 116]⟩, ⟨#[]⟩)
 else if op = 1 then (⟨#[99, 97, 108, 108]⟩, ⟨#[97]⟩)
 else if op = 2 then (⟨#[114, 101, 116]⟩, ⟨#[]⟩)
 else if op = 3 then (⟨#[106, 117, 109, 112]⟩, ⟨#[97]⟩)
 else if op = 4 then (⟨#[101, 109, 105, 116]⟩, ⟨#[107]⟩)
 else if op = 5 then (⟨#[100, 114, 111, 112]⟩, ⟨#[107]⟩)
 else if op = 6 then (⟨#[116, 101, 120, 116]⟩, ⟨#[120]⟩)
 else if op = 7 then (⟨#[112, 117, 115, 104]⟩, ⟨#[107, 120]⟩)
 else if op = 8 then (⟨#[100, 117, 112]⟩, ⟨#[107]⟩)
 else if op = 9 then (⟨#[102, 108, 105, 112]⟩, ⟨#[107]⟩)
 else if op = 10 then (⟨#[109, 111, 118, 101]⟩, ⟨#[107]⟩)
 else if op = 11 then (⟨#[111, 112, 101, 110]⟩, ⟨#[]⟩)
 else if op = 12 then (⟨#[116, 97, 107, 101]⟩, ⟨#[107]⟩)
 else if op = 13 then (⟨#[108, 111, 119, 101, 114]⟩, ⟨#[107]⟩)
 else if op = 14 then (⟨#[99, 117, 116]⟩, ⟨#[107, 116, 116]⟩)
 else if op = 15 then (⟨#[105, 110]⟩, ⟨#[107, 116, 97]⟩)
 else if op = 16 then (⟨#[99, 104, 117, 110, 107]⟩, ⟨#[107, 116]⟩)
 else if op = 17 then (⟨#[109, 111, 114, 101]⟩, ⟨#[97]⟩)
 else if op = 18 then (⟨#[122, 105, 112]⟩, ⟨#[]⟩)
 else if op = 19 then (⟨#[97, 108, 105, 103, 110]⟩, ⟨#[97, 97]⟩)
 else if op = 20 then (⟨#[112, 108, 97, 110]⟩, ⟨#[97, 97]⟩)
 else (⟨#[]⟩, ⟨#[]⟩)
def aV := (dk Rw @me @mE)
set_option maxHeartbeats 4000000 in
theorem MV (op : Int) (w : World) : Calls Tryz.prog 70 #[.int .i64 op] w fun e w' => e = .returned (.tuple #[.string (kC op).1, .string (kC op).2]) /\ ai w [] w' := by
 refine al (nt := 47) [.tmp 2, .tmp 3] Tryz.func70 rfl rfl rfl ?_
 refine vR Γ0 aV ?_
 refine Wp.seq ?_
 refine vR Γ0 aV ?_
 refine Wp.block ?_
 unfold kC
 refine vR Γ0 aV ?_
 refine wC aV (fun hc => ?_) (fun hc => ?_)
 ·have h : op = 0 := by simpa using hc
  rw [if_pos h]
  refine vR Γ0 aV ?_
  refine wZ aV ?_
  exact fun E => rfl
 rw [if_neg (show ¬ op = 0 by simpa using hc)]
 clear hc
 refine vR Γ0 aV ?_
 refine wC aV (fun hc => ?_) (fun hc => ?_)
 ·have h : op = 1 := by simpa using hc
  rw [if_pos h]
  refine vR Γ0 aV ?_
  refine wZ aV ?_
  exact fun E => rfl
 rw [if_neg (show ¬ op = 1 by simpa using hc)]
 clear hc
 refine vR Γ0 aV ?_
 refine wC aV (fun hc => ?_) (fun hc => ?_)
 ·have h : op = 2 := by simpa using hc
  rw [if_pos h]
  refine vR Γ0 aV ?_
  refine wZ aV ?_
  exact fun E => rfl
 rw [if_neg (show ¬ op = 2 by simpa using hc)]
 clear hc
 refine vR Γ0 aV ?_
 refine wC aV (fun hc => ?_) (fun hc => ?_)
 ·have h : op = 3 := by simpa using hc
  rw [if_pos h]
  refine vR Γ0 aV ?_
  refine wZ aV ?_
  exact fun E => rfl
 rw [if_neg (show ¬ op = 3 by simpa using hc)]
 clear hc
 refine vR Γ0 aV ?_
 refine wC aV (fun hc => ?_) (fun hc => ?_)
 ·have h : op = 4 := by simpa using hc
  rw [if_pos h]
  refine vR Γ0 aV ?_
  refine wZ aV ?_
  exact fun E => rfl
 rw [if_neg (show ¬ op = 4 by simpa using hc)]
 clear hc
 refine vR Γ0 aV ?_
 refine wC aV (fun hc => ?_) (fun hc => ?_)
 ·have h : op = 5 := by simpa using hc
  rw [if_pos h]
  refine vR Γ0 aV ?_
  refine wZ aV ?_
  exact fun E => rfl
 rw [if_neg (show ¬ op = 5 by simpa using hc)]
 clear hc
 refine vR Γ0 aV ?_
 refine wC aV (fun hc => ?_) (fun hc => ?_)
 ·have h : op = 6 := by simpa using hc
  rw [if_pos h]
  refine vR Γ0 aV ?_
  refine wZ aV ?_
  exact fun E => rfl
 rw [if_neg (show ¬ op = 6 by simpa using hc)]
 clear hc
 refine vR Γ0 aV ?_
 refine wC aV (fun hc => ?_) (fun hc => ?_)
 ·have h : op = 7 := by simpa using hc
  rw [if_pos h]
  refine vR Γ0 aV ?_
  refine wZ aV ?_
  exact fun E => rfl
 rw [if_neg (show ¬ op = 7 by simpa using hc)]
 clear hc
 refine vR Γ0 aV ?_
 refine wC aV (fun hc => ?_) (fun hc => ?_)
 ·have h : op = 8 := by simpa using hc
  rw [if_pos h]
  refine vR Γ0 aV ?_
  refine wZ aV ?_
  exact fun E => rfl
 rw [if_neg (show ¬ op = 8 by simpa using hc)]
 clear hc
 refine vR Γ0 aV ?_
 refine wC aV (fun hc => ?_) (fun hc => ?_)
 ·have h : op = 9 := by simpa using hc
  rw [if_pos h]
  refine vR Γ0 aV ?_
  refine wZ aV ?_
  exact fun E => rfl
 rw [if_neg (show ¬ op = 9 by simpa using hc)]
 clear hc
 refine vR Γ0 aV ?_
 refine wC aV (fun hc => ?_) (fun hc => ?_)
 ·have h : op = 10 := by simpa using hc
  rw [if_pos h]
  refine vR Γ0 aV ?_
  refine wZ aV ?_
  exact fun E => rfl
 rw [if_neg (show ¬ op = 10 by simpa using hc)]
 clear hc
 refine vR Γ0 aV ?_
 refine wC aV (fun hc => ?_) (fun hc => ?_)
 ·have h : op = 11 := by simpa using hc
  rw [if_pos h]
  refine vR Γ0 aV ?_
  refine wZ aV ?_
  exact fun E => rfl
 rw [if_neg (show ¬ op = 11 by simpa using hc)]
 clear hc
 refine vR Γ0 aV ?_
 refine wC aV (fun hc => ?_) (fun hc => ?_)
 ·have h : op = 12 := by simpa using hc
  rw [if_pos h]
  refine vR Γ0 aV ?_
  refine wZ aV ?_
  exact fun E => rfl
 rw [if_neg (show ¬ op = 12 by simpa using hc)]
 clear hc
 refine vR Γ0 aV ?_
 refine wC aV (fun hc => ?_) (fun hc => ?_)
 ·have h : op = 13 := by simpa using hc
  rw [if_pos h]
  refine vR Γ0 aV ?_
  refine wZ aV ?_
  exact fun E => rfl
 rw [if_neg (show ¬ op = 13 by simpa using hc)]
 clear hc
 refine vR Γ0 aV ?_
 refine wC aV (fun hc => ?_) (fun hc => ?_)
 ·have h : op = 14 := by simpa using hc
  rw [if_pos h]
  refine vR Γ0 aV ?_
  refine wZ aV ?_
  exact fun E => rfl
 rw [if_neg (show ¬ op = 14 by simpa using hc)]
 clear hc
 refine vR Γ0 aV ?_
 refine wC aV (fun hc => ?_) (fun hc => ?_)
 ·have h : op = 15 := by simpa using hc
  rw [if_pos h]
  refine vR Γ0 aV ?_
  refine wZ aV ?_
  exact fun E => rfl
 rw [if_neg (show ¬ op = 15 by simpa using hc)]
 clear hc
 refine vR Γ0 aV ?_
 refine wC aV (fun hc => ?_) (fun hc => ?_)
 ·have h : op = 16 := by simpa using hc
  rw [if_pos h]
  refine vR Γ0 aV ?_
  refine wZ aV ?_
  exact fun E => rfl
 rw [if_neg (show ¬ op = 16 by simpa using hc)]
 clear hc
 refine vR Γ0 aV ?_
 refine wC aV (fun hc => ?_) (fun hc => ?_)
 ·have h : op = 17 := by simpa using hc
  rw [if_pos h]
  refine vR Γ0 aV ?_
  refine wZ aV ?_
  exact fun E => rfl
 rw [if_neg (show ¬ op = 17 by simpa using hc)]
 clear hc
 refine vR Γ0 aV ?_
 refine wC aV (fun hc => ?_) (fun hc => ?_)
 ·have h : op = 18 := by simpa using hc
  rw [if_pos h]
  refine vR Γ0 aV ?_
  refine wZ aV ?_
  exact fun E => rfl
 rw [if_neg (show ¬ op = 18 by simpa using hc)]
 clear hc
 refine vR Γ0 aV ?_
 refine wC aV (fun hc => ?_) (fun hc => ?_)
 ·have h : op = 19 := by simpa using hc
  rw [if_pos h]
  refine vR Γ0 aV ?_
  refine wZ aV ?_
  exact fun E => rfl
 rw [if_neg (show ¬ op = 19 by simpa using hc)]
 clear hc
 refine vR Γ0 aV ?_
 refine wC aV (fun hc => ?_) (fun hc => ?_)
 ·have h : op = 20 := by simpa using hc
  rw [if_pos h]
  refine vR Γ0 aV ?_
  refine wZ aV ?_
  exact fun E => rfl
 rw [if_neg (show ¬ op = 20 by simpa using hc)]
 clear hc
 refine wK ?_
 refine vR Γ0 aV ?_
 refine wZ aV ?_
 exact fun E => rfl
def Im : a7 Tryz.prog 70 where
 pre := fun W bs => fun | [.val (.int .i64 op)] => True | _ => False
 res := fun W => fun | [.val (.int .i64 op)] => .tuple #[.string (kC op).1, .string (kC op).2] | _ => undef
 enters := Tryz.call70
 ok := by
  intro W w bs us as_ hk hu hp
  split at hp
  ·rename_i op
   match us, hu with
   | [u0], hu =>
    obtain ⟨rfl, _⟩ := hu
    exact MV op w
  ·exact hp.elim
theorem xm (W : World) (op : Int) : Im.res W [.val (.int .i64 op)] = .tuple #[.string (kC op).1, .string (kC op).2] := rfl
theorem xt (W : World) (bs : List Nat) (op : Int) : Im.pre W bs [.val (.int .i64 op)] = (True) := rfl
abbrev UQ (a1 a2 a3 : Option Addr) (n1 n2 n3 c1 c2 c3 : Nat) (s v : Int) : Value := .agg #[.slice a1 n1 c1, .slice a2 n2 c2, .slice a3 n3 c3, .int .i64 s, .int .i64 v]
def pe (n1 n2 n3 : Nat) (u n : Int) : Bool := if u = 1 then lq n n3 else if u = 2 then lq n n1 else if u = 3 then lq n n2 else decide (n = 0)
def hZ := (dk aV @xm @xt)
set_option maxHeartbeats 2000000 in
theorem OM (a1 a2 a3 : Option Addr) (n1 n2 n3 c1 c2 c3 : Nat) (s v u n : Int) (w : World) : Calls Tryz.prog 73 #[UQ a1 a2 a3 n1 n2 n3 c1 c2 c3 s v, .int .i64 u, .int .i64 n] w fun e w' => e = .returned (.bool (pe n1 n2 n3 u n)) /\ ai w [] w' := by
 refine al (nt := 33) [.tmp 6] Tryz.func73 rfl rfl rfl ?_
 refine vR Γ0 hZ ?_
 refine vR Γ0 hZ ?_
 by_cases hu : u = 1 \/ u = 2 \/ u = 3
 ·obtain ⟨m, hm⟩ : ∃ m : Nat, m = if u = 1 then n3 else if u = 2 then n1 else n2 := ⟨_, rfl⟩
  have e : pe n1 n2 n3 u n = lq n m := by
   rw [pe]
   rcases hu with h | h | h
   ·rw [hm, if_pos h, if_pos h]
   ·rw [hm, if_neg (by omega), if_pos h, if_neg (by omega), if_pos h]
   ·rw [hm, if_neg (by omega), if_neg (by omega), if_pos h, if_neg (by omega), if_neg (by omega)]
  rw [e]
  refine bx ⟨60, bV [(2, .is (.v (.int .i64 n))), (7, .is (.v (.int .i64 (m : Nat))))], cd []⟩ ?_ ?_
  ·skip
   refine vR Γ0 hZ ?_
   refine Wp.block ?_
   refine vR Γ0 hZ ?_
   refine wC hZ (fun hc => ?_) (fun hc => ?_)
   ·have h : u = 1 := by simpa using hc
    rw [if_pos h] at hm
    subst hm
    refine vr Γ0 hZ ?_
    exact wM (fun k => .key k) hZ
   have n1' : ¬ u = 1 := by simpa using hc
   rw [if_neg n1'] at hm
   refine vR Γ0 hZ ?_
   refine wC hZ (fun hc => ?_) (fun hc => ?_)
   ·have h : u = 2 := by simpa using hc
    rw [if_pos h] at hm
    subst hm
    refine vr Γ0 hZ ?_
    exact wM (fun k => .key k) hZ
   have n2' : ¬ u = 2 := by simpa using hc
   rw [if_neg n2'] at hm
   refine vR Γ0 hZ ?_
   refine wC hZ (fun hc => ?_) (fun hc => ?_)
   ·subst hm
    refine vr Γ0 hZ ?_
    exact wM (fun k => .key k) hZ
   ·exact absurd (by omega : u = 3) (by simpa using hc)
  refine vR Γ0 hZ ?_
  refine wZ hZ ?_
  exact fun E => rfl
 ·have e : pe n1 n2 n3 u n = decide (n = 0) := by rw [pe, if_neg (by omega), if_neg (by omega), if_neg (by omega)]
  rw [e]
  refine Wp.seq ?_
  refine vR Γ0 hZ ?_
  refine Wp.block ?_
  refine vR Γ0 hZ ?_
  refine wC hZ (fun hc => ?_) (fun hc => ?_)
  ·exact absurd (.inl (by simpa using hc)) hu
  refine vR Γ0 hZ ?_
  refine wC hZ (fun hc => ?_) (fun hc => ?_)
  ·exact absurd (.inr (.inl (by simpa using hc))) hu
  refine vR Γ0 hZ ?_
  refine wC hZ (fun hc => ?_) (fun hc => ?_)
  ·exact absurd (.inr (.inr (by simpa using hc))) hu
  refine vR Γ0 hZ ?_
  refine wZ hZ ?_
  exact fun E => rfl
def xx : a7 Tryz.prog 73 where
 pre := fun W bs as_ => ∃ (a1 a2 a3 : Option Addr) (n1 n2 n3 c1 c2 c3 : Nat) (s v u n : Int), as_ = [.val (UQ a1 a2 a3 n1 n2 n3 c1 c2 c3 s v), .val (.int .i64 u), .val (.int .i64 n)]
 res := fun _ as_ => match as_ with
  | [.val (.agg arr), .val (.int _ u), .val (.int _ n)] => (match arr.toList with
   | [.slice _ n1 _, .slice _ n2 _, .slice _ n3 _, _, _] => .bool (pe n1 n2 n3 u n)
   | _ => undef)
  | _ => undef
 enters := Tryz.call73
 ok := by
  intro W w bs us as_ hk hu hp
  obtain ⟨a1, a2, a3, n1, n2, n3, c1, c2, c3, s, v, u, n, rfl⟩ := hp
  match us, hu with
  | [x, y, z], hu =>
   obtain ⟨rfl, rfl, rfl, _⟩ := hu
   exact OM a1 a2 a3 n1 n2 n3 c1 c2 c3 s v u n w
section
variable (W : World) (bs : List Nat) (a1 a2 a3 : Option Addr) (n1 n2 n3 c1 c2 c3 : Nat) (s v u n : Int)
theorem xi : xx.pre W bs [.val (.agg #[.slice a1 n1 c1, .slice a2 n2 c2, .slice a3 n3 c3, .int .i64 s, .int .i64 v]), .val (.int .i64 u), .val (.int .i64 n)] = True := eq_true ⟨a1, a2, a3, n1, n2, n3, c1, c2, c3, s, v, u, n, rfl⟩
theorem x8 : xx.res W [.val (.agg #[.slice a1 n1 c1, .slice a2 n2 c2, .slice a3 n3 c3, .int .i64 s, .int .i64 v]), .val (.int .i64 u), .val (.int .i64 n)] = .bool (pe n1 n2 n3 u n) := rfl
end
end
section
open Go.RowKit Go.LE
set_option maxRecDepth 10000
def Sw : List (ByteArray × Bool × Int × Int) := [(⟨#[104, 97, 108, 116]⟩, false, 0, 0), (⟨#[99, 97, 108, 108]⟩, false, 1, 0), (⟨#[114, 101, 116]⟩, false, 0, 0), (⟨#[106, 117, 109, 112]⟩, false, 1, 0), (⟨#[101, 109, 105, 116]⟩, true, 0, 0), (⟨#[100, 114, 111, 112]⟩, true, 0, 0), (⟨#[116, 101, 120, 116]⟩, false, 3, 0), (⟨#[112, 117, 115, 104]⟩, true, 3, 0), (⟨#[100, 117, 112]⟩, true, 0, 0), (⟨#[102, 108, 105, 112]⟩, true, 0, 0), (⟨#[109, 111, 118, 101]⟩, true, 0, 0), (⟨#[111, 112, 101, 110]⟩, false, 0, 0), (⟨#[116, 97, 107, 101]⟩, true, 0, 0), (⟨#[108, 111, 119, 101, 114]⟩, true, 0, 0), (⟨#[99, 117, 116]⟩, true, 2, 2), (⟨#[105, 110]⟩, true, 2, 1), (⟨#[99, 104, 117, 110, 107]⟩, true, 2, 0), (⟨#[109, 111, 114, 101]⟩, false, 1, 0), (⟨#[122, 105, 112]⟩, false, 0, 0), (⟨#[97, 108, 105, 103, 110]⟩, false, 1, 1), (⟨#[112, 108, 97, 110]⟩, false, 1, 1)]
def lV (n : Nat) : ByteArray × Bool × Int × Int := Sw.getD n (⟨#[]⟩, false, 0, 0)
def dF (W : World) (S : Nat -> Prop) : Prop := S 0 /\ ∀ n < 21, W.cell? ⟨0, n * 4, none⟩ = some (.string (lV n).1) /\ W.cell? ⟨0, n * 4 + 1, none⟩ = some (.bool (lV n).2.1) /\ W.cell? ⟨0, n * 4 + 2, none⟩ = some (.int .i64 (lV n).2.2.1) /\ W.cell? ⟨0, n * 4 + 3, none⟩ = some (.int .i64 (lV n).2.2.2)
theorem dF.mono {W W' : World} {S S' : Nat -> Prop} (h : dF W S) (hs : cr W S W' S') : dF W' S' := by
 obtain ⟨h0, h1⟩ := h
 have g : ∀ o v, W.cell? ⟨0, o, none⟩ = some v -> W'.cell? ⟨0, o, none⟩ = some v /\ S' 0 := fun o v hv => by
  have := XC.mono (b := 0) (o := o) (v := v) ⟨h0, hv⟩ hs
  exact ⟨this.2, this.1⟩
 refine ⟨(g _ _ (h1 0 (by omega)).1).2, fun n hn => ?_⟩
 obtain ⟨a, b, c, d⟩ := h1 n hn
 exact ⟨(g _ _ a).1, (g _ _ b).1, (g _ _ c).1, (g _ _ d).1⟩
theorem dF.fD {W w : World} {bs fp : List Nat} (h : dF W (Out bs)) (hk : ai W bs w) (hm : ∀ b ∈ fp, W.heap.size <= b \/ b ∈ bs) : dF w (Out fp) :=
 h.mono fun b hb hs => ⟨hk.block b hb hs, fun hb' => (hm b hb').elim (fun g => absurd g (Nat.not_le.2 hb)) hs⟩
def lr (n1 n2 n3 : Nat) (op k a b : Int) : Bool :=
 decide (0 <= op /\ op < 21) && (decide (k = 0) || ((lV op.toNat).2.1 && decide (k = 1))) && (pe n1 n2 n3 (lV op.toNat).2.2.1 a && pe n1 n2 n3 (lV op.toNat).2.2.2 b)
abbrev V5 (op k a b : Int) : Value := .agg #[.int .i64 op, .int .i64 k, .int .i64 a, .int .i64 b]
noncomputable def Γ89 : Env Tryz.prog := ⟨fun | 73 => some xx.spec | _ => none, fun | _ => none, fun _ _ => none⟩
theorem Gt89c73 : Γ89.sp 73 = some xx.spec := rfl
def sn := (aq @List.replicate_succ.{0} @List.replicate_zero.{0} @aw @ah jS jP jn (aq cQ cV cX cS da c9 c8 (aq db BX Dd Bi Ck BH BK (aq BP Ce Ct C1 BF Dt CC (aq Dh B3 Dw Cn rK Hg HH (aq Iz IG Un Uk Um UI Ut (aq UJ Uu Ux UM Ul UA @aO (nC @au @aB @aC @x8 @xi Gt89c73))))))))
set_option maxHeartbeats 2000000 in
theorem Ke (a1 a2 a3 : Option Addr) (n1 n2 n3 c1 c2 c3 : Nat) (s v op k a b : Int) (w : World) (hg : dF w (Out [])) : Calls Tryz.prog 74 #[UQ a1 a2 a3 n1 n2 n3 c1 c2 c3 s v, V5 op k a b] w fun e w' => e = .returned (.bool (lr n1 n2 n3 op k a b)) /\ ai w [] w' := by
 refine al (nt := 45) [.tmp 4] Tryz.func74 rfl rfl rfl ?_
 refine vR Γ89 sn ?_
 refine Wp.seq ?_
 refine vR Γ89 sn ?_
 refine wC sn (fun hc => ?_) (fun hc => ?_)
 ·have h : ¬ (0 <= op /\ op < 21) := by simp at hc; omega
  have e : lr n1 n2 n3 op k a b = false := by rw [lr, decide_eq_false h]; rfl
  rw [e]
  refine vR Γ89 sn ?_
  refine wZ sn ?_
  exact fun E => rfl
 have h : 0 <= op /\ op < 21 := by simp at hc; omega
 obtain ⟨n, rfl⟩ := Int.eq_ofNat_of_zero_le h.1
 obtain ⟨g1, g2, g3, g4⟩ := hg.2 n (by omega)
 refine wK ?_
 refine wR Γ89 (p8 sn g1 g2 g3 g4) ?_ ?_
 ·omega
 have hs : lr n1 n2 n3 n k a b = ((decide (k = 0) || ((lV n).2.1 && decide (k = 1))) && (pe n1 n2 n3 (lV n).2.2.1 a && pe n1 n2 n3 (lV n).2.2.2 b)) := by
  rw [lr, decide_eq_true h, Bool.true_and, Int.toNat_natCast]
 rw [hs]
 generalize (lV n).2.1 = st at *
 generalize (lV n).2.2.1 = u1 at *
 generalize (lV n).2.2.2 = u2 at *
 have hk : (decide (k = 0) || (st && decide (k = 1))) = !(!decide (k = 0) && (!st || !decide (k = 1))) := by
  cases st <;> cases decide (k = 0) <;> cases decide (k = 1) <;> rfl
 rw [hk]
 refine Wp.seq ?_
 refine vR Γ89 sn ?_
 refine wC sn (fun hc => ?_) (fun hc => ?_)
 ·rw [hc]
  refine vR Γ89 sn ?_
  refine wZ sn ?_
  exact fun E => rfl
 ·rw [hc]
  refine wK ?_
  refine vR Γ89 sn ?_
  refine wZ sn ?_
  exact fun E => rfl
def yP : a7 Tryz.prog 74 where
 pre := fun W bs as_ => (∃ (a1 a2 a3 : Option Addr) (n1 n2 n3 c1 c2 c3 : Nat) (s v op k a b : Int), as_ = [.val (UQ a1 a2 a3 n1 n2 n3 c1 c2 c3 s v), .val (V5 op k a b)]) /\ dF W (Out bs)
 res := fun _ as_ => match as_ with
  | [.val (.agg arr), .val (.agg ins)] => (match arr.toList, ins.toList with
   | [.slice _ n1 _, .slice _ n2 _, .slice _ n3 _, _, _], [.int _ op, .int _ k, .int _ a, .int _ b] => .bool (lr n1 n2 n3 op k a b)
   | _, _ => undef)
  | _ => undef
 enters := Tryz.call74
 ok := by
  intro W w bs us as_ hk hu hp
  obtain ⟨⟨a1, a2, a3, n1, n2, n3, c1, c2, c3, s, v, op, k, a, b, rfl⟩, hg⟩ := hp
  match us, hu with
  | [x, y], hu =>
   obtain ⟨rfl, rfl, _⟩ := hu
   exact Ke a1 a2 a3 n1 n2 n3 c1 c2 c3 s v op k a b w (hg.fD hk (by simp))
section
variable (W : World) (bs : List Nat) (a1 a2 a3 : Option Addr) (n1 n2 n3 c1 c2 c3 : Nat) (s v op k a b : Int)
theorem DZ : yP.pre W bs [.val (.agg #[.slice a1 n1 c1, .slice a2 n2 c2, .slice a3 n3 c3, .int .i64 s, .int .i64 v]), .val (.agg #[.int .i64 op, .int .i64 k, .int .i64 a, .int .i64 b])] = dF W (Out bs) :=
 propext ⟨fun h => h.2, fun h => ⟨⟨a1, a2, a3, n1, n2, n3, c1, c2, c3, s, v, op, k, a, b, rfl⟩, h⟩⟩
theorem EK : yP.res W [.val (.agg #[.slice a1 n1 c1, .slice a2 n2 c2, .slice a3 n3 c3, .int .i64 s, .int .i64 v]), .val (.agg #[.int .i64 op, .int .i64 k, .int .i64 a, .int .i64 b])] = .bool (lr n1 n2 n3 op k a b) := rfl
end
end
section
open Go.RowKit Go.LE
set_option maxRecDepth 10000
section
variable (n1 n2 n3 : Nat)
def Tk (c v : Int) : Bool := if c = 120 then lq v n2 else if c = 116 then lq v n1 else lq v n3
def xB (q : ByteArray) (i v : Int) : Bool := if (q.size : Int) <= i then decide (v = 0) else Tk n1 n2 n3 (bt q i) v
def xM (q : ByteArray) (a b : Int) : Bool := xB n1 n2 n3 q 0 a && xB n1 n2 n3 q 1 b
def Ui (q : ByteArray) : Bool := decide (0 < (q.size : Int)) && decide (bt q 0 = 107)
def Jf (ww q : ByteArray) (k a b : Int) : Bool :=
 !decide (ww = ⟨#[]⟩) && (bif Ui q then (decide (k = 0) || decide (k = 1)) && xM n1 n2 n3 (q.extract 1 q.size) a b else decide (k = 0) && xM n1 n2 n3 q a b)
theorem K1 (op : Int) (h : ¬ (0 <= op /\ op < 21)) : kC op = (⟨#[]⟩, ⟨#[]⟩) := by
 unfold kC
 rw [if_neg (show ¬ op = 0 by omega)]
 rw [if_neg (show ¬ op = 1 by omega)]
 rw [if_neg (show ¬ op = 2 by omega)]
 rw [if_neg (show ¬ op = 3 by omega)]
 rw [if_neg (show ¬ op = 4 by omega)]
 rw [if_neg (show ¬ op = 5 by omega)]
 rw [if_neg (show ¬ op = 6 by omega)]
 rw [if_neg (show ¬ op = 7 by omega)]
 rw [if_neg (show ¬ op = 8 by omega)]
 rw [if_neg (show ¬ op = 9 by omega)]
 rw [if_neg (show ¬ op = 10 by omega)]
 rw [if_neg (show ¬ op = 11 by omega)]
 rw [if_neg (show ¬ op = 12 by omega)]
 rw [if_neg (show ¬ op = 13 by omega)]
 rw [if_neg (show ¬ op = 14 by omega)]
 rw [if_neg (show ¬ op = 15 by omega)]
 rw [if_neg (show ¬ op = 16 by omega)]
 rw [if_neg (show ¬ op = 17 by omega)]
 rw [if_neg (show ¬ op = 18 by omega)]
 rw [if_neg (show ¬ op = 19 by omega)]
 rw [if_neg (show ¬ op = 20 by omega)]
theorem U3 (op k a b : Int) : Jf n1 n2 n3 (kC op).1 (kC op).2 k a b = lr n1 n2 n3 op k a b := by
 by_cases h : 0 <= op /\ op < 21
 ·obtain ⟨n, rfl⟩ := Int.eq_ofNat_of_zero_le h.1
  have hn : n < 21 := by omega
  unfold Jf lr
  generalize decide (k = 0) = x
  generalize decide (k = 1) = y
  match n, hn with
  | 0, _ => cases x <;> cases y <;> rfl
  | 1, _ => cases x <;> cases y <;> rfl
  | 2, _ => cases x <;> cases y <;> rfl
  | 3, _ => cases x <;> cases y <;> rfl
  | 4, _ => cases x <;> cases y <;> rfl
  | 5, _ => cases x <;> cases y <;> rfl
  | 6, _ => cases x <;> cases y <;> rfl
  | 7, _ => cases x <;> cases y <;> rfl
  | 8, _ => cases x <;> cases y <;> rfl
  | 9, _ => cases x <;> cases y <;> rfl
  | 10, _ => cases x <;> cases y <;> rfl
  | 11, _ => cases x <;> cases y <;> rfl
  | 12, _ => cases x <;> cases y <;> rfl
  | 13, _ => cases x <;> cases y <;> rfl
  | 14, _ => cases x <;> cases y <;> rfl
  | 15, _ => cases x <;> cases y <;> rfl
  | 16, _ => cases x <;> cases y <;> rfl
  | 17, _ => cases x <;> cases y <;> rfl
  | 18, _ => cases x <;> cases y <;> rfl
  | 19, _ => cases x <;> cases y <;> rfl
  | 20, _ => cases x <;> cases y <;> rfl
 ·rw [K1 op h, lr, decide_eq_false h]
  rfl
end
noncomputable def Γ90 : Env Tryz.prog := ⟨fun | 31 => some nj.spec | 70 => some Im.spec | _ => none, fun | _ => none, fun _ _ => none⟩
theorem Gt90c31 : Γ90.sp 31 = some nj.spec := rfl
theorem Gt90c70 : Γ90.sp 70 = some Im.spec := rfl
def bp := (aq @List.replicate_succ.{0} @List.replicate_zero.{0} @aw @ah jS jP X9 (aq Yj XP Yk jn cQ cV cX (aq cS da c9 c8 db iv ie (aq ig ir iw eW eV eX eZ (aq e8 e9 C7 Dq B6 B7 SQ (aq RJ SN Te PM Nr Nn OK (aq P8 PN Oe Nb OI H3 Hc (aq IF HS Ih Hz IB HT IX (aq WU WY Il IQ Ir HB @aO (aq @au @aB @aC @xm @xt @me @mE (ab Gt90c31 Gt90c70)))))))))))
set_option maxHeartbeats 8000000 in
theorem Gk (a1 a2 a3 : Option Addr) (n1 n2 n3 c1 c2 c3 : Nat) (s v op k a b : Int) (w : World) : Calls Tryz.prog 32 #[UQ a1 a2 a3 n1 n2 n3 c1 c2 c3 s v, V5 op k a b] w fun e w' => e = .returned (.bool (lr n1 n2 n3 op k a b)) /\ ai w [] w' := by
 rw [<- U3]
 refine al (nt := 91) [.tmp 4] Tryz.func32 rfl rfl rfl ?_
 refine vR Γ90 bp ?_
 refine vR Γ90 bp ?_
 generalize (kC op).1 = ww at *
 generalize (kC op).2 = q at *
 refine Wp.seq ?_
 refine vR Γ90 bp ?_
 refine wC bp (fun hc => ?_) (fun hc => ?_)
 ·have h : ww = ⟨#[]⟩ := by simpa using hc
  have e : Jf n1 n2 n3 ww q k a b = false := by rw [Jf, decide_eq_true h]; rfl
  rw [e]
  refine vR Γ90 bp ?_
  refine wZ bp ?_
  exact fun E => rfl
 have h : ¬ ww = ⟨#[]⟩ := by simpa using hc
 have e0 : Jf n1 n2 n3 ww q k a b = (bif Ui q then (decide (k = 0) || decide (k = 1)) && xM n1 n2 n3 (q.extract 1 q.size) a b else decide (k = 0) && xM n1 n2 n3 q a b) := by rw [Jf, decide_eq_false h]; rfl
 rw [e0]
 refine wK ?_
 have hcut : ∀ R : Bool, (R = (bif Ui q then (decide (k = 0) || decide (k = 1)) && xM n1 n2 n3 (q.extract 1 q.size) a b else decide (k = 0) && xM n1 n2 n3 q a b)) -> (∃ q', R = xM n1 n2 n3 q' a b) \/ R = false := fun R hR => by
  cases hk : Ui q with
  | true =>
   rw [hk, cond_true] at hR
   cases hx : (decide (k = 0) || decide (k = 1)) with
   | true => rw [hx, Bool.true_and] at hR; exact .inl ⟨_, hR⟩
   | false => rw [hx, Bool.false_and] at hR; exact .inr hR
  | false =>
   rw [hk, cond_false] at hR
   cases hx : decide (k = 0) with
   | true => rw [hx, Bool.true_and] at hR; exact .inl ⟨_, hR⟩
   | false => rw [hx, Bool.false_and] at hR; exact .inr hR
 clear hcut
 generalize hR : (bif Ui q then (decide (k = 0) || decide (k = 1)) && xM n1 n2 n3 (q.extract 1 q.size) a b else decide (k = 0) && xM n1 n2 n3 q a b) = R
 refine iK (fun q' : ByteArray => ⟨60, bV [(2, .is (.own 0 0)), (3, .is (.own 8 0)), (6, .is (.v (.string q')))], cd [(0, .cells 35 [.v (.slice a1 n1 c1), .v (.slice a2 n2 c2), .v (.slice a3 n3 c3), .v (.int .i64 s), .v (.int .i64 v)]), (8, .cells 85 [.v (.int .i64 op), .v (.int .i64 k), .v (.int .i64 a), .v (.int .i64 b)])]⟩) (fun _ => w) (fun _ => []) (fun q' => R = xM n1 n2 n3 q' a b) ?_ ?_
 ·skip
  refine vR Γ90 bp ?_
  refine wC bp (fun hc => ?_) (fun hc => ?_)
  ·have hk : Ui q = true := hc
   rw [hk, cond_true] at hR
   have hq : 0 < (q.size : Int) := by
    rw [Ui, Bool.and_eq_true] at hk
    simpa using hk.1
   refine Wp.seq ?_
   refine vR Γ90 bp ?_
   refine wC bp (fun hc => ?_) (fun hc => ?_)
   ·have hx : (decide (k = 0) || decide (k = 1)) = false := by
     simp at hc ⊢
     omega
    rw [hx, Bool.false_and] at hR
    subst hR
    refine vR Γ90 bp ?_
    refine wZ bp ?_
    exact fun E => rfl
   ·have hx : (decide (k = 0) || decide (k = 1)) = true := by
     simp at hc ⊢
     omega
    rw [hx, Bool.true_and] at hR
    refine wK ?_
    refine wr Γ90 bp ?_ ?_
    ·omega
    refine ⟨q.extract 1 q.size, hR.symm, rfl, rfl, ?_⟩
    exact wM (fun k => .key k) bp
  ·have hk : Ui q = false := hc
   rw [hk, cond_false] at hR
   refine vR Γ90 bp ?_
   refine wC bp (fun hc => ?_) (fun hc => ?_)
   ·have hx : decide (k = 0) = false := by simpa using hc
    rw [hx, Bool.false_and] at hR
    subst hR
    refine vR Γ90 bp ?_
    refine wZ bp ?_
    exact fun E => rfl
   ·have hx : decide (k = 0) = true := by simpa using hc
    rw [hx, Bool.true_and] at hR
    refine wK ?_
    refine ⟨q, hR.symm, rfl, rfl, ?_⟩
    exact wM (fun k => .key k) bp
 clear hR e0 h
 refine fun q' hq' _ => ?_
 subst hq'
 refine vR Γ90 bp ?_
 refine Wp.seq ?_
 refine vR Γ90 bp ?_
 refine Wp.block ?_
 refine Wp.loop (fun i : Nat => ⟨90, bV [(2, .is (.own 0 0)), (6, .is (.v (.string q'))), (7, .is (.hd 24)), (8, .is (.v (.int .i64 ((i : Nat)))))], cd [(0, .cells 35 [.v (.slice a1 n1 c1), .v (.slice a2 n2 c2), .v (.slice a3 n3 c3), .v (.int .i64 s), .v (.int .i64 v)]), (24, .row 3 1 2 [.v (.int .i64 a), .v (.int .i64 b)])]⟩) (fun i => i <= 2 /\ (1 <= i -> xB n1 n2 n3 q' 0 a = true) /\ (2 <= i -> xB n1 n2 n3 q' 1 b = true)) (fun i => 2 - i) 0 ?_ ⟨by omega, by omega, by omega⟩ ?_
 ·exact wM (fun k => if k = 24 then .key 512 else .key k) bp
 rintro i ⟨hi, h1, h2⟩
 refine Wp.seq ?_
 refine vR Γ90 bp ?_
 refine wC bp (fun hc => ?_) (fun hc => ?_)
 ·have hlt2 : i < 2 := by
   simp at hc
   omega
  clear hc
  have hcase : i = 0 \/ i = 1 := by omega
  rcases hcase with rfl | rfl
  ·refine wK ?_
   refine Wp.seq (Wp.block ?_)
   refine Wp.seq ?_
   refine vR Γ90 bp ?_
   refine wC bp (fun hc => ?_) (fun hc => ?_)
   ·have hle : (q'.size : Int) <= 0 := by simpa using hc
    refine Wp.seq ?_
    refine vR Γ90 bp ?_
    refine wC bp (fun hc => ?_) (fun hc => ?_)
    ·have hv : xB n1 n2 n3 q' 0 a = false := by rw [xB, if_pos hle]; simpa using hc
     have e : xM n1 n2 n3 q' a b = false := by rw [xM, hv]; rfl
     rw [e]
     refine vR Γ90 bp ?_
     refine wZ bp ?_
     exact fun E => rfl
    ·have hv : xB n1 n2 n3 q' 0 a = true := by rw [xB, if_pos hle]; simpa using hc
     refine wK ?_
     refine wE ?_
     refine vr Γ90 bp ?_
     refine ⟨1, ⟨by omega, fun _ => hv, by omega⟩, by omega, ?_⟩
     exact wM (fun k => .key k) bp
   have hlt : ¬ (q'.size : Int) <= 0 := by simpa using hc
   have ho : xB n1 n2 n3 q' 0 a = Tk n1 n2 n3 (bt q' 0) a := by rw [xB, if_neg hlt]
   refine wK ?_
   refine kY Γ90 bp ?_ ?_
   ·simp
   refine bx ⟨150, bV [(2, .is (.own 0 0)), (6, .is (.v (.string q'))), (7, .is (.hd 24)), (8, .is (.v (.int .i64 (0)))), (9, .is (.v (.bool (if bt q' 0 = 116 then lq a n1 else lq a n3))))], cd [(0, .cells 35 [.v (.slice a1 n1 c1), .v (.slice a2 n2 c2), .v (.slice a3 n3 c3), .v (.int .i64 s), .v (.int .i64 v)]), (24, .row 3 1 2 [.v (.int .i64 a), .v (.int .i64 b)])]⟩ ?_ ?_
   ·skip
    refine wR Γ90 bp ?_ ?_
    ·omega
    refine wC bp (fun hc => ?_) (fun hc => ?_)
    ·have h6 : bt q' 0 = 116 := by simpa using hc
     rw [if_pos h6]
     refine rX Γ90 bp ?_ ?_
     ·simp
     exact wM (fun k => .key k) bp
    ·have h6 : ¬ bt q' 0 = 116 := by simpa using hc
     rw [if_neg h6]
     refine wK ?_
     exact wM (fun k => .key k) bp
   refine bx ⟨200, bV [(2, .is (.own 0 0)), (6, .is (.v (.string q'))), (7, .is (.hd 24)), (8, .is (.v (.int .i64 (0)))), (9, .is (.v (.bool (Tk n1 n2 n3 (bt q' 0) a))))], cd [(0, .cells 35 [.v (.slice a1 n1 c1), .v (.slice a2 n2 c2), .v (.slice a3 n3 c3), .v (.int .i64 s), .v (.int .i64 v)]), (24, .row 3 1 2 [.v (.int .i64 a), .v (.int .i64 b)])]⟩ ?_ ?_
   ·skip
    refine wR Γ90 bp ?_ ?_
    ·omega
    refine wC bp (fun hc => ?_) (fun hc => ?_)
    ·have h6 : bt q' 0 = 120 := by simpa using hc
     rw [Tk, if_pos h6]
     refine rX Γ90 bp ?_ ?_
     ·simp
     exact wM (fun k => .key k) bp
    ·have h6 : ¬ bt q' 0 = 120 := by simpa using hc
     rw [Tk, if_neg h6]
     refine wK ?_
     exact wM (fun k => .key k) bp
   rw [<- ho]
   refine vR Γ90 bp ?_
   refine wC bp (fun hc => ?_) (fun hc => ?_)
   ·have hv : xB n1 n2 n3 q' 0 a = false := by simpa using hc
    have e : xM n1 n2 n3 q' a b = false := by rw [xM, hv]; rfl
    rw [e]
    refine vR Γ90 bp ?_
    refine wZ bp ?_
    exact fun E => rfl
   ·have hv : xB n1 n2 n3 q' 0 a = true := by simpa using hc
    refine wK ?_
    refine vr Γ90 bp ?_
    refine ⟨1, ⟨by omega, fun _ => hv, by omega⟩, by omega, ?_⟩
    exact wM (fun k => .key k) bp
  ·refine wK ?_
   refine Wp.seq (Wp.block ?_)
   refine Wp.seq ?_
   refine vR Γ90 bp ?_
   refine wC bp (fun hc => ?_) (fun hc => ?_)
   ·have hle : (q'.size : Int) <= 1 := by simpa using hc
    refine Wp.seq ?_
    refine vR Γ90 bp ?_
    refine wC bp (fun hc => ?_) (fun hc => ?_)
    ·have hv : xB n1 n2 n3 q' 1 b = false := by rw [xB, if_pos hle]; simpa using hc
     have e : xM n1 n2 n3 q' a b = false := by rw [xM, hv, Bool.and_false]
     rw [e]
     refine vR Γ90 bp ?_
     refine wZ bp ?_
     exact fun E => rfl
    ·have hv : xB n1 n2 n3 q' 1 b = true := by rw [xB, if_pos hle]; simpa using hc
     refine wK ?_
     refine wE ?_
     refine vr Γ90 bp ?_
     refine ⟨2, ⟨by omega, fun _ => h1 (by omega), fun _ => hv⟩, by omega, ?_⟩
     exact wM (fun k => .key k) bp
   have hlt : ¬ (q'.size : Int) <= 1 := by simpa using hc
   have ho : xB n1 n2 n3 q' 1 b = Tk n1 n2 n3 (bt q' 1) b := by rw [xB, if_neg hlt]
   refine wK ?_
   refine kY Γ90 bp ?_ ?_
   ·simp
   refine bx ⟨150, bV [(2, .is (.own 0 0)), (6, .is (.v (.string q'))), (7, .is (.hd 24)), (8, .is (.v (.int .i64 (1)))), (9, .is (.v (.bool (if bt q' 1 = 116 then lq b n1 else lq b n3))))], cd [(0, .cells 35 [.v (.slice a1 n1 c1), .v (.slice a2 n2 c2), .v (.slice a3 n3 c3), .v (.int .i64 s), .v (.int .i64 v)]), (24, .row 3 1 2 [.v (.int .i64 a), .v (.int .i64 b)])]⟩ ?_ ?_
   ·skip
    refine wR Γ90 bp ?_ ?_
    ·omega
    refine wC bp (fun hc => ?_) (fun hc => ?_)
    ·have h6 : bt q' 1 = 116 := by simpa using hc
     rw [if_pos h6]
     refine rX Γ90 bp ?_ ?_
     ·simp
     exact wM (fun k => .key k) bp
    ·have h6 : ¬ bt q' 1 = 116 := by simpa using hc
     rw [if_neg h6]
     refine wK ?_
     exact wM (fun k => .key k) bp
   refine bx ⟨200, bV [(2, .is (.own 0 0)), (6, .is (.v (.string q'))), (7, .is (.hd 24)), (8, .is (.v (.int .i64 (1)))), (9, .is (.v (.bool (Tk n1 n2 n3 (bt q' 1) b))))], cd [(0, .cells 35 [.v (.slice a1 n1 c1), .v (.slice a2 n2 c2), .v (.slice a3 n3 c3), .v (.int .i64 s), .v (.int .i64 v)]), (24, .row 3 1 2 [.v (.int .i64 a), .v (.int .i64 b)])]⟩ ?_ ?_
   ·skip
    refine wR Γ90 bp ?_ ?_
    ·omega
    refine wC bp (fun hc => ?_) (fun hc => ?_)
    ·have h6 : bt q' 1 = 120 := by simpa using hc
     rw [Tk, if_pos h6]
     refine rX Γ90 bp ?_ ?_
     ·simp
     exact wM (fun k => .key k) bp
    ·have h6 : ¬ bt q' 1 = 120 := by simpa using hc
     rw [Tk, if_neg h6]
     refine wK ?_
     exact wM (fun k => .key k) bp
   rw [<- ho]
   refine vR Γ90 bp ?_
   refine wC bp (fun hc => ?_) (fun hc => ?_)
   ·have hv : xB n1 n2 n3 q' 1 b = false := by simpa using hc
    have e : xM n1 n2 n3 q' a b = false := by rw [xM, hv, Bool.and_false]
    rw [e]
    refine vR Γ90 bp ?_
    refine wZ bp ?_
    exact fun E => rfl
   ·have hv : xB n1 n2 n3 q' 1 b = true := by simpa using hc
    refine wK ?_
    refine vr Γ90 bp ?_
    refine ⟨2, ⟨by omega, fun _ => h1 (by omega), fun _ => hv⟩, by omega, ?_⟩
    exact wM (fun k => .key k) bp
 ·have hi2 : i = 2 := by
   simp at hc
   omega
  have e : xM n1 n2 n3 q' a b = true := by rw [xM, h1 (by omega), h2 (by omega)]; rfl
  rw [e]
  refine wE ?_
  refine vR Γ90 bp ?_
  refine wZ bp ?_
  exact fun E => rfl
def sr : a7 Tryz.prog 32 where
 pre := fun W bs as_ => ∃ (a1 a2 a3 : Option Addr) (n1 n2 n3 c1 c2 c3 : Nat) (s v op k a b : Int), as_ = [.val (UQ a1 a2 a3 n1 n2 n3 c1 c2 c3 s v), .val (V5 op k a b)]
 res := fun _ as_ => match as_ with
  | [.val (.agg arr), .val (.agg ins)] => (match arr.toList, ins.toList with
   | [.slice _ n1 _, .slice _ n2 _, .slice _ n3 _, _, _], [.int _ op, .int _ k, .int _ a, .int _ b] => .bool (lr n1 n2 n3 op k a b)
   | _, _ => undef)
  | _ => undef
 enters := Tryz.call32
 ok := by
  intro W w bs us as_ hk hu hp
  obtain ⟨a1, a2, a3, n1, n2, n3, c1, c2, c3, s, v, op, k, a, b, rfl⟩ := hp
  match us, hu with
  | [x, y], hu =>
   obtain ⟨rfl, rfl, _⟩ := hu
   exact Gk a1 a2 a3 n1 n2 n3 c1 c2 c3 s v op k a b w
section
variable (W : World) (bs : List Nat) (a1 a2 a3 : Option Addr) (n1 n2 n3 c1 c2 c3 : Nat) (s v op k a b : Int)
theorem Df : sr.pre W bs [.val (.agg #[.slice a1 n1 c1, .slice a2 n2 c2, .slice a3 n3 c3, .int .i64 s, .int .i64 v]), .val (.agg #[.int .i64 op, .int .i64 k, .int .i64 a, .int .i64 b])] = True :=
 eq_true ⟨a1, a2, a3, n1, n2, n3, c1, c2, c3, s, v, op, k, a, b, rfl⟩
theorem Cw : sr.res W [.val (.agg #[.slice a1 n1 c1, .slice a2 n2 c2, .slice a3 n3 c3, .int .i64 s, .int .i64 v]), .val (.agg #[.int .i64 op, .int .i64 k, .int .i64 a, .int .i64 b])] = .bool (lr n1 n2 n3 op k a b) := rfl
end
end
section
open Go.RowKit Go.LE
set_option maxRecDepth 10000
noncomputable def Γ71 : Env Tryz.prog := ⟨fun | 116 => some xq.spec | _ => none, fun | _ => none, fun _ _ => none⟩
theorem Gt71c116 : Γ71.sp 116 = some xq.spec := rfl
noncomputable def Γ72 : Env Tryz.prog := ⟨fun | 117 => some oH.spec | _ => none, fun | _ => none, fun _ _ => none⟩
theorem Gt72c117 : Γ72.sp 117 = some oH.spec := rfl
def aM := (aq jS jP Mv Mq Mr jn cQ (aq cV cX cS da c9 c8 db (aq iv ie ig ir iw eW eV (aq eX eZ e8 e9 rB rC rG (aq pJ s3 sY tZ u9 s7 sP (aq Il IQ Ir HB Hx He HD (aq ID II Mz MM Px P9 HL (aq G9 Hf Iu Hy H2 G6 HC (aq Hh G4 Ia HR Hk IL Ii (aq HA Iy Qp QW QE M4 Pe (aq Wh Xa xW xo yo xL o7 (aq qX qZ oI rQ rM qT rE (aq qU q5 rS Ww Xy AQ Bg (aq A6 CP AN @aO @au @aB @aC (aq @xn @yn @dy @E6 @yw @Af @sw (aq @tL @o8 @tF @p4 @List.append_assoc.{0} @Nu @oN (aq @pM @yW @oC @vJ @wA @Fo @FE (aq @oz @oX @zK @zx @EV.eq_1 @xC.eq_1 @VZ.eq_1 (aq @yQ.eq_1 @Gt73c116 @Gt73c118 @Gt73c119 @Gt73c120 @Gt73c121 @Gt73c122 (aq @aE @dz @kz @cY @jk @kK @jX (aq @fZ @Gf @Gt74c123 @Gt75c124 @FO.eq_1 @zv @po (nC @o9 @mR @nr @sC Gt71c116 Gt72c117))))))))))))))))))))))
set_option maxHeartbeats 8000000 in
theorem E2 (s : ByteArray) (hs : s.size <= 140737488351232) (w : World) : Calls Tryz.prog 69 #[.string s] w fun e w' =>
   ∃ u fp, e = .returned (pG (iT s) u) /\ (∀ E', bn E' u fp w' (.row 243 261 (pN (iT s)) ((pV (iT s)).map .v))) /\ (∀ b ∈ fp, w.heap.size <= b /\ b < w'.heap.size) /\ ai w [] w' := by
 refine rH (nt := 310) (pG (iT s)) [.cell 2 64, .tmp 3, .tmp 4] Tryz.func69 rfl rfl rfl ?_
 refine vR Γ72 aM ?_
 refine Wp.seq ?_
 refine vR Γ72 aM ?_
 refine wC aM (fun hc => ?_) (fun hc => ?_)
 ·have hb : 1048576 < (s.size : Int) := by simpa using hc
  have he : iT s = .error (1, 0) := by rw [iT, fY, if_pos hb]
  rw [he]
  refine vR Γ72 aM ?_
  refine wZ aM ?_
  exact ⟨.v jL, ⟨by decide, .inr ⟨rfl, rfl, rfl⟩⟩, fun E => rfl⟩
 have hb : ¬ 1048576 < (s.size : Int) := by simpa using hc
 refine wK ?_
 refine vR Γ72 aM ?_
 refine kY Γ71 aM ?_ ?_
 ·exact ⟨by decide, rfl⟩
 refine vR Γ72 aM ?_
 generalize hR : CG s = R
 refine Wp.seq (Wp.block ?_)
 refine Wp.loop (fun p : Int × List Nd × Fm × List Fm => ⟨25, bV [(0, .is (.v (.string s))), (2, .is (.own 0 0)), (5, .is (.own 56 0)), (6, .is (.v (.int .i64 p.1)))], cd [(0, .cells 64 [.v (.slice none 0 0), .v (.int .i64 0)]), (56, .cells 232 [.hd 57, .hd 58]), (57, .row 243 261 p.2.1.length (List.map SV.v (cK p.2.1))), (58, .row 234 6 (p.2.2.2.length + 1) (List.map SV.v (oV p.2.2.2 ++ p.2.2.1.bh)))]⟩)
  (fun p => (0 <= p.1 /\ p.1 <= s.size) /\ (p.2.1.length : Int) <= 3 * p.1 /\ p.2.2.2.length <= 1000 /\ ∃ n : Nat, s.size - p.1 < n /\ nU (bt s) s.size (fc s) n p.1 p.2.1 p.2.2.1 p.2.2.2.reverse = R) (fun p => (s.size - p.1).toNat) (0, [], iE (-1), []) ?_
  ⟨⟨Int.le_refl _, by omega⟩, by simp, by simp, s.size + 1, by simp only; omega, hR⟩ ?_
 ·exact wM (fun k => if k = 57 then .nil else if k = 58 then .key 128 else .key k) aM
 rintro ⟨i, ar, f, pre⟩ ⟨⟨h0, hi⟩, hl, hp, n, hn, hrun⟩
 simp only at h0 hi hl hp hn hrun
 have wp := sH pre (by omega)
 obtain ⟨n, rfl⟩ : ∃ m, n = m + 1 := ⟨n - 1, by omega⟩
 rw [nU] at hrun
 refine Wp.seq ?_
 refine vR Γ72 aM ?_
 refine wC aM (fun hc => ?_) (fun hc => ?_)
 ·have hlt : i < s.size := by simpa using hc
  rw [if_pos hlt] at hrun
  have w1 : IntKind.i64.wrap (i + 1) = i + 1 := aa (by omega) (by omega)
  refine wK ?_
  refine Wp.block ?_
  refine wR Γ72 aM ?_ ?_
  ·omega
  refine kY Γ72 (ab aM wp) ?_ ?_
  ·exact ⟨⟨_, rfl⟩, by omega, by omega⟩
  refine Wp.seq ?_
  refine vR Γ72 aM ?_
  refine wC aM (fun hc => ?_) (fun hc => ?_)
  ·have hpo : bf (bt s i) := by simpa [vl] using hc
   refine Wp.seq ?_
   refine wR Γ72 aM ?_ ?_
   ·omega
   refine wC aM (fun hc => ?_) (fun hc => ?_)
   ·have hf : f.fac < 0 := by simpa using hc
    have hst : lK (bt s) s.size (fc s) i ar f pre.reverse = .error (20, i) := by rw [lK, if_pos hpo, if_pos hf]
    rw [hst] at hrun
    have he := l5 hb (hR.trans hrun.symm)
    rw [he]
    refine vR Γ72 aM ?_
    refine wZ aM ?_
    exact ⟨.v jL, ⟨by decide, .inr ⟨rfl, rfl, rfl⟩⟩, fun E => rfl⟩
   have hf : ¬ f.fac < 0 := by simpa using hc
   have hst : lK (bt s) s.size (fc s) i ar f pre.reverse = Cg (bt s) s.size i ar f pre.reverse := by rw [lK, if_pos hpo, if_neg hf]
   rw [hst, Cg] at hrun
   refine wK ?_
   refine vR Γ72 (ab aM w1) ?_
   refine bx ⟨100, bV [(0, .is (.v (.string s))), (2, .is (.own 0 0)), (5, .is (.own 56 0)), (6, .is (.v (.int .i64 (i)))), (7, .is (.v (.int .u8 (bt s i)))), (8, .is (.own 58 (pre.length * 6))), (9, .is (.v (.int .i64 (if bt s i = 43 then -2 else 0)))), (10, .is (.v (.int .i64 (-1)))), (11, .is (.v (.int .i64 (i + 1))))], cd [(0, .cells 64 [.v (.slice none 0 0), .v (.int .i64 0)]), (56, .cells 232 [.hd 57, .hd 58]), (57, .row 243 261 ar.length (List.map SV.v (cK ar))), (58, .row 234 6 (pre.length + 1) (List.map SV.v (oV pre ++ f.bh)))]⟩ ?_ ?_
   ·skip
    refine vR Γ72 aM ?_
    refine wC aM (fun hc => ?_) (fun hc => ?_)
    ·have h43 : bt s i = 43 := by simpa using hc
     rw [if_pos h43]
     refine vr Γ72 aM ?_
     exact wM (fun k => .key k) (ab aM @a8)
    ·have h43 : ¬ bt s i = 43 := by simpa using hc
     rw [if_neg h43]
     refine wK ?_
     exact wM (fun k => .key k) (ab aM @a8)
   refine bx ⟨110, bV [(0, .is (.v (.string s))), (2, .is (.own 0 0)), (5, .is (.own 56 0)), (6, .is (.v (.int .i64 (i)))), (7, .is (.v (.int .u8 (bt s i)))), (8, .is (.own 58 (pre.length * 6))), (9, .is (.v (.int .i64 (if bt s i = 43 then -2 else 0)))), (10, .is (.v (.int .i64 (if bt s i = 63 then 1 else -1)))), (11, .is (.v (.int .i64 (i + 1))))], cd [(0, .cells 64 [.v (.slice none 0 0), .v (.int .i64 0)]), (56, .cells 232 [.hd 57, .hd 58]), (57, .row 243 261 ar.length (List.map SV.v (cK ar))), (58, .row 234 6 (pre.length + 1) (List.map SV.v (oV pre ++ f.bh)))]⟩ ?_ ?_
   ·skip
    refine vR Γ72 aM ?_
    refine wC aM (fun hc => ?_) (fun hc => ?_)
    ·have h63 : bt s i = 63 := by simpa using hc
     rw [if_pos h63]
     refine vr Γ72 aM ?_
     exact wM (fun k => .key k) (ab aM @a8)
    ·have h63 : ¬ bt s i = 63 := by simpa using hc
     rw [if_neg h63]
     refine wK ?_
     exact wM (fun k => .key k) (ab aM @a8)
   cases hm : Mp (bt s) s.size i with
   | error e =>
    obtain ⟨ec, ep⟩ := e
    have h123 : bt s i = 123 := Classical.byContradiction fun h => by rw [zq h] at hm; cases hm
    rw [hm] at hrun
    rw [zJ h123] at hm
    have hne := A9 hm
    have he := l5 hb (hR.trans hrun.symm)
    rw [he]
    refine Wp.seq ?_
    refine vR Γ72 aM ?_
    refine wC aM (fun hc => ?_) (fun hc => ?_)
    rotate_left
    ·exact absurd h123 (by simpa using hc)
    refine vR Γ72 aM ?_
    refine wR (Γ73 ar pre f) (dk aM hm @Ng) ?_ ?_
    ·omega
    refine vR Γ72 aM ?_
    refine wC aM (fun hc => ?_) (fun hc => ?_)
    rotate_left
    ·exact absurd (by simpa using hc) hne
    refine vR Γ72 aM ?_
    refine wZ aM ?_
    exact ⟨.v jL, ⟨by decide, .inr ⟨rfl, rfl, rfl⟩⟩, fun E => rfl⟩
   | ok q =>
    obtain ⟨m, k, j⟩ := q
    rw [hm] at hrun
    have hgt := VY hlt hm
    refine bx ⟨150, bV [(0, .is (.v (.string s))), (2, .is (.own 0 0)), (5, .is (.own 56 0)), (6, .is (.v (.int .i64 (i)))), (8, .is (.own 58 (pre.length * 6))), (9, .is (.v (.int .i64 (m)))), (10, .is (.v (.int .i64 (k)))), (11, .is (.v (.int .i64 (j))))], cd [(0, .cells 64 [.v (.slice none 0 0), .v (.int .i64 0)]), (56, .cells 232 [.hd 57, .hd 58]), (57, .row 243 261 ar.length (List.map SV.v (cK ar))), (58, .row 234 6 (pre.length + 1) (List.map SV.v (oV pre ++ f.bh)))]⟩ ?_ ?_
    ·skip
     refine vR Γ72 aM ?_
     refine wC aM (fun hc => ?_) (fun hc => ?_)
     ·have h123 : bt s i = 123 := by simpa using hc
      rw [zJ h123] at hm
      refine vR Γ72 aM ?_
      refine wR (Γ73 ar pre f) (dk aM hm @Ry) ?_ ?_
      ·omega
      refine vR Γ72 aM ?_
      refine wC aM (fun hc => ?_) (fun hc => ?_)
      ·exact absurd hc (by decide)
      refine wK ?_
      exact wM (fun k => .key k) (ab aM @a8)
     ·have h123 : ¬ bt s i = 123 := by simpa using hc
      rw [zq h123] at hm
      simp only [Except.ok.injEq, Prod.mk.injEq] at hm
      obtain ⟨rfl, rfl, rfl⟩ := hm
      refine wK ?_
      exact wM (fun k => .key k) (ab aM @a8)
    refine kY Γ72 aM ?_ ?_
    ·exact ⟨by omega, by omega, by omega, by simp [mY], by unfold maxLen; omega, by omega, Nd.dh _⟩
    have wl : IntKind.i64.wrap (((ar.length + 1 : Nat) : Int) - 1) = ((ar.length : Nat) : Int) := by rw [aa (by omega) (by omega)]; omega
    refine wR Γ72 (ab aM wl) ?_ ?_
    ·exact ⟨⟨_, rfl⟩, by omega, by omega, by omega⟩
    refine vR Γ72 aM ?_
    refine wE ?_
    refine ⟨(j, ar ++ [⟨7, 0, f.fac, 0, m, k⟩], { f with fac := ar.length }, pre), ⟨⟨by omega, by omega⟩, by simp only [List.length_append, List.length_singleton]; omega, hp, n, by omega, hrun⟩, by simp only; omega, ?_⟩
    exact wM (fun k => if k = 57 then .key 1304 else .key k) (fj aM @qx @dy @a8)
  have hpo : ¬ bf (bt s i) := by simpa [vl] using hc
  rw [lK, if_neg hpo] at hrun
  refine wK ?_
  refine Wp.seq ?_
  refine vR Γ72 aM ?_
  refine wC aM (fun hc => ?_) (fun hc => ?_)
  ·have h124 : bt s i = 124 := by simpa using hc
   rw [if_pos h124] at hrun
   have hcl := mF ar f
   refine wR (Γ73 ar pre f) aM ?_ ?_
   ·exact ⟨⟨rfl, by omega, by omega⟩, by decide, by simp⟩
   refine vR Γ72 (ab aM w1) ?_
   refine wE ?_
   refine ⟨(i + 1, (aJ ar f).1, (aJ ar f).2, pre), ⟨⟨by omega, by omega⟩, by simp only; omega, hp, n, by omega, hrun⟩, by simp only; omega, ?_⟩
   exact wM (fun k => if k = 57 then .key 400 else if k = 58 then .key 401 else .key k) (dk aM @dy @a8)
  have h124 : ¬ bt s i = 124 := by simpa using hc
  rw [if_neg h124] at hrun
  refine wK ?_
  refine Wp.seq ?_
  refine vR Γ72 aM ?_
  refine wC aM (fun hc => ?_) (fun hc => ?_)
  ·have h2 : bt s i = 38 \/ bt s i = 45 := by simpa using hc
   rw [if_pos h2] at hrun
   have hcl := uK ar f
   refine wR (Γ73 ar pre f) aM ?_ ?_
   ·exact ⟨⟨rfl, by omega, by omega⟩, by decide, by simp⟩
   refine kY Γ72 (ab aM wp) ?_ ?_
   ·exact ⟨⟨_, rfl⟩, ⟨by omega, by omega⟩, by omega, by omega⟩
   refine vR Γ72 (ab aM w1) ?_
   refine wE ?_
   refine ⟨(i + 1, (eA ar f).1, { (eA ar f).2 with sgn := bt s i }, pre), ⟨⟨by omega, by omega⟩, by simp only; omega, hp, n, by omega, hrun⟩, by simp only; omega, ?_⟩
   exact wM (fun k => if k = 57 then .key 448 else if k = 58 then .key 449 else .key k) (dk aM @dy @a8)
  have h2 : ¬ (bt s i = 38 \/ bt s i = 45) := by simpa using hc
  rw [if_neg h2] at hrun
  refine wK ?_
  refine Wp.seq ?_
  refine vR Γ72 aM ?_
  refine wC aM (fun hc => ?_) (fun hc => ?_)
  ·have h41 : bt s i = 41 := by simpa using hc
   rw [if_pos h41] at hrun
   refine Wp.seq ?_
   refine vR Γ72 aM ?_
   refine wC aM (fun hc => ?_) (fun hc => ?_)
   ·have hp0 : pre = [] := by
     have : pre.length = 0 := by simp at hc; omega
     exact List.eq_nil_of_length_eq_zero this
    subst hp0
    have he := l5 hb (hR.trans hrun.symm)
    rw [he]
    refine vR Γ72 aM ?_
    refine wZ aM ?_
    exact ⟨.v jL, ⟨by decide, .inr ⟨rfl, rfl, rfl⟩⟩, fun E => rfl⟩
   have hp0 : pre ≠ [] := by
    rintro rfl
    simp at hc
   obtain ⟨pre, g, rfl⟩ : ∃ pre' g, pre = pre' ++ [g] := ⟨pre.dropLast, pre.getLast hp0, (List.dropLast_concat_getLast hp0).symm⟩
   have hcl := mF ar f
   rw [List.reverse_append, List.reverse_singleton, List.singleton_append, UP] at hrun
   have hp' : pre.length + 1 <= 1000 := by simpa using hp
   have wg : IntKind.i64.wrap (((pre ++ [g]).length : Int) - 1) = ((pre.length : Nat) : Int) := by rw [List.length_append, List.length_singleton, aa (by omega) (by omega)]; omega
   refine wK ?_
   refine wR (Γ73 ar (pre ++ [g]) f) aM ?_ ?_
   ·exact ⟨⟨rfl, by omega, by omega⟩, by decide, by simp⟩
   refine kY Γ72 (ab aM wp) ?_ ?_
   ·exact ⟨⟨_, rfl⟩, ⟨by omega, by omega⟩, by omega, by omega⟩
   refine kY Γ72 (ab aM wp) ?_ ?_
   ·exact ⟨⟨_, rfl⟩, by omega, by omega⟩
   refine kY Γ72 (dk aM @xQ wg) ?_ ?_
   ·exact ⟨⟨_, rfl⟩, ⟨by omega, by simp only [List.length_append, List.length_singleton]; omega⟩, by omega, by omega⟩
   refine vR Γ72 (ab aM w1) ?_
   refine wE ?_
   refine ⟨(i + 1, (aJ ar f).1, { g with fac := (aJ ar f).2.alt }, pre), ⟨⟨by omega, by omega⟩, by simp only; omega, by show pre.length <= 1000; omega, n, by omega, hrun⟩, by simp only; omega, ?_⟩
   exact wM (fun k => if k = 57 then .key 512 else if k = 58 then .key 720 else .key k) (p8 aM @dy @List.length_append.{0} @List.length_singleton.{0} @a8)
  have h41 : ¬ bt s i = 41 := by simpa using hc
  rw [if_neg h41] at hrun
  refine wK ?_
  have hse := mz ar f
  refine wR (Γ73 ar pre f) aM ?_ ?_
  ·exact ⟨⟨rfl, by omega, by omega⟩, by decide, by simp⟩
  refine Wp.seq ?_
  refine vR Γ72 aM ?_
  refine wC aM (fun hc => ?_) (fun hc => ?_)
  ·have h40 : bt s i = 40 := by simpa using hc
   rw [if_pos h40, List.length_reverse] at hrun
   refine Wp.seq ?_
   refine vR Γ72 aM ?_
   refine wC aM (fun hc => ?_) (fun hc => ?_)
   ·have hd : 1000 < pre.length + 1 := by simp at hc; omega
    rw [if_pos hd] at hrun
    have he := l5 hb (hR.trans hrun.symm)
    rw [he]
    refine vR Γ72 aM ?_
    refine wZ aM ?_
    exact ⟨.v jL, ⟨by decide, .inr ⟨rfl, rfl, rfl⟩⟩, fun E => rfl⟩
   have hd : ¬ 1000 < pre.length + 1 := by simp at hc; omega
   rw [if_neg hd] at hrun
   refine wK ?_
   refine kY Γ71 aM ?_ ?_
   ·exact ⟨by unfold maxLen; omega, by omega, rfl⟩
   refine vR Γ72 (ab aM w1) ?_
   refine wE ?_
   refine ⟨(i + 1, (aD ar f).1, iE i, pre ++ [(aD ar f).2]), ⟨⟨by omega, by omega⟩, by simp only; omega, by simp only [List.length_append, List.length_singleton]; omega, n, by omega, by simp only [List.reverse_append, List.reverse_singleton, List.singleton_append]; exact hrun⟩, by simp only; omega, ?_⟩
   exact wM (fun k => if k = 57 then .key 464 else if k = 58 then .key 600 else .key k) (nC aM @dy @xQ @List.length_append.{0} @List.length_singleton.{0} @a8)
  have h40 : ¬ bt s i = 40 := by simpa using hc
  rw [if_neg h40, I3] at hrun
  refine wK ?_
  cases hit : df s i with
  | error j =>
   have hrd : fc s i = .error (10, j) := by rw [fc, hit]
   rw [hrd] at hrun
   have he := l5 hb (hR.trans hrun.symm)
   rw [he]
   refine wR (Γ73 ar pre f) (fj aM hit @Vy.eq_1 @Vy.eq_2) ?_ ?_
   ·omega
   refine Wp.seq ?_
   refine vR Γ72 aM ?_
   refine wC aM (fun hc => ?_) (fun hc => ?_)
   rotate_left
   ·exact absurd hc (by decide)
   refine vR Γ72 aM ?_
   refine wZ aM ?_
   exact ⟨.v jL, ⟨by decide, .inr ⟨rfl, rfl, rfl⟩⟩, fun E => rfl⟩
  | ok q =>
   obtain ⟨S, j⟩ := q
   have hrd : fc s i = .ok (S, j) := by rw [fc, hit]
   rw [hrd] at hrun
   have hgt := vi hit h0 hlt
   refine wR (Γ73 ar pre f) (fj aM hit @Vy.eq_1 @Vy.eq_2) ?_ ?_
   ·omega
   refine Wp.seq ?_
   refine vR Γ72 aM ?_
   refine wC aM (fun hc => ?_) (fun hc => ?_)
   ·exact absurd hc (by decide)
   refine wK ?_
   refine kY Γ72 aM ?_ ?_
   ·exact ⟨by simp [mY], by unfold maxLen; omega, by omega, Nd.dh _⟩
   have wl : IntKind.i64.wrap ((((aD ar f).1.length + 1 : Nat) : Int) - 1) = (((aD ar f).1.length : Nat) : Int) := by rw [aa (by omega) (by omega)]; omega
   refine kY Γ72 (dk aM wp wl) ?_ ?_
   ·exact ⟨⟨_, rfl⟩, ⟨_, rfl⟩, ⟨by omega, by omega⟩, by omega, by omega⟩
   refine vr Γ72 aM ?_
   refine ⟨(j, (aD ar f).1 ++ [⟨1, S, 0, 0, 0, 0⟩], { (aD ar f).2 with fac := (aD ar f).1.length }, pre), ⟨⟨by omega, by omega⟩, by simp only [List.length_append, List.length_singleton]; omega, hp, n, by omega, hrun⟩, by simp only; omega, ?_⟩
   exact wM (fun k => if k = 57 then .key 672 else if k = 58 then .key 465 else .key k) (fj aM @qx @dy @a8)
 ·have hN : ¬ i < s.size := by simpa using hc
  rw [if_neg hN] at hrun
  have hrq : CG s = .ok (ar, f, pre.reverse) := hR.trans hrun.symm
  refine wE ?_
  refine Wp.seq ?_
  refine vR Γ72 aM ?_
  refine wC aM (fun hc => ?_) (fun hc => ?_)
  ·have hpn : pre.reverse ≠ [] := by
    intro h
    have := congrArg List.length h
    simp at this
    subst this
    simp at hc
   rw [Kl hb hrq hpn]
   refine kY Γ72 (ab aM wp) ?_ ?_
   ·exact ⟨⟨_, rfl⟩, ⟨by omega, by omega⟩, by omega⟩
   refine wZ aM ?_
   exact ⟨.v jL, ⟨by decide, .inr ⟨rfl, rfl, rfl⟩⟩, fun E => rfl⟩
  have hp0 : pre = [] := by
   have : pre.length = 0 := by simp at hc; omega
   exact List.eq_nil_of_length_eq_zero this
  subst hp0
  have hcl := mF ar f
  obtain ⟨ts0, t0, a1, a2, a3⟩ := Tn hrq
  have hlt0 : (aJ ar f).2.alt.toNat < ts0.length := (List.getElem?_eq_some_iff.1 a3).1
  have hle0 := a1.len
  refine wK ?_
  refine wR (Γ73 ar [] f) aM ?_ ?_
  ·exact ⟨⟨rfl, by omega⟩, by decide, by simp⟩
  refine wR Γ72 (ab aM @zt) ?_ ?_
  ·decide
  refine Wp.seq ?_
  refine wR (Γ74 (aJ ar f).1) (fj aM @zt @G5 (yN (lG (aJ ar f).1) (aJ ar f).2.alt.toNat (by rw [j6]; omega))) ?_ ?_
  ·exact ⟨⟨⟨_, rfl, rfl, rfl, rfl⟩, a1.ok, by omega⟩, ⟨by omega, by omega⟩, by rw [j6]; omega⟩
  refine wC aM (fun hc => ?_) (fun hc => ?_)
  ·have hz : 2000 < (lG (aJ ar f).1).getD (aJ ar f).2.alt.toNat 0 := by simpa using hc
   rw [MU hb hrq hz]
   refine vR Γ72 aM ?_
   refine wZ aM ?_
   exact ⟨.v jL, ⟨by decide, .inr ⟨rfl, rfl, rfl⟩⟩, fun E => rfl⟩
  have hz : ¬ 2000 < (lG (aJ ar f).1).getD (aJ ar f).2.alt.toNat 0 := by simpa using hc
  obtain ⟨ts, t, hd, b1, b2, b3, b4, b5⟩ := S6 hb hrq hz
  rw [hd]
  refine wK ?_
  refine Wp.ku 288 (ev (ab aM @az)) (fun E => by simp only [an, den, az]; exact rfl) fun W1 bs1 ao c1 hx1 hs1 hc1 => ?_
  have htt : ts.getD (aJ ar f).2.alt.toNat .eps = t := by rw [List.getD_eq_getElem?_getD, b4]; rfl
  rw [<- htt] at b5 ⊢
  have hout : ej W1 (Out bs1) ao (cK (aJ ar f).1) := hs1.out fun b hb => hb.out
  refine bx ⟨100, bV [(2, .is (.own 0 0)), (5, .is (.own 56 0)), (19, .is (.v (.int .i64 (aJ ar f).2.alt))), (20, .is (.own 64 0))], cd [(0, .cells 64 [.v (.slice none 0 0), .v (.int .i64 0)]), (56, .cells 232 [.v (.slice ao (aJ ar f).1.length c1), .hd 58]), (58, .row 234 6 1 (List.map SV.v ((aJ ar f).2.bh))), (64, .cells 64 [.hd 65, .v (.int .i64 0)]), (65, .row 243 261 0 [])]⟩ ?_ ?_
  ·skip
   refine vr Γ72 aM ?_
   exact wM (fun k => if k = 58 then .key 289 else if k = 64 then .key 432 else if k = 65 then .nil else .key k) (fj aM @dy @zt @Fm.bh.eq_1)
  refine wR (Γ75 (aJ ar f).1 ts ao c1 _ (BJ (aJ ar f).1 ts ao c1 b1 (aJ ar f).1.length (Nat.le_refl _))) aM ?_ ?_
  ·exact ⟨⟨⟨[], rfl, rfl⟩, ⟨b2, by omega⟩, by omega, hout⟩, by decide, by simp⟩
  refine vR Γ72 aM ?_
  refine wZ aM ?_
  exact ⟨_, ⟨by decide, .inl ⟨_, rfl, rfl⟩⟩, fun E => rfl⟩
end
section
open Go.RowKit Go.LE
set_option maxRecDepth 10000
section
variable {c : Int -> Int} {N : Int} {rd : Int -> Except (Int × Int) (BitVec 256 × Int)} (hrd : ∀ i e, rd i = .error e -> e.1 ≠ 0)
include hrd
theorem FL {i : Int} {ar : List Nd} {f : Fm} {rest : List Fm} {e : Int × Int} (h : lK c N rd i ar f rest = .error e) : e.1 ≠ 0 := by
 unfold lK at h
 split at h
 ·split at h
  ·cases h; show (20 : Int) ≠ 0; omega
  ·unfold Cg at h
   split at h
   ·rename_i e1 hm
    cases h
    by_cases h1 : c i = 123
    ·rw [zJ h1] at hm; exact A9 hm
    ·rw [zq h1] at hm; cases hm
   ·cases h
 ·split at h
  ·cases h
  ·split at h
   ·cases h
   ·split at h
    ·unfold UP at h
     split at h
     ·cases h; show (20 : Int) ≠ 0; omega
     ·cases h
    ·split at h
     ·split at h
      ·cases h; show (23 : Int) ≠ 0; omega
      ·cases h
     ·unfold I3 at h
      split at h
      ·rename_i e1 hm
       cases h
       exact hrd _ _ hm
      ·cases h
theorem wI : ∀ (n : Nat) (i : Int) (ar : List Nd) (f : Fm) (rest : List Fm) (e : Int × Int), nU c N rd n i ar f rest = .error e -> e.1 ≠ 0
 | 0, i, ar, f, rest, e, h => by cases h
 | n + 1, i, ar, f, rest, e, h => by
  rw [nU] at h
  split at h
  ·split at h
   ·rename_i e1 hs
    cases h
    exact FL hrd hs
   ·exact wI n _ _ _ _ e h
  ·cases h
theorem BM {e : Int × Int} (h : ij c N rd = .error e) : e.1 ≠ 0 := by
 unfold ij at h
 split at h
 ·cases h; show (1 : Int) ≠ 0; omega
 ·unfold Am at h
  split at h
  ·rename_i e1 hr
   cases h
   exact wI hrd _ _ _ _ _ _ hr
  ·split at h
   ·cases h; show (21 : Int) ≠ 0; omega
   ·split at h
    ·cases h; show (24 : Int) ≠ 0; omega
    ·cases h
end
theorem wW {s : ByteArray} {c p : Int} (h : iT s = .error (c, p)) : c ≠ 0 := by
 have hd : fY (bt s) s.size (fc s) = .error (c, p) := h
 have h1 := kn (c := bt s) (N := s.size) (rd := fc s) (by omega)
 rw [hd] at h1
 cases h2 : ij (bt s) s.size (fc s) with
 | error e =>
  rw [h2] at h1
  have he : (c, p) = e := h1
  have := BM (rd := fc s) (fun i e hi => by
   unfold fc at hi
   split at hi
   ·cases hi; show (10 : Int) ≠ 0; omega
   ·cases hi) h2
  rw [<- he] at this
  exact this
 | ok q => rw [h2] at h1; exact h1.elim
theorem Pk {P : Program} {eqs : (T : TypeId) -> Option (EqSpec P T)} (h : Hp) (T : TypeId) (X Y : Operand) (b : ByteArray) : bF P eqs h .eql T X Y [.v undef, .v (.string b)] = .bad := rfl
theorem EP (W : World) : j9.res W [.val .nilIface] = undef := by
 have hn : dec aF .nilIface = none := by
  unfold dec
  rw [dif_neg]
  rintro ⟨t, ht⟩
  cases t <;> cases ht
 simp only [j9, hn]
noncomputable def Γ85 : Env Tryz.prog := ⟨fun | 71 => some yy.spec | 72 => some j9.spec | _ => none, fun | 39 => some tU | _ => none, fun _ _ => none⟩
theorem Gt85c71 : Γ85.sp 71 = some yy.spec := rfl
theorem Gt85c72 : Γ85.sp 72 = some j9.spec := rfl
theorem Gt85ceq39 : Γ85.eqs 39 = some tU := rfl
def Bv := (aq @List.replicate_succ.{0} @List.replicate_zero.{0} @aw @ah jS jP jn (aq cQ cV cX cS da c9 c8 (aq db eW eV eX eZ e8 e9 (aq vY vC vZ vD vX vH wG (aq vQ vW vS s3 sY tZ u9 (aq s7 sP Wj Xx rz rh rm (aq rj Xw WL @aO @au @aB @aC (aq @Gd @Fz @Cj @Bk @pZ @dJ @de (aq @gD @bM @Pk @bad_eq @EP Gt85c71 Gt85c72 Gt85ceq39)))))))))
set_option maxHeartbeats 2000000 in
theorem Lq (s : ByteArray) (w : World) (hs : s.size <= 140737488351232) (hg : bc w (Out [])) : Calls Tryz.prog 33 #[.string s] w fun e w' => e = .returned (.bool (ya s)) /\ ai w [] w' := by
 refine al (nt := 19) [.tmp 2] Tryz.func33 rfl rfl rfl ?_
 refine vR Γ85 Bv ?_
 cases hd : iT s with
 | error q =>
  obtain ⟨c, p⟩ := q
  have hp : nO s = .error (c, p) := by rw [xD, hd]; rfl
  have hne := wW hd
  have ht : ya s = false := by rw [ya, hd]
  rw [ht]
  refine wR Γ85 (p8 Bv hp @om.eq_1 @om.eq_2 @sF.eq_1) ?_ ?_
  ·exact ⟨hs, hg⟩
  refine wR Γ85 (ab Bv hne) ?_ ?_
  ·simp
  refine wZ Bv ?_
  exact fun E => rfl
 | ok t =>
  have hp : nO s = .ok t.expand := by rw [xD, hd]; rfl
  have hsz := u4 hd
  have ht : ya s = decide (bS t.expand = s) := by rw [ya, hd]
  rw [ht]
  refine wR Γ85 (p8 Bv hp @om.eq_1 @om.eq_2 @sF.eq_1) ?_ ?_
  ·exact ⟨hs, hg⟩
  refine wR Γ85 Bv ?_ ?_
  ·exact fun _ => ⟨by omega, hg⟩
  refine wZ Bv ?_
  exact fun E => rfl
def qD : a7 Tryz.prog 33 where
 pre := fun W bs => fun | [.val (.string s)] => s.size <= 140737488351232 /\ bc W (Out bs) | _ => False
 res := fun W => fun | [.val (.string s)] => .bool (ya s) | _ => undef
 enters := Tryz.call33
 ok := by
  intro W w bs us as_ hk hu hp
  split at hp
  ·rename_i s
   match us, hu with
   | [u0], hu =>
    obtain ⟨rfl, _⟩ := hu
    exact Lq s w hp.1 (hp.2.fD hk (by simp))
  ·exact hp.elim
theorem uS (W : World) (s : ByteArray) : qD.res W [.val (.string s)] = .bool (ya s) := rfl
theorem uJ (W : World) (bs : List Nat) (s : ByteArray) : qD.pre W bs [.val (.string s)] = (s.size <= 140737488351232 /\ bc W (Out bs)) := rfl
def pT : Except (Int × Int) RT -> SV -> SV
 | .ok t, x => .tup [.agg [x, .v (.int .i64 ((aG t.expand - 1 : Nat) : Int))], .v (.int .i64 0), .v (.int .i64 0)]
 | .error (c, p), x => .tup [.agg [x, .v (.int .i64 0)], .v (.int .i64 c), .v (.int .i64 p)]
def An (s : ByteArray) : A5 Tryz.prog 69 where
 pre := fun W bs as_ => as_ = [.val (.string s)] /\ s.size <= 140737488351232
 T := 243
 s := 261
 n := fun _ _ => pN (iT s)
 vs := fun _ _ => pV (iT s)
 tm := fun _ _ x => pT (iT s) x
 g := fun _ _ v => pG (iT s) v
 tmg := fun _ _ E x => by cases iT s with | ok t => rfl | error q => rfl
 tmk := fun _ _ x k hk => by
  cases hd : iT s with
  | ok t => rw [hd] at hk; simpa [pT, SV.keys, ax] using hk
  | error q => rw [hd] at hk; simpa [pT, SV.keys, ax] using hk
 enters := Tryz.call69
 ok := by
  intro W w bs us as_ hk hu hp
  obtain ⟨rfl, h1⟩ := hp
  match us, hu with
  | [u], hu =>
   obtain ⟨rfl, _⟩ := hu
   exact E2 s h1 w
noncomputable def Γ86 (s : ByteArray) : Env Tryz.prog := ⟨fun | 69 => some (An s).spec | _ => none, fun _ => none, fun _ _ => none⟩
theorem Gt86c69 (s : ByteArray) : (Γ86 s).sp 69 = some (An s).spec := rfl
noncomputable def Γ87 (l : List Nd) (ao : Option Addr) (c : Nat) (i : Nat) (t : Rx) (hsz : aG t <= 4000000) (ht : lW l i t) : Env Tryz.prog := ⟨fun | 60 => some (sB l ao c i t hsz ht).spec | _ => none, fun _ => none, fun _ _ => none⟩
theorem Gt87c60 (l : List Nd) (ao : Option Addr) (c : Nat) (i : Nat) (t : Rx) (hsz : aG t <= 4000000) (ht : lW l i t) : (Γ87 l ao c i t hsz ht).sp 60 = some (sB l ao c i t hsz ht).spec := rfl
theorem RY : aG .eps <= 4000000 := by decide
theorem R2 : lW [bO 0 0 0] 0 .eps := ⟨_, rfl, rfl⟩
noncomputable def N8 : a7 Tryz.prog 60 := sB [bO 0 0 0] none 0 0 .eps RY R2
noncomputable def Γ88 : Env Tryz.prog := ⟨fun | 60 => some N8.spec | _ => none, fun _ => none, fun _ _ => none⟩
theorem Gt88c60 : Γ88.sp 60 = some N8.spec := rfl
theorem Kg (W : World) (l : List AV) : N8.res W l = .string (bS .eps) := rfl
def zV := (aq Bv @uS @uJ @Gt86c69 @Gt87c60 @An.eq_1 @sB.eq_1 (ab @Gt88c60 @Kg))
set_option maxHeartbeats 2000000 in
theorem LM (s : ByteArray) (w : World) (hs : s.size <= 140737488351232) : Calls Tryz.prog 30 #[.string s] w fun e w' => e = .returned (.bool (ya s)) /\ ai w [] w' := by
 refine al (nt := 20) [.tmp 2] Tryz.func30 rfl rfl rfl ?_
 refine vR Γ85 zV ?_
 cases hd : iT s with
 | error q =>
  obtain ⟨c, p⟩ := q
  have hne := wW hd
  have ht : ya s = false := by rw [ya, hd]
  rw [ht]
  refine wR (Γ86 s) (aq zV hd @pN.eq_1 @pN.eq_2 @pV.eq_1 @pV.eq_2 @pT.eq_1 @pT.eq_2) ?_ ?_
  ·exact hs
  refine Wp.ku 16 (ev zV) (fun E => by simp only [an, den, List.map_nil]; exact rfl) fun W1 bs1 ao c1 hx1 hs1 hc1 => ?_
  refine wR Γ88 (ab zV hne) ?_ ?_
  ·simp
  refine wZ zV ?_
  exact fun E => rfl
 | ok t =>
  have hsz := u4 hd
  have ht : ya s = decide (bS t.expand = s) := by rw [ya, hd]
  have hit : lW (dr 0 t.expand) (aG t.expand - 1) t.expand := by
   have := VD t.expand [] []
   simpa using this
  have hll := eG t.expand 0
  rw [ht]
  refine wR (Γ86 s) (aq zV hd @pN.eq_1 @pN.eq_2 @pV.eq_1 @pV.eq_2 @pT.eq_1 @pT.eq_2) ?_ ?_
  ·exact hs
  refine Wp.ku 16 (ev (ab zV @az)) (fun E => by simp only [an, den, az]; exact rfl) fun W1 bs1 ao c1 hx1 hs1 hc1 => ?_
  have hout : ej W1 (Out bs1) ao (cK (dr 0 t.expand)) := hs1.out fun b hb => hb.out
  refine wR (Γ87 (dr 0 t.expand) ao c1 (aG t.expand - 1) t.expand (by omega) hit) zV ?_ ?_
  ·exact ⟨by rw [hll], hout⟩
  refine wZ zV ?_
  exact fun E => rfl
def ze : a7 Tryz.prog 30 where
 pre := fun W bs => fun | [.val (.string s)] => s.size <= 140737488351232 | _ => False
 res := fun W => fun | [.val (.string s)] => .bool (ya s) | _ => undef
 enters := Tryz.call30
 ok := by
  intro W w bs us as_ hk hu hp
  split at hp
  ·rename_i s
   match us, hu with
   | [u0], hu =>
    obtain ⟨rfl, _⟩ := hu
    exact LM s w hp
  ·exact hp.elim
theorem E8 (W : World) (s : ByteArray) : ze.res W [.val (.string s)] = .bool (ya s) := rfl
theorem GZ (W : World) (bs : List Nat) (s : ByteArray) : ze.pre W bs [.val (.string s)] = (s.size <= 140737488351232) := rfl
end
section
open Go.RowKit Go.LE
set_option maxRecDepth 10000
structure Pg where
 ty : List ByteArray
 tx : List ByteArray
 co : List (Int × Int × Int × Int)
 src : Int
 vw : Int
def fC (l : List ByteArray) : List Value := l.map .string
def Rf (x : Int × Int × Int × Int) : List Value := [.int .i64 x.1, .int .i64 x.2.1, .int .i64 x.2.2.1, .int .i64 x.2.2.2]
def jR (l : List (Int × Int × Int × Int)) : List Value := l.flatMap Rf
theorem Mx (l : List (Int × Int × Int × Int)) : (jR l).length = l.length * 4 := by
 induction l with
 | nil => rfl
 | cons d r ih =>
  have : jR (d :: r) = Rf d ++ jR r := rfl
  rw [this, List.length_append, ih, List.length_cons]
  show 4 + _ = _
  omega
theorem CO : ∀ (l : List (Int × Int × Int × Int)) (k j : Nat) (hk : k < l.length), j < 4 -> (jR l)[k * 4 + j]? = (Rf l[k])[j]?
 | d :: r, 0, j, hk, hj => by
  have : jR (d :: r) = Rf d ++ jR r := rfl
  rw [this, List.getElem?_append_left (by show 0 * 4 + j < 4; omega), Nat.zero_mul, Nat.zero_add]
  rfl
 | d :: r, k + 1, j, hk, hj => by
  have : jR (d :: r) = Rf d ++ jR r := rfl
  rw [this, List.getElem?_append_right (by show 4 <= _; omega), show (k + 1) * 4 + j - (Rf d).length = k * 4 + j by show _ - 4 = _; omega]
  exact CO r k j (by simpa using hk) hj
theorem km {w : World} {ao : Option Addr} {l : List ByteArray} (h : jA w ao (fC l)) {k : Nat} (hk : k < l.length) : ∃ b o, ao = some ⟨b, o, none⟩ /\ w.cell? ⟨b, o + k, none⟩ = some (.string l[k]) := by
 rcases h with h | ⟨b, o, rfl, hc⟩
 ·have h0 : l = [] := by simpa [fC] using h
  subst h0
  cases hk
 ·refine ⟨b, o, rfl, ?_⟩
  have := hc k (by simpa [fC] using hk)
  rw [this]
  simp [fC]
theorem jy {w : World} {ao : Option Addr} {l : List (Int × Int × Int × Int)} (h : jA w ao (jR l)) {k : Nat} (hk : k < l.length) : ∃ b o, ao = some ⟨b, o, none⟩ /\ w.cell? ⟨b, o + k * 4, none⟩ = some (.int .i64 l[k].1) /\
  w.cell? ⟨b, o + k * 4 + 1, none⟩ = some (.int .i64 l[k].2.1) /\ w.cell? ⟨b, o + k * 4 + 1 + 1, none⟩ = some (.int .i64 l[k].2.2.1) /\ w.cell? ⟨b, o + k * 4 + 1 + 1 + 1, none⟩ = some (.int .i64 l[k].2.2.2) := by
 have hl := Mx l
 rcases h with h | ⟨b, o, rfl, hc⟩
 ·rw [h] at hl; simp at hl; omega
 ·have key : ∀ j (hj : j < 4) (v : Value), (Rf l[k])[j]? = some v -> w.cell? ⟨b, o + k * 4 + j, none⟩ = some v := fun j hj v hv => by
   have h1 := hc (k * 4 + j) (by omega)
   have h2 := CO l k j hk hj
   rw [hv, List.getElem?_eq_getElem (by omega)] at h2
   rw [<- Nat.add_assoc] at h1
   rw [h1]
   exact h2
  exact ⟨b, o, rfl, key 0 (by omega) _ rfl, key 1 (by omega) _ rfl, key 2 (by omega) _ rfl, key 3 (by omega) _ rfl⟩
def ee (P : Nat -> Bool) : Nat -> Nat -> Option Nat
 | 0, _ => none
 | k + 1, j => bif P j then some j else ee P k (j + 1)
theorem nu (P : Nat -> Bool) (n j : Nat) (hj : j < n) (h : ∀ i < j, P i = false) (hp : P j = true) : ee P n 0 = some j := by
 have key : ∀ k i, i + k = n -> i <= j -> ee P k i = some j := by
  intro k
  induction k with
  | zero => intro i h1 h2; omega
  | succ k ih =>
   intro i h1 h2
   unfold ee
   by_cases e : i = j
   ·subst e; rw [hp]; rfl
   ·rw [h i (by omega)]
    exact ih (i + 1) (by omega) (by omega)
 exact key n 0 (by omega) (Nat.zero_le _)
theorem gW (P : Nat -> Bool) (n : Nat) (h : ∀ i < n, P i = false) : ee P n 0 = none := by
 have key : ∀ k i, i + k = n -> ee P k i = none := by
  intro k
  induction k with
  | zero => intro i h1; rfl
  | succ k ih =>
   intro i h1
   unfold ee
   rw [h i (by omega)]
   exact ih (i + 1) (by omega)
 exact key n 0 (by omega)
section
variable (p : Pg)
def nE (i : Nat) : Bool := !ya (p.ty.getD i ⟨#[]⟩)
def nY (i : Nat) : Bool := !lr p.ty.length p.tx.length p.co.length (p.co.getD i (0, 0, 0, 0)).1 (p.co.getD i (0, 0, 0, 0)).2.1 (p.co.getD i (0, 0, 0, 0)).2.2.1 (p.co.getD i (0, 0, 0, 0)).2.2.2
def NO : ByteArray := ⟨#[109, 97, 105, 110]⟩
def jf : Int × Int × ByteArray :=
 if (!lq p.src p.ty.length || !lq p.vw p.ty.length) = true then (111, 0, NO)
 else match ee (nY p) p.co.length 0 with
  | some i => (111, i, ⟨#[]⟩)
  | none => (0, 0, ⟨#[]⟩)
def jT : Int × Int × ByteArray :=
 if (131072 < p.ty.length \/ 131072 < p.tx.length) \/ 131072 < p.co.length then (24, 0, ⟨#[]⟩)
 else match ee (nE p) p.ty.length 0 with
  | some i => (110, i, ⟨#[]⟩)
  | none => jf p
structure PgB : Prop where
 l1 : p.ty.length <= 140737488351232
 l2 : p.tx.length <= 140737488351232
 l3 : p.co.length <= 140737488351232
 sz : ∀ s ∈ p.ty, s.size <= 140737488351232
structure oM (w : World) (a1 a2 a3 : Option Addr) : Prop extends PgB p where
 ty : jA w a1 (fC p.ty)
 tx : jA w a2 (fC p.tx)
 co : jA w a3 (jR p.co)
def Cx (W : World) (S : Nat -> Prop) (a1 a2 a3 : Option Addr) : Prop := ej W S a1 (fC p.ty) /\ ej W S a2 (fC p.tx) /\ ej W S a3 (jR p.co)
theorem Cx.ok {p : Pg} {W w : World} {bs : List Nat} {a1 a2 a3 : Option Addr} (h : Cx p W (Out bs) a1 a2 a3) (hb : PgB p) (hk : ai W bs w) : oM p w a1 a2 a3 :=
 ⟨hb, eM h.1 hk, eM h.2.1 hk, eM h.2.2 hk⟩
theorem oM.x {p : Pg} {w : World} {a1 a2 a3 : Option Addr} (h : oM p w a1 a2 a3) : Cx p w (Out []) a1 a2 a3 :=
 ⟨(ej.lN h.ty).out fun _ _ => by simp [Out], (ej.lN h.tx).out fun _ _ => by simp [Out], (ej.lN h.co).out fun _ _ => by simp [Out]⟩
abbrev DA (a1 a2 a3 : Option Addr) (c1 c2 c3 : Nat) : Value := UQ a1 a2 a3 p.ty.length p.tx.length p.co.length c1 c2 c3 p.src p.vw
def y9 (q : Int × Int × ByteArray) : Value := sF q.1 q.2.1 q.2.2
end
theorem Yg (n1 n2 n3 : Nat) (n : Int) : pe n1 n2 n3 2 n = lq n n1 := rfl
noncomputable def Γ91 : Env Tryz.prog := ⟨fun | 33 => some qD.spec | 73 => some xx.spec | 74 => some yP.spec | _ => none, fun | _ => none, fun _ _ => none⟩
theorem Gt91c33 : Γ91.sp 33 = some qD.spec := rfl
theorem Gt91c73 : Γ91.sp 73 = some xx.spec := rfl
theorem Gt91c74 : Γ91.sp 74 = some yP.spec := rfl
def ly := (aq @List.replicate_succ.{0} @List.replicate_zero.{0} @aw @ah jS jP jn (aq cQ cV cX cS da c9 c8 (aq db eW eV eX eZ e8 e9 (aq C7 Dq B6 B7 K5 Ld LY (aq Mb BX Dd Bi Ck BH BK (aq BP Ce Ct vY vC vZ vD (aq vX vH wG vQ vW vS C1 (aq BF Dt CC Dh B3 Dw Cn (aq rK Hg HH Iz IG @aO @au (aq @aB @aC @x8 @xi @EK @DZ @uS (p8 @uJ @pZ Gt91c33 Gt91c73 Gt91c74)))))))))))
set_option maxHeartbeats 4000000 in
theorem K4 (p : Pg) (a1 a2 a3 : Option Addr) (c1 c2 c3 : Nat) (w : World) (hp : oM p w a1 a2 a3) (hg : dF w (Out [])) : Calls Tryz.prog 34 #[DA p a1 a2 a3 c1 c2 c3] w fun e w' => e = .returned (y9 (jf p)) /\ ai w [] w' := by
 have h3 := hp.l3
 refine al (nt := 34) [.cell 2 39] Tryz.func34 rfl rfl rfl ?_
 refine vR Γ91 ly ?_
 refine Wp.seq ?_
 refine vR Γ91 (ab ly @Yg) ?_
 refine wC ly (fun hc => ?_) (fun hc => ?_)
 ·have e : jf p = (111, 0, NO) := by rw [jf, if_pos hc]
  rw [e]
  refine vR Γ91 ly ?_
  refine wZ ly ?_
  exact fun E => rfl
 have e0 : jf p = match ee (nY p) p.co.length 0 with
  | some i => (111, (i : Int), ⟨#[]⟩)
  | none => (0, 0, ⟨#[]⟩) := by rw [jf, if_neg (by rw [hc]; simp)]
 rw [e0]
 refine wK ?_
 refine Wp.seq ?_
 refine vR Γ91 ly ?_
 refine Wp.block ?_
 refine Wp.loop (fun k : Nat => ⟨40, bV [(1, .is (.own 0 0)), (2, .is (.own 8 0)), (19, .is (.v (.slice a3 p.co.length c3))), (20, .is (.v (.int .i64 p.co.length))), (21, .is (.v (.int .i64 (k : Nat))))], cd [(0, .cells 29 [.v (.slice a1 p.ty.length c1), .v (.slice a2 p.tx.length c2), .v (.slice a3 p.co.length c3), .v (.int .i64 p.src), .v (.int .i64 p.vw)]), (8, .cells 39 [.v (.int .i64 0), .v (.int .i64 0), .v (.string ⟨#[]⟩)])]⟩) (fun k => k <= p.co.length /\ ∀ i < k, nY p i = false) (fun k => p.co.length - k) 0 ?_ ⟨Nat.zero_le _, fun i h => by omega⟩ ?_
 ·exact wM (fun k => .key k) ly
 rintro k ⟨hk, hn⟩
 refine vR Γ91 ly ?_
 refine Wp.seq ?_
 refine wC ly (fun hc => ?_) (fun hc => ?_)
 ·have hlt : k < p.co.length := by
   simp at hc
   omega
  have wk : IntKind.i64.wrap ((k : Int) + 1) = ((k + 1 : Nat) : Int) := by rw [aa (by omega) (by omega)]; omega
  obtain ⟨b, o, rfl, x1, x2, x3, x4⟩ := jy hp.co hlt
  have hbad : nY p k = !lr p.ty.length p.tx.length p.co.length p.co[k].1 p.co[k].2.1 p.co[k].2.2.1 p.co[k].2.2.2 := by
   rw [nY, List.getD_eq_getElem?_getD, List.getElem?_eq_getElem hlt]; rfl
  generalize p.co[k] = x at *
  refine wK ?_
  refine Wp.seq (Wp.block ?_)
  refine wR Γ91 (p8 ly x1 x2 x3 x4) ?_ ?_
  ·omega
  refine wR Γ91 ly ?_ ?_
  ·exact hg
  refine wC ly (fun hc => ?_) (fun hc => ?_)
  ·rw [nu (nY p) p.co.length k hlt hn (hbad.trans hc)]
   refine vR Γ91 ly ?_
   refine wZ ly ?_
   exact fun E => rfl
  ·refine wK ?_
   refine vr Γ91 (ab ly wk) ?_
   refine ⟨k + 1, ⟨by omega, fun i hi => ?_⟩, by omega, ?_⟩
   ·by_cases h : i = k
    ·rw [h]; exact hbad.trans hc
    ·exact hn i (by omega)
   ·exact wM (fun k => .key k) ly
 ·have hk' : k = p.co.length := by
   simp at hc
   omega
  rw [gW (nY p) p.co.length (by rw [<- hk']; exact hn)]
  refine wE ?_
  refine vR Γ91 ly ?_
  refine wZ ly ?_
  exact fun E => rfl
section
variable (p : Pg) (a1 a2 a3 : Option Addr) (c1 c2 c3 : Nat) (hb : PgB p)
def FM : a7 Tryz.prog 34 where
 pre := fun W bs as_ => as_ = [.val (DA p a1 a2 a3 c1 c2 c3)] /\ Cx p W (Out bs) a1 a2 a3 /\ dF W (Out bs)
 res := fun _ _ => y9 (jf p)
 enters := Tryz.call34
 ok := by
  intro W w bs us as_ hk hu hp
  obtain ⟨rfl, h1, h2⟩ := hp
  match us, hu with
  | [x], hu =>
   obtain ⟨rfl, _⟩ := hu
   exact K4 p a1 a2 a3 c1 c2 c3 w (h1.ok hb hk) (h2.fD hk (by simp))
noncomputable def Γ92 : Env Tryz.prog := ⟨fun | 33 => some qD.spec | 34 => some (FM p a1 a2 a3 c1 c2 c3 hb).spec | _ => none, fun _ => none, fun _ _ => none⟩
theorem Gt92c33 : (Γ92 p a1 a2 a3 c1 c2 c3 hb).sp 33 = some qD.spec := rfl
theorem Gt92c34 : (Γ92 p a1 a2 a3 c1 c2 c3 hb).sp 34 = some (FM p a1 a2 a3 c1 c2 c3 hb).spec := rfl
end
theorem FQ (q : Int × Int × ByteArray) : partsOf (.v (y9 q)) = [.v (.int .i64 q.1), .v (.int .i64 q.2.1), .v (.string q.2.2)] := rfl
def lQ := (p8 ly @Gt92c33 @Gt92c34 @FM.eq_1 @FQ)
set_option maxHeartbeats 4000000 in
theorem td (p : Pg) (a1 a2 a3 : Option Addr) (c1 c2 c3 : Nat) (w : World) (hp : oM p w a1 a2 a3) (hg : dF w (Out [])) (he : bc w (Out [])) : Calls Tryz.prog 15 #[DA p a1 a2 a3 c1 c2 c3] w fun e w' => e = .returned (y9 (jT p)) /\ ai w [] w' := by
 have hx := hp.x
 have hb := hp.toPgB
 have h1 := hp.l1
 refine al (nt := 33) [.cell 2 39] Tryz.func15 rfl rfl rfl ?_
 refine vR Γ91 lQ ?_
 refine Wp.seq ?_
 refine wR Γ91 lQ ?_ ?_
 ·exact ⟨⟨_, rfl⟩, ⟨_, rfl⟩, _, rfl⟩
 refine wC lQ (fun hc => ?_) (fun hc => ?_)
 ·have h : (131072 < p.ty.length \/ 131072 < p.tx.length) \/ 131072 < p.co.length := by
   simp at hc
   omega
  have e : jT p = (24, 0, ⟨#[]⟩) := by rw [jT, if_pos h]
  rw [e]
  refine vR Γ91 lQ ?_
  refine wZ lQ ?_
  exact fun E => rfl
 have h : ¬ ((131072 < p.ty.length \/ 131072 < p.tx.length) \/ 131072 < p.co.length) := by
  simp at hc
  omega
 have e0 : jT p = match ee (nE p) p.ty.length 0 with
  | some i => (110, (i : Int), ⟨#[]⟩)
  | none => jf p := by rw [jT, if_neg h]
 rw [e0]
 refine wK ?_
 refine Wp.seq ?_
 refine vR Γ91 lQ ?_
 refine Wp.block ?_
 refine Wp.loop (fun k : Nat => ⟨40, bV [(1, .is (.own 0 0)), (2, .is (.own 8 0)), (18, .is (.v (.slice a1 p.ty.length c1))), (19, .is (.v (.int .i64 p.ty.length))), (20, .is (.v (.int .i64 (k : Nat))))], cd [(0, .cells 29 [.v (.slice a1 p.ty.length c1), .v (.slice a2 p.tx.length c2), .v (.slice a3 p.co.length c3), .v (.int .i64 p.src), .v (.int .i64 p.vw)]), (8, .cells 39 [.v (.int .i64 0), .v (.int .i64 0), .v (.string ⟨#[]⟩)])]⟩) (fun k => k <= p.ty.length /\ ∀ i < k, nE p i = false) (fun k => p.ty.length - k) 0 ?_ ⟨Nat.zero_le _, fun i h => by omega⟩ ?_
 ·exact wM (fun k => .key k) lQ
 rintro k ⟨hk, hn⟩
 refine vR Γ91 lQ ?_
 refine Wp.seq ?_
 refine wC lQ (fun hc => ?_) (fun hc => ?_)
 ·have hlt : k < p.ty.length := by
   simp at hc
   omega
  have wk : IntKind.i64.wrap ((k : Int) + 1) = ((k + 1 : Nat) : Int) := by rw [aa (by omega) (by omega)]; omega
  obtain ⟨b, o, rfl, x1⟩ := km hp.ty hlt
  have hsz := hp.sz _ (List.getElem_mem hlt)
  have hbad : nE p k = !ya p.ty[k] := by
   rw [nE, List.getD_eq_getElem?_getD, List.getElem?_eq_getElem hlt]; rfl
  generalize p.ty[k] = x at *
  refine wK ?_
  refine Wp.seq (Wp.block ?_)
  refine wR (Γ92 p (some ⟨b, o, none⟩) a2 a3 c1 c2 c3 hb) (ab lQ x1) ?_ ?_
  ·omega
  refine wR (Γ92 p (some ⟨b, o, none⟩) a2 a3 c1 c2 c3 hb) lQ ?_ ?_
  ·exact ⟨hsz, he⟩
  refine wC lQ (fun hc => ?_) (fun hc => ?_)
  ·rw [nu (nE p) p.ty.length k hlt hn (hbad.trans hc)]
   refine vR Γ91 lQ ?_
   refine wZ lQ ?_
   exact fun E => rfl
  ·refine wK ?_
   refine vr Γ91 (ab lQ wk) ?_
   refine ⟨k + 1, ⟨by omega, fun i hi => ?_⟩, by omega, ?_⟩
   ·by_cases h : i = k
    ·rw [h]; exact hbad.trans hc
    ·exact hn i (by omega)
   ·exact wM (fun k => .key k) lQ
 ·have hk' : k = p.ty.length := by
   simp at hc
   omega
  rw [gW (nE p) p.ty.length (by rw [<- hk']; exact hn)]
  refine wE ?_
  refine wR (Γ92 p a1 a2 a3 c1 c2 c3 hb) lQ ?_ ?_
  ·exact ⟨hx, hg⟩
  refine wZ lQ ?_
  exact fun E => rfl
def mU (p : Pg) (a1 a2 a3 : Option Addr) (c1 c2 c3 : Nat) (hb : PgB p) : a7 Tryz.prog 15 where
 pre := fun W bs as_ => as_ = [.val (DA p a1 a2 a3 c1 c2 c3)] /\ Cx p W (Out bs) a1 a2 a3 /\ dF W (Out bs) /\ bc W (Out bs)
 res := fun _ _ => y9 (jT p)
 enters := Tryz.call15
 ok := by
  intro W w bs us as_ hk hu hp
  obtain ⟨rfl, h1, h2, h3⟩ := hp
  match us, hu with
  | [x], hu =>
   obtain ⟨rfl, _⟩ := hu
   exact td p a1 a2 a3 c1 c2 c3 w (h1.ok hb hk) (h2.fD hk (by simp)) (h3.fD hk (by simp))
end
section
open Go.RowKit Go.LE
set_option maxRecDepth 10000
def Sh.wy : Sh := ⟨fun k => .agg [.part k 0, .part k 1, .part k 2, .part k 3, .part k 4], fun _ _ => rfl, fun k j hj => by simpa [SV.keys, ax] using hj⟩
def Y3 (p : Pg) (cs : List Value) (W : World) (S : Nat -> Prop) : Prop := ∃ (b1 b2 b3 : Option Addr) (d1 d2 d3 : Nat), cs = [.slice b1 p.ty.length d1, .slice b2 p.tx.length d2, .slice b3 p.co.length d3, .int .i64 p.src, .int .i64 p.vw] /\ Cx p W S b1 b2 b3
theorem Cx.mono {p : Pg} {W W' : World} {S S' : Nat -> Prop} {a1 a2 a3 : Option Addr} (h : Cx p W S a1 a2 a3) (hs : cr W S W' S') : Cx p W' S' a1 a2 a3 := ⟨h.1.mono hs, h.2.1.mono hs, h.2.2.mono hs⟩
def SZ (p : Pg) : FK := ⟨fun cs W S => Y3 p cs W S, fun hs ⟨b1, b2, b3, d1, d2, d3, h1, h2⟩ => ⟨b1, b2, b3, d1, d2, d3, h1, h2.mono hs⟩⟩
theorem LB {W : World} {S : Nat -> Prop} {ao : Option Addr} {vs : List Value} {n sz : Nat} (h : ej W S ao vs) (hl : n * sz = vs.length) (hne : vs ≠ []) : ∃ b o, ao = some ⟨b, o, none⟩ /\ S b /\ bA W b o (n * sz) = List.map SV.v vs /\ cM W b o (n * sz) = True := by
 rcases h with h | ⟨b, o, rfl, hc⟩
 ·exact absurd h hne
 ·have h0 := hc 0 (by cases vs with | nil => exact absurd rfl hne | cons => simp)
  have := qf (w := W) (b := b) vs o fun j hj => (hc j hj).2
  rw [hl]
  exact ⟨b, o, rfl, h0.1, this.1, eq_true this.2⟩
theorem N5 (l : List ByteArray) : (fC l).length = l.length := by simp [fC]
theorem WT (l : List Value) (h : ∀ v ∈ l, v.oneCell' = true) : (List.map SV.v l).all cq = true := by
 rw [List.all_eq_true]
 intro x hx
 obtain ⟨v, hv, rfl⟩ := List.mem_map.1 hx
 exact h v hv
theorem oJ (l : List ByteArray) : (List.map SV.v (fC l)).all cq = true := WT _ fun v hv => by
 obtain ⟨s, _, rfl⟩ := List.mem_map.1 hv; rfl
theorem yd (l : List (Int × Int × Int × Int)) (k : Nat) (hk : k < l.length) : List.map SV.v (jR (l.take k)) ++ [.v (.int .i64 l[k].1), .v (.int .i64 l[k].2.1), .v (.int .i64 l[k].2.2.1), .v (.int .i64 l[k].2.2.2)] = List.map SV.v (jR (l.take (k + 1))) := by
 rw [List.take_succ_eq_append_getElem hk]
 unfold jR
 rw [List.flatMap_append, List.map_append]
 rfl
theorem mN {α : Type} {l : List α} (h : l = []) : (l.length == 0) = true := by subst h; rfl
theorem oP {α : Type} {l : List α} (h : l ≠ []) : (l.length == 0) = false := by
 cases l with
 | nil => exact absurd rfl h
 | cons x r => rfl
theorem sG {G : Nat -> Prop} {W W' : World} {bs bs' : List Nat} {ao : Option Addr} {vs : List Value} (hu : Up G W bs) (h : ej W' (Us W bs bs') ao vs) : ej W' (eY G bs') ao vs := h.out fun b hb => ⟨hu b hb.2, hb.1⟩
theorem Ai {G : Nat -> Prop} {W W' : World} {bs bs' : List Nat} (hx : Ext W bs W' bs') : cr W (eY G bs) W' (eY G bs') := fun b hb hr => ⟨(hx.gT b hb hr.2).1, hr.1, (hx.gT b hb hr.2).2⟩
theorem sL {W : World} {ao : Option Addr} {l : List ByteArray} (h : ej W (Out []) ao (fC l)) (hne : l ≠ []) : ∃ b o, ao = some ⟨b, o, none⟩ /\ bA W b o l.length = List.map SV.v (fC l) /\ cM W b o l.length = True := by
 obtain ⟨b, o, h1, _, h2, h3⟩ := LB (n := l.length) (sz := 1) h (by rw [N5]; omega) (by intro h0; apply hne; simpa [fC] using h0)
 rw [Nat.mul_one] at h2 h3
 exact ⟨b, o, h1, h2, h3⟩
def eu := (aq @List.replicate_succ.{0} @List.replicate_zero.{0} @aw @ah jS jP Mv (aq Mq Mr jn cQ cV cX cS (aq da c9 c8 db eW eV eX (aq eZ e8 e9 C7 Dq B6 B7 (aq Ys Yf Ya X6 WJ Xe Wx (aq Xr Xn Xz Wt Xd Xl K5 (aq Ld LY Mb BX Dd Bi Ck (aq BH BK BP Ce Ct SQ RJ (aq SN Te PM Nr Nn OK P8 (aq PN Oe Nb OI C1 BF Dt (aq CC Dh B3 Dw Cn rK WE (aq Wm Xs Xi WA WG Wn WM (aq WH H3 Hc IF HS Ih Hz (Ci IB HT IX @aO @au @aB @aC))))))))))))))
set_option maxHeartbeats 4000000 in
theorem Bp (p : Pg) (a1 a2 a3 : Option Addr) (c1 c2 c3 : Nat) (w : World) (S : Nat -> Prop) (h1 : p.ty.length <= 1048576) (h2 : p.tx.length <= 1048576) (h3 : p.co.length <= 1048576) (hp : oM p w a1 a2 a3) :
  Calls Tryz.prog 12 #[DA p a1 a2 a3 c1 c2 c3] w fun e w' => l4 w S e w' (.fact Sh.wy (SZ p)) := by
 have hx := hp.x
 refine eD (nt := 46) S [.cell 2 29] Tryz.func12 rfl rfl rfl ?_
 refine vR Γ0 eu ?_
 refine bx ⟨60, bV [(1, .is (.own 0 0)), (2, .is (.own 8 0)), (3, .is (.own 16 0))], cd [(0, .cells 25 [.v (.slice a1 p.ty.length c1), .v (.slice a2 p.tx.length c2), .v (.slice a3 p.co.length c3), .v (.int .i64 p.src), .v (.int .i64 p.vw)]), (8, .cells 29 [.v (.slice none 0 0), .v (.slice none 0 0), .v (.slice none 0 0), .v (.int .i64 0), .v (.int .i64 0)]), (16, .cells 29 [.hd 17, .hd 18, .v (.slice none 0 0), .v (.int .i64 p.src), .v (.int .i64 p.vw)]), (17, .row 9 1 p.ty.length (List.map SV.v (fC p.ty))), (18, .row 9 1 p.tx.length (List.map SV.v (fC p.tx)))]⟩ ?_ ?_
 ·by_cases e1 : p.ty = []
  ·by_cases e2 : p.tx = []
   ·have k1 := mN e1
    have k2 := mN e2
    refine rX Γ0 (dk eu k1 k2) ?_ ?_
    ·exact ⟨by rw [e1]; rfl, by rw [e2]; rfl⟩
    exact wM (fun k => if k = 16 then .key 120 else if k = 17 then .key 16 else if k = 18 then .key 48 else .key k) (fj eu e1 e2 @fC.eq_1)
   ·have k1 := mN e1
    have k2 := oP e2
    obtain ⟨b2, o2, rfl, x2, y2⟩ := sL hx.2.1 e2
    refine rX Γ0 (p8 eu k1 k2 x2 y2) ?_ ?_
    ·exact ⟨by rw [e1]; rfl, by unfold maxLen; omega, by omega, oJ _⟩
    exact wM (fun k => if k = 16 then .key 120 else if k = 17 then .key 16 else if k = 18 then .key 72 else .key k) (fj eu e1 @fC.eq_1 @a8)
  ·by_cases e2 : p.tx = []
   ·have k1 := oP e1
    have k2 := mN e2
    obtain ⟨b1, o1, rfl, x1, y1⟩ := sL hx.1 e1
    refine rX Γ0 (p8 eu k1 k2 x1 y1) ?_ ?_
    ·exact ⟨⟨by unfold maxLen; omega, by omega, oJ _⟩, by rw [e2]; rfl⟩
    exact wM (fun k => if k = 16 then .key 120 else if k = 17 then .key 40 else if k = 18 then .key 48 else .key k) (fj eu e2 @fC.eq_1 @a8)
   ·have k1 := oP e1
    have k2 := oP e2
    obtain ⟨b1, o1, rfl, x1, y1⟩ := sL hx.1 e1
    obtain ⟨b2, o2, rfl, x2, y2⟩ := sL hx.2.1 e2
    refine rX Γ0 (Ci eu k1 k2 x1 y1 x2 y2) ?_ ?_
    ·exact ⟨⟨by unfold maxLen; omega, by omega, oJ _⟩, by unfold maxLen; omega, by omega, oJ _⟩
    exact wM (fun k => if k = 16 then .key 120 else if k = 17 then .key 40 else if k = 18 then .key 72 else .key k) eu
 refine Wp.seq ?_
 refine vR Γ0 eu ?_
 refine Wp.block ?_
 refine Wp.loop (fun k : Nat => ⟨80, bV [(1, .is (.own 0 0)), (2, .is (.own 8 0)), (3, .is (.own 16 0)), (4, .is (.v (.int .i64 (k : Nat))))], cd [(0, .cells 25 [.v (.slice a1 p.ty.length c1), .v (.slice a2 p.tx.length c2), .v (.slice a3 p.co.length c3), .v (.int .i64 p.src), .v (.int .i64 p.vw)]), (8, .cells 29 [.v (.slice none 0 0), .v (.slice none 0 0), .v (.slice none 0 0), .v (.int .i64 0), .v (.int .i64 0)]), (16, .cells 29 [.hd 17, .hd 18, .hd 19, .v (.int .i64 p.src), .v (.int .i64 p.vw)]), (17, .row 9 1 p.ty.length (List.map SV.v (fC p.ty))), (18, .row 9 1 p.tx.length (List.map SV.v (fC p.tx))), (19, .row 50 4 k (List.map SV.v (jR (p.co.take k))))]⟩) (fun k => k <= p.co.length) (fun k => p.co.length - k) 0 ?_ (Nat.zero_le _) ?_
 ·exact wM (fun k => if k = 19 then .nil else .key k) (fj eu @a8 @jR.eq_1 @List.flatMap_nil.{0,0})
 intro k hk
 refine Wp.seq ?_
 refine vR Γ0 eu ?_
 refine wC eu (fun hc => ?_) (fun hc => ?_)
 ·have hlt : k < p.co.length := by
   simp at hc
   omega
  have wk : IntKind.i64.wrap ((k : Int) + 1) = ((k + 1 : Nat) : Int) := by rw [aa (by omega) (by omega)]; omega
  obtain ⟨b, o, rfl, x1, x2, x3, x4⟩ := jy hp.co hlt
  have hsn := yd p.co k hlt
  refine wK ?_
  refine Wp.seq (Wp.block ?_)
  refine wR Γ0 (p8 eu x1 x2 x3 x4) ?_ ?_
  ·omega
  refine wr Γ0 (ab eu hsn) ?_ ?_
  ·exact ⟨by unfold maxLen; omega, by omega⟩
  refine vr Γ0 (ab eu wk) ?_
  refine ⟨k + 1, by omega, by omega, ?_⟩
  exact wM (fun k => if k = 19 then .key 832 else .key k) eu
 ·have hk' : k = p.co.length := by
   simp at hc
   omega
  subst hk'
  rw [List.take_length]
  have up := cF.up w S
  refine wE ?_
  refine Wp.ku 17 (ev (ab eu @az)) (fun E => by simp only [an, den, az]; exact rfl) fun W1 bs1 ao1 d1 hx1 hs1 hd1 => ?_
  refine Wp.ku 18 (ev (ab eu @az)) (fun E => by simp only [an, den, az]; exact rfl) fun W2 bs2 ao2 d2 hx2 hs2 hd2 => ?_
  refine Wp.ku 19 (ev (ab eu @az)) (fun E => by simp only [an, den, az]; exact rfl) fun W3 bs3 ao3 d3 hx3 hs3 hd3 => ?_
  have r1 : ej W3 (eY (cF w S) bs3) ao1 (fC p.ty) := ((sG up hs1).mono (Ai hx2)).mono (Ai hx3)
  have r2 : ej W3 (eY (cF w S) bs3) ao2 (fC p.tx) := (sG (up.ext hx1) hs2).mono (Ai hx3)
  have r3 : ej W3 (eY (cF w S) bs3) ao3 (jR p.co) := sG ((up.ext hx1).ext hx2) hs3
  refine vR Γ0 eu ?_
  refine wZ eu ?_
  exact ⟨[.slice ao1 p.ty.length d1, .slice ao2 p.tx.length d2, .slice ao3 p.co.length d3, .int .i64 p.src, .int .i64 p.vw], fun E => rfl, ao1, ao2, ao3, d1, d2, d3, rfl, r1, r2, r3⟩
theorem HK {w W1 : World} {bs1 : List Nat} {S : Nat -> Prop} {ao : Option Addr} {vs : List Value} (h : ej w S ao vs) (hx : Ext w [] W1 bs1) : ej W1 (eY (cF w S) bs1) ao vs :=
 h.mono fun b hb hs => ⟨(hx.gT b hb (by simp [Out])).1, fun _ => hs, (hx.gT b hb (by simp [Out])).2⟩
set_option maxHeartbeats 4000000 in
theorem RS (p : Pg) (a1 a2 a3 : Option Addr) (c1 c2 c3 : Nat) (w : World) (S : Nat -> Prop) (h3 : p.co.length <= 1048576) (hp : oM p w a1 a2 a3) (hpx : Cx p w S a1 a2 a3) :
  Calls Tryz.prog 14 #[DA p a1 a2 a3 c1 c2 c3] w fun e w' => l4 w S e w' (.fact Sh.wy (SZ p)) := by
 refine eD (nt := 42) S [.cell 2 35] Tryz.func14 rfl rfl rfl ?_
 refine vR Γ0 eu ?_
 refine vR Γ0 eu ?_
 refine Wp.seq ?_
 refine vR Γ0 eu ?_
 refine Wp.block ?_
 refine Wp.loop (fun k : Nat => ⟨80, bV [(1, .is (.own 0 0)), (2, .is (.own 8 0)), (3, .is (.own 16 0)), (4, .is (.v (.int .i64 (k : Nat))))], cd [(0, .cells 25 [.v (.slice a1 p.ty.length c1), .v (.slice a2 p.tx.length c2), .v (.slice a3 p.co.length c3), .v (.int .i64 p.src), .v (.int .i64 p.vw)]), (8, .cells 35 [.v (.slice none 0 0), .v (.slice none 0 0), .v (.slice none 0 0), .v (.int .i64 0), .v (.int .i64 0)]), (16, .cells 35 [.v (.slice a1 p.ty.length c1), .v (.slice a2 p.tx.length c2), .hd 19, .v (.int .i64 p.src), .v (.int .i64 p.vw)]), (19, .row 85 4 k (List.map SV.v (jR (p.co.take k))))]⟩) (fun k => k <= p.co.length) (fun k => p.co.length - k) 0 ?_ (Nat.zero_le _) ?_
 ·exact wM (fun k => if k = 16 then .key 88 else if k = 19 then .nil else .key k) (fj eu @a8 @jR.eq_1 @List.flatMap_nil.{0,0})
 intro k hk
 refine Wp.seq ?_
 refine vR Γ0 eu ?_
 refine wC eu (fun hc => ?_) (fun hc => ?_)
 ·have hlt : k < p.co.length := by
   simp at hc
   omega
  have wk : IntKind.i64.wrap ((k : Int) + 1) = ((k + 1 : Nat) : Int) := by rw [aa (by omega) (by omega)]; omega
  obtain ⟨b, o, rfl, x1, x2, x3, x4⟩ := jy hp.co hlt
  have hsn := yd p.co k hlt
  refine wK ?_
  refine Wp.seq (Wp.block ?_)
  refine wR Γ0 (p8 eu x1 x2 x3 x4) ?_ ?_
  ·omega
  refine wr Γ0 (ab eu hsn) ?_ ?_
  ·exact ⟨by unfold maxLen; omega, by omega⟩
  refine vr Γ0 (ab eu wk) ?_
  refine ⟨k + 1, by omega, by omega, ?_⟩
  exact wM (fun k => if k = 19 then .key 832 else .key k) eu
 ·have hk' : k = p.co.length := by
   simp at hc
   omega
  subst hk'
  rw [List.take_length]
  have up := cF.up w S
  refine wE ?_
  refine Wp.ku 19 (ev (ab eu @az)) (fun E => by simp only [an, den, az]; exact rfl) fun W1 bs1 ao3 d3 hx1 hs3 hd3 => ?_
  have r3 : ej W1 (eY (cF w S) bs1) ao3 (jR p.co) := sG up hs3
  refine vR Γ0 eu ?_
  refine wZ eu ?_
  exact ⟨[.slice a1 p.ty.length c1, .slice a2 p.tx.length c2, .slice ao3 p.co.length d3, .int .i64 p.src, .int .i64 p.vw], fun E => rfl, a1, a2, ao3, c1, c2, d3, rfl, HK hpx.1 hx1, HK hpx.2.1 hx1, r3⟩
theorem Cx.is {p : Pg} {w : World} {S : Nat -> Prop} {a1 a2 a3 : Option Addr} (h : Cx p w S a1 a2 a3) (hb : PgB p) : oM p w a1 a2 a3 := ⟨hb, h.1.is, h.2.1.is, h.2.2.is⟩
section
variable (p : Pg) (a1 a2 a3 : Option Addr) (c1 c2 c3 : Nat) (hb : PgB p) (hn : p.ty.length <= 1048576 /\ p.tx.length <= 1048576 /\ p.co.length <= 1048576)
def tV : j8 Tryz.prog 12 where
 kinds := [none]
 pre := fun as_ W S => as_ = [.val (DA p a1 a2 a3 c1 c2 c3)] /\ Cx p W S a1 a2 a3
 premono := fun as_ W S W' S' hs h => ⟨h.1, h.2.mono hs⟩
 out := fun _ => .fact Sh.wy (SZ p)
 enters := Tryz.call12
 ok := by
  intro w S us as_ hg hp
  obtain ⟨rfl, h1⟩ := hp
  match us, hg with
  | [x], hg =>
   obtain ⟨rfl, _⟩ := hg
   exact Bp p a1 a2 a3 c1 c2 c3 w S hn.1 hn.2.1 hn.2.2 (h1.is hb)
def U8 : j8 Tryz.prog 14 where
 kinds := [none]
 pre := fun as_ W S => as_ = [.val (DA p a1 a2 a3 c1 c2 c3)] /\ Cx p W S a1 a2 a3
 premono := fun as_ W S W' S' hs h => ⟨h.1, h.2.mono hs⟩
 out := fun _ => .fact Sh.wy (SZ p)
 enters := Tryz.call14
 ok := by
  intro w S us as_ hg hp
  obtain ⟨rfl, h1⟩ := hp
  match us, hg with
  | [x], hg =>
   obtain ⟨rfl, _⟩ := hg
   exact RS p a1 a2 a3 c1 c2 c3 w S hn.2.2 (h1.is hb) h1
end
end
section
open Go.RowKit Go.LE
set_option maxRecDepth 10000
def oK := (aq @List.replicate_succ.{0} @List.replicate_zero.{0} @aw @ah jS jP jn (aq cQ cV cX cS da c9 c8 (aq db eW eV eX eZ e8 e9 (aq C7 Dq B6 B7 K5 Ld LY (aq Mb BX Dd Bi Ck BH BK (aq BP Ce Ct SQ RJ SN Te (aq PM Nr Nn OK P8 PN Oe (aq Nb OI C1 BF Dt CC Dh (aq B3 Dw Cn rK H3 Hc IF (aq HS Ih Hz IB HT IX @aO (dk @au @aB @aC)))))))))))
set_option maxHeartbeats 2000000 in
theorem K8 (l : List ByteArray) (a b : Option Addr) (c d : Nat) (hl : l.length <= 140737488351232) (w : World) (ha : jA w a (fC l)) (hb : jA w b (fC l)) : Calls Tryz.prog 35 #[.slice a l.length c, .slice b l.length d] w fun e w' => e = .returned (.bool true) /\ ai w [] w' := by
 refine al (nt := 26) [.tmp 4] Tryz.func35 rfl rfl rfl ?_
 refine vR Γ0 oK ?_
 refine Wp.seq ?_
 refine vR Γ0 oK ?_
 refine wC oK (fun hc => ?_) (fun hc => ?_)
 ·exact absurd hc (by simp)
 refine wK ?_
 refine Wp.seq ?_
 refine vR Γ0 oK ?_
 refine Wp.block ?_
 refine Wp.loop (fun k : Nat => ⟨20, bV [(0, .is (.v (.slice a l.length c))), (1, .is (.v (.slice b l.length d))), (5, .is (.v (.int .i64 (k : Nat))))], cd []⟩) (fun k => k <= l.length) (fun k => l.length - k) 0 ?_ (Nat.zero_le _) ?_
 ·exact wM (fun k => .key k) oK
 intro k hk
 refine Wp.seq ?_
 refine vR Γ0 oK ?_
 refine wC oK (fun hc => ?_) (fun hc => ?_)
 ·have hlt : k < l.length := by
   simp at hc
   omega
  have wk : IntKind.i64.wrap ((k : Int) + 1) = ((k + 1 : Nat) : Int) := by rw [aa (by omega) (by omega)]; omega
  obtain ⟨b1, o1, rfl, hx⟩ := km ha hlt
  obtain ⟨b2, o2, rfl, hy⟩ := km hb hlt
  refine wK ?_
  refine Wp.seq (Wp.block ?_)
  refine kY Γ0 (dk oK hx hy) ?_ ?_
  ·omega
  refine wC oK (fun hc => ?_) (fun hc => ?_)
  ·exact absurd hc (by simp)
  refine wK ?_
  refine vr Γ0 (ab oK wk) ?_
  refine ⟨k + 1, by omega, by omega, ?_⟩
  exact wM (fun k => .key k) oK
 ·refine wE ?_
  refine vR Γ0 oK ?_
  refine wZ oK ?_
  exact fun E => rfl
def Gj : a7 Tryz.prog 35 where
 pre := fun W bs as_ => ∃ (l : List ByteArray) (a b : Option Addr) (c d : Nat), as_ = [.val (.slice a l.length c), .val (.slice b l.length d)] /\ l.length <= 140737488351232 /\ ej W (Out bs) a (fC l) /\ ej W (Out bs) b (fC l)
 res := fun _ _ => .bool true
 enters := Tryz.call35
 ok := by
  intro W w bs us as_ hk hu hp
  obtain ⟨l, a, b, c, d, rfl, hl, h1, h2⟩ := hp
  match us, hu with
  | [x, y], hu =>
   obtain ⟨rfl, rfl, _⟩ := hu
   exact K8 l a b c d hl w (eM h1 hk) (eM h2 hk)
theorem Ei (W : World) (l : List AV) : Gj.res W l = .bool true := rfl
noncomputable def Γ94 : Env Tryz.prog := ⟨fun | 35 => some Gj.spec | _ => none, fun | _ => none, fun _ _ => none⟩
theorem Gt94c35 : Γ94.sp 35 = some Gj.spec := rfl
def pE := (dk oK Gt94c35 @Ei)
set_option maxHeartbeats 8000000 in
theorem M3 (p : Pg) (a1 a2 a3 b1 b2 b3 : Option Addr) (c1 c2 c3 d1 d2 d3 : Nat) (w : World) (hp : oM p w a1 a2 a3) (hd : oM p w b1 b2 b3) : Calls Tryz.prog 16 #[DA p a1 a2 a3 c1 c2 c3, DA p b1 b2 b3 d1 d2 d3] w fun e w' => e = .returned (.bool true) /\ ai w [] w' := by
 have h3 := hp.l3
 have hx := hp.x
 have hy := hd.x
 refine al (nt := 88) [.tmp 4] Tryz.func16 rfl rfl rfl ?_
 refine vR Γ94 pE ?_
 refine Wp.seq ?_
 refine wR Γ94 pE ?_ ?_
 ·exact ⟨⟨p.ty, _, _, _, _, rfl, hp.l1, hx.1, hy.1⟩, ⟨p.tx, _, _, _, _, rfl, hp.l2, hx.2.1, hy.2.1⟩, ⟨_, rfl⟩, _, rfl⟩
 refine wC pE (fun hc => ?_) (fun hc => ?_)
 ·exact absurd hc (by simp)
 refine wK ?_
 refine Wp.seq ?_
 refine vR Γ94 pE ?_
 refine Wp.block ?_
 refine Wp.loop (fun k : Nat => ⟨90, bV [(2, .is (.own 0 0)), (3, .is (.own 8 0)), (5, .is (.v (.int .i64 (k : Nat))))], cd [(0, .cells 29 [.v (.slice a1 p.ty.length c1), .v (.slice a2 p.tx.length c2), .v (.slice a3 p.co.length c3), .v (.int .i64 p.src), .v (.int .i64 p.vw)]), (8, .cells 35 [.v (.slice b1 p.ty.length d1), .v (.slice b2 p.tx.length d2), .v (.slice b3 p.co.length d3), .v (.int .i64 p.src), .v (.int .i64 p.vw)])]⟩) (fun k => k <= p.co.length) (fun k => p.co.length - k) 0 ?_ (Nat.zero_le _) ?_
 ·exact wM (fun k => .key k) pE
 intro k hk
 refine Wp.seq ?_
 refine vR Γ94 pE ?_
 refine wC pE (fun hc => ?_) (fun hc => ?_)
 ·have hlt : k < p.co.length := by
   simp at hc
   omega
  have wk : IntKind.i64.wrap ((k : Int) + 1) = ((k + 1 : Nat) : Int) := by rw [aa (by omega) (by omega)]; omega
  obtain ⟨b, o, rfl, x1, x2, x3, x4⟩ := jy hp.co hlt
  obtain ⟨b', o', rfl, y1, y2, y3, y4⟩ := jy hd.co hlt
  generalize p.co[k] = x at *
  refine wK ?_
  refine Wp.seq (Wp.block ?_)
  refine kY Γ94 (aq pE x1 x2 x3 x4 y1 y2 (ab y3 y4)) ?_ ?_
  ·omega
  refine vR Γ94 pE ?_
  refine wC pE (fun hc => ?_) (fun hc => ?_)
  ·exact absurd hc (by simp)
  refine wK ?_
  refine vr Γ94 (ab pE wk) ?_
  refine ⟨k + 1, by omega, by omega, ?_⟩
  exact wM (fun k => .key k) pE
 ·refine wE ?_
  refine vR Γ94 pE ?_
  refine wZ pE ?_
  exact fun E => rfl
end
section
open Go.RowKit Go.LE
set_option maxRecDepth 10000
noncomputable def Γ93 : Env Tryz.prog := ⟨fun | 30 => some ze.spec | 31 => some nj.spec | 32 => some sr.spec | _ => none, fun | _ => none, fun _ _ => none⟩
theorem Gt93c30 : Γ93.sp 30 = some ze.spec := rfl
theorem Gt93c31 : Γ93.sp 31 = some nj.spec := rfl
theorem Gt93c32 : Γ93.sp 32 = some sr.spec := rfl
def Ow (q : Int × Int × ByteArray) : Value := .tuple #[.int .i64 q.1, .int .i64 q.2.1, .string q.2.2]
def fg := (aq @List.replicate_succ.{0} @List.replicate_zero.{0} @aw @ah jS jP jn (aq cQ cV cX cS da c9 c8 (aq db eW eV eX eZ e8 e9 (aq C7 Dq B6 B7 SQ RJ SN (aq Te PM Nr Nn OK P8 PN (aq Oe Nb OI H3 Hc IF HS (aq Ih Hz IB HT IX @aO @au (aq @aB @aC @me @mE @Cw @Df @E8 (fj @GZ Gt93c30 Gt93c31 Gt93c32)))))))))
set_option maxHeartbeats 8000000 in
theorem Ez (p : Pg) (a1 a2 a3 : Option Addr) (c1 c2 c3 : Nat) (w : World) (hp : oM p w a1 a2 a3) : Calls Tryz.prog 13 #[DA p a1 a2 a3 c1 c2 c3] w fun e w' => e = .returned (Ow (jT p)) /\ ai w [] w' := by
 have h1 := hp.l1
 have h3 := hp.l3
 refine al (nt := 70) [.tmp 2, .tmp 3, .tmp 4] Tryz.func13 rfl rfl rfl ?_
 refine vR Γ93 fg ?_
 refine Wp.seq ?_
 refine wR Γ93 fg ?_ ?_
 ·exact ⟨⟨_, rfl⟩, fun _ => ⟨_, rfl⟩, fun _ => ⟨_, rfl⟩⟩
 refine wC fg (fun hc => ?_) (fun hc => ?_)
 ·have h : (131072 < p.ty.length \/ 131072 < p.tx.length) \/ 131072 < p.co.length := by
   simp at hc
   omega
  have e : jT p = (24, 0, ⟨#[]⟩) := by rw [jT, if_pos h]
  rw [e]
  refine vR Γ93 fg ?_
  refine wZ fg ?_
  exact fun E => rfl
 have h : ¬ ((131072 < p.ty.length \/ 131072 < p.tx.length) \/ 131072 < p.co.length) := by
  simp at hc
  omega
 have e0 : jT p = match ee (nE p) p.ty.length 0 with
  | some i => (110, (i : Int), ⟨#[]⟩)
  | none => jf p := by rw [jT, if_neg h]; all_goals rfl
 rw [e0]
 refine wK ?_
 refine iK (fun _ : Unit => ⟨100, bV [(1, .is (.own 0 0))], cd [(0, .cells 35 [.v (.slice a1 p.ty.length c1), .v (.slice a2 p.tx.length c2), .v (.slice a3 p.co.length c3), .v (.int .i64 p.src), .v (.int .i64 p.vw)])]⟩) (fun _ => w) (fun _ => []) (fun _ => ee (nE p) p.ty.length 0 = none) ?_ ?_
 ·skip
  refine vR Γ93 fg ?_
  refine Wp.block ?_
  refine Wp.loop (fun k : Nat => ⟨40, bV [(1, .is (.own 0 0)), (5, .is (.v (.int .i64 (k : Nat))))], cd [(0, .cells 35 [.v (.slice a1 p.ty.length c1), .v (.slice a2 p.tx.length c2), .v (.slice a3 p.co.length c3), .v (.int .i64 p.src), .v (.int .i64 p.vw)])]⟩) (fun k => k <= p.ty.length /\ ∀ i < k, nE p i = false) (fun k => p.ty.length - k) 0 ?_ ⟨Nat.zero_le _, fun i h => by omega⟩ ?_
  ·exact wM (fun k => .key k) fg
  rintro k ⟨hk, hn⟩
  refine Wp.seq ?_
  refine vR Γ93 fg ?_
  refine wC fg (fun hc => ?_) (fun hc => ?_)
  ·have hlt : k < p.ty.length := by
    simp at hc
    omega
   have wk : IntKind.i64.wrap ((k : Int) + 1) = ((k + 1 : Nat) : Int) := by rw [aa (by omega) (by omega)]; omega
   obtain ⟨b, o, rfl, x1⟩ := km hp.ty hlt
   have hsz := hp.sz _ (List.getElem_mem hlt)
   have hbad : nE p k = !ya p.ty[k] := by
    rw [nE, List.getD_eq_getElem?_getD, List.getElem?_eq_getElem hlt]; rfl
   generalize p.ty[k] = x at *
   refine wK ?_
   refine Wp.seq (Wp.block ?_)
   refine wR Γ93 (ab fg x1) ?_ ?_
   ·exact ⟨by omega, hsz⟩
   refine wC fg (fun hc => ?_) (fun hc => ?_)
   ·rw [nu (nE p) p.ty.length k hlt hn (hbad.trans hc)]
    refine vR Γ93 fg ?_
    refine wZ fg ?_
    exact fun E => rfl
   ·refine wK ?_
    refine vr Γ93 (ab fg wk) ?_
    refine ⟨k + 1, ⟨by omega, fun i hi => ?_⟩, by omega, ?_⟩
    ·by_cases h : i = k
     ·rw [h]; exact hbad.trans hc
     ·exact hn i (by omega)
    ·exact wM (fun k => .key k) fg
  ·have hk' : k = p.ty.length := by
    simp at hc
    omega
   refine wE ?_
   refine ⟨(), gW (nE p) p.ty.length (by rw [<- hk']; exact hn), rfl, rfl, ?_⟩
   exact wM (fun k => .key k) fg
 refine fun _ hnone _ => ?_
 rw [hnone]
 refine Wp.seq ?_
 refine wR Γ93 fg ?_ ?_
 ·exact ⟨⟨_, rfl⟩, fun _ => ⟨_, rfl⟩⟩
 refine wC fg (fun hc => ?_) (fun hc => ?_)
 ·have e : jf p = (111, 0, NO) := by rw [jf, if_pos hc]
  rw [e]
  refine vR Γ93 fg ?_
  refine wZ fg ?_
  exact fun E => rfl
 have e1 : jf p = match ee (nY p) p.co.length 0 with
  | some i => (111, (i : Int), ⟨#[]⟩)
  | none => (0, 0, ⟨#[]⟩) := by rw [jf, if_neg (by rw [hc]; simp)]; all_goals rfl
 rw [e1]
 refine wK ?_
 refine Wp.seq ?_
 refine vR Γ93 fg ?_
 refine Wp.block ?_
 refine Wp.loop (fun k : Nat => ⟨140, bV [(1, .is (.own 0 0)), (6, .is (.v (.int .i64 (k : Nat))))], cd [(0, .cells 35 [.v (.slice a1 p.ty.length c1), .v (.slice a2 p.tx.length c2), .v (.slice a3 p.co.length c3), .v (.int .i64 p.src), .v (.int .i64 p.vw)])]⟩) (fun k => k <= p.co.length /\ ∀ i < k, nY p i = false) (fun k => p.co.length - k) 0 ?_ ⟨Nat.zero_le _, fun i h => by omega⟩ ?_
 ·exact wM (fun k => .key k) fg
 rintro k ⟨hk, hn⟩
 refine Wp.seq ?_
 refine vR Γ93 fg ?_
 refine wC fg (fun hc => ?_) (fun hc => ?_)
 ·have hlt : k < p.co.length := by
   simp at hc
   omega
  have wk : IntKind.i64.wrap ((k : Int) + 1) = ((k + 1 : Nat) : Int) := by rw [aa (by omega) (by omega)]; omega
  obtain ⟨b, o, rfl, x1, x2, x3, x4⟩ := jy hp.co hlt
  have hbad : nY p k = !lr p.ty.length p.tx.length p.co.length p.co[k].1 p.co[k].2.1 p.co[k].2.2.1 p.co[k].2.2.2 := by
   rw [nY, List.getD_eq_getElem?_getD, List.getElem?_eq_getElem hlt]; rfl
  generalize p.co[k] = x at *
  refine wK ?_
  refine Wp.seq (Wp.block ?_)
  refine kY Γ93 (p8 fg x1 x2 x3 x4) ?_ ?_
  ·omega
  refine wC fg (fun hc => ?_) (fun hc => ?_)
  ·rw [nu (nY p) p.co.length k hlt hn (hbad.trans hc)]
   refine vR Γ93 fg ?_
   refine wZ fg ?_
   exact fun E => rfl
  ·refine wK ?_
   refine vr Γ93 (ab fg wk) ?_
   refine ⟨k + 1, ⟨by omega, fun i hi => ?_⟩, by omega, ?_⟩
   ·by_cases h : i = k
    ·rw [h]; exact hbad.trans hc
    ·exact hn i (by omega)
   ·exact wM (fun k => .key k) fg
 ·have hk' : k = p.co.length := by
   simp at hc
   omega
  rw [gW (nY p) p.co.length (by rw [<- hk']; exact hn)]
  refine wE ?_
  refine vR Γ93 fg ?_
  refine wZ fg ?_
  exact fun E => rfl
end
end Go.Proofs.YtnemkecffmdlnaaGreatDoor
