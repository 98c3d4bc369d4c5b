/-
  LE, the engine, part 20: contracts: what a call of a walked function comes to; callees that only read.
-/
import Derived.Test.YtoglkgbjehbcpaaE19
namespace Go.LE
open Go.RowKit
set_option linter.unusedSimpArgs false
set_option linter.unusedVariables false

/-- the arguments, in the first slots -/
def argL : List Value → Nat → List (Nat × FV)
  | [], _ => []
  | x :: r, i => (i, .is (.v x)) :: argL r (i + 1)
theorem argL_nil (i : Nat) : argL [] i = [] := rfl
theorem argL_cons (x : Value) (r : List Value) (i : Nat) : argL (x :: r) i = (i, .is (.v x)) :: argL r (i + 1) := rfl

def σ0 (args : List Value) : St := ⟨0, frL (argL args 0), hpL []⟩

theorem argL_keys : ∀ (l : List Value) (i t : Nat), (frL (argL l i) t).keys = []
  | [], _, _ => rfl
  | x :: r, i, t => by
    simp only [argL, frL, upd]
    split
    · rfl
    · exact argL_keys r (i + 1) t
theorem argL_fits (E : Nat → Value) : ∀ (l : List Value) (i t : Nat) (tm : Nat → Value), (∀ j (h : j < l.length), tm (i + j) = l[j]) → fits E (frL (argL l i) t) (tm t)
  | [], _, _, _, _ => trivial
  | x :: r, i, t, tm, h => by
    simp only [argL, frL, upd]
    split
    · rename_i ht
      subst ht
      have := h 0 (by simp)
      simpa [fits, den] using this
    · exact argL_fits E r (i + 1) t tm fun j hj => by
        have := h (j + 1) (by simpa using hj)
        rw [show i + 1 + j = i + (j + 1) by omega]
        simpa using this

theorem sat_entry {w : World} {nt m : Nat} (args : Array Value) (hnt : args.size + m = nt) :
    Sat w [] nt ⟨[], []⟩ (σ0 args.toList) { tmps := args ++ Array.replicate m undef, defers := [] } w := by
  refine ⟨⟨fun _ => undef, fun _ => [], fun t => ?_, ⟨fun k e h => (by cases h), fun k e h => (by cases h), fun k e h => (by cases h), fun k k' e e' _ h => (by cases h), Keeps.refl w []⟩, fun p hp => (by cases hp)⟩, by simpa using hnt, rfl, fun p hp => (by cases hp), fun t k hk => ?_, fun k e h => (by cases h)⟩
  · refine argL_fits _ args.toList 0 t (fun t => (args ++ Array.replicate m undef).getD t undef) fun j hj => ?_
    have hj' : j < args.size := by simpa using hj
    rw [Nat.zero_add, Array.getD_eq_getD_getElem?, Array.getElem?_append_left hj', Array.getElem?_eq_getElem hj']
    rfl
  · simp only [σ0, argL_keys] at hk; cases hk

section
variable {P : Program} {f : FuncId} {fn : Func} {c : Code} {args : Array Value} {w : World} {nt : Nat}

theorem calls_pure {v : Value} (rs : List ResultVar) (hf : P.funcs[f]? = some fn) (hb : fn.body = some c) (hrs : fn.results.toList = rs) (hnt : args.size + (fn.ntmps - args.size) = nt)
    (h : Wp P w [] nt ⟨[], []⟩ c (Fin P rs (fun _ _ x _ => ∀ E, den E x = v) (fun _ _ => False)) (σ0 args.toList)) :
    Calls P f args w fun e w' => e = .returned v ∧ Keeps w [] w' := by
  subst hrs
  refine (calls_Wp hf hb (sat_entry args hnt) h).mono fun e w' he => ?_
  cases e with
  | returned u =>
    obtain ⟨W', bs', E, F, x, h, hx, hR, rfl, hs, _⟩ := he
    exact ⟨by rw [hR E], hx.keep hs.keeps⟩
  | panicked c => obtain ⟨_, _, _, _, _, _, hf, _⟩ := he; exact hf.elim
  | outgrown => exact he.elim

/-- the new row -/
def RowR (T : TypeId) (s n : Nat) (vs : List Value) (x : SV) (h : Hp) : Prop := 0 < s ∧ ((∃ k, x = .hd k ∧ h k = some (.row T s n (vs.map .v))) ∨ (x = .v nilSl ∧ n = 0 ∧ vs = []))

theorem calls_maker {T : TypeId} {s n : Nat} {vs : List Value} (g : Value → Value) (rs : List ResultVar) (hf : P.funcs[f]? = some fn) (hb : fn.body = some c) (hrs : fn.results.toList = rs) (hnt : args.size + (fn.ntmps - args.size) = nt)
    (h : Wp P w [] nt ⟨[], []⟩ c (Fin P rs (fun _ _ x h => ∃ y, RowR T s n vs y h ∧ ∀ E, den E x = g (den E y)) (fun _ _ => False)) (σ0 args.toList)) :
    Calls P f args w fun e w' => ∃ u fp, e = .returned (g u) ∧ (∀ E', entSat E' u fp w' (.row T s n (vs.map .v))) ∧ (∀ b ∈ fp, w.heap.size ≤ b ∧ b < w'.heap.size) ∧ Keeps w [] w' := by
  subst hrs
  refine (calls_Wp hf hb (sat_entry args hnt) h).mono fun e w' he => ?_
  cases e with
  | returned u =>
    obtain ⟨W', bs', E, F, x, h, hx, ⟨y, ⟨hs0, hR⟩, hg⟩, rfl, hs, _⟩ := he
    rcases hR with ⟨k, rfl, hk⟩ | ⟨rfl, rfl, rfl⟩
    · have hent := hs.ent k _ hk
      refine ⟨E k, F k, by rw [hg E]; simp only [den]; rw [hv_of (entSat_one hent)], fun E' => ?_, fun b hb => ⟨?_, hs.lt k _ hk b hb⟩, hx.keep hs.keeps⟩
      · simpa [entSat, denL_map_v] using hent
      · exact ((hs.back hx).mine k _ hk b hb).resolve_right (by simp)
    · exact ⟨nilSl, [], by rw [hg E]; rfl, fun E' => ⟨⟨by simp [denL], .inl ⟨rfl, rfl⟩⟩, rfl⟩, fun b hb => (by cases hb), hx.keep hs.keeps⟩
  | panicked c => obtain ⟨_, _, _, _, _, _, hf, _⟩ := he; exact hf.elim
  | outgrown => exact he.elim
end

/-! ### Callees that only read -/
/-- an argument as the callee sees it -/
inductive AV where
  | val (v : Value)
  | row (T : TypeId) (s n : Nat) (vs : List Value)

def rowAV (k : Nat) : Option Ent → Option (AV × List Nat)
  | some (.row T s n us) => (valsL us).map fun vs => (.row T s n vs, [k])
  | _ => none
def viewA (h : Hp) : SV → Option (AV × List Nat)
  | .v x => some (.val x, [])
  | .agg l => (valsL l).map fun vs => (.val (.agg vs.toArray), [])
  | .hd k => rowAV k (h k)
  | _ => none
def consV : Option (AV × List Nat) → Option (List AV × List Nat) → Option (List AV × List Nat)
  | some (a, r), some (as_, rs) => some (a :: as_, r ++ rs)
  | _, _ => none
def viewL (h : Hp) : List SV → Option (List AV × List Nat)
  | [] => some ([], [])
  | x :: r => consV (viewA h x) (viewL h r)

/-- the value that stands for an argument in a world -/
def avSat (w : World) (u : Value) : AV → Prop
  | .val v => u = v
  | .row T s n vs => w.ownsRow 0 T s u n vs

def avsSat (w : World) : List Value → List AV → Prop
  | [], [] => True
  | u :: r, a :: s => avSat w u a ∧ avsSat w r s
  | _, _ => False

theorem valsL_den {E : Nat → Value} : ∀ {l : List SV} {vs : List Value}, valsL l = some vs → denL E l = vs
  | [], vs, h => by simp [valsL] at h; subst h; rfl
  | x :: r, vs, h => by
    cases x with
    | v x =>
      simp only [valsL, Option.map_eq_some_iff] at h
      obtain ⟨ws, h1, rfl⟩ := h
      simp [denL, den, valsL_den h1]
    | _ => simp [valsL] at h

section
variable {P : Program} {W : World} {bs : List Nat} {E : Nat → Value} {F : Nat → List Nat} {h : Hp} {w : World}

theorem viewA_sat (hs : HeapSat W bs E F h w) {x : SV} {a : AV} {r : List Nat} (hv : viewA h x = some (a, r)) : avSat w (den E x) a := by
  cases x with
  | v x => simp [viewA] at hv; obtain ⟨rfl, rfl⟩ := hv; rfl
  | agg l =>
    simp only [viewA, Option.map_eq_some_iff, Prod.mk.injEq] at hv
    obtain ⟨vs, h1, rfl, rfl⟩ := hv
    simp [avSat, den, valsL_den h1]
  | hd k =>
    simp only [viewA] at hv
    cases hk : h k with
    | none => rw [hk] at hv; simp [rowAV] at hv
    | some e =>
      cases e with
      | row T s n us =>
        rw [hk] at hv
        simp only [rowAV, Option.map_eq_some_iff, Prod.mk.injEq] at hv
        obtain ⟨vs, h1, rfl, rfl⟩ := hv
        have := hs.ent k _ hk
        simp only [avSat, den]
        rw [hv_of (entSat_one this), ← valsL_den (E := E) h1]
        exact this.1
      | cells T vs => rw [hk] at hv; simp [rowAV] at hv
      | obj d R => rw [hk] at hv; simp [rowAV] at hv
  | own k o => simp [viewA] at hv
  | tup l => simp [viewA] at hv
  | ifc t x => simp [viewA] at hv
  | part k i => simp [viewA] at hv
  | fn f a c => simp [viewA] at hv

theorem viewL_sat (hs : HeapSat W bs E F h w) : ∀ {l : List SV} {as_ : List AV} {r : List Nat}, viewL h l = some (as_, r) → avsSat w (denL E l) as_
  | [], as_, r, hv => by simp [viewL] at hv; obtain ⟨rfl, rfl⟩ := hv; trivial
  | x :: l, as_, r, hv => by
    simp only [viewL] at hv
    cases h1 : viewA h x with
    | none => rw [h1] at hv; simp [consV] at hv
    | some p =>
      cases h2 : viewL h l with
      | none => rw [h1, h2] at hv; simp [consV] at hv
      | some q =>
        obtain ⟨a, ra⟩ := p
        obtain ⟨as', rs⟩ := q
        rw [h1, h2] at hv
        simp only [consV, Option.some.injEq, Prod.mk.injEq] at hv
        obtain ⟨rfl, rfl⟩ := hv
        exact ⟨viewA_sat hs h1, viewL_sat hs h2⟩

theorem viewA_loc {h' : Hp} {x : SV} {a : AV} {r : List Nat} (hv : viewA h x = some (a, r)) (hr : ∀ k ∈ r, h' k = h k) : viewA h' x = some (a, r) := by
  cases x with
  | hd k =>
    simp only [viewA] at hv ⊢
    have : k ∈ r := by
      cases hk : h k with
      | none => rw [hk] at hv; simp [rowAV] at hv
      | some e =>
        cases e <;> rw [hk] at hv <;> simp [rowAV] at hv
        obtain ⟨vs, h1, rfl, rfl⟩ := hv
        simp
    rw [hr k this]; exact hv
  | _ => exact hv
theorem viewL_loc {h' : Hp} : ∀ {l : List SV} {as_ : List AV} {r : List Nat}, viewL h l = some (as_, r) → (∀ k ∈ r, h' k = h k) → viewL h' l = some (as_, r)
  | [], _, _, hv, _ => hv
  | x :: l, as_, r, hv, hr => by
    simp only [viewL] at hv ⊢
    cases h1 : viewA h x with
    | none => rw [h1] at hv; simp [consV] at hv
    | some p =>
      cases h2 : viewL h l with
      | none => rw [h1, h2] at hv; simp [consV] at hv
      | some q =>
        obtain ⟨a, ra⟩ := p
        obtain ⟨as', rs⟩ := q
        rw [h1, h2] at hv
        simp only [consV, Option.some.injEq, Prod.mk.injEq] at hv
        obtain ⟨rfl, rfl⟩ := hv
        rw [viewA_loc h1 fun k hk => hr k (by simp [hk]), viewL_loc h2 fun k hk => hr k (by simp [hk])]
        rfl
end

/-- A callee that reads its arguments and gives a value. -/
structure PureC (P : Program) (f : FuncId) where
  pre : World → List Nat → List AV → Prop
  res : World → List AV → Value
  enters : ∀ args w, (callFunc f args).run P w = .ok (.enter f args) w
  ok : ∀ (W w : World) (bs : List Nat) (us : List Value) (as_ : List AV), Keeps W bs w → avsSat w us as_ → pre W bs as_ → Calls P f us.toArray w fun e w' => e = .returned (res W as_) ∧ Keeps w [] w'

def pureK (pre : World → List Nat → List AV → Prop) (res : World → List AV → Value) (W : World) (bs : List Nat) : Option (List AV × List Nat) → R
  | some (as_, rs) => ⟨pre W bs as_, .v (res W as_), [], none, [], rs⟩
  | none => .bad

def PureC.spec {P : Program} {f : FuncId} (p : PureC P f) : Spec P f where
  ev := fun W bs _ h args => pureK p.pre p.res W bs (viewL h args)
  calls := p.enters
  good := fun W bs κ E F h w K args hs hK hk hx hside => by
    cases hv : viewL h args with
    | none => rw [hv] at hside; exact hside.elim
    | some q =>
      obtain ⟨as_, rs⟩ := q
      rw [hv] at hside
      exact good_pure hs (p.ok W w bs _ as_ hs.keeps (viewL_sat hs hv) hside) rfl rfl rfl
  keys := fun W bs κ h K args hK hx hside => by
    cases hv : viewL h args with
    | none => rw [hv] at hside; exact hside.elim
    | some q => exact KeysOk.plain (fun k hk => by cases hk) rfl
  loc := fun W bs κ h h' args hside hr => by
    cases hv : viewL h args with
    | none => rw [hv] at hside; exact hside.elim
    | some q =>
      obtain ⟨as_, rs⟩ := q
      rw [hv] at hr
      rw [viewL_loc hv hr]

/-- A callee that reads its arguments and gives a new row (inside g). -/
structure MakeC (P : Program) (f : FuncId) where
  pre : World → List Nat → List AV → Prop
  T : TypeId
  s : Nat
  n : World → List AV → Nat
  vs : World → List AV → List Value
  tm : World → List AV → SV → SV
  g : World → List AV → Value → Value
  tmg : ∀ W as_ E x, den E (tm W as_ x) = g W as_ (den E x)
  tmk : ∀ W as_ x, ∀ k ∈ (tm W as_ x).keys, k ∈ x.keys
  enters : ∀ args w, (callFunc f args).run P w = .ok (.enter f args) w
  ok : ∀ (W w : World) (bs : List Nat) (us : List Value) (as_ : List AV), Keeps W bs w → avsSat w us as_ → pre W bs as_ → Calls P f us.toArray w fun e w' =>
    ∃ u fp, e = .returned (g W as_ u) ∧ (∀ E', entSat E' u fp w' (.row T s (n W as_) ((vs W as_).map .v))) ∧ (∀ b ∈ fp, w.heap.size ≤ b ∧ b < w'.heap.size) ∧ Keeps w [] w'

def makeK (κ : Nat) (T : TypeId) (s : Nat) (pre : World → List Nat → List AV → Prop) (n : World → List AV → Nat) (vs : World → List AV → List Value) (tm : World → List AV → SV → SV) (W : World) (bs : List Nat) : Option (List AV × List Nat) → R
  | some (as_, rs) => ⟨pre W bs as_, tm W as_ (.hd (8 * κ)), [(8 * κ, some (.row T s (n W as_) ((vs W as_).map .v)))], none, [], rs⟩
  | none => .bad

def MakeC.spec {P : Program} {f : FuncId} (p : MakeC P f) : Spec P f where
  ev := fun W bs κ h args => makeK κ p.T p.s p.pre p.n p.vs p.tm W bs (viewL h args)
  calls := p.enters
  good := fun W bs κ E F h w K args hs hK hk hx hside => by
    cases hv : viewL h args with
    | none => rw [hv] at hside; exact hside.elim
    | some q =>
      obtain ⟨as_, rs⟩ := q
      rw [hv] at hside
      refine good_maker hs hK hk ((p.ok W w bs _ as_ hs.keeps (viewL_sat hs hv) hside).mono fun e w' he => ?_) rfl rfl
      obtain ⟨u, fp, rfl, hent, hfp, hkeep⟩ := he
      refine ⟨_, u, fp, rfl, hent, hfp, hkeep, ?_⟩
      simp only [makeK, p.tmg, den, nk, upd_same]
      rw [hv_of (entSat_one (hent E))]
  keys := fun W bs κ h K args hK hx hside => by
    cases hv : viewL h args with
    | none => rw [hv] at hside; exact hside.elim
    | some q =>
      obtain ⟨as_, rs⟩ := q
      refine ⟨fun k hk => .inr ?_, fun q hq => ?_⟩
      · have := p.tmk _ _ _ k hk
        simp [SV.keys] at this
        subst this
        exact nk_div0 κ
      · simp only [makeK, List.mem_singleton] at hq
        subst hq
        refine ⟨.inr (nk_div0 κ), fun e he k hk => ?_⟩
        simp only [Option.some.injEq] at he
        subst he
        simp only [Ent.keys, keysL_map_v] at hk
        cases hk
  loc := fun W bs κ h h' args hside hr => by
    cases hv : viewL h args with
    | none => rw [hv] at hside; exact hside.elim
    | some q =>
      obtain ⟨as_, rs⟩ := q
      rw [hv] at hr
      rw [viewL_loc hv hr]

/-! ### Their rules -/
theorem viewL_nil (h : Hp) : viewL h [] = some ([], []) := rfl
theorem viewL_cons (h : Hp) (x : SV) (r : List SV) : viewL h (x :: r) = consV (viewA h x) (viewL h r) := rfl
theorem viewA_v (h : Hp) (x : Value) : viewA h (.v x) = some (.val x, []) := rfl
theorem viewA_agg (h : Hp) (l : List SV) : viewA h (.agg l) = (valsL l).map fun vs => (.val (.agg vs.toArray), []) := rfl
theorem viewA_hd (h : Hp) (k : Nat) : viewA h (.hd k) = rowAV k (h k) := rfl
theorem rowAV_row (k : Nat) (T : TypeId) (s n : Nat) (us : List SV) : rowAV k (some (.row T s n us)) = (valsL us).map fun vs => (.row T s n vs, [k]) := rfl
theorem consV_some (a : AV) (r : List Nat) (as_ : List AV) (rs : List Nat) : consV (some (a, r)) (some (as_, rs)) = some (a :: as_, r ++ rs) := rfl
theorem valsL_map (l : List Value) : valsL (l.map .v) = some l := by
  induction l with
  | nil => rfl
  | cons x r ih => simp [valsL, ih]
theorem pureK_some (pre : World → List Nat → List AV → Prop) (res : World → List AV → Value) (W : World) (bs : List Nat) (as_ : List AV) (rs : List Nat) : pureK pre res W bs (some (as_, rs)) = ⟨pre W bs as_, .v (res W as_), [], none, [], rs⟩ := rfl
theorem makeK_some (κ : Nat) (T : TypeId) (s : Nat) (pre : World → List Nat → List AV → Prop) (n : World → List AV → Nat) (vs : World → List AV → List Value) (tm : World → List AV → SV → SV) (W : World) (bs : List Nat) (as_ : List AV) (rs : List Nat) :
    makeK κ T s pre n vs tm W bs (some (as_, rs)) = ⟨pre W bs as_, tm W as_ (.hd (8 * κ)), [(8 * κ, some (.row T s (n W as_) ((vs W as_).map .v)))], none, [], rs⟩ := rfl
end Go.LE
