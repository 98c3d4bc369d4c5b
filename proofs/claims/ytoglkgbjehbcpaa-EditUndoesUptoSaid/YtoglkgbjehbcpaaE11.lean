/-
  LE, the engine, part 11: one step of a region on the symbolic frame.
-/
import Derived.Test.YtoglkgbjehbcpaaE10
namespace Go.LE
open Go.RowKit
set_option linter.unusedSimpArgs false
set_option linter.unusedVariables false

abbrev Fr := Nat → FV
abbrev Hp := Nat → Option Ent

/-- an operand, looked at where w holds -/
def evO (φ : Fr) (w : Bool) : Operand → Prop × SV
  | .tmp t => match φ t with
    | .is x => (True, x)
    | .cnd b x => (w = true → b = true, x)
    | .any => (w = false, .v undef)
  | .const v => (True, .v v)
  | .global g => (True, .v (.pointer (some ⟨g, 0, none⟩)))
  | .func f => (True, .v (.func (.func f) #[] #[]))

def evL (φ : Fr) (w : Bool) : List Operand → Prop × List SV
  | [] => (True, [])
  | o :: r => ((evO φ w o).1 ∧ (evL φ w r).1, (evO φ w o).2 :: (evL φ w r).2)

/-- is the operation wanted? -/
def evG (φ : Fr) (ops : Array Oper) : Option (Nat × Bool) → Prop × Bool
  | none => (True, true)
  | some (j, want) => match (ops[j]?).bind (·.dst) with
    | some d => match φ d with
      | .is (.v (.bool b)) => (True, b == want)
      | .cnd c (.v (.bool b)) => (True, c && (b == want))
      | _ => (False, false)
    | none => (False, false)

def mkFV (unguarded : Bool) (w : Bool) (x : SV) : FV := match unguarded, w with
  | true, _ => .is x
  | false, w => .cnd w x

def pickV (c : Bool) : SV → SV → SV
  | .v (.bool a), .v (.bool b) => .v (.bool (bif c then a else b))
  | .v a, .v b => .v (bif c then a else b)
  | x, y => bif c then x else y

/-- what one operation of a region does to the frame and to own memory -/
structure S where
  side : Prop
  fv : FV
  upd : List (Nat × Option Ent)
  pan : Option (List PanicEntry)
  pupd : List Nat
  reads : List Nat
  uk : List Nat

/-- the keys of updates -/
def keysU {α : Type} (u : List (Nat × α)) : List Nat := u.map (·.1)

def step {P : Program} (Γ : Env P) (W : World) (bs : List Nat) (nt : Nat) (ops : Array Oper) (κ : Nat) (φ : Fr) (h : Hp) (o : Oper) : S :=
  let g := evG φ ops o.guard
  match o.op with
  | .pick c a b =>
    let ec := evO φ g.2 c
    match ec.2 with
    | .v (.bool cb) =>
      let ea := evO φ (g.2 && cb) a
      let eb := evO φ (g.2 && !cb) b
      { side := g.1 ∧ ec.1 ∧ (cb = true → ea.1) ∧ (cb = false → eb.1) ∧ (∀ d, o.dst = some d → d < nt), fv := mkFV o.guard.isNone g.2 (pickV cb ea.2 eb.2), upd := [], pan := none, pupd := [], reads := [], uk := [] }
    | _ => { side := False, fv := .any, upd := [], pan := none, pupd := [], reads := [], uk := [] }
  | op =>
    let e := evL φ g.2 op.operands.toList
    let r := sem Γ W bs κ h op e.2
    { side := g.1 ∧ e.1 ∧ (g.2 = true → r.side) ∧ (∀ d, o.dst = some d → d < nt), fv := mkFV o.guard.isNone g.2 r.val, upd := bif g.2 then r.upd else [], pan := bif g.2 then r.pan else none, pupd := r.pupd, reads := r.reads, uk := keysU r.upd }

def putO (φ : Fr) (d : Option Nat) (x : FV) : Fr := match d with
  | some d => upd φ d x
  | none => φ

section
variable {P : Program} {W : World} {bs : List Nat} {κ : Nat} {E : Nat → Value} {F : Nat → List Nat} {h : Hp} {w : World} {K : Nat → Prop} (Γ : Env P)

def FrSat (E : Nat → Value) (φ : Fr) (a : Act) : Prop := ∀ t, fits E (φ t) (a.tmps.getD t undef)

theorem evO_den {φ : Fr} {a : Act} {x : Operand} {g : Bool} (hf : FrSat E φ a) (hg : g = true) (h1 : (evO φ g x).1) : a.eval x = den E (evO φ g x).2 := by
  subst hg
  cases x with
  | tmp t =>
    have := hf t
    simp only [evO] at h1 ⊢
    simp only [Act.eval]
    revert h1 this
    cases φ t with
    | is y => intro h1 _; exact h1
    | cnd b y => intro h1 h2; simp only [fits, h2 trivial, cond_true] at h1; exact h1
    | any => intro _ hf; cases hf
  | const v => rfl
  | global g => rfl
  | func f => simp [evO, Act.eval, den, denL]

theorem evL_den {φ : Fr} {a : Act} {g : Bool} (hf : FrSat E φ a) (hg : g = true) : ∀ {l : List Operand}, (evL φ g l).1 → l.map a.eval = denL E (evL φ g l).2
  | [], _ => rfl
  | x :: r, h => by simp only [evL] at h ⊢; simp only [List.map_cons, denL, evO_den hf hg h.1, evL_den hf hg h.2]

theorem evG_den {φ : Fr} {a : Act} {ops : Array Oper} {o : Oper} (hf : FrSat E φ a) (h1 : (evG φ ops o.guard).1) : Region.wanted o (yielded ops a.tmps) = (evG φ ops o.guard).2 := by
  unfold Region.wanted
  cases hg : o.guard with
  | none => rfl
  | some p =>
    obtain ⟨j, want⟩ := p
    rw [hg] at h1
    simp only [evG] at h1 ⊢
    unfold yielded
    revert h1
    cases hd : (ops[j]?).bind (·.dst) with
    | none => exact fun hf => hf.elim
    | some d =>
      simp only [Option.bind_some]
      have hfd := hf d
      rw [Array.getD_eq_getD_getElem?] at hfd
      split
      · rename_i b hb
        rw [hb] at hfd
        simp only [fits, den] at hfd
        intro _
        cases ht : a.tmps[d]? with
        | none => rw [ht] at hfd; cases hfd
        | some v => rw [ht] at hfd; simp only [Option.getD_some] at hfd; subst hfd; cases b <;> cases want <;> rfl
      · rename_i c b hb
        rw [hb] at hfd
        simp only [fits, den] at hfd
        intro _
        cases c with
        | true =>
          simp only [cond_true] at hfd
          cases ht : a.tmps[d]? with
          | none => rw [ht] at hfd; cases hfd
          | some v => rw [ht] at hfd; simp only [Option.getD_some] at hfd; subst hfd; cases b <;> cases want <;> rfl
        | false =>
          simp only [cond_false] at hfd
          cases ht : a.tmps[d]? with
          | none => rfl
          | some v => rw [ht] at hfd; simp only [Option.getD_some] at hfd; subst hfd; rfl
      · exact fun hf => hf.elim

theorem FrSat.put {φ : Fr} {a : Act} {d : Option Nat} {x : FV} {v : Value} (hf : FrSat E φ a) (hd : ∀ i, d = some i → i < a.tmps.size) (hx : fits E x v) : FrSat E (putO φ d x) (a.put d v) := by
  cases d with
  | none => exact hf
  | some i =>
    intro t
    have hi := hd i rfl
    simp only [putO, Act.put]
    by_cases ht : t = i
    · subst ht
      rw [upd_same, Array.getD_eq_getD_getElem?, Array.getElem?_setIfInBounds_self_of_lt hi]
      exact hx
    · rw [upd_ne _ _ ht, Array.getD_eq_getD_getElem?, Array.getElem?_setIfInBounds_ne (Ne.symm ht), ← Array.getD_eq_getD_getElem?]
      exact hf t

theorem FrSat.congr {E' : Nat → Value} {φ : Fr} {a : Act} (hf : FrSat E φ a) (hk : ∀ t, ∀ k ∈ (φ t).keys, E k = E' k) : FrSat E' φ a := fun t => fits_congr (hk t) (hf t)

theorem mkFV_fits {ug g : Bool} {x : SV} {v : Value} (hu : ug = true → g = true) (hv : v = bif g then den E x else undef) : fits E (mkFV ug g x) v := by
  cases ug <;> cases g <;> simp [mkFV, fits] at * <;> exact hv

theorem mkFV_keys {ug g : Bool} {x : SV} {k : Nat} (hu : ug = true → g = true) (hk : k ∈ (mkFV ug g x).keys) : g = true ∧ k ∈ x.keys := by
  cases ug <;> cases g <;> simp [mkFV, FV.keys] at * <;> exact hk

/-- The keys that a frame speaks of. -/
def FrKeys (K : Nat → Prop) (φ : Fr) : Prop := ∀ t, ∀ k ∈ (φ t).keys, K k

theorem evO_keys {φ : Fr} {g : Bool} {x : Operand} {k : Nat} (hF : FrKeys K φ) (hg : g = true) (h1 : (evO φ g x).1) (hk : k ∈ (evO φ g x).2.keys) : K k := by
  subst hg
  cases x with
  | tmp t =>
    have := hF t k
    simp only [evO] at hk h1
    revert hk this h1
    cases φ t with
    | is y => exact fun th hk _ => th hk
    | cnd b y => exact fun th hk hb => th (by simp only [FV.keys, hb trivial]; exact hk)
    | any => exact fun _ hk _ => by cases hk
  | const v => cases hk
  | global g => cases hk
  | func f => simp [evO, SV.keys, keysL] at hk
theorem evL_keys {φ : Fr} {g : Bool} {k : Nat} (hF : FrKeys K φ) (hg : g = true) : ∀ {l : List Operand}, (evL φ g l).1 → k ∈ keysL (evL φ g l).2 → K k
  | [], _, hk => by cases hk
  | x :: r, h1, hk => by
    simp only [evL, keysL, List.mem_append] at hk h1
    rcases hk with hk | hk
    · exact evO_keys hF hg h1.1 hk
    · exact evL_keys hF hg h1.2 hk

theorem den_pickV (E : Nat → Value) (c : Bool) (x y : SV) : den E (pickV c x y) = bif c then den E x else den E y := by
  unfold pickV
  split <;> cases c <;> rfl
theorem pickV_keys {c : Bool} {x y : SV} {k : Nat} (hk : k ∈ (pickV c x y).keys) : (c = true ∧ k ∈ x.keys) ∨ (c = false ∧ k ∈ y.keys) := by
  unfold pickV at hk
  split at hk
  · cases hk
  · cases hk
  · cases c
    · exact .inr ⟨rfl, hk⟩
    · exact .inl ⟨rfl, hk⟩

/-- THE STEP, AS THE MACHINE MAKES IT. -/
theorem step_wp {nt : Nat} {ops : Array Oper} {φ : Fr} {o : Oper} {a : Act} {i : Nat} (hi : ops[i]? = some o) (hF : FrSat E φ a) (hs : HeapSat W bs E F h w) (hnt : a.tmps.size = nt) (hKF : FrKeys K φ) (hK : KeysIn K h) (hk : ∀ k, k / 8 = κ → ¬ K k)
    (hside : (step Γ W bs nt ops κ φ h o).side) {Q : Exit → Act → World → Prop} {next : Act → World → Prop}
    (hnext : (step Γ W bs nt ops κ φ h o).pan = none → ∀ a' w' E' F', (∀ k, k / 8 ≠ κ → E' k = E k) → FrSat E' (putO φ o.dst (step Γ W bs nt ops κ φ h o).fv) a' → HeapSat W bs E' F' (updL h (step Γ W bs nt ops κ φ h o).upd) w' → a'.tmps.size = nt → a'.defers = a.defers → next a' w')
    (hpan : ∀ c, (step Γ W bs nt ops κ φ h o).pan = some c → ∀ w' F', HeapSat W bs E F' (dropKeys h (step Γ W bs nt ops κ φ h o).pupd) w' → Q (.panic c) a w') :
    wpOp P ops Q i next a w := by
  have putsize : ∀ v, (a.put o.dst v).tmps.size = a.tmps.size ∧ (a.put o.dst v).defers = a.defers := fun v => by cases o.dst <;> simp [Act.put]
  unfold wpOp
  simp only [hi]
  by_cases hpk : ∃ c x y, o.op = .pick c x y
  · obtain ⟨c, x, y, hop⟩ := hpk
    simp only [step, hop] at hside hnext hpan
    revert hside hnext hpan
    split
    · rename_i cb hcb
      rintro ⟨hg, hc, ha, hb, hd⟩ hnext hpan
      have hwant := evG_den hF hg
      rw [hwant]
      cases hgv : (evG φ ops o.guard).2 with
      | false =>
        simp only [Bool.false_eq_true, if_false]
        refine hnext rfl (a.put o.dst undef) w E F (fun _ _ => rfl) (hF.put (fun i hi => hnt ▸ hd i hi) (mkFV_fits (fun h => ?_) (by rw [hgv]; rfl))) hs (by rw [(putsize _).1, hnt]) (putsize _).2
        cases hgd : o.guard with
        | none => rw [hgd] at hgv; cases hgv
        | some p => rw [hgd] at h; cases h
      | true =>
        simp only [if_true]
        left
        refine wp_of_runs ?_
        rw [hgv] at hc hcb
        have hcv : a.eval c = .bool cb := by rw [evO_den hF rfl hc, hcb]; rfl
        have hval : (execOp a.eval o).run P w = .ok (.value (if cb then a.eval x else a.eval y)) w := by
          simp [execOp, hop, hcv, asBool]
        rw [hval]
        simp only [Runs]
        refine hnext rfl _ w E F (fun _ _ => rfl) (hF.put (fun i hi => hnt ▸ hd i hi) (mkFV_fits (fun _ => by rw [hgv]) ?_)) hs (by rw [(putsize _).1, hnt]) (putsize _).2
        rw [hgv, cond_true, den_pickV]
        cases cb with
        | true => rw [hgv] at ha; simp only [if_true, cond_true, Bool.and_self]; exact evO_den hF rfl (ha rfl)
        | false => rw [hgv] at hb; simp only [Bool.false_eq_true, if_false, cond_false, Bool.not_false, Bool.and_self]; exact evO_den hF rfl (hb rfl)
    · exact fun hf => hf.elim
  · have hst : step Γ W bs nt ops κ φ h o = { side := (evG φ ops o.guard).1 ∧ (evL φ (evG φ ops o.guard).2 o.op.operands.toList).1 ∧ ((evG φ ops o.guard).2 = true → (sem Γ W bs κ h o.op (evL φ (evG φ ops o.guard).2 o.op.operands.toList).2).side) ∧ (∀ d, o.dst = some d → d < nt), fv := mkFV o.guard.isNone (evG φ ops o.guard).2 (sem Γ W bs κ h o.op (evL φ (evG φ ops o.guard).2 o.op.operands.toList).2).val, upd := bif (evG φ ops o.guard).2 then (sem Γ W bs κ h o.op (evL φ (evG φ ops o.guard).2 o.op.operands.toList).2).upd else [], pan := bif (evG φ ops o.guard).2 then (sem Γ W bs κ h o.op (evL φ (evG φ ops o.guard).2 o.op.operands.toList).2).pan else none, pupd := (sem Γ W bs κ h o.op (evL φ (evG φ ops o.guard).2 o.op.operands.toList).2).pupd, reads := (sem Γ W bs κ h o.op (evL φ (evG φ ops o.guard).2 o.op.operands.toList).2).reads, uk := keysU (sem Γ W bs κ h o.op (evL φ (evG φ ops o.guard).2 o.op.operands.toList).2).upd } := by
      unfold step
      split
      · rename_i c x y hop
        exact absurd ⟨c, x, y, hop⟩ hpk
      · rfl
    rw [hst] at hside hnext hpan
    obtain ⟨hg, he, hr, hd⟩ := hside
    have hwant := evG_den hF hg
    rw [hwant]
    cases hgv : (evG φ ops o.guard).2 with
    | false =>
      simp only [Bool.false_eq_true, if_false]
      simp only [hgv, cond_false] at hnext
      refine hnext trivial (a.put o.dst undef) w E F (fun _ _ => rfl) (hF.put (fun i hi => hnt ▸ hd i hi) (mkFV_fits (fun h => ?_) rfl)) hs (by rw [(putsize _).1, hnt]) (putsize _).2
      cases hgd : o.guard with
      | none => rw [hgd] at hgv; cases hgv
      | some p => rw [hgd] at h; cases h
    | true =>
      simp only [if_true]
      left
      refine wp_of_runs ?_
      simp only [hgv, cond_true] at hnext hpan hr he
      have hgood := sem_good Γ o a.eval _ (evL_den hF rfl he) hs hK hk (fun k hk => evL_keys hKF rfl he hk) (hr trivial)
      refine Runs.mono hgood (fun v w' hv => ?_) (fun c w' hc => ?_)
      · obtain ⟨hp, E', F', hE, hv, hs'⟩ := hv
        refine hnext hp (a.put o.dst v) w' E' F' hE ((hF.congr fun t k hkk => (hE k fun e => hk k e (hKF t k hkk)).symm).put (fun i hi => hnt ▸ hd i hi) (mkFV_fits (fun _ => rfl) hv)) hs' (by rw [(putsize _).1, hnt]) (putsize _).2
      · obtain ⟨hp, F', hs'⟩ := hc
        exact hpan c hp w' F' hs'
end
end Go.LE
