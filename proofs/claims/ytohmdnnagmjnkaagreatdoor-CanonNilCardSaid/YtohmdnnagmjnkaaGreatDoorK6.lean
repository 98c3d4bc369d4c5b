/-
  Part 6 of the proof.
-/
import Derived.Test.YtohmdnnagmjnkaaGreatDoorK5
import Derived.Deep.LoopGhost
import Derived.Test.YtohmdnnagmjnkaaGreatDoorProg
import Derived.WalkKit
import Derived.ProofKit
import Derived.OpenShut
import Derived.JoinedCond
import Derived.Lib.SmallJoins
import Derived.ReadAgain
import Derived.Deep.Slices
import Derived.Deep.Strs
set_option linter.unusedSimpArgs false
set_option linter.unusedVariables false
set_option linter.defProp false
section
namespace Go.LE
open Go.RowKit
section
variable {P : Program} {W : World} {bs : List Nat} {nt : Nat} {ops : Array Oper} {K : Nat → Prop} {κ : Nat} {φ φ' : Fr} {h h' : Hp} (Γ : Env P)
theorem step_notpick {o : Oper} (hop : ∀ c x y, o.op ≠ .pick c x y) : step Γ W bs nt ops κ φ h o = { side := (evG φ ops o.guard).1 ∧ (evL φ (evG φ ops o.guard).2 o.op.operands.toList).1 ∧ ((evG φ ops o.guard).2 = true → (sem Γ W bs κ h o.op (evL φ (evG φ ops o.guard).2 o.op.operands.toList).2).side) ∧ (∀ d, o.dst = some d → d < nt), fv := mkFV o.guard.isNone (evG φ ops o.guard).2 (sem Γ W bs κ h o.op (evL φ (evG φ ops o.guard).2 o.op.operands.toList).2).val, upd := bif (evG φ ops o.guard).2 then (sem Γ W bs κ h o.op (evL φ (evG φ ops o.guard).2 o.op.operands.toList).2).upd else [], pan := bif (evG φ ops o.guard).2 then (sem Γ W bs κ h o.op (evL φ (evG φ ops o.guard).2 o.op.operands.toList).2).pan else none, pupd := (sem Γ W bs κ h o.op (evL φ (evG φ ops o.guard).2 o.op.operands.toList).2).pupd, reads := (sem Γ W bs κ h o.op (evL φ (evG φ ops o.guard).2 o.op.operands.toList).2).reads, uk := keysU (sem Γ W bs κ h o.op (evL φ (evG φ ops o.guard).2 o.op.operands.toList).2).upd } := by
  unfold step
  split
  · rename_i c x y he
    exact absurd he (hop c x y)
  · rfl
theorem guard_true {o : Oper} (hn : o.guard.isNone = true) : (evG φ ops o.guard).2 = true := by
  cases hg : o.guard with
  | none => rfl
  | some p => rw [hg] at hn; cases hn
theorem step_side {o : Oper} (hs : (step Γ W bs nt ops κ φ h o).side) : (evG φ ops o.guard).1 ∧ ∀ d, o.dst = some d → d < nt := by
  by_cases hp : ∃ c x y, o.op = .pick c x y
  · obtain ⟨c, x, y, hop⟩ := hp
    simp only [step, hop] at hs
    revert hs
    split
    · exact fun hs => ⟨hs.1, hs.2.2.2.2⟩
    · exact fun hs => hs.elim
  · rw [step_notpick Γ fun c x y e => hp ⟨c, x, y, e⟩] at hs
    exact ⟨hs.1, hs.2.2.2⟩
theorem step_keys {o : Oper} (hKF : FrKeys K φ) (hK : KeysIn K h) (hs : (step Γ W bs nt ops κ φ h o).side) :
    (∀ k ∈ (step Γ W bs nt ops κ φ h o).fv.keys, K k ∨ k / 8 = κ) ∧ ∀ p ∈ (step Γ W bs nt ops κ φ h o).upd, (K p.1 ∨ p.1 / 8 = κ) ∧ ∀ e, p.2 = some e → ∀ k ∈ e.keys, K k ∨ k / 8 = κ := by
  by_cases hp : ∃ c x y, o.op = .pick c x y
  · obtain ⟨c, x, y, hop⟩ := hp
    simp only [step, hop] at hs ⊢
    revert hs
    split
    · rename_i cb hcb
      rintro ⟨hg, hc, ha, hb, hd⟩
      refine ⟨fun k hk => .inl ?_, by simp⟩
      obtain ⟨hgt, hk⟩ := mkFV_keys (fun hn => guard_true hn) hk
      rw [hgt] at ha hb hk
      rcases pickV_keys hk with ⟨hcb', hk⟩ | ⟨hcb', hk⟩
      · subst hcb'; exact evO_keys hKF rfl (ha rfl) hk
      · subst hcb'; exact evO_keys hKF rfl (hb rfl) hk
    · exact fun hs => hs.elim
  · rw [step_notpick Γ fun c x y e => hp ⟨c, x, y, e⟩] at hs ⊢
    obtain ⟨hg, he, hr, hd⟩ := hs
    simp only
    cases hgv : (evG φ ops o.guard).2 with
    | false =>
      refine ⟨fun k hk => ?_, by simp⟩
      have := mkFV_keys (fun hn => by rw [guard_true hn] at hgv; cases hgv) hk
      cases this.1
    | true =>
      rw [hgv] at he hr
      have hok := sem_keys Γ o.op _ hK (fun k hk => evL_keys hKF rfl he hk) (hr rfl)
      refine ⟨fun k hk => hok.1 k (mkFV_keys (fun _ => rfl) hk).2, fun p hp => hok.2 p (by simpa using hp)⟩
theorem evO_agree {g : Bool} {x : Operand} (hx : ∀ t, x = .tmp t → φ' t = φ t) : evO φ' g x = evO φ g x := by
  cases x with
  | tmp t => simp only [evO, hx t rfl]
  | const v => rfl
  | global g => rfl
  | func f => rfl
theorem evL_agree {g : Bool} : ∀ {l : List Operand}, (∀ t, Operand.tmp t ∈ l → φ' t = φ t) → evL φ' g l = evL φ g l
  | [], _ => rfl
  | x :: r, hx => by
    have e1 : evO φ' g x = evO φ g x := evO_agree fun t e => hx t (by simp [e])
    have e2 : evL φ' g r = evL φ g r := evL_agree (l := r) fun t e => hx t (by simp [e])
    simp only [evL, e1, e2]
theorem evG_agree {g : Option (Nat × Bool)} (hx : ∀ j w d, g = some (j, w) → (ops[j]?).bind (·.dst) = some d → φ' d = φ d) : evG φ' ops g = evG φ ops g := by
  cases g with
  | none => rfl
  | some p =>
    simp only [evG]
    cases hd : (ops[p.1]?).bind (·.dst) with
    | none => rfl
    | some d => simp only [hx p.1 p.2 d rfl hd]
theorem step_agree {o : Oper} (hφ : ∀ t ∈ o.looksAt ops, φ' t = φ t) (hs : (step Γ W bs nt ops κ φ h o).side) (hh : ∀ k ∈ (step Γ W bs nt ops κ φ h o).reads, h' k = h k) :
    evG φ' ops o.guard = evG φ ops o.guard ∧ ((evG φ ops o.guard).2 = true → step Γ W bs nt ops κ φ' h' o = step Γ W bs nt ops κ φ h o) := by
  have e1 : evG φ' ops o.guard = evG φ ops o.guard := evG_agree fun j w d hg hd => hφ d (List.mem_append_right _ (by simp [hg, hd]))
  have e2 : ∀ g, evL φ' g o.op.operands.toList = evL φ g o.op.operands.toList := fun g => evL_agree fun t ht => hφ t (List.mem_append_left _ (List.mem_filterMap.2 ⟨_, ht, rfl⟩))
  refine ⟨e1, fun hgt => ?_⟩
  by_cases hp : ∃ c x y, o.op = .pick c x y
  · obtain ⟨c, x, y, hop⟩ := hp
    have e3 : ∀ g z, z ∈ [c, x, y] → evO φ' g z = evO φ g z := fun g z hz => evO_agree fun t ht => hφ t (List.mem_append_left _ (List.mem_filterMap.2 ⟨z, by rw [hop]; simpa [Op.operands] using hz, by rw [ht]⟩))
    simp only [step, hop, e1, e3 _ c (by simp), e3 _ x (by simp), e3 _ y (by simp)]
  · have hn : ∀ c x y, o.op ≠ .pick c x y := fun c x y e => hp ⟨c, x, y, e⟩
    rw [step_notpick Γ hn] at hs hh ⊢
    rw [step_notpick Γ hn]
    simp only [e1, e2] at *
    rw [sem_loc Γ o.op _ h' (hs.2.2.1 hgt) hh]
def fuOf (o : Oper) (s : S) : List (Nat × FV) := match o.dst with
  | some d => [(d, s.fv)]
  | none => []
theorem putO_updL (φ : Fr) (o : Oper) (s : S) : putO φ o.dst s.fv = updL φ (fuOf o s) := by
  unfold putO fuOf
  cases o.dst <;> rfl
theorem keys_fuOf {o : Oper} {s : S} {t : Nat} : t ∈ keysU (fuOf o s) ↔ o.dst = some t := by
  unfold fuOf
  cases o.dst <;> simp [keysU, eq_comm]
def tr (Γ : Env P) (W : World) (bs : List Nat) (nt : Nat) (ops : Array Oper) : List Oper → Nat → Fr → Hp → List (Oper × S)
  | [], _, _, _ => []
  | o :: r, κ, φ, h => (o, step Γ W bs nt ops κ φ h o) :: tr Γ W bs nt ops r (κ + 1) (putO φ o.dst (step Γ W bs nt ops κ φ h o).fv) (updL h (step Γ W bs nt ops κ φ h o).upd)
def fuL (T : List (Oper × S)) : List (List (Nat × FV)) := T.map fun p => fuOf p.1 p.2
def huL (T : List (Oper × S)) : List (List (Nat × Option Ent)) := T.map fun p => p.2.upd
theorem acc_none {α : Type} : ∀ {l : List (List (Nat × α))} {n : Nat} {S : Nat → Bool} {f : Nat → α}, (∀ i, i < l.length → S (n + i) = false) → accOf l n S f = f
  | [], _, _, _, _ => rfl
  | u :: r, n, S, f, h => by
    have h0 := h 0 (by simp)
    simp only [Nat.add_zero] at h0
    simp only [accOf, h0, Bool.false_eq_true, if_false]
    exact acc_none fun i hi => by have := h (i + 1) (by simp; omega); rwa [show n + (i + 1) = n + 1 + i by omega] at this
theorem tr_spec : ∀ (l : List Oper) (κ m : Nat) (φ : Fr) (h : Hp) (i : Nat) (o : Oper) (s : S), (tr Γ W bs nt ops l κ φ h)[i]? = some (o, s) →
    l[i]? = some o ∧ s = step Γ W bs nt ops (κ + i) (accOf (fuL (tr Γ W bs nt ops l κ φ h)) m (fun j => decide (j < m + i)) φ) (accOf (huL (tr Γ W bs nt ops l κ φ h)) m (fun j => decide (j < m + i)) h) o
  | [], _, _, _, _, _, _, _, hT => by simp [tr] at hT
  | x :: r, κ, m, φ, h, 0, o, s, hT => by
    simp only [tr, List.getElem?_cons_zero, Option.some.injEq, Prod.mk.injEq] at hT
    obtain ⟨rfl, rfl⟩ := hT
    refine ⟨rfl, ?_⟩
    rw [acc_none (fun i _ => by simp), acc_none (fun i _ => by simp)]
    rfl
  | x :: r, κ, m, φ, h, i + 1, o, s, hT => by
    simp only [tr, List.getElem?_cons_succ] at hT
    obtain ⟨h1, h2⟩ := tr_spec r (κ + 1) (m + 1) _ _ i o s hT
    refine ⟨by simpa using h1, ?_⟩
    rw [h2]
    simp only [tr, fuL, huL, List.map_cons, accOf, show m < m + (i + 1) by omega, decide_true, if_true, ← putO_updL]
    rw [show κ + 1 + i = κ + (i + 1) by omega]
    congr 2 <;> (funext j; simp only [decide_eq_decide]; omega)
theorem tr_len : ∀ (l : List Oper) (κ : Nat) (φ : Fr) (h : Hp), (tr Γ W bs nt ops l κ φ h).length = l.length
  | [], _, _, _ => rfl
  | x :: r, κ, φ, h => by simp [tr, tr_len r]
theorem tr_get {l : List Oper} {κ : Nat} {φ : Fr} {h : Hp} {i : Nat} {o : Oper} (ho : l[i]? = some o) : ∃ s, (tr Γ W bs nt ops l κ φ h)[i]? = some (o, s) := by
  have hi : i < (tr Γ W bs nt ops l κ φ h).length := by rw [tr_len]; exact (List.getElem?_eq_some_iff.1 ho).1
  obtain ⟨o', s, hp⟩ : ∃ o' s, (tr Γ W bs nt ops l κ φ h)[i] = (o', s) := ⟨_, _, rfl⟩
  have hT : (tr Γ W bs nt ops l κ φ h)[i]? = some (o', s) := by rw [List.getElem?_eq_getElem hi, hp]
  have := (tr_spec Γ l κ 0 φ h i o' s hT).1
  rw [ho] at this
  cases this
  exact ⟨s, hT⟩
def cmpB (ops : Array Oper) (i j : Nat) : Bool := if i < j then ((Region.before ops).getD j 0).testBit i else ((Region.before ops).getD i 0).testBit j
def Cmp (ops : Array Oper) (i j : Nat) : Prop := (i < j → Reach ops i j) ∧ (j < i → Reach ops j i)
theorem cmpB_spec {i j : Nat} (h : cmpB ops i j = true) : Cmp ops i j := by
  unfold cmpB at h
  split at h
  · rename_i hij; exact ⟨fun _ => before_reach ops i j h, fun hji => by omega⟩
  · exact ⟨fun hij => by omega, fun _ => before_reach ops j i h⟩
structure Draws (ops : Array Oper) (T : List (Oper × S)) : Prop where
  edge : ∀ j o, ops[j]? = some o → ∀ e ∈ o.after, Region.binds .any e = true → e.on < j
  slot : ∀ i j oi oj t, i ≠ j → ops[i]? = some oi → ops[j]? = some oj → oj.dst = some t → t ∈ oi.looksAt ops ∨ oi.dst = some t → Cmp ops i j
  heap : ∀ i j oi oj si sj k, i ≠ j → T[i]? = some (oi, si) → T[j]? = some (oj, sj) → k ∈ keysU sj.upd → k ∈ si.reads ∨ k ∈ keysU si.upd → Cmp ops i j
end
end Go.LE
end
section
namespace Go.LE
open Go.RowKit
structure Aux where
  defers : List Deferred
  pins : List (Nat × Value)
def Pn (ds : Aux) (E : Nat → Value) : Prop := ∀ p ∈ ds.pins, E p.1 = p.2
structure St where
  n : Nat
  φ : Fr
  h : Hp
structure Sat (W : World) (bs : List Nat) (nt : Nat) (ds : Aux) (σ : St) (a : Act) (w : World) : Prop where
  ex : ∃ E F, FrSat E σ.φ a ∧ HeapSat W bs E F σ.h w ∧ Pn ds E
  size : a.tmps.size = nt
  defers : a.defers = ds.defers
  pk : ∀ p ∈ ds.pins, p.1 / 8 < σ.n
  fk : FrKeys (· / 8 < σ.n) σ.φ
  hk : KeysIn (· / 8 < σ.n) σ.h
theorem updL_mem {α : Type} (f : Nat → α) {k : Nat} : ∀ {u : List (Nat × α)}, (∃ x, (k, x) ∈ u ∧ updL f u k = x) ∨ (k ∉ keysU u ∧ updL f u k = f k) := by
  intro u
  induction u generalizing f with
  | nil => exact .inr ⟨by simp [keysU], rfl⟩
  | cons p r ih =>
    obtain ⟨i, x⟩ := p
    simp only [updL]
    rcases ih (upd f i x) with ⟨y, h1, h2⟩ | ⟨h1, h2⟩
    · exact .inl ⟨y, by simp [h1], h2⟩
    · by_cases hk : k = i
      · subst hk
        exact .inl ⟨x, by simp, by rw [h2, upd_same]⟩
      · refine .inr ⟨?_, by rw [h2, upd_ne _ _ hk]⟩
        simp only [keysU, List.map_cons, List.mem_cons, not_or] at h1 ⊢
        exact ⟨hk, by simpa [keysU] using h1⟩
def anyD (ops : Array Oper) (φ : Fr) : Fr := fun t => if ops.toList.any (fun o => o.dst == some t) then .any else φ t
section
variable {P : Program} {W : World} {bs : List Nat} {nt : Nat} {ds : Aux} {ops : Array Oper} (Γ : Env P)
theorem step_idle {κ : Nat} {φ : Fr} {h : Hp} {o : Oper} (hg : (evG φ ops o.guard).2 = false) (hs : (step Γ W bs nt ops κ φ h o).side) :
    (∃ x, (step Γ W bs nt ops κ φ h o).fv = .cnd false x) ∧ (step Γ W bs nt ops κ φ h o).upd = [] ∧ (step Γ W bs nt ops κ φ h o).pan = none := by
  have hn : o.guard.isNone = false := by
    cases hgn : o.guard.isNone with
    | false => rfl
    | true => rw [guard_true hgn] at hg; cases hg
  by_cases hp : ∃ c x y, o.op = .pick c x y
  · obtain ⟨c, x, y, hop⟩ := hp
    simp only [step, hop] at hs ⊢
    revert hs
    split
    · intro _; rw [hg, hn]; exact ⟨⟨_, rfl⟩, rfl, rfl⟩
    · exact fun hs => hs.elim
  · rw [step_notpick Γ fun c x y e => hp ⟨c, x, y, e⟩] at hs ⊢
    simp only [hg, hn]
    exact ⟨⟨_, rfl⟩, rfl, rfl⟩
def KS (n : Nat) (S : Nat → Bool) (k : Nat) : Prop := k / 8 < n ∨ ∃ j, S j = true ∧ k / 8 = n + j
structure Inv (W : World) (bs : List Nat) (nt : Nat) (ds : Aux) (T : List (Oper × S)) (σ : St) (S : Nat → Bool) (a : Act) (w : World) : Prop where
  ex : ∃ E F, FrSat E (accOf (fuL T) 0 S σ.φ) a ∧ HeapSat W bs E F (accOf (huL T) 0 S σ.h) w ∧ Pn ds E
  size : a.tmps.size = nt
  defers : a.defers = ds.defers
  fk : FrKeys (KS σ.n S) (accOf (fuL T) 0 S σ.φ)
  hk : KeysIn (KS σ.n S) (accOf (huL T) 0 S σ.h)
def lostOf (T : List (Oper × S)) : List Nat := T.flatMap fun p => p.2.uk ++ p.2.pupd
theorem step_uk {κ : Nat} {φ : Fr} {h : Hp} {o : Oper} {k : Nat} (hk : k ∈ keysU (step Γ W bs nt ops κ φ h o).upd) : k ∈ (step Γ W bs nt ops κ φ h o).uk := by
  by_cases hp : ∃ c x y, o.op = .pick c x y
  · obtain ⟨c, x, y, hop⟩ := hp
    simp only [step, hop] at hk ⊢
    split at hk <;> exact hk
  · rw [step_notpick Γ fun c x y e => hp ⟨c, x, y, e⟩] at hk ⊢
    simp only at hk ⊢
    revert hk
    cases (evG φ ops o.guard).2 with
    | true => exact fun hk => hk
    | false => exact fun hk => by cases hk
theorem acc_out {α : Type} {k : Nat} : ∀ {l : List (List (Nat × α))} {n : Nat} {S : Nat → Bool} {f : Nat → α}, (∀ u ∈ l, k ∉ keysU u) → accOf l n S f k = f k
  | [], _, _, _, _ => rfl
  | u :: r, n, S, f, h => by
    simp only [accOf]
    rw [acc_out fun v hv => h v (by simp [hv])]
    split
    · exact updL_out f (h u (by simp))
    · rfl
theorem acc_outS {α : Type} {k : Nat} : ∀ {l : List (List (Nat × α))} {n : Nat} {S : Nat → Bool} {f : Nat → α}, (∀ j u, l[j]? = some u → S (n + j) = true → k ∉ keysU u) → accOf l n S f k = f k
  | [], _, _, _, _ => rfl
  | u :: r, n, S, f, h => by
    simp only [accOf]
    rw [acc_outS fun j v hv hs => h (j + 1) v (by simpa using hv) (by rwa [show n + (j + 1) = n + 1 + j by omega])]
    split
    · rename_i hs; exact updL_out f (h 0 u rfl (by simpa using hs))
    · rfl
theorem one {σ : St} {Q : Exit → Act → World → Prop} {next : Act → World → Prop} {i : Nat} {o : Oper} {s : S} {S S' : Nat → Bool} {a : Act} {w : World} {L : List Nat}
    (hL : ∀ j p, (tr Γ W bs nt ops ops.toList σ.n σ.φ σ.h)[j]? = some p → (S j = true ∨ j = i) → ∀ k ∈ p.2.uk ++ p.2.pupd, k ∈ L)
    (hT : (tr Γ W bs nt ops ops.toList σ.n σ.φ σ.h)[i]? = some (o, s)) (hSi : S i = false) (hS'i : S' i = true) (hne : ∀ j, j ≠ i → S' j = S j)
    (agr : ∀ t ∈ o.looksAt ops, accOf (fuL (tr Γ W bs nt ops ops.toList σ.n σ.φ σ.h)) 0 S σ.φ t = accOf (fuL (tr Γ W bs nt ops ops.toList σ.n σ.φ σ.h)) 0 (fun j => decide (j < 0 + i)) σ.φ t)
    (agh : ∀ k ∈ s.reads, accOf (huL (tr Γ W bs nt ops ops.toList σ.n σ.φ σ.h)) 0 S σ.h k = accOf (huL (tr Γ W bs nt ops ops.toList σ.n σ.φ σ.h)) 0 (fun j => decide (j < 0 + i)) σ.h k)
    (insf : ∀ j v, i < j → (fuL (tr Γ W bs nt ops ops.toList σ.n σ.φ σ.h))[j]? = some v → S j = true → ∀ k ∈ keysU (fuOf o s), k ∉ keysU v)
    (insh : ∀ j v, i < j → (huL (tr Γ W bs nt ops ops.toList σ.n σ.φ σ.h))[j]? = some v → S j = true → ∀ k ∈ keysU s.upd, k ∉ keysU v)
    (I : Inv W bs nt ds (tr Γ W bs nt ops ops.toList σ.n σ.φ σ.h) σ S a w) (hside : s.side)
    (hnext : s.pan = none → ∀ a' w', Inv W bs nt ds (tr Γ W bs nt ops ops.toList σ.n σ.φ σ.h) σ S' a' w' → next a' w')
    (hpan : ∀ c, s.pan = some c → ∀ a' w', Sat W bs nt ds ⟨σ.n, anyD ops σ.φ, dropKeys σ.h L⟩ a' w' → Q (.panic c) a' w')
    (hσf : FrKeys (· / 8 < σ.n) σ.φ) (hσh : KeysIn (· / 8 < σ.n) σ.h) (hσp : ∀ p ∈ ds.pins, p.1 / 8 < σ.n) :
    wpOp P ops Q i next a w := by
  obtain ⟨ho, hs⟩ := tr_spec Γ ops.toList σ.n 0 σ.φ σ.h i o s hT
  rw [Array.getElem?_toList] at ho
  have hfu : (fuL (tr Γ W bs nt ops ops.toList σ.n σ.φ σ.h))[i]? = some (fuOf o s) := by simp [fuL, hT]
  have hhu : (huL (tr Γ W bs nt ops ops.toList σ.n σ.φ σ.h))[i]? = some s.upd := by simp [huL, hT]
  have ef : accOf (fuL (tr Γ W bs nt ops ops.toList σ.n σ.φ σ.h)) 0 S' σ.φ = updL (accOf (fuL (tr Γ W bs nt ops ops.toList σ.n σ.φ σ.h)) 0 S σ.φ) (fuOf o s) :=
    acc_insert (Nat.zero_le i) hfu hSi hS'i hne insf
  have eh : accOf (huL (tr Γ W bs nt ops ops.toList σ.n σ.φ σ.h)) 0 S' σ.h = updL (accOf (huL (tr Γ W bs nt ops ops.toList σ.n σ.φ σ.h)) 0 S σ.h) s.upd :=
    acc_insert (Nat.zero_le i) hhu hSi hS'i hne insh
  obtain ⟨⟨E, F, hf, hh, hpn⟩, hsz, hdf, hfk, hhk⟩ := I
  have hsub : ∀ k, KS σ.n S k → KS σ.n S' k := fun k hk => hk.imp id fun ⟨j, hj, e⟩ => ⟨j, by
    by_cases hji : j = i
    · subst hji; rw [hSi] at hj; cases hj
    · rw [hne j hji]; exact hj, e⟩
  have hown : ∀ k, k / 8 = σ.n + i → KS σ.n S' k := fun k hk => .inr ⟨i, hS'i, hk⟩
  have hfresh : ∀ k, k / 8 = σ.n + i → ¬ KS σ.n S k := fun k hk hK => by
    rcases hK with hK | ⟨j, hj, e⟩
    · omega
    · have : j = i := by omega
      subst this; rw [hSi] at hj; cases hj
  have hkeys : (evG (accOf (fuL (tr Γ W bs nt ops ops.toList σ.n σ.φ σ.h)) 0 S σ.φ) ops o.guard).2 = true → step Γ W bs nt ops (σ.n + i) (accOf (fuL (tr Γ W bs nt ops ops.toList σ.n σ.φ σ.h)) 0 S σ.φ) (accOf (huL (tr Γ W bs nt ops ops.toList σ.n σ.φ σ.h)) 0 S σ.h) o = s →
      FrKeys (KS σ.n S') (updL (accOf (fuL (tr Γ W bs nt ops ops.toList σ.n σ.φ σ.h)) 0 S σ.φ) (fuOf o s)) ∧ KeysIn (KS σ.n S') (updL (accOf (huL (tr Γ W bs nt ops ops.toList σ.n σ.φ σ.h)) 0 S σ.h) s.upd) := by
    intro _ he
    have hk := step_keys Γ (W := W) (bs := bs) (nt := nt) (ops := ops) (κ := σ.n + i) (o := o) hfk hhk (by rw [he]; exact hside)
    rw [he] at hk
    have conv : ∀ k, KS σ.n S k ∨ k / 8 = σ.n + i → KS σ.n S' k := fun k hk => hk.elim (hsub k) (hown k)
    constructor
    · intro t k hkt
      rcases updL_mem (accOf (fuL (tr Γ W bs nt ops ops.toList σ.n σ.φ σ.h)) 0 S σ.φ) (k := t) (u := fuOf o s) with ⟨x, hx, hx'⟩ | ⟨_, hx'⟩
      · rw [hx'] at hkt
        have : x = s.fv := by
          unfold fuOf at hx
          cases hd : o.dst <;> simp [hd] at hx
          exact hx.2
        subst this
        exact conv k (hk.1 k hkt)
      · rw [hx'] at hkt
        exact hsub k (hfk t k hkt)
    · intro k e hke
      rcases updL_mem (accOf (huL (tr Γ W bs nt ops ops.toList σ.n σ.φ σ.h)) 0 S σ.h) (k := k) (u := s.upd) with ⟨x, hx, hx'⟩ | ⟨_, hx'⟩
      · rw [hx'] at hke
        have := hk.2 _ hx
        exact ⟨conv k this.1, fun j hj => conv j (this.2 e hke j hj)⟩
      · rw [hx'] at hke
        exact ⟨hsub k (hhk k e hke).1, fun j hj => hsub j ((hhk k e hke).2 j hj)⟩
  have hag := step_agree Γ (W := W) (bs := bs) (nt := nt) (ops := ops) (κ := σ.n + i) (o := o) (φ' := accOf (fuL (tr Γ W bs nt ops ops.toList σ.n σ.φ σ.h)) 0 S σ.φ) (h' := accOf (huL (tr Γ W bs nt ops ops.toList σ.n σ.φ σ.h)) 0 S σ.h) agr (by rw [← hs]; exact hside) (by rw [← hs]; exact agh)
  rw [← hs] at hag
  cases hgv : (evG (accOf (fuL (tr Γ W bs nt ops ops.toList σ.n σ.φ σ.h)) 0 S σ.φ) ops o.guard).2 with
  | true =>
    have he := hag.2 (by rw [← hag.1]; exact hgv)
    have hk' := hkeys hgv he
    refine step_wp Γ ho hf hh hsz hfk hhk hfresh (by rw [he]; exact hside) (fun hp a' w' E' F' hE hf' hh' hsz' hd' => hnext (by rw [he] at hp; exact hp) a' w' ?_) (fun c hc w' F' hh' => hpan c (by rw [he] at hc; exact hc) a w' ?_)
    · rw [he] at hf' hh'
      rw [putO_updL] at hf'
      exact ⟨⟨E', F', by rw [ef]; exact hf', by rw [eh]; exact hh', fun p hp => (hE p.1 (by have := hσp p hp; omega)).trans (hpn p hp)⟩, hsz', hd'.trans hdf, by rw [ef]; exact hk'.1, by rw [eh]; exact hk'.2⟩
    · rw [he] at hh'
      have hTm : (o, s) ∈ tr Γ W bs nt ops ops.toList σ.n σ.φ σ.h := List.mem_of_getElem? hT
      refine ⟨⟨E, F', ?_, hh'.drop ?_, hpn⟩, hsz, hdf, hσp, ?_, ?_⟩
      · intro t
        simp only [anyD]
        split
        · trivial
        · rename_i hnt
          have := hf t
          rwa [acc_out] at this
          intro u hu
          simp only [fuL, List.mem_map] at hu
          obtain ⟨p, hp, rfl⟩ := hu
          rw [keys_fuOf]
          intro hd
          obtain ⟨jj, hjj⟩ := List.getElem?_of_mem hp
          have := (tr_spec Γ ops.toList σ.n 0 σ.φ σ.h jj p.1 p.2 hjj).1
          exact hnt (List.any_eq_true.2 ⟨p.1, List.mem_of_getElem? this, by simp [hd]⟩)
      · intro k e hke
        simp only [dropKeys] at hke ⊢
        split at hke
        · cases hke
        · rename_i hnk
          rw [if_neg fun hm => hnk (hL i _ hT (.inr rfl) k (List.mem_append_right _ hm)), acc_outS]
          · exact hke
          · intro jj u hu hSj hm
            rw [Nat.zero_add] at hSj
            simp only [huL, List.getElem?_map, Option.map_eq_some_iff] at hu
            obtain ⟨p, hjj, rfl⟩ := hu
            have := (tr_spec Γ ops.toList σ.n 0 σ.φ σ.h jj p.1 p.2 hjj).2
            refine hnk (hL jj p hjj (.inl hSj) k (List.mem_append_left _ ?_))
            rw [this] at hm ⊢
            exact step_uk Γ hm
      · intro t k hk
        simp only [anyD] at hk
        split at hk
        · cases hk
        · exact hσf t k hk
      · intro k e hke
        simp only [dropKeys] at hke
        split at hke
        · cases hke
        · exact hσh k e hke
  | false =>
    have hgs : (evG (accOf (fuL (tr Γ W bs nt ops ops.toList σ.n σ.φ σ.h)) 0 S σ.φ) ops o.guard).1 := by
      rw [hag.1]
      rw [hs] at hside
      exact (step_side Γ hside).1
    have hgv' := hgv
    rw [hag.1] at hgv'
    have hidle := step_idle Γ (W := W) (bs := bs) (nt := nt) (ops := ops) (κ := σ.n + i) (o := o) (h := accOf (huL (tr Γ W bs nt ops ops.toList σ.n σ.φ σ.h)) 0 (fun j => decide (j < 0 + i)) σ.h) hgv' (by rw [← hs]; exact hside)
    rw [← hs] at hidle
    obtain ⟨⟨x, hx⟩, hu, hpn0⟩ := hidle
    have hw : Region.wanted o (yielded ops a.tmps) = false := by rw [evG_den hf hgs, hgv]
    unfold wpOp
    simp only [ho, hw, Bool.false_eq_true, if_false]
    have hdst : ∀ d, o.dst = some d → d < a.tmps.size := fun d hd => by
      rw [hsz]
      rw [hs] at hside
      exact (step_side Γ hside).2 d hd
    refine hnext hpn0 _ _ ⟨⟨E, F, ?_, ?_, hpn⟩, ?_, ?_, ?_, ?_⟩
    · rw [ef, ← putO_updL]
      exact hf.put hdst (by rw [hx]; rfl)
    · rw [eh, hu]; exact hh
    · rw [← hsz]; cases o.dst <;> simp [Act.put]
    · rw [← hdf]; cases o.dst <;> simp [Act.put]
    · rw [ef]
      intro t k hkt
      rcases updL_mem (accOf (fuL (tr Γ W bs nt ops ops.toList σ.n σ.φ σ.h)) 0 S σ.φ) (k := t) (u := fuOf o s) with ⟨y, hy, hy'⟩ | ⟨_, hy'⟩
      · rw [hy'] at hkt
        have : y = s.fv := by
          unfold fuOf at hy
          cases hd : o.dst <;> simp [hd] at hy
          exact hy.2
        subst this
        rw [hx] at hkt
        cases hkt
      · rw [hy'] at hkt
        exact hsub k (hfk t k hkt)
    · rw [eh, hu]
      intro k e hke
      exact ⟨hsub k (hhk k e hke).1, fun j hj => hsub j ((hhk k e hke).2 j hj)⟩
end
end Go.LE
end
section
namespace Go.LE
open Go.RowKit
structure RG where
  side : Prop
  n : Nat
  φ : Fr
  h : Hp
  pans : List (Option (List PanicEntry))
  lost : List Nat
  fx : List (List Nat × List Nat)
section
variable {P : Program} {W : World} {bs : List Nat} {nt : Nat} {ds : Aux} {ops : Array Oper} (Γ : Env P)
def rgAdd (s : S) (g : RG) : RG := ⟨s.side ∧ g.side, g.n, g.φ, g.h, s.pan :: g.pans, s.uk ++ s.pupd ++ g.lost, (s.uk, s.reads) :: g.fx⟩
def rgo (Γ : Env P) (W : World) (bs : List Nat) (nt : Nat) (ops : Array Oper) : List Oper → Nat → Fr → Hp → RG
  | [], κ, φ, h => ⟨True, κ, φ, h, [], [], []⟩
  | o :: r, κ, φ, h => rgAdd (step Γ W bs nt ops κ φ h o) (rgo Γ W bs nt ops r (κ + 1) (putO φ o.dst (step Γ W bs nt ops κ φ h o).fv) (updL h (step Γ W bs nt ops κ φ h o).upd))
theorem rgo_tr : ∀ (l : List Oper) (κ m : Nat) (φ : Fr) (h : Hp),
    (rgo Γ W bs nt ops l κ φ h).φ = accOf (fuL (tr Γ W bs nt ops l κ φ h)) m (fun _ => true) φ ∧
    (rgo Γ W bs nt ops l κ φ h).h = accOf (huL (tr Γ W bs nt ops l κ φ h)) m (fun _ => true) h ∧
    (rgo Γ W bs nt ops l κ φ h).pans = (tr Γ W bs nt ops l κ φ h).map (·.2.pan) ∧
    (rgo Γ W bs nt ops l κ φ h).lost = lostOf (tr Γ W bs nt ops l κ φ h) ∧
    (rgo Γ W bs nt ops l κ φ h).fx = (tr Γ W bs nt ops l κ φ h).map (fun p => (p.2.uk, p.2.reads)) ∧
    ((rgo Γ W bs nt ops l κ φ h).side → ∀ p ∈ tr Γ W bs nt ops l κ φ h, p.2.side) ∧ (rgo Γ W bs nt ops l κ φ h).n = κ + l.length
  | [], _, _, _, _ => ⟨rfl, rfl, rfl, rfl, rfl, by simp [tr], rfl⟩
  | o :: r, κ, m, φ, h => by
    obtain ⟨h1, h2, h3, h4, h5, h6, h7⟩ := rgo_tr r (κ + 1) (m + 1) (putO φ o.dst (step Γ W bs nt ops κ φ h o).fv) (updL h (step Γ W bs nt ops κ φ h o).upd)
    simp only [rgo, rgAdd, tr, fuL, huL, lostOf, List.map_cons, accOf, if_true, List.flatMap_cons, List.mem_cons] at *
    refine ⟨by rw [h1, putO_updL], by rw [h2], by rw [h3], by rw [h4], by rw [h5], ?_, by rw [h7, List.length_cons]; omega⟩
    rintro ⟨hs, hr⟩ p (rfl | hp)
    · exact hs
    · exact h6 hr p hp
def slotB (ops : Array Oper) : Bool :=
  (List.range ops.size).all fun j => match ops[j]? with
    | none => true
    | some oj => (oj.after.all fun e => !Region.binds .any e || decide (e.on < j)) && match oj.dst with
      | none => true
      | some t => (List.range ops.size).all fun i => i == j || match ops[i]? with
        | none => true
        | some oi => !((oi.looksAt ops).contains t || oi.dst == some t) || cmpB ops i j
def heapB (ops : Array Oper) (fx : List (List Nat × List Nat)) : Bool :=
  (List.range fx.length).all fun j => match fx[j]? with
    | none => true
    | some pj => pj.1.isEmpty || (List.range fx.length).all fun i => i == j || match fx[i]? with
      | none => true
      | some pi => (pj.1.all fun k => !(pi.2.contains k || pi.1.contains k)) || cmpB ops i j
theorem draws_of {σ : St} (h1 : slotB ops = true) (h2 : heapB ops (rgo Γ W bs nt ops ops.toList σ.n σ.φ σ.h).fx = true) : Draws ops (tr Γ W bs nt ops ops.toList σ.n σ.φ σ.h) := by
  have lt : ∀ {α : Type} {l : Array α} {i : Nat} {x : α}, l[i]? = some x → i < l.size := fun hx => (Array.getElem?_eq_some_iff.1 hx).1
  unfold slotB at h1
  rw [List.all_eq_true] at h1
  constructor
  · intro j o ho e he hb
    have := h1 j (List.mem_range.2 (lt ho))
    rw [ho] at this
    simp only [Bool.and_eq_true] at this
    have := Array.all_eq_true.1 this.1
    obtain ⟨i, hi, hie⟩ := Array.mem_iff_getElem.1 he
    have := this i hi
    rw [hie, hb] at this
    simpa using this
  · intro i j oi oj t hij hi hj hd hc
    have := h1 j (List.mem_range.2 (lt hj))
    rw [hj] at this
    simp only [Bool.and_eq_true, hd, List.all_eq_true] at this
    have := this.2 i (List.mem_range.2 (lt hi))
    rw [hi] at this
    have hij' : (i == j) = false := by simpa using hij
    simp only [hij', Bool.false_or] at this
    have hc' : ((oi.looksAt ops).contains t || oi.dst == some t) = true := by
      rcases hc with hc | hc
      · simp [hc]
      · simp [hc]
    rw [hc'] at this
    exact cmpB_spec (by simpa using this)
  · intro i j oi oj si sj k hij hi hj hk hc
    rw [(rgo_tr Γ ops.toList σ.n 0 σ.φ σ.h).2.2.2.2.1] at h2
    unfold heapB at h2
    rw [List.all_eq_true] at h2
    have llt : ∀ {l : List (Oper × S)} {i : Nat} {x : Oper × S}, l[i]? = some x → i < (l.map (fun p => (p.2.uk, p.2.reads))).length := fun hx => by simpa using (List.getElem?_eq_some_iff.1 hx).1
    have huk : ∀ (i : Nat) (o : Oper) (s : S), (tr Γ W bs nt ops ops.toList σ.n σ.φ σ.h)[i]? = some (o, s) → ∀ k ∈ keysU s.upd, k ∈ s.uk := fun i o s hT k hk => by
      have := (tr_spec Γ ops.toList σ.n 0 σ.φ σ.h i o s hT).2
      rw [this] at hk ⊢
      exact step_uk Γ hk
    have := h2 j (List.mem_range.2 (llt hj))
    simp only [List.getElem?_map, hj, Option.map_some, Bool.or_eq_true, List.all_eq_true] at this
    rcases this with this | this
    · have hk' := huk j oj sj hj k hk
      rw [List.isEmpty_iff] at this
      rw [this] at hk'
      cases hk'
    · have := this i (List.mem_range.2 (llt hi))
      simp only [hi, Option.map_some] at this
      have hij' : (i == j) = false := by simpa using hij
      rw [hij'] at this
      simp only [Bool.false_eq_true, false_or, Bool.or_eq_true, List.all_eq_true] at this
      rcases this with this | this
      · have := this k (huk j oj sj hj k hk)
        rcases hc with hc | hc
        · simp [hc] at this
        · simp [huk i oi si hi k hc] at this
      · exact cmpB_spec this
theorem inv_end {σ : St} {S : Nat → Bool} {a : Act} {w : World} (I : Inv W bs nt ds (tr Γ W bs nt ops ops.toList σ.n σ.φ σ.h) σ S a w) (hS : ∀ i, i < ops.size → S i = true) (hS' : ∀ i, S i = true → i < ops.size) (hσp : ∀ p ∈ ds.pins, p.1 / 8 < σ.n) :
    Sat W bs nt ds ⟨σ.n + ops.size, (rgo Γ W bs nt ops ops.toList σ.n σ.φ σ.h).φ, (rgo Γ W bs nt ops ops.toList σ.n σ.φ σ.h).h⟩ a w := by
  obtain ⟨e1, e2, _⟩ := rgo_tr Γ ops.toList σ.n 0 σ.φ σ.h (W := W) (bs := bs) (nt := nt) (ops := ops)
  have ef : accOf (fuL (tr Γ W bs nt ops ops.toList σ.n σ.φ σ.h)) 0 S σ.φ = accOf (fuL (tr Γ W bs nt ops ops.toList σ.n σ.φ σ.h)) 0 (fun _ => true) σ.φ := funext fun t => acc_congr rfl fun i u hi _ => by
    have := (List.getElem?_eq_some_iff.1 hi).1
    simp only [fuL, List.length_map, tr_len, Array.length_toList] at this
    rw [Nat.zero_add]; exact hS i this
  have eh : accOf (huL (tr Γ W bs nt ops ops.toList σ.n σ.φ σ.h)) 0 S σ.h = accOf (huL (tr Γ W bs nt ops ops.toList σ.n σ.φ σ.h)) 0 (fun _ => true) σ.h := funext fun t => acc_congr rfl fun i u hi _ => by
    have := (List.getElem?_eq_some_iff.1 hi).1
    simp only [huL, List.length_map, tr_len, Array.length_toList] at this
    rw [Nat.zero_add]; exact hS i this
  obtain ⟨hex, hsz, hdf, hfk, hhk⟩ := I
  rw [ef] at hfk hex
  rw [eh] at hhk hex
  have conv : ∀ k, KS σ.n S k → k / 8 < σ.n + ops.size := fun k hk => by
    rcases hk with hk | ⟨j, hj, e⟩
    · omega
    · have := hS' j hj; omega
  refine ⟨by rw [e1, e2]; exact hex, hsz, hdf, fun p hp => Nat.lt_of_lt_of_le (hσp p hp) (Nat.le_add_right _ _), ?_, ?_⟩
  · rw [e1]; exact fun t k hk => conv k (hfk t k hk)
  · rw [e2]; exact fun k e hk => ⟨conv k (hhk k e hk).1, fun j hj => conv j ((hhk k e hk).2 j hj)⟩
theorem inv_start {σ : St} {a : Act} {w : World} (hsat : Sat W bs nt ds σ a w) {V : Nat → Bool} (hS : ∀ i, V i = false) (T : List (Oper × S)) : Inv W bs nt ds T σ V a w := by
  obtain ⟨hex, hsz, hdf, _, hfk, hhk⟩ := hsat
  have ef : accOf (fuL T) 0 V σ.φ = σ.φ := acc_none fun i _ => hS _
  have eh : accOf (huL T) 0 V σ.h = σ.h := acc_none fun i _ => hS _
  refine ⟨by rw [ef, eh]; exact hex, hsz, hdf, ?_, ?_⟩
  · rw [ef]; exact fun t k hk => .inl (hfk t k hk)
  · rw [eh]; exact fun k e hk => ⟨.inl (hhk k e hk).1, fun j hj => .inl ((hhk k e hk).2 j hj)⟩
theorem region_seq {σ : St} {Q : Exit → Act → World → Prop} (hσf : FrKeys (· / 8 < σ.n) σ.φ) (hσh : KeysIn (· / 8 < σ.n) σ.h) (hσp : ∀ p ∈ ds.pins, p.1 / 8 < σ.n)
    (hside : ∀ p ∈ tr Γ W bs nt ops ops.toList σ.n σ.φ σ.h, p.2.side)
    (hQ : (∀ p ∈ tr Γ W bs nt ops ops.toList σ.n σ.φ σ.h, p.2.pan = none) → ∀ a' w', Sat W bs nt ds ⟨σ.n + ops.size, (rgo Γ W bs nt ops ops.toList σ.n σ.φ σ.h).φ, (rgo Γ W bs nt ops ops.toList σ.n σ.φ σ.h).h⟩ a' w' → Q .normal a' w')
    (hP : ∀ p ∈ tr Γ W bs nt ops ops.toList σ.n σ.φ σ.h, ∀ c, p.2.pan = some c → ∀ a' w', Sat W bs nt ds ⟨σ.n, anyD ops σ.φ, dropKeys σ.h (lostOf (tr Γ W bs nt ops ops.toList σ.n σ.φ σ.h))⟩ a' w' → Q (.panic c) a' w') :
    ∀ (m i : Nat), i + m = ops.size → (∀ j o s, j < i → (tr Γ W bs nt ops ops.toList σ.n σ.φ σ.h)[j]? = some (o, s) → s.pan = none) → ∀ a w, Inv W bs nt ds (tr Γ W bs nt ops ops.toList σ.n σ.φ σ.h) σ (fun j => decide (j < i)) a w → wpOps P ops Q (List.range' i m) a w
  | 0, i, hi, hpr, a, w, I => hQ (fun p hp => by
      obtain ⟨j, hj⟩ := List.getElem?_of_mem hp
      have hlt := (List.getElem?_eq_some_iff.1 hj).1
      rw [tr_len, Array.length_toList] at hlt
      exact hpr j p.1 p.2 (by omega) hj) a w (inv_end Γ I (fun j hj => by simp; omega) (fun j hj => by simp at hj; omega) hσp)
  | m + 1, i, hi, hpr, a, w, I => by
    rw [List.range'_succ, wpOps_cons]
    have hlt : i < ops.toList.length := by simp; omega
    obtain ⟨s, hT⟩ := tr_get Γ (W := W) (bs := bs) (nt := nt) (ops := ops) (κ := σ.n) (φ := σ.φ) (h := σ.h) (List.getElem?_eq_getElem hlt)
    have hz : ∀ j, decide (j < 0 + i) = decide (j < i) := fun j => by simp
    refine one Γ (L := lostOf (tr Γ W bs nt ops ops.toList σ.n σ.φ σ.h)) (fun j p hp _ k hk => List.mem_flatMap.2 ⟨p, List.mem_of_getElem? hp, hk⟩) hT (S' := fun j => decide (j < i + 1)) (by simp) (by simp) (fun j hj => by simp; omega) (fun t _ => by simp only [hz]) (fun t _ => by simp only [hz]) (fun j v hj _ hs => by simp at hs; omega) (fun j v hj _ hs => by simp at hs; omega) I (hside _ (List.mem_of_getElem? hT)) (fun hpn => region_seq hσf hσh hσp hside hQ hP m (i + 1) (by omega) (fun j o s' hj hs' => by
      by_cases hji : j = i
      · subst hji; rw [hT] at hs'; cases hs'; exact hpn
      · exact hpr j o s' (by omega) hs')) (fun c hc a' w' => hP _ (List.mem_of_getElem? hT) c hc a' w') hσf hσh hσp
theorem region_any {σ : St} {Q : Exit → Act → World → Prop} (hσf : FrKeys (· / 8 < σ.n) σ.φ) (hσh : KeysIn (· / 8 < σ.n) σ.h) (hσp : ∀ p ∈ ds.pins, p.1 / 8 < σ.n)
    (hd : Draws ops (tr Γ W bs nt ops ops.toList σ.n σ.φ σ.h))
    (hside : ∀ p ∈ tr Γ W bs nt ops ops.toList σ.n σ.φ σ.h, p.2.side)
    (hQ : (∀ p ∈ tr Γ W bs nt ops ops.toList σ.n σ.φ σ.h, p.2.pan = none) → ∀ a' w', Sat W bs nt ds ⟨σ.n + ops.size, (rgo Γ W bs nt ops ops.toList σ.n σ.φ σ.h).φ, (rgo Γ W bs nt ops ops.toList σ.n σ.φ σ.h).h⟩ a' w' → Q .normal a' w')
    (hP : ∀ p ∈ tr Γ W bs nt ops ops.toList σ.n σ.φ σ.h, ∀ c, p.2.pan = some c → ∀ a' w', Sat W bs nt ds ⟨σ.n, anyD ops σ.φ, dropKeys σ.h (lostOf (tr Γ W bs nt ops ops.toList σ.n σ.φ σ.h))⟩ a' w' → Q (.panic c) a' w') :
    ∀ (fuel : Nat) (listed : Array Bool) (a : Act) (w : World), listed.size = ops.size → listed.toList.count false ≤ fuel →
      (∀ j o, ops[j]? = some o → listed.getD j false = true → ∀ e ∈ o.after, Region.binds .any e = true → listed.getD e.on false = true) →
      (∀ j o s, listed.getD j false = true → (tr Γ W bs nt ops ops.toList σ.n σ.φ σ.h)[j]? = some (o, s) → s.pan = none) →
      Inv W bs nt ds (tr Γ W bs nt ops ops.toList σ.n σ.φ σ.h) σ (fun j => listed.getD j false) a w → wpAny P .any ops Q fuel listed a w := by
  have gd : ∀ (l : Array Bool) i, i < l.size → l.getD i true = l.getD i false := fun l i hi => by simp [Array.getD_eq_getD_getElem?, Array.getElem?_eq_getElem hi]
  have done : ∀ (listed : Array Bool) (a : Act) (w : World), listed.size = ops.size → Region.ready .any ops listed = [] →
      (∀ j o s, listed.getD j false = true → (tr Γ W bs nt ops ops.toList σ.n σ.φ σ.h)[j]? = some (o, s) → s.pan = none) →
      Inv W bs nt ds (tr Γ W bs nt ops ops.toList σ.n σ.φ σ.h) σ (fun j => listed.getD j false) a w → Q .normal a w := by
    intro listed a w hsz hr hpr I
    have all : ∀ i, i < ops.size → listed.getD i false = true := by
      intro i
      induction i using Nat.strongRecOn with
      | _ i ih =>
        intro hi
        cases hl : listed.getD i false with
        | true => rfl
        | false =>
          exfalso
          have : i ∈ Region.ready .any ops listed := by
            refine List.mem_filter.2 ⟨List.mem_range.2 hi, ?_⟩
            rw [gd _ _ (by omega), hl]
            simp only [Bool.not_false, Bool.true_and, Array.getElem?_eq_getElem hi, Option.map_some, Option.getD_some]
            rw [Array.all_eq_true]
            intro j hj
            cases hb : Region.binds .any (ops[i].after[j]) with
            | false => rfl
            | true =>
              have hlt := hd.edge i ops[i] (Array.getElem?_eq_getElem hi) (ops[i].after[j]) (Array.getElem_mem hj) hb
              simpa using ih _ hlt (by omega)
          rw [hr] at this
          cases this
    refine hQ (fun p hp => ?_) a w (inv_end Γ I all (fun i hi => ?_) hσp)
    · obtain ⟨j, hj⟩ := List.getElem?_of_mem hp
      have hlt := (List.getElem?_eq_some_iff.1 hj).1
      rw [tr_len, Array.length_toList] at hlt
      exact hpr j p.1 p.2 (all j hlt) hj
    by_cases hlt : i < listed.size
    · omega
    · simp [Array.getD_eq_getD_getElem?, Array.getElem?_eq_none (Nat.le_of_not_lt hlt)] at hi
  intro fuel
  induction fuel with
  | zero =>
    intro listed a w hsz hc hcl hpr I
    have hr : Region.ready .any ops listed = [] := by
      refine List.filter_eq_nil_iff.2 fun i hi => ?_
      have hi' : i < listed.size := by rw [hsz]; exact List.mem_range.1 hi
      have : listed.getD i true = true := by
        rw [Array.getD_eq_getD_getElem?, Array.getElem?_eq_getElem hi']
        simp only [Option.getD_some]
        have h0 := List.count_eq_zero.1 (Nat.le_zero.1 hc)
        cases hv : listed[i] with
        | true => rfl
        | false => exact absurd (by rw [← hv]; simp) h0
      simp [this]
    exact ⟨hr, done listed a w hsz hr hpr I⟩
  | succ fuel ih =>
    intro listed a w hsz hc hcl hpr I
    refine ⟨fun hr => done listed a w hsz hr hpr I, fun i hi => ?_⟩
    obtain ⟨hi, hready⟩ := List.mem_filter.1 hi
    have hi := List.mem_range.1 hi
    have ho : ops[i]? = some ops[i] := Array.getElem?_eq_getElem hi
    have hil : i < listed.size := by omega
    rw [gd _ _ hil] at hready
    simp only [ho, Option.map_some, Option.getD_some, Bool.and_eq_true, Bool.not_eq_true'] at hready
    obtain ⟨hli, hpre⟩ := hready
    rw [Array.all_eq_true] at hpre
    obtain ⟨s, hT⟩ := tr_get Γ (W := W) (bs := bs) (nt := nt) (ops := ops) (κ := σ.n) (φ := σ.φ) (h := σ.h) (l := ops.toList) (i := i) (o := ops[i]) (by rw [Array.getElem?_toList]; exact ho)
    have hset : ∀ j, (listed.setIfInBounds i true).getD j false = if j = i then true else listed.getD j false := fun j => by
      simp only [Array.getD_eq_getD_getElem?, Array.getElem?_setIfInBounds]
      by_cases hji : i = j
      · subst hji; simp [hil]
      · rw [if_neg hji, if_neg (Ne.symm hji)]
    have hcl' : ∀ j o, ops[j]? = some o → (listed.setIfInBounds i true).getD j false = true → ∀ e ∈ o.after, Region.binds .any e = true → (listed.setIfInBounds i true).getD e.on false = true := by
      intro j o hj hl e he hb
      rw [hset] at hl ⊢
      split
      · rfl
      · split at hl
        · rename_i hji
          subst hji
          rw [ho] at hj
          cases hj
          obtain ⟨m, hm, hme⟩ := Array.mem_iff_getElem.1 he
          have := hpre m hm
          rw [hme, hb] at this
          simpa using this
        · exact hcl j o hj hl e he hb
    have rb : ∀ j, Reach ops j i → j ≠ i → listed.getD j false = true := fun j hr hji => by
      have := reach_closed (S := fun j => (listed.setIfInBounds i true).getD j false) hcl' hr (by simp only [hset, if_pos])
      simp only [hset, if_neg hji] at this
      exact this
    have ra : ∀ j, Reach ops i j → listed.getD j false = false := fun j hr => by
      cases hl : listed.getD j false with
      | false => rfl
      | true =>
        have := reach_closed (S := fun j => listed.getD j false) hcl hr hl
        simp only [hli] at this
        cases this
    have agree : ∀ j, j ≠ i → Cmp ops i j → listed.getD j false = decide (j < 0 + i) := fun j hji hc => by
      rw [Nat.zero_add]
      by_cases hlt : j < i
      · rw [rb j (hc.2 hlt) hji]; simp [hlt]
      · rw [ra j (hc.1 (by omega))]; simp [hlt]
    have self : listed.getD i false = decide (i < 0 + i) := by rw [hli]; simp
    have inT : ∀ (j : Nat) (v : List (Nat × FV)), (fuL (tr Γ W bs nt ops ops.toList σ.n σ.φ σ.h))[j]? = some v → ∃ (o : Oper) (s : S), (tr Γ W bs nt ops ops.toList σ.n σ.φ σ.h)[j]? = some (o, s) ∧ ops[j]? = some o ∧ v = fuOf o s := fun j v hv => by
      simp only [fuL, List.getElem?_map, Option.map_eq_some_iff] at hv
      obtain ⟨⟨o, s⟩, h1, h2⟩ := hv
      have := (tr_spec Γ ops.toList σ.n 0 σ.φ σ.h j o s h1).1
      rw [Array.getElem?_toList] at this
      exact ⟨o, s, h1, this, h2.symm⟩
    have inH : ∀ (j : Nat) (v : List (Nat × Option Ent)), (huL (tr Γ W bs nt ops ops.toList σ.n σ.φ σ.h))[j]? = some v → ∃ (o : Oper) (s : S), (tr Γ W bs nt ops ops.toList σ.n σ.φ σ.h)[j]? = some (o, s) ∧ v = s.upd := fun j v hv => by
      simp only [huL, List.getElem?_map, Option.map_eq_some_iff] at hv
      obtain ⟨⟨o, s⟩, h1, h2⟩ := hv
      exact ⟨o, s, h1, h2.symm⟩
    refine one Γ (L := lostOf (tr Γ W bs nt ops ops.toList σ.n σ.φ σ.h)) (fun j p hp _ k hk => List.mem_flatMap.2 ⟨p, List.mem_of_getElem? hp, hk⟩) hT (S := fun j => listed.getD j false) (S' := fun j => (listed.setIfInBounds i true).getD j false) hli (by simp only [hset, if_pos]) (fun j hj => by simp only [hset, if_neg hj]) (fun t ht => ?_) (fun k hk => ?_) (fun j v hij hv hs k hk hk' => ?_) (fun j v hij hv hs k hk hk' => ?_) I (hside _ (List.mem_of_getElem? hT)) (fun hpn a' w' I' => ?_) (fun c hc a' w' => hP _ (List.mem_of_getElem? hT) c hc a' w') hσf hσh hσp
    · refine acc_congr rfl fun j u hj hju => ?_
      obtain ⟨o', s', _, hj', rfl⟩ := inT j u hj
      rw [Nat.zero_add]
      by_cases hji : j = i
      · subst hji; exact self
      · exact agree j hji (hd.slot i j _ o' t (Ne.symm hji) ho hj' (keys_fuOf.1 hju) (.inl ht))
    · refine acc_congr rfl fun j u hj hju => ?_
      obtain ⟨o', s', hj', rfl⟩ := inH j u hj
      rw [Nat.zero_add]
      by_cases hji : j = i
      · subst hji; exact self
      · exact agree j hji (hd.heap i j _ o' _ s' k (Ne.symm hji) hT hj' hju (.inl hk))
    · obtain ⟨o', s', _, hj', rfl⟩ := inT j v hv
      have := ra j ((hd.slot i j _ o' k (by omega) ho hj' (keys_fuOf.1 hk') (.inr (keys_fuOf.1 hk))).1 hij)
      rw [this] at hs
      cases hs
    · obtain ⟨o', s', hj', rfl⟩ := inH j v hv
      have := ra j ((hd.heap i j _ o' _ s' k (by omega) hT hj' hk' (.inr hk)).1 hij)
      rw [this] at hs
      cases hs
    · refine ih _ a' w' (by simpa using hsz) ?_ hcl' (fun j o' s' hj hs' => ?_) I'
      rotate_left
      · by_cases hji : j = i
        · subst hji; rw [hT] at hs'; cases hs'; exact hpn
        · rw [hset, if_neg hji] at hj; exact hpr j o' s' hj hs'
      rw [Array.toList_setIfInBounds, List.count_set (by simpa using hil)]
      have e1 : listed.toList[i]'(by simpa using hil) = false := by
        rw [Array.getD_eq_getD_getElem?, Array.getElem?_eq_getElem hil] at hli
        simpa using hli
      rw [e1]
      have hpos : 0 < listed.toList.count false := List.count_pos_iff.2 (e1 ▸ List.getElem_mem _)
      simp only [beq_self_eq_true, if_true, show (true == false) = false from rfl, Bool.false_eq_true, if_false]
      omega
theorem region_wp {id : Nat} {d : Bool} {σ : St} {Q : Exit → Act → World → Prop} {a : Act} {w : World} (hm : P.follows .mixedOrders = true) (hsat : Sat W bs nt ds σ a w)
    {g : RG} (hg : rgo Γ W bs nt ops ops.toList σ.n σ.φ σ.h = g) (hside : g.side) (hd : d = true → slotB ops = true ∧ heapB ops g.fx = true)
    (hQ : (∀ x ∈ g.pans, x = none) → ∀ a' w', Sat W bs nt ds ⟨g.n, g.φ, g.h⟩ a' w' → Q .normal a' w')
    (hP : ∀ c, some c ∈ g.pans → ∀ a' w', Sat W bs nt ds ⟨σ.n, anyD ops σ.φ, dropKeys σ.h g.lost⟩ a' w' → Q (.panic c) a' w') :
    (Code.region id ops d).wp P Q a w := by
  subst hg
  obtain ⟨_, _, h3, h4, _, h6, h7⟩ := rgo_tr Γ ops.toList σ.n 0 σ.φ σ.h (W := W) (bs := bs) (nt := nt) (ops := ops)
  rw [Array.length_toList] at h7
  rw [h7] at hQ
  have hP' : ∀ p ∈ tr Γ W bs nt ops ops.toList σ.n σ.φ σ.h, ∀ c, p.2.pan = some c → ∀ a' w', Sat W bs nt ds ⟨σ.n, anyD ops σ.φ, dropKeys σ.h (lostOf (tr Γ W bs nt ops ops.toList σ.n σ.φ σ.h))⟩ a' w' → Q (.panic c) a' w' := by
    intro p hp c hc
    rw [← h4]
    exact hP c (by rw [h3]; exact List.mem_map.2 ⟨p, hp, hc⟩)
  have hQ' := fun (hall : ∀ p ∈ tr Γ W bs nt ops ops.toList σ.n σ.φ σ.h, p.2.pan = none) => hQ (by
    rw [h3]
    intro x hx
    obtain ⟨p, hp, rfl⟩ := List.mem_map.1 hx
    exact hall p hp)
  cases d with
  | false =>
    refine wp_region ?_
    rw [List.range_eq_range']
    exact region_seq Γ hsat.fk hsat.hk hsat.pk (h6 hside) hQ' hP' ops.size 0 (by omega) (fun j o s hj => by omega) a w (inv_start hsat (by simp) _)
  | true =>
    refine wp_region_any hm ?_
    have hsat' : Sat W bs nt ds σ a { w with drawn := w.drawn + 1 } := by
      obtain ⟨⟨E, F, hf, hh, hp⟩, h1, h2, h3, h4, h5⟩ := hsat
      exact ⟨⟨E, F, hf, hh.grow ⟨rfl, rfl, rfl, Nat.le_refl _, fun _ _ _ => rfl⟩, hp⟩, h1, h2, h3, h4, h5⟩
    have hz : ∀ i, (Array.replicate ops.size false).getD i false = false := fun i => by
      simp only [Array.getD_eq_getD_getElem?, Array.getElem?_replicate]
      split <;> rfl
    refine region_any Γ hsat.fk hsat.hk hsat.pk (draws_of Γ (hd rfl).1 (hd rfl).2) (h6 hside) hQ' hP' ops.size _ a _ (by simp) (by simp [List.count_replicate]) (fun j o _ hj => by rw [hz] at hj; cases hj) (fun j o s hj => by rw [hz] at hj; cases hj) (inv_start hsat' hz _)
structure RP where
  side : Prop
  pan : Option (List PanicEntry)
  lost : List Nat
def rpAdd (s : S) (g : RP) : RP := ⟨s.side ∧ g.side, g.pan, s.uk ++ s.pupd ++ g.lost⟩
def rgoP (Γ : Env P) (W : World) (bs : List Nat) (nt : Nat) (ops : Array Oper) : List Oper → Nat → Fr → Hp → RP
  | [], _, _, _ => ⟨True, none, []⟩
  | o :: r, κ, φ, h => match (step Γ W bs nt ops κ φ h o).pan with
    | some c => ⟨(step Γ W bs nt ops κ φ h o).side, some c, (step Γ W bs nt ops κ φ h o).uk ++ (step Γ W bs nt ops κ φ h o).pupd⟩
    | none => rpAdd (step Γ W bs nt ops κ φ h o) (rgoP Γ W bs nt ops r (κ + 1) (putO φ o.dst (step Γ W bs nt ops κ φ h o).fv) (updL h (step Γ W bs nt ops κ φ h o).upd))
theorem rgoP_tr {c : List PanicEntry} : ∀ (l : List Oper) (κ : Nat) (φ : Fr) (h : Hp), (rgoP Γ W bs nt ops l κ φ h).pan = some c → (rgoP Γ W bs nt ops l κ φ h).side →
    ∃ (i : Nat) (p : Oper × S), (tr Γ W bs nt ops l κ φ h)[i]? = some p ∧ p.2.pan = some c ∧ (∀ (j : Nat) (q : Oper × S), j ≤ i → (tr Γ W bs nt ops l κ φ h)[j]? = some q → q.2.side) ∧ (∀ (j : Nat) (q : Oper × S), j < i → (tr Γ W bs nt ops l κ φ h)[j]? = some q → q.2.pan = none) ∧
      ∀ (j : Nat) (q : Oper × S), j ≤ i → (tr Γ W bs nt ops l κ φ h)[j]? = some q → ∀ k ∈ q.2.uk ++ q.2.pupd, k ∈ (rgoP Γ W bs nt ops l κ φ h).lost
  | [], _, _, _, hp, _ => by cases hp
  | o :: r, κ, φ, h, hp, hs => by
    have ih := rgoP_tr (c := c) r (κ + 1) (putO φ o.dst (step Γ W bs nt ops κ φ h o).fv) (updL h (step Γ W bs nt ops κ φ h o).upd)
    unfold rgoP at hp hs ⊢
    simp only [tr]
    cases hpn : (step Γ W bs nt ops κ φ h o).pan with
    | some c' =>
      rw [hpn] at hp hs
      simp only [Option.some.injEq] at hp hs
      subst hp
      refine ⟨0, _, rfl, hpn, fun j q hj hq => ?_, fun j q hj hq => by omega, fun j q hj hq k hk => ?_⟩
      · obtain rfl : j = 0 := by omega
        simp at hq; subst hq; exact hs
      · obtain rfl : j = 0 := by omega
        simp at hq; subst hq; exact hk
    | none =>
      rw [hpn] at hp hs
      simp only [rpAdd] at hp hs ⊢
      obtain ⟨i, p, h1, h2, h3, h4, h5⟩ := ih hp hs.2
      refine ⟨i + 1, p, by simpa using h1, h2, fun j q hj hq => ?_, fun j q hj hq => ?_, fun j q hj hq k hk => ?_⟩
      · cases j with
        | zero => simp at hq; subst hq; exact hs.1
        | succ j => exact h3 j q (by omega) (by simpa using hq)
      · cases j with
        | zero => simp at hq; subst hq; exact hpn
        | succ j => exact h4 j q (by omega) (by simpa using hq)
      · cases j with
        | zero => simp at hq; subst hq; exact List.mem_append_left _ hk
        | succ j => exact List.mem_append_right _ (h5 j q (by omega) (by simpa using hq) k hk)
theorem region_pan {id : Nat} {σ : St} {Q : Exit → Act → World → Prop} {a : Act} {w : World} (hsat : Sat W bs nt ds σ a w) {side : Prop} {c : List PanicEntry} {lost : List Nat}
    (hg : rgoP Γ W bs nt ops ops.toList σ.n σ.φ σ.h = ⟨side, some c, lost⟩) (hside : side)
    (hP : ∀ a' w', Sat W bs nt ds ⟨σ.n, anyD ops σ.φ, dropKeys σ.h lost⟩ a' w' → Q (.panic c) a' w') : (Code.region id ops false).wp P Q a w := by
  obtain ⟨i, p, h1, h2, h3, h4, h5⟩ := rgoP_tr Γ (c := c) ops.toList σ.n σ.φ σ.h (by rw [hg]) (by rw [hg]; exact hside)
  rw [hg] at h5
  simp only at h5
  have hilt : i < ops.size := by
    have := (List.getElem?_eq_some_iff.1 h1).1
    rwa [tr_len, Array.length_toList] at this
  have key : ∀ m i', i' + m = ops.size → i' ≤ i → ∀ a w, Inv W bs nt ds (tr Γ W bs nt ops ops.toList σ.n σ.φ σ.h) σ (fun j => decide (j < i')) a w → wpOps P ops Q (List.range' i' m) a w := by
    intro m
    induction m with
    | zero => intro i' h1 h2; omega
    | succ m ih =>
      intro i' hi hle a w I
      rw [List.range'_succ, wpOps_cons]
      have hlt : i' < ops.toList.length := by simp; omega
      obtain ⟨s, hT⟩ := tr_get Γ (W := W) (bs := bs) (nt := nt) (ops := ops) (κ := σ.n) (φ := σ.φ) (h := σ.h) (List.getElem?_eq_getElem hlt)
      have hz : ∀ j, decide (j < 0 + i') = decide (j < i') := fun j => by simp
      refine one Γ (L := lost) (fun j q hq hj k hk => h5 j q (hj.elim (fun hj => by have := of_decide_eq_true hj; omega) (fun hj => by omega)) hq k hk) hT (S' := fun j => decide (j < i' + 1)) (by simp) (by simp) (fun j hj => by simp; omega) (fun t _ => by simp only [hz]) (fun t _ => by simp only [hz]) (fun j v hj _ hs => by simp at hs; omega) (fun j v hj _ hs => by simp at hs; omega) I (h3 i' _ hle hT) (fun hpn => ?_) (fun c' hc a' w' hs' => ?_) hsat.fk hsat.hk hsat.pk
      · by_cases hii : i' = i
        · subst hii
          rw [h1] at hT
          simp only [Option.some.injEq] at hT
          subst hT
          rw [h2] at hpn
          cases hpn
        · exact ih (i' + 1) (by omega) (by omega)
      · by_cases hii : i' = i
        · subst hii
          rw [h1] at hT
          simp only [Option.some.injEq] at hT
          subst hT
          rw [h2] at hc
          simp only [Option.some.injEq] at hc
          subst hc
          exact hP a' w' hs'
        · have := h4 i' _ (by omega) hT
          rw [this] at hc
          cases hc
  refine wp_region ?_
  rw [List.range_eq_range']
  exact key ops.size 0 (by omega) (by omega) a w (inv_start hsat (by simp) _)
end
end Go.LE
end
section
namespace Go.LE
open Go.RowKit
structure Ext (W : World) (bs : List Nat) (W' : World) (bs' : List Nat) : Prop where
  keeps : Keeps W bs W'
  sub : ∀ b ∈ bs', W.heap.size ≤ b ∨ b ∈ bs
theorem Ext.refl (W : World) (bs : List Nat) : Ext W bs W bs := ⟨Keeps.refl W bs, fun _ h => .inr h⟩
theorem Ext.trans {W W' W'' : World} {bs bs' bs'' : List Nat} (h : Ext W bs W' bs') (h' : Ext W' bs' W'' bs'') : Ext W bs W'' bs'' :=
  ⟨h.keeps.trans h'.keeps fun b hb hlt => (h.sub b hb).resolve_left (by omega), fun b hb => (h'.sub b hb).elim (fun h1 => .inl (Nat.le_trans h.keeps.size h1)) fun h1 => h.sub b h1⟩
theorem Ext.keep {W W' w : World} {bs bs' : List Nat} (h : Ext W bs W' bs') (h' : Keeps W' bs' w) : Keeps W bs w :=
  h.keeps.trans h' fun b hb hlt => (h.sub b hb).resolve_left (by omega)
theorem HeapSat.back {W W' w : World} {bs bs' : List Nat} {E : Nat → Value} {F : Nat → List Nat} {h : Hp} (he : Ext W bs W' bs') (hs : HeapSat W' bs' E F h w) : HeapSat W bs E F h w :=
  ⟨hs.ent, hs.lt, fun k e hk b hb => (hs.mine k e hk b hb).elim (fun h1 => .inl (Nat.le_trans he.keeps.size h1)) fun h1 => he.sub b h1, hs.apart, he.keep hs.keeps⟩
theorem Sat.back {W W' : World} {bs bs' : List Nat} {nt : Nat} {ds : Aux} {σ : St} {a : Act} {w : World} (he : Ext W bs W' bs') (h : Sat W' bs' nt ds σ a w) : Sat W bs nt ds σ a w := by
  obtain ⟨⟨E, F, hf, hs, hp⟩, h1, h2, h3, h4, h5⟩ := h
  exact ⟨⟨E, F, hf, hs.back he, hp⟩, h1, h2, h3, h4, h5⟩
abbrev Post := Exit → World → List Nat → St → Prop
def Wp (P : Program) (W : World) (bs : List Nat) (nt : Nat) (ds : Aux) (c : Code) (Q : Post) (σ : St) : Prop :=
  ∀ a w, Sat W bs nt ds σ a w → c.wp P (fun e a' w' => ∃ W' bs' σ', Ext W bs W' bs' ∧ Q e W' bs' σ' ∧ Sat W' bs' nt ds σ' a' w') a w
def Le (W : World) (bs : List Nat) (nt : Nat) (ds : Aux) (σ σ' : St) : Prop := ∀ a w, Sat W bs nt ds σ a w → Sat W bs nt ds σ' a w
def Th (next : World → List Nat → St → Prop) (Q : Post) : Post
  | .normal, W, bs, σ => next W bs σ
  | e, W, bs, σ => Q e W bs σ
def Bl (id : Nat) (Q : Post) : Post
  | .exit id', W, bs, σ => if id' = id then Q .normal W bs σ else Q (.exit id') W bs σ
  | e, W, bs, σ => Q e W bs σ
section
variable {next : World → List Nat → St → Prop} {Q : Post} {W : World} {bs : List Nat} {σ : St}
theorem Th_normal (h : next W bs σ) : Th next Q .normal W bs σ := h
theorem Th_ret (h : Q .ret W bs σ) : Th next Q .ret W bs σ := h
theorem Th_exit {i : Nat} (h : Q (.exit i) W bs σ) : Th next Q (.exit i) W bs σ := h
theorem Th_panic {c : List PanicEntry} (h : Q (.panic c) W bs σ) : Th next Q (.panic c) W bs σ := h
theorem Th_goto {l : Nat} (h : Q (.goto l) W bs σ) : Th next Q (.goto l) W bs σ := h
theorem Bl_normal {id : Nat} (h : Q .normal W bs σ) : Bl id Q .normal W bs σ := h
theorem Bl_ret {id : Nat} (h : Q .ret W bs σ) : Bl id Q .ret W bs σ := h
theorem Bl_panic {id : Nat} {c : List PanicEntry} (h : Q (.panic c) W bs σ) : Bl id Q (.panic c) W bs σ := h
theorem Bl_goto {id : Nat} {l : Nat} (h : Q (.goto l) W bs σ) : Bl id Q (.goto l) W bs σ := h
theorem Bl_exit {id : Nat} (h : Q .normal W bs σ) : Bl id Q (.exit id) W bs σ := by simpa [Bl] using h
theorem Bl_exit_ne {id i : Nat} (hn : i ≠ id) (h : Q (.exit i) W bs σ) : Bl id Q (.exit i) W bs σ := by simpa [Bl, hn] using h
end
section
variable {P : Program} {W : World} {bs : List Nat} {nt : Nat} {ds : Aux} {Q : Post} {σ : St}
theorem post_back {W W' : World} {bs bs' : List Nat} {e : Exit} {a : Act} {w : World} {Q : Post} (he : Ext W bs W' bs') (h : ∃ W'' bs'' σ', Ext W' bs' W'' bs'' ∧ Q e W'' bs'' σ' ∧ Sat W'' bs'' nt ds σ' a w) :
    ∃ W'' bs'' σ', Ext W bs W'' bs'' ∧ Q e W'' bs'' σ' ∧ Sat W'' bs'' nt ds σ' a w := by
  obtain ⟨W'', bs'', σ', h1, h2, h3⟩ := h
  exact ⟨W'', bs'', σ', he.trans h1, h2, h3⟩
theorem Wp.mono {c : Code} {Q' : Post} (h : Wp P W bs nt ds c Q σ) (hq : ∀ e W bs σ, Q e W bs σ → Q' e W bs σ) : Wp P W bs nt ds c Q' σ :=
  fun a w hs => wp_mono (h a w hs) fun e _ _ ⟨W', bs', σ', he, hq', hs'⟩ => ⟨W', bs', σ', he, hq _ _ _ _ hq', hs'⟩
theorem Wp.weak {c : Code} {σ' : St} (hle : Le W bs nt ds σ σ') (h : Wp P W bs nt ds c Q σ') : Wp P W bs nt ds c Q σ :=
  fun a w hs => h a w (hle a w hs)
theorem Wp.skip (h : Q .normal W bs σ) : Wp P W bs nt ds .skip Q σ := fun a w hs => wp_skip ⟨W, bs, σ, Ext.refl W bs, h, hs⟩
theorem Wp.label {l : Nat} (h : Q .normal W bs σ) : Wp P W bs nt ds (.label l) Q σ := fun a w hs => wp_label ⟨W, bs, σ, Ext.refl W bs, h, hs⟩
theorem Wp.exit {id : Nat} (h : Q (.exit id) W bs σ) : Wp P W bs nt ds (.exit id) Q σ := fun a w hs => wp_exit ⟨W, bs, σ, Ext.refl W bs, h, hs⟩
theorem Wp.goto {l : Nat} (h : Q (.goto l) W bs σ) : Wp P W bs nt ds (.goto l) Q σ := fun a w hs => wp_goto ⟨W, bs, σ, Ext.refl W bs, h, hs⟩
theorem Wp.ret (h : Q .ret W bs σ) : Wp P W bs nt ds .ret Q σ := fun a w hs => wp_ret ⟨W, bs, σ, Ext.refl W bs, h, hs⟩
theorem Wp.seq {x y : Code} (h : Wp P W bs nt ds x (Th (fun W bs σ => Wp P W bs nt ds y Q σ) Q) σ) : Wp P W bs nt ds (.seq x y) Q σ := fun a w hs =>
  wp_seq (wp_mono (h a w hs) fun e a' w' ⟨W', bs', σ', he, hq, hs'⟩ => by
    cases e with
    | normal => exact wp_mono (hq a' w' hs') fun e'' a'' w'' hh => post_back he hh
    | _ => exact ⟨W', bs', σ', he, hq, hs'⟩)
theorem Wp.block {id : Nat} {c : Code} (h : Wp P W bs nt ds c (Bl id Q) σ) : Wp P W bs nt ds (.block id c) Q σ := fun a w hs =>
  wp_block (wp_mono (h a w hs) fun e a' w' ⟨W', bs', σ', he, hq, hs'⟩ => by
    cases e with
    | exit i =>
      simp only [Bl] at hq
      simp only [Exit.inBlock]
      split
      · rename_i hi; rw [if_pos hi] at hq; exact ⟨W', bs', σ', he, hq, hs'⟩
      · rename_i hi; rw [if_neg hi] at hq; exact ⟨W', bs', σ', he, hq, hs'⟩
    | _ => exact ⟨W', bs', σ', he, hq, hs'⟩)
theorem Wp.cond {c : Operand} {x y : Code} {b : Bool} {p : Prop} (hc : evO σ.φ true c = (p, .v (.bool b))) (hp : p)
    (ht : b = true → Wp P W bs nt ds x Q σ) (hf : b = false → Wp P W bs nt ds y Q σ) : Wp P W bs nt ds (.cond c x y) Q σ := fun a w hs => by
  obtain ⟨E, F, hφ, hh, _⟩ := hs.ex
  have : a.eval c = .bool b := by
    rw [evO_den hφ rfl (by rw [hc]; exact hp), hc]
    rfl
  exact wp_cond_split this (fun hb => ht hb a w hs) (fun hb => hf hb a w hs)
theorem Wp.regionP (Γ : Env P) {id : Nat} {d : Bool} {ops : Array Oper} {g : RG} (hm : P.follows .mixedOrders = true)
    (hg : rgo Γ W bs nt ops ops.toList σ.n σ.φ σ.h = g) (hside : g.side) (hd : d = true → slotB ops = true ∧ heapB ops g.fx = true)
    (hQ : (∀ x ∈ g.pans, x = none) → Q .normal W bs ⟨g.n, g.φ, g.h⟩) (hP : ∀ c, some c ∈ g.pans → Q (.panic c) W bs ⟨σ.n, anyD ops σ.φ, dropKeys σ.h g.lost⟩) :
    Wp P W bs nt ds (.region id ops d) Q σ := fun a w hs =>
  region_wp Γ hm hs hg hside hd (fun hn a' w' hs' => ⟨W, bs, _, Ext.refl W bs, hQ hn, hs'⟩) (fun c hc a' w' hs' => ⟨W, bs, _, Ext.refl W bs, hP c hc, hs'⟩)
theorem Wp.region (Γ : Env P) {id : Nat} {d : Bool} {ops : Array Oper} {g : RG} (hm : P.follows .mixedOrders = true)
    (hg : rgo Γ W bs nt ops ops.toList σ.n σ.φ σ.h = g) (hside : g.side) (hd : d = true → slotB ops = true ∧ heapB ops g.fx = true)
    (hQ : Q .normal W bs ⟨g.n, g.φ, g.h⟩) (hP : ∀ c, some c ∈ g.pans → Q (.panic c) W bs ⟨σ.n, anyD ops σ.φ, dropKeys σ.h g.lost⟩) :
    Wp P W bs nt ds (.region id ops d) Q σ := Wp.regionP Γ hm hg hside hd (fun _ => hQ) hP
theorem one_pan {α : Type} {l : List (Option α)} {c : α} (h : l.filter Option.isSome = [some c]) : some c ∈ l ∧ ∀ x, some x ∈ l → x = c := by
  have h1 : some c ∈ l.filter Option.isSome := by rw [h]; simp
  refine ⟨(List.mem_filter.1 h1).1, fun x hx => ?_⟩
  have : some x ∈ l.filter Option.isSome := List.mem_filter.2 ⟨hx, rfl⟩
  rw [h] at this
  simpa using this
theorem Wp.regP (Γ : Env P) {id : Nat} {ops : Array Oper} {side : Prop} {lost : List Nat} {c : List PanicEntry} (hm : P.follows .mixedOrders = true)
    (hg : rgoP Γ W bs nt ops ops.toList σ.n σ.φ σ.h = ⟨side, some c, lost⟩) (hside : side)
    (hQ : Q (.panic c) W bs ⟨σ.n, anyD ops σ.φ, dropKeys σ.h lost⟩) : Wp P W bs nt ds (.region id ops false) Q σ := fun a w hs =>
  region_pan Γ hs hg hside fun a' w' hs' => ⟨W, bs, _, Ext.refl W bs, hQ, hs'⟩
theorem Wp.regPD (Γ : Env P) {id : Nat} {ops : Array Oper} {side : Prop} {n : Nat} {φ : Fr} {h : Hp} {pans : List (Option (List PanicEntry))} {lost : List Nat} {fx : List (List Nat × List Nat)} {c : List PanicEntry} (hm : P.follows .mixedOrders = true)
    (hg : rgo Γ W bs nt ops ops.toList σ.n σ.φ σ.h = ⟨side, n, φ, h, pans, lost, fx⟩) (hp : pans.filter Option.isSome = [some c]) (hd : (slotB ops && heapB ops fx) = true) (hside : side)
    (hQ : Q (.panic c) W bs ⟨σ.n, anyD ops σ.φ, dropKeys σ.h lost⟩) : Wp P W bs nt ds (.region id ops true) Q σ :=
  Wp.regionP Γ hm hg hside (fun _ => by rw [Bool.and_eq_true] at hd; exact hd) (fun hn => by cases hn _ (one_pan hp).1) fun c' hc' => by rw [(one_pan hp).2 c' hc']; exact hQ
theorem Wp.sregP (Γ : Env P) {id : Nat} {ops : Array Oper} {y : Code} {side : Prop} {lost : List Nat} {c : List PanicEntry} (hm : P.follows .mixedOrders = true)
    (hg : rgoP Γ W bs nt ops ops.toList σ.n σ.φ σ.h = ⟨side, some c, lost⟩) (hside : side)
    (hQ : Q (.panic c) W bs ⟨σ.n, anyD ops σ.φ, dropKeys σ.h lost⟩) : Wp P W bs nt ds (.seq (.region id ops false) y) Q σ :=
  Wp.seq (Wp.regP Γ hm hg hside hQ)
theorem Wp.sregPD (Γ : Env P) {id : Nat} {ops : Array Oper} {y : Code} {side : Prop} {n : Nat} {φ : Fr} {h : Hp} {pans : List (Option (List PanicEntry))} {lost : List Nat} {fx : List (List Nat × List Nat)} {c : List PanicEntry} (hm : P.follows .mixedOrders = true)
    (hg : rgo Γ W bs nt ops ops.toList σ.n σ.φ σ.h = ⟨side, n, φ, h, pans, lost, fx⟩) (hp : pans.filter Option.isSome = [some c]) (hd : (slotB ops && heapB ops fx) = true) (hside : side)
    (hQ : Q (.panic c) W bs ⟨σ.n, anyD ops σ.φ, dropKeys σ.h lost⟩) : Wp P W bs nt ds (.seq (.region id ops true) y) Q σ :=
  Wp.seq (Wp.regPD Γ hm hg hp hd hside hQ)
theorem Wp.sreg (Γ : Env P) {id : Nat} {ops : Array Oper} {y : Code} {side : Prop} {n : Nat} {φ : Fr} {h : Hp} {pans : List (Option (List PanicEntry))} {lost : List Nat} {fx : List (List Nat × List Nat)} (hm : P.follows .mixedOrders = true)
    (hg : rgo Γ W bs nt ops ops.toList σ.n σ.φ σ.h = ⟨side, n, φ, h, pans, lost, fx⟩) (hp : pans.all Option.isNone = true) (hside : side)
    (hQ : Wp P W bs nt ds y Q ⟨n, φ, h⟩) : Wp P W bs nt ds (.seq (.region id ops false) y) Q σ :=
  Wp.seq (Wp.region Γ hm hg hside (fun hd => by cases hd) hQ fun c hc => by rw [List.all_eq_true] at hp; have := hp _ hc; cases this)
theorem Wp.sregD (Γ : Env P) {id : Nat} {ops : Array Oper} {y : Code} {side : Prop} {n : Nat} {φ : Fr} {h : Hp} {pans : List (Option (List PanicEntry))} {lost : List Nat} {fx : List (List Nat × List Nat)} (hm : P.follows .mixedOrders = true)
    (hg : rgo Γ W bs nt ops ops.toList σ.n σ.φ σ.h = ⟨side, n, φ, h, pans, lost, fx⟩) (hp : pans.all Option.isNone = true) (hd : (slotB ops && heapB ops fx) = true) (hside : side)
    (hQ : Wp P W bs nt ds y Q ⟨n, φ, h⟩) : Wp P W bs nt ds (.seq (.region id ops true) y) Q σ :=
  Wp.seq (Wp.region Γ hm hg hside (fun _ => by rw [Bool.and_eq_true] at hd; exact hd) hQ fun c hc => by rw [List.all_eq_true] at hp; have := hp _ hc; cases this)
theorem Wp.reg (Γ : Env P) {id : Nat} {ops : Array Oper} {side : Prop} {n : Nat} {φ : Fr} {h : Hp} {pans : List (Option (List PanicEntry))} {lost : List Nat} {fx : List (List Nat × List Nat)} (hm : P.follows .mixedOrders = true)
    (hg : rgo Γ W bs nt ops ops.toList σ.n σ.φ σ.h = ⟨side, n, φ, h, pans, lost, fx⟩) (hp : pans.all Option.isNone = true) (hside : side)
    (hQ : Q .normal W bs ⟨n, φ, h⟩) : Wp P W bs nt ds (.region id ops false) Q σ :=
  Wp.region Γ hm hg hside (fun hd => by cases hd) hQ fun c hc => by rw [List.all_eq_true] at hp; have := hp _ hc; cases this
theorem Wp.regD (Γ : Env P) {id : Nat} {ops : Array Oper} {side : Prop} {n : Nat} {φ : Fr} {h : Hp} {pans : List (Option (List PanicEntry))} {lost : List Nat} {fx : List (List Nat × List Nat)} (hm : P.follows .mixedOrders = true)
    (hg : rgo Γ W bs nt ops ops.toList σ.n σ.φ σ.h = ⟨side, n, φ, h, pans, lost, fx⟩) (hp : pans.all Option.isNone = true) (hd : (slotB ops && heapB ops fx) = true) (hside : side)
    (hQ : Q .normal W bs ⟨n, φ, h⟩) : Wp P W bs nt ds (.region id ops true) Q σ :=
  Wp.region Γ hm hg hside (fun _ => by rw [Bool.and_eq_true] at hd; exact hd) hQ fun c hc => by rw [List.all_eq_true] at hp; have := hp _ hc; cases this
theorem Wp.loop {c : Code} {ι : Type} (I : ι → St) (ok : ι → Prop) (μ : ι → Nat) (p0 : ι) (hle : Le W bs nt ds σ (I p0)) (h0 : ok p0)
    (round : ∀ p, ok p → Wp P W bs nt ds c (Th (fun W' bs' σ' => ∃ p', ok p' ∧ μ p' < μ p ∧ Le W' bs' nt ds σ' (I p')) Q) (I p)) : Wp P W bs nt ds (.loop c) Q σ := fun a w hs =>
  wp_loop_ghost (fun n a w => ∃ p, ok p ∧ μ p = n ∧ Sat W bs nt ds (I p) a w) (μ p0) ⟨p0, h0, rfl, hle a w hs⟩ fun n a w ⟨p, hp, hn, hsat⟩ =>
    wp_mono (round p hp a w hsat) fun e a' w' ⟨W', bs', σ', he, hq, hs'⟩ => by
      cases e with
      | normal =>
        obtain ⟨p', hp', hlt, hle'⟩ := hq
        exact ⟨μ p', hn ▸ hlt, p', hp', rfl, Sat.back he (hle' a' w' hs')⟩
      | _ => exact ⟨W', bs', σ', he, hq, hs'⟩
theorem Wp.loopW {c : Code} {ι : Type} (I : ι → St) (V : ι → World) (B : ι → List Nat) (ok : ι → Prop) (μ : ι → Nat) (p0 : ι) (hV : V p0 = W) (hB : B p0 = bs) (hle : Le W bs nt ds σ (I p0)) (h0 : ok p0)
    (round : ∀ p, ok p → Ext W bs (V p) (B p) → Wp P (V p) (B p) nt ds c (Th (fun W' bs' σ' => ∃ p', ok p' ∧ μ p' < μ p ∧ V p' = W' ∧ B p' = bs' ∧ Le W' bs' nt ds σ' (I p')) Q) (I p)) : Wp P W bs nt ds (.loop c) Q σ := fun a w hs =>
  wp_loop_ghost (fun n a w => ∃ p, ok p ∧ μ p = n ∧ Ext W bs (V p) (B p) ∧ Sat (V p) (B p) nt ds (I p) a w) (μ p0) ⟨p0, h0, rfl, by rw [hV, hB]; exact Ext.refl W bs, by rw [hV, hB]; exact hle a w hs⟩ fun n a w ⟨p, hp, hn, hx, hsat⟩ =>
    wp_mono (round p hp hx a w hsat) fun e a' w' ⟨W', bs', σ', he, hq, hs'⟩ => by
      cases e with
      | normal =>
        obtain ⟨p', hp', hlt, rfl, rfl, hle'⟩ := hq
        exact ⟨μ p', hn ▸ hlt, p', hp', rfl, hx.trans he, hle' a' w' hs'⟩
      | _ => exact ⟨W', bs', σ', hx.trans he, hq, hs'⟩
inductive Src where
  | key (k : Nat)
  | nil
def nilSl : Value := .slice none 0 0
mutual
def ren (m : Nat → Src) : SV → SV
  | .v x => .v x
  | .own k o => match m k with | .key j => .own j o | .nil => .v .nilIface
  | .hd k => match m k with | .key j => .hd j | .nil => .v nilSl
  | .agg l => .agg (renL m l)
  | .tup l => .tup (renL m l)
  | .ifc t x => .ifc t (ren m x)
  | .part k i => match m k with | .key j => .part j i | .nil => .v .nilIface
  | .fn f a c => .fn f (renL m a) (renL m c)
def renL (m : Nat → Src) : List SV → List SV
  | [] => []
  | x :: r => ren m x :: renL m r
end
def srcE (E : Nat → Value) (m : Nat → Src) (k : Nat) : Value := match m k with | .key j => E j | .nil => nilSl
def srcF (F : Nat → List Nat) (m : Nat → Src) (k : Nat) : List Nat := match m k with | .key j => F j | .nil => []
mutual
theorem den_ren (E : Nat → Value) (m : Nat → Src) : ∀ x : SV, den E (ren m x) = den (srcE E m) x
  | .v x => rfl
  | .own k o => by
    simp only [ren, den, srcE]
    cases m k <;> rfl
  | .hd k => by
    simp only [ren, den, srcE]
    cases m k <;> rfl
  | .agg l => by simp only [ren, den, denL_ren E m l]
  | .tup l => by simp only [ren, den, denL_ren E m l]
  | .ifc t x => by simp only [ren, den, den_ren E m x]
  | .part k i => by
    simp only [ren, den, srcE]
    cases m k <;> rfl
  | .fn f a c => by simp only [ren, den, denL_ren E m a, denL_ren E m c]
theorem denL_ren (E : Nat → Value) (m : Nat → Src) : ∀ l : List SV, denL E (renL m l) = denL (srcE E m) l
  | [] => rfl
  | x :: r => by simp only [renL, denL, den_ren E m x, denL_ren E m r]
end
def renE (m : Nat → Src) : Ent → Ent
  | .cells T vs => .cells T (renL m vs)
  | .row T s n vs => .row T s n (renL m vs)
  | .mp ks vs => .mp ks (renL m vs)
  | .obj d R => .obj d R
theorem entSat_ren {E : Nat → Value} {m : Nat → Src} {u : Value} {fp : List Nat} {w : World} {e : Ent} (h : entSat E u fp w (renE m e)) : entSat (srcE E m) u fp w e := by
  cases e with
  | cells T vs => simpa [entSat, renE, denL_ren] using h
  | row T s n vs => simpa [entSat, renE, denL_ren] using h
  | mp ks vs => simpa [entSat, renE, denL_ren] using h
  | obj d R => exact h
def frL : List (Nat × FV) → Fr
  | [] => fun _ => .any
  | (t, x) :: r => upd (frL r) t x
def hpL : List (Nat × Ent) → Hp
  | [] => fun _ => none
  | (k, e) :: r => upd (hpL r) k (some e)
def fvLe (m : Nat → Src) : FV → FV → Prop
  | .is x, .is y => x = ren m y
  | .cnd b x, .cnd c y => b = c ∧ (b = true → x = ren m y)
  | .is x, .cnd c y => c = true ∧ x = ren m y
  | .cnd b x, .is y => b = true ∧ x = ren m y
  | _, .any => True
  | .any, _ => False
theorem fvLe_fits {E : Nat → Value} {m : Nat → Src} {x y : FV} {u : Value} (hle : fvLe m x y) (hf : fits E x u) : fits (srcE E m) y u := by
  cases x with
  | is x =>
    cases y with
    | is y => simp only [fvLe] at hle; simp only [fits] at hf ⊢; rw [hf, hle, den_ren]
    | cnd c y => obtain ⟨rfl, hle⟩ := hle; simp only [fits, cond_true] at hf ⊢; rw [hf, hle, den_ren]
    | any => trivial
  | cnd b x =>
    cases y with
    | is y => obtain ⟨rfl, hle⟩ := hle; simp only [fits, cond_true] at hf ⊢; rw [hf, hle, den_ren]
    | cnd c y =>
      obtain ⟨rfl, hle⟩ := hle
      cases b with
      | false => exact hf
      | true => simp only [fits, cond_true] at hf ⊢; rw [hf, hle rfl, den_ren]
    | any => trivial
  | any => cases y <;> first | trivial | exact hle.elim
def frLe (m : Nat → Src) (φ : Fr) : List (Nat × FV) → Prop
  | [] => True
  | (t, x) :: r => fvLe m (φ t) x ∧ frLe m φ r
def entLe (m : Nat → Src) (h : Hp) (k : Nat) (e : Ent) : Prop := match m k with
  | .key j => h j = some (renE m e)
  | .nil => match e with
    | .row _ sz n vs => 0 < sz ∧ n = 0 ∧ vs = []
    | _ => False
def hpLe (m : Nat → Src) (h : Hp) : List (Nat × Ent) → Prop
  | [] => True
  | (k, e) :: r => entLe m h k e ∧ hpLe m h r
def srcKeys (m : Nat → Src) : List (Nat × Ent) → List Nat
  | [] => []
  | (k, _) :: r => (match m k with | .key j => [j] | .nil => []) ++ srcKeys m r
def keysB (n : Nat) (L : List (Nat × FV)) (H : List (Nat × Ent)) : Prop :=
  (∀ p ∈ L, ∀ k ∈ p.2.keys, k / 8 < n) ∧ (∀ p ∈ H, p.1 / 8 < n ∧ ∀ k ∈ p.2.keys, k / 8 < n)
theorem frL_cases {L : List (Nat × FV)} (t : Nat) : frL L t = .any ∨ ∃ p ∈ L, p.1 = t ∧ frL L t = p.2 := by
  induction L with
  | nil => exact .inl rfl
  | cons p r ih =>
    by_cases ht : t = p.1
    · exact .inr ⟨p, by simp, ht.symm, by simp [frL, upd, ht]⟩
    · rcases ih with ih | ⟨q, hq, h1, h2⟩
      · exact .inl (by simp [frL, upd, ht, ih])
      · exact .inr ⟨q, by simp [hq], h1, by simp [frL, upd, ht, h2]⟩
theorem hpL_cases {H : List (Nat × Ent)} {k : Nat} {e : Ent} (h : hpL H k = some e) : (k, e) ∈ H := by
  induction H with
  | nil => cases h
  | cons p r ih =>
    by_cases ht : k = p.1
    · simp [hpL, upd, ht] at h; subst h; simp [ht]
    · simp [hpL, upd, ht] at h; simp [ih h]
theorem frLe_mem {m : Nat → Src} {φ : Fr} : ∀ {L : List (Nat × FV)}, frLe m φ L → ∀ p ∈ L, fvLe m (φ p.1) p.2
  | _ :: _, h, p, hp => by
    rcases List.mem_cons.1 hp with rfl | hp
    · exact h.1
    · exact frLe_mem h.2 p hp
theorem hpLe_mem {m : Nat → Src} {h : Hp} : ∀ {H : List (Nat × Ent)}, hpLe m h H → ∀ p ∈ H, entLe m h p.1 p.2
  | _ :: _, h, p, hp => by
    rcases List.mem_cons.1 hp with rfl | hp
    · exact h.1
    · exact hpLe_mem h.2 p hp
theorem srcKeys_mem {m : Nat → Src} {k : Nat} : ∀ {H : List (Nat × Ent)}, ∀ y ∈ H, m y.1 = .key k → k ∈ srcKeys m H
  | z :: t, y, hy, hk => by
    simp only [srcKeys, List.mem_append]
    rcases List.mem_cons.1 hy with rfl | hy
    · left; rw [hk]; simp
    · right; exact srcKeys_mem y hy hk
theorem srcKeys_ne {m : Nat → Src} : ∀ {H : List (Nat × Ent)}, (srcKeys m H).Nodup → ∀ p ∈ H, ∀ q ∈ H, p.1 ≠ q.1 → ∀ i j, m p.1 = .key i → m q.1 = .key j → i ≠ j
  | [], _, p, hp, _, _, _, _, _, _, _ => by cases hp
  | x :: r, hn, p, hp, q, hq, hpq, i, j, hi, hj => by
    simp only [srcKeys] at hn
    rcases List.mem_cons.1 hp with rfl | hp'
    · rcases List.mem_cons.1 hq with rfl | hq'
      · exact absurd rfl hpq
      · rw [hi] at hn
        intro hij
        subst hij
        exact (List.nodup_append.1 hn).2.2 i (by simp) i (srcKeys_mem q hq' hj) rfl
    · rcases List.mem_cons.1 hq with rfl | hq'
      · rw [hj] at hn
        intro hij
        subst hij
        exact (List.nodup_append.1 hn).2.2 i (by simp) i (srcKeys_mem p hp' hi) rfl
      · exact srcKeys_ne (List.nodup_append.1 hn).2.1 p hp' q hq' hpq i j hi hj
theorem Le.mk (m : Nat → Src) {n' : Nat} {L : List (Nat × FV)} {H : List (Nat × Ent)} (hk : keysB n' L H) (hf : frLe m σ.φ L) (hh : hpLe m σ.h H) (hn : (srcKeys m H).Nodup) (hpn : ∀ p ∈ ds.pins, m p.1 = .key p.1 ∧ p.1 / 8 < n') :
    Le W bs nt ds σ ⟨n', frL L, hpL H⟩ := by
  rintro a w ⟨⟨E, F, hφ, hs, hp⟩, hsz, hdf, _, _, _⟩
  have at' : ∀ k e, hpL H k = some e → entLe m σ.h k e := fun k e he => hpLe_mem hh _ (hpL_cases he)
  have key : ∀ k e j, hpL H k = some e → m k = .key j → σ.h j = some (renE m e) := fun k e j he hj => by
    have := at' k e he
    simpa only [entLe, hj] using this
  refine ⟨⟨srcE E m, srcF F m, fun t => ?_, ⟨fun k e he => ?_, fun k e he b hb => ?_, fun k e he b hb => ?_, fun k k' e e' hne he he' b hb => ?_, hs.keeps⟩, fun p hpp => ?_⟩, hsz, hdf, fun p hpp => (hpn p hpp).2, fun t k hk' => ?_, fun k e he => ?_⟩
  · rcases frL_cases (L := L) t with h | ⟨p, hp, rfl, h⟩
    · simp only [h]; trivial
    · simp only [h]; exact fvLe_fits (frLe_mem hf p hp) (hφ p.1)
  · cases hm : m k with
    | key j =>
      simp only [srcE, srcF, hm]
      exact entSat_ren (hs.ent j _ (key k e j he hm))
    | nil =>
      have := at' k e he
      simp only [entLe, hm] at this
      cases e with
      | row T s n vs =>
        obtain ⟨h0, rfl, rfl⟩ := this
        simp only [srcE, srcF, hm]
        exact ⟨⟨by simp [denL], .inl ⟨rfl, rfl⟩⟩, rfl⟩
      | cells T vs => exact this.elim
      | mp ks vs => exact this.elim
      | obj d R => exact this.elim
  · cases hm : m k with
    | key j => simp only [srcF, hm] at hb; exact hs.lt j _ (key k e j he hm) b hb
    | nil => simp only [srcF, hm] at hb; cases hb
  · cases hm : m k with
    | key j => simp only [srcF, hm] at hb; exact hs.mine j _ (key k e j he hm) b hb
    | nil => simp only [srcF, hm] at hb; cases hb
  · cases hm : m k with
    | nil => simp only [srcF, hm] at hb; cases hb
    | key i =>
      cases hm' : m k' with
      | nil => simp only [srcF, hm']; simp
      | key j =>
        simp only [srcF, hm, hm'] at hb ⊢
        exact hs.apart i j _ _ (srcKeys_ne hn _ (hpL_cases he) _ (hpL_cases he') hne i j hm hm') (key k e i he hm) (key k' e' j he' hm') b hb
  · simp only [srcE, (hpn p hpp).1]; exact hp p hpp
  · rcases frL_cases (L := L) t with h | ⟨p, hp, _, h⟩
    · simp only [h] at hk'; cases hk'
    · simp only [h] at hk'; exact hk.1 p hp k hk'
  · exact hk.2 _ (hpL_cases he)
end
end Go.LE
end
section
namespace Go.LE
open Go.RowKit
section
variable {P : Program} {W : World} {bs : List Nat} {nt : Nat} {ds : Aux} {σ : St}
theorem load_own {E : Nat → Value} {F : Nat → List Nat} {h : Nat → Option Ent} {w : World} {T : TypeId} {k o : Nat} (hs : HeapSat W bs E F h w) (hside : (semLoad P W bs h T [.own k o]).side) :
    ∃ a, den E (.own k o) = .pointer (some a) ∧ (loadVar T a).run P w = .ok (den E (semLoad P W bs h T [.own k o]).val) w := by
  revert hside
  simp only [semLoad]
  split
  · rename_i sz vs hsz hag hvs
    rintro ⟨hlen, hpos⟩
    obtain ⟨b, hb, hcells⟩ := ent_cells hs hvs (by omega)
    have hrun : (loadVar T ⟨b, 0 + o, none⟩).run P w = .ok (.agg (((denL E vs).drop o).take sz).toArray) w := by
      refine run_loadVar_agg hsz hag _ _ (by simp [denL_length]; omega) fun j v hj => ?_
      have hjl : j < sz := by
        have := (List.getElem?_eq_some_iff.1 hj).1
        simp at this; omega
      rw [Addr.add_lit, Nat.zero_add, hcells (o + j) (by omega)]
      rw [List.getElem?_take, if_pos hjl, List.getElem?_drop] at hj
      rw [hj]; rfl
    refine ⟨⟨b, 0 + o, none⟩, by simp [den, hb, ptrAt], ?_⟩
    rw [hrun]
    simp [den, denL_eq_map, List.map_take, List.map_drop]
  · rename_i sz vs hsz hag hvs
    intro hlen
    obtain ⟨b, hb, hcells⟩ := ent_cells hs hvs (Nat.zero_lt_of_lt hlen)
    have hrun := run_loadVar_one (w := w) hag ⟨b, 0 + o, none⟩ ((denL E vs)[o]?.getD undef) (by rw [Nat.zero_add]; exact hcells o hlen)
    refine ⟨⟨b, 0 + o, none⟩, by simp [den, hb, ptrAt], ?_⟩
    rw [hrun, denL_getD]
  · exact fun hf => hf.elim
def resOne (P : Program) (W : World) (bs : List Nat) (σ : St) : ResultVar → Prop × SV
  | .tmp t => match σ.φ t with
    | .is x => (True, x)
    | .cnd b x => (b = true, x)
    | .any => (False, .v undef)
  | .cell t T => match σ.φ t with
    | .is (.own k o) => ((semLoad P W bs σ.h T [.own k o]).side, (semLoad P W bs σ.h T [.own k o]).val)
    | _ => (False, .v undef)
def resL (P : Program) (W : World) (bs : List Nat) (σ : St) : List ResultVar → Prop × List SV
  | [] => (True, [])
  | r :: l => ((resOne P W bs σ r).1 ∧ (resL P W bs σ l).1, (resOne P W bs σ r).2 :: (resL P W bs σ l).2)
def tupOf : List SV → SV
  | [x] => x
  | l => .tup l
def Fin (P : Program) (rs : List ResultVar) (R : World → List Nat → SV → Hp → Prop) (RP : List PanicEntry → Hp → Prop) : Post
  | .normal, W, bs, σ | .ret, W, bs, σ => (resL P W bs σ rs).1 ∧ R W bs (tupOf (resL P W bs σ rs).2) σ.h
  | .panic c, _, _, σ => RP c σ.h
  | _, _, _, _ => False
def Ends (W : World) (bs : List Nat) (pins : List (Nat × Value)) (R : World → List Nat → SV → Hp → Prop) (RP : List PanicEntry → Hp → Prop) : Ending → World → Prop
  | .returned v, w' => ∃ W' bs' E F x h, Ext W bs W' bs' ∧ R W' bs' x h ∧ v = den E x ∧ HeapSat W' bs' E F h w' ∧ ∀ p ∈ pins, E p.1 = p.2
  | .panicked c, w' => ∃ W' bs' E F h, Ext W bs W' bs' ∧ RP c h ∧ HeapSat W' bs' E F h w' ∧ ∀ p ∈ pins, E p.1 = p.2
  | .outgrown, _ => False
def resRun (a : Act) : ResultVar → Sem Value
  | .tmp t => pure (a.tmps.getD t undef)
  | .cell x t => do loadVar t (← asAddr (a.tmps.getD x undef))
theorem resOne_run {E : Nat → Value} {F : Nat → List Nat} {a : Act} {w : World} (hφ : FrSat E σ.φ a) (hs : HeapSat W bs E F σ.h w) (r : ResultVar) (hr : (resOne P W bs σ r).1) :
    (resRun a r).run P w = .ok (den E (resOne P W bs σ r).2) w := by
  cases r with
  | tmp t =>
    have := hφ t
    simp only [resOne, resRun] at hr ⊢
    revert hr this
    cases σ.φ t with
    | is x => intro _ h; simp only [fits] at h; rw [h]; rfl
    | cnd b x =>
      intro hb h
      simp only at hb
      subst hb
      simp only [fits, cond_true] at h
      rw [h]; rfl
    | any => exact fun hf _ => hf.elim
  | cell t T =>
    have := hφ t
    simp only [resOne, resRun] at hr ⊢
    revert hr this
    split
    · rename_i k o hk
      intro hr h
      rw [hk] at h
      simp only [fits] at h
      obtain ⟨ad, h1, h2⟩ := load_own hs hr
      rw [h, h1]
      simpa [asAddr] using h2
    · exact fun hf _ => hf.elim
theorem resL_run {E : Nat → Value} {F : Nat → List Nat} {a : Act} {w : World} (hφ : FrSat E σ.φ a) (hs : HeapSat W bs E F σ.h w) : ∀ (l : List ResultVar), (resL P W bs σ l).1 →
    (l.mapM (resRun a)).run P w = .ok (denL E (resL P W bs σ l).2) w
  | [], _ => rfl
  | r :: l, h => by
    have h1 := resOne_run hφ hs r h.1
    have h2 := resL_run hφ hs l h.2
    rw [List.mapM_cons]
    simp [h1, h2, resL, denL]
theorem resL_len : ∀ (l : List ResultVar), (resL P W bs σ l).2.length = l.length
  | [] => rfl
  | r :: l => by simp [resL, resL_len l]
theorem results_run {E : Nat → Value} {F : Nat → List Nat} {a : Act} {w : World} {fn : Func} (hφ : FrSat E σ.φ a) (hs : HeapSat W bs E F σ.h w) (h : (resL P W bs σ fn.results.toList).1) :
    (results fn a.tmps).run P w = .ok (den E (tupOf (resL P W bs σ fn.results.toList).2)) w := by
  have h1 := resL_run hφ hs fn.results.toList h
  have h2 : results fn a.tmps = ((Functor.map List.toArray (fn.results.toList.mapM (resRun a))) >>= fun (vs : Array Value) => (pure (if h : vs.size = 1 then vs[0] else .tuple vs) : Sem Value)) := by
    rw [← Array.mapM_eq_mapM_toList]
    unfold results
    congr 1
  rw [h2]
  have : ((Functor.map List.toArray (fn.results.toList.mapM (resRun a))) >>= fun (vs : Array Value) => (pure (if h : vs.size = 1 then vs[0] else .tuple vs) : Sem Value)).run P w =
      .ok (den E (tupOf (resL P W bs σ fn.results.toList).2)) w := by
    simp only [map_eq_pure_bind, bind_assoc, pure_bind]
    simp [h1]
    generalize (resL P W bs σ fn.results.toList).2 = l
    match l with
    | [] => simp [denL, tupOf, den]
    | [x] => simp [denL, tupOf]
    | x :: y :: r => simp [denL, tupOf, den]
  exact this
theorem calls_Wp {f : FuncId} {fn : Func} {c : Code} {args : Array Value} {w : World} {pins : List (Nat × Value)} {R : World → List Nat → SV → Hp → Prop} {RP : List PanicEntry → Hp → Prop}
    (hf : P.funcs[f]? = some fn) (hb : fn.body = some c)
    (hsat : Sat W bs nt ⟨[], pins⟩ σ { tmps := args ++ Array.replicate (fn.ntmps - args.size) undef, defers := [] } w)
    (h : Wp P W bs nt ⟨[], pins⟩ c (Fin P fn.results.toList R RP) σ) :
    Calls P f args w (Ends W bs pins R RP) := by
  refine calls_of_wp hf hb (wp_mono (h _ w hsat) fun e a' w' ⟨W', bs', σ', hx, hq, hs'⟩ => ?_)
  obtain ⟨⟨E, F, hφ, hh, hp⟩, hsz, hdf, _⟩ := hs'
  have ret : (resL P W' bs' σ' fn.results.toList).1 ∧ R W' bs' (tupOf (resL P W' bs' σ' fn.results.toList).2) σ'.h → a'.defers = [] ∧ ∃ v, (results fn a'.tmps).run P w' = .ok v w' ∧ Ends W bs pins R RP (.returned v) w' :=
    fun hq => ⟨hdf, _, results_run hφ hh hq.1, W', bs', E, F, _, _, hx, hq.2, rfl, hh, hp⟩
  cases e with
  | normal => exact ret hq
  | ret => exact ret hq
  | panic ch => exact ⟨hdf, W', bs', E, F, _, hx, hq, hh, hp⟩
  | exit i => exact hq.elim
  | goto l => exact hq.elim
  | outgrown => exact hq.elim
theorem good_pure {κ : Nat} {E : Nat → Value} {F : Nat → List Nat} {h : Hp} {w : World} {f : FuncId} {args : Array Value} {r : R} {v : Value} (hs : HeapSat W bs E F h w)
    (hc : Calls P f args w fun e w' => e = .returned v ∧ Keeps w [] w') (hv : v = den E r.val) (hu : r.upd = []) (hp : r.pan = none) :
    Good P W bs κ E h r (.ok (.enter f args) w) := by
  refine hc.mono fun e w' he => ?_
  obtain ⟨rfl, hk⟩ := he
  exact ⟨hp, E, F, fun _ _ => rfl, hv, by rw [hu]; exact hs.grow hk⟩
theorem good_maker {κ : Nat} {E : Nat → Value} {F : Nat → List Nat} {h : Hp} {w : World} {K : Nat → Prop} {f : FuncId} {args : Array Value} {r : R} {e : Ent} (hs : HeapSat W bs E F h w)
    (hK : KeysIn K h) (hk : ∀ k, k / 8 = κ → ¬ K k)
    (hc : Calls P f args w fun en w' => ∃ v u fp, en = .returned v ∧ (∀ E', entSat E' u fp w' e) ∧ (∀ b ∈ fp, w.heap.size ≤ b ∧ b < w'.heap.size) ∧ Keeps w [] w' ∧ v = den (upd E (nk κ) u) r.val)
    (hu : r.upd = [(nk κ, some e)]) (hp : r.pan = none) :
    Good P W bs κ E h r (.ok (.enter f args) w) := by
  refine hc.mono fun en w' he => ?_
  obtain ⟨v, u, fp, rfl, hent, hfp, hkeep, hv⟩ := he
  refine ⟨hp, upd E (nk κ) u, upd F (nk κ) fp, fun k hk' => upd_ne _ _ fun e => hk' (by subst e; exact nk_div0 κ), hv, ?_⟩
  rw [hu]
  exact hs.new hK (hk _ (nk_div0 κ)) (hent _) hfp hkeep
theorem good_borrow {κ k : Nat} {E : Nat → Value} {F : Nat → List Nat} {h : Hp} {w : World} {f : FuncId} {args : Array Value} {r : R} {e e' : Ent} (hs : HeapSat W bs E F h w)
    (hk : h k = some e)
    (hc : Calls P f args w fun en w' => ∃ v fp, en = .returned v ∧ entSat E (E k) fp w' e' ∧ (∀ b ∈ fp, b ∈ F k ∨ w.heap.size ≤ b) ∧ (∀ b ∈ fp, b < w'.heap.size) ∧ Keeps w (F k) w' ∧ v = den E r.val)
    (hu : r.upd = [(k, some e')]) (hp : r.pan = none) :
    Good P W bs κ E h r (.ok (.enter f args) w) := by
  refine hc.mono fun en w' he => ?_
  obtain ⟨v, fp, rfl, hent, hfp, hlt, hkeep, hv⟩ := he
  refine ⟨hp, E, upd F k fp, fun _ _ => rfl, hv, ?_⟩
  rw [hu]
  exact hs.turn hk hent hfp hlt hkeep
end
end Go.LE
end
section
namespace Go.LE
open Go.RowKit
section
variable {P : Program} {W : World} {bs : List Nat} {nt : Nat} {ds : Aux} {σ : St} {ops : Array Oper} (Γ : Env P)
def rgoK (dst : Option Nat) (r : List Oper) (κ : Nat) (φ : Fr) (h : Hp) (s : S) : RG :=
  rgAdd s (rgo Γ W bs nt ops r (κ + 1) (putO φ dst s.fv) (updL h s.upd))
theorem rgo_nil (κ : Nat) (φ : Fr) (h : Hp) : rgo Γ W bs nt ops [] κ φ h = ⟨True, κ, φ, h, [], [], []⟩ := rfl
theorem rgo_cons (o : Oper) (r : List Oper) (κ : Nat) (φ : Fr) (h : Hp) : rgo Γ W bs nt ops (o :: r) κ φ h = rgoK (W := W) (bs := bs) (nt := nt) (ops := ops) Γ o.dst r κ φ h (step Γ W bs nt ops κ φ h o) := rfl
theorem rgoK_mk (dst : Option Nat) (r : List Oper) (κ : Nat) (φ : Fr) (h : Hp) (side : Prop) (fv : FV) (u : List (Nat × Option Ent)) (pan : Option (List PanicEntry)) (pupd reads uk : List Nat) :
    rgoK (W := W) (bs := bs) (nt := nt) (ops := ops) Γ dst r κ φ h ⟨side, fv, u, pan, pupd, reads, uk⟩ = rgAdd ⟨side, fv, u, pan, pupd, reads, uk⟩ (rgo Γ W bs nt ops r (κ + 1) (putO φ dst fv) (updL h u)) := rfl
theorem rgAdd_mk (side side' : Prop) (n : Nat) (fv : FV) (u : List (Nat × Option Ent)) (pan : Option (List PanicEntry)) (pupd reads uk lost : List Nat) (φ : Fr) (h : Hp) (pans : List (Option (List PanicEntry))) (fx : List (List Nat × List Nat)) :
    rgAdd ⟨side, fv, u, pan, pupd, reads, uk⟩ ⟨side', n, φ, h, pans, lost, fx⟩ = ⟨side ∧ side', n, φ, h, pan :: pans, uk ++ pupd ++ lost, (uk, reads) :: fx⟩ := rfl
def rgoPK (Γ : Env P) (dst : Option Nat) (r : List Oper) (κ : Nat) (φ : Fr) (h : Hp) (s : S) : RP := match s.pan with
  | some c => ⟨s.side, some c, s.uk ++ s.pupd⟩
  | none => rpAdd s (rgoP Γ W bs nt ops r (κ + 1) (putO φ dst s.fv) (updL h s.upd))
theorem rgoP_cons (o : Oper) (r : List Oper) (κ : Nat) (φ : Fr) (h : Hp) : rgoP Γ W bs nt ops (o :: r) κ φ h = rgoPK (W := W) (bs := bs) (nt := nt) (ops := ops) Γ o.dst r κ φ h (step Γ W bs nt ops κ φ h o) := rfl
theorem rgoPK_some (dst : Option Nat) (r : List Oper) (κ : Nat) (φ : Fr) (h : Hp) (side : Prop) (fv : FV) (u : List (Nat × Option Ent)) (c : List PanicEntry) (pupd reads uk : List Nat) :
    rgoPK (W := W) (bs := bs) (nt := nt) (ops := ops) Γ dst r κ φ h ⟨side, fv, u, some c, pupd, reads, uk⟩ = ⟨side, some c, uk ++ pupd⟩ := rfl
theorem rgoPK_none (dst : Option Nat) (r : List Oper) (κ : Nat) (φ : Fr) (h : Hp) (side : Prop) (fv : FV) (u : List (Nat × Option Ent)) (pupd reads uk : List Nat) :
    rgoPK (W := W) (bs := bs) (nt := nt) (ops := ops) Γ dst r κ φ h ⟨side, fv, u, none, pupd, reads, uk⟩ = rpAdd ⟨side, fv, u, none, pupd, reads, uk⟩ (rgoP Γ W bs nt ops r (κ + 1) (putO φ dst fv) (updL h u)) := rfl
theorem rpAdd_mk (side side' : Prop) (fv : FV) (u : List (Nat × Option Ent)) (pan : Option (List PanicEntry)) (pupd reads uk lost : List Nat) (c : Option (List PanicEntry)) :
    rpAdd ⟨side, fv, u, pan, pupd, reads, uk⟩ ⟨side', c, lost⟩ = ⟨side ∧ side', c, uk ++ pupd ++ lost⟩ := rfl
def isPick : Op → Bool
  | .pick _ _ _ => true
  | _ => false
theorem isPick_no :
    (∀ (x : Operand), isPick (.move x) = false) ∧
    (∀ (x : Operand), isPick (.assign x) = false) ∧
    (∀ (elem : TypeId), isPick (.alloc elem) = false) ∧
    (∀ (elem : TypeId) (v : Operand), isPick (.box elem v) = false) ∧
    (∀ (t : TypeId) (parts : Array (Nat × Operand)), isPick (.build t parts) = false) ∧
    (∀ (t : TypeId) (len : Nat) (parts : Array (Nat × Operand)), isPick (.buildSlice t len parts) = false) ∧
    (∀ (t : TypeId) (addr : Operand), isPick (.load t addr) = false) ∧
    (∀ (t : TypeId) (addr val : Operand), isPick (.store t addr val) = false) ∧
    (∀ (x : Operand), isPick (.nilCheck x) = false) ∧
    (∀ (op : BinOp) (xType : TypeId) (x y : Operand) (yType : TypeId), isPick (.binOp op xType x y yType) = false) ∧
    (∀ (op : UnOp) (xType : TypeId) (x : Operand), isPick (.unOp op xType x) = false) ∧
    (∀ (src dst : TypeId) (x : Operand), isPick (.convert src dst x) = false) ∧
    (∀ (xType : TypeId) (x : Operand), isPick (.makeInterface xType x) = false) ∧
    (∀ (fn : Fn) (first captured : Array Operand), isPick (.makeFunc fn first captured) = false) ∧
    (∀ (t : TypeId) (len cap : Operand), isPick (.makeSlice t len cap) = false) ∧
    (∀ (xType : TypeId) (x : Operand) (low high max : Option Operand), isPick (.slice xType x low high max) = false) ∧
    (∀ (xType : TypeId) (x : Operand) (field : Nat), isPick (.fieldAddr xType x field) = false) ∧
    (∀ (xType : TypeId) (x : Operand) (field : Nat), isPick (.field xType x field) = false) ∧
    (∀ (xType : TypeId) (x index : Operand), isPick (.indexAddr xType x index) = false) ∧
    (∀ (xType : TypeId) (x index : Operand), isPick (.index xType x index) = false) ∧
    (∀ (x : Operand) (xType asserted : TypeId) (commaOk : Bool), isPick (.typeAssert x xType asserted commaOk) = false) ∧
    (∀ (tuple : Operand) (index : Nat), isPick (.extract tuple index) = false) ∧
    (∀ (c : Call), isPick (.call c) = false) ∧
    (∀ (x : Operand), isPick (.panic x) = false) := by
  refine ⟨?_, ?_, ?_, ?_, ?_, ?_, ?_, ?_, ?_, ?_, ?_, ?_, ?_, ?_, ?_, ?_, ?_, ?_, ?_, ?_, ?_, ?_, ?_, ?_⟩ <;> (intros; rfl)
def dstOk (nt : Nat) : Option Nat → Prop
  | some d => d < nt
  | none => True
theorem dstOk_eq (d : Option Nat) : (∀ i, d = some i → i < nt) = dstOk nt d := by
  cases d <;> simp [dstOk]
def stepR (nt : Nat) (dst : Option Nat) (un : Bool) (p : Prop) (b : Bool) (q : Prop) (r : R) : S :=
  ⟨p ∧ q ∧ (b = true → r.side) ∧ dstOk nt dst, mkFV un b r.val, bif b then r.upd else [], bif b then r.pan else none, r.pupd, r.reads, keysU r.upd⟩
def stepE (W : World) (bs : List Nat) (nt : Nat) (κ : Nat) (h : Hp) (dst : Option Nat) (un : Bool) (op : Op) (p : Prop) (b : Bool) (e : Prop × List SV) : S :=
  stepR nt dst un p b e.1 (sem Γ W bs κ h op e.2)
def stepG (W : World) (bs : List Nat) (nt : Nat) (κ : Nat) (φ : Fr) (h : Hp) (dst : Option Nat) (un : Bool) (op : Op) (g : Prop × Bool) : S :=
  stepE Γ W bs nt κ h dst un op g.1 g.2 (evL φ g.2 op.operands.toList)
theorem step_go (κ : Nat) (φ : Fr) (h : Hp) (dst : Option Nat) (op : Op) (ty : TypeId) (pos : String) (after : Array Edge) (guard : Option (Nat × Bool)) (hop : isPick op = false) :
    step Γ W bs nt ops κ φ h ⟨dst, op, ty, pos, after, guard⟩ = stepG Γ W bs nt κ φ h dst guard.isNone op (evG φ ops guard) := by
  rw [step_notpick Γ (by rintro c x y rfl; cases hop)]
  simp only [stepG, stepE, stepR, dstOk_eq]
theorem stepG_mk (κ : Nat) (φ : Fr) (h : Hp) (dst : Option Nat) (un : Bool) (op : Op) (p : Prop) (b : Bool) :
    stepG Γ W bs nt κ φ h dst un op (p, b) = stepE Γ W bs nt κ h dst un op p b (evL φ b op.operands.toList) := rfl
theorem stepE_mk (κ : Nat) (h : Hp) (dst : Option Nat) (un : Bool) (op : Op) (p : Prop) (b : Bool) (q : Prop) (l : List SV) :
    stepE Γ W bs nt κ h dst un op p b (q, l) = stepR nt dst un p b q (sem Γ W bs κ h op l) := rfl
theorem stepR_mk (dst : Option Nat) (un : Bool) (p : Prop) (b : Bool) (q side : Prop) (val : SV) (u : List (Nat × Option Ent)) (pan : Option (List PanicEntry)) (pupd reads : List Nat) :
    stepR nt dst un p b q ⟨side, val, u, pan, pupd, reads⟩ = ⟨p ∧ q ∧ (b = true → side) ∧ dstOk nt dst, mkFV un b val, bif b then u else [], bif b then pan else none, pupd, reads, keysU u⟩ := rfl
def stepP2 (nt : Nat) (φ : Fr) (dst : Option Nat) (un : Bool) (x y : Operand) (p : Prop) (g : Bool) : Prop × SV → S
  | (q, .v (.bool cb)) => ⟨p ∧ q ∧ (cb = true → (evO φ (g && cb) x).1) ∧ (cb = false → (evO φ (g && !cb) y).1) ∧ dstOk nt dst, mkFV un g (pickV cb (evO φ (g && cb) x).2 (evO φ (g && !cb) y).2), [], none, [], [], []⟩
  | _ => ⟨False, .any, [], none, [], [], []⟩
def stepP (nt : Nat) (φ : Fr) (dst : Option Nat) (un : Bool) (c x y : Operand) (g : Prop × Bool) : S := stepP2 nt φ dst un x y g.1 g.2 (evO φ g.2 c)
theorem step_pick (κ : Nat) (φ : Fr) (h : Hp) (dst : Option Nat) (c x y : Operand) (ty : TypeId) (pos : String) (after : Array Edge) (guard : Option (Nat × Bool)) :
    step Γ W bs nt ops κ φ h ⟨dst, .pick c x y, ty, pos, after, guard⟩ = stepP nt φ dst guard.isNone c x y (evG φ ops guard) := by
  simp only [step, stepP, dstOk_eq]
  split
  · rename_i cb hcb
    rw [show evO φ (evG φ ops guard).2 c = ((evO φ (evG φ ops guard).2 c).1, .v (.bool cb)) from by rw [← hcb]]
    rfl
  · rename_i hn
    unfold stepP2
    split
    · rename_i q cb he
      exact absurd (by rw [he]) (hn cb)
    · rfl
theorem stepP_mk (φ : Fr) (dst : Option Nat) (un : Bool) (c x y : Operand) (p : Prop) (g : Bool) : stepP nt φ dst un c x y (p, g) = stepP2 nt φ dst un x y p g (evO φ g c) := rfl
theorem stepP2_mk (φ : Fr) (dst : Option Nat) (un : Bool) (x y : Operand) (p q : Prop) (g cb : Bool) : stepP2 nt φ dst un x y p g (q, .v (.bool cb)) =
    ⟨p ∧ q ∧ (cb = true → (evO φ (g && cb) x).1) ∧ (cb = false → (evO φ (g && !cb) y).1) ∧ dstOk nt dst, mkFV un g (pickV cb (evO φ (g && cb) x).2 (evO φ (g && !cb) y).2), [], none, [], [], []⟩ := rfl
def evS (w : Bool) : FV → Prop × SV
  | .is x => (True, x)
  | .cnd b x => (w = true → b = true, x)
  | .any => (w = false, .v undef)
theorem evO_tmp (φ : Fr) (w : Bool) (t : Nat) : evO φ w (.tmp t) = evS w (φ t) := by
  simp only [evO, evS]; cases φ t <;> rfl
theorem evS_is (w : Bool) (x : SV) : evS w (.is x) = (True, x) := rfl
theorem evS_cnd (w b : Bool) (x : SV) : evS w (.cnd b x) = (w = true → b = true, x) := rfl
theorem evO_const (φ : Fr) (w : Bool) (v : Value) : evO φ w (.const v) = (True, .v v) := rfl
theorem evO_global (φ : Fr) (w : Bool) (g : Nat) : evO φ w (.global g) = (True, .v (.pointer (some ⟨g, 0, none⟩))) := rfl
theorem evO_func (φ : Fr) (w : Bool) (f : Nat) : evO φ w (.func f) = (True, .v (.func (.func f) #[] #[])) := rfl
def evC : Prop × SV → Prop × List SV → Prop × List SV := fun a b => (a.1 ∧ b.1, a.2 :: b.2)
theorem evL_nil (φ : Fr) (w : Bool) : evL φ w [] = (True, []) := rfl
theorem evL_cons (φ : Fr) (w : Bool) (o : Operand) (r : List Operand) : evL φ w (o :: r) = evC (evO φ w o) (evL φ w r) := rfl
theorem evC_mk (p q : Prop) (x : SV) (l : List SV) : evC (p, x) (q, l) = (p ∧ q, x :: l) := rfl
def evGS (want : Bool) : FV → Prop × Bool
  | .is (.v (.bool b)) => (True, b == want)
  | .cnd c (.v (.bool b)) => (True, c && (b == want))
  | _ => (False, false)
def evGD (φ : Fr) (want : Bool) : Option Nat → Prop × Bool
  | some d => evGS want (φ d)
  | none => (False, false)
theorem evG_none (φ : Fr) : evG φ ops none = (True, true) := rfl
theorem evG_some (φ : Fr) (j : Nat) (want : Bool) : evG φ ops (some (j, want)) = evGD φ want ((ops[j]?).bind (·.dst)) := by
  simp only [evG, evGD]
  cases (ops[j]?).bind (·.dst) with
  | none => rfl
  | some d => simp only [evGS]; split <;> simp_all
theorem evGD_some (φ : Fr) (want : Bool) (d : Nat) : evGD φ want (some d) = evGS want (φ d) := rfl
theorem evGS_is (want b : Bool) : evGS want (.is (.v (.bool b))) = (True, b == want) := rfl
theorem evGS_cnd (want b c : Bool) : evGS want (.cnd c (.v (.bool b))) = (True, c && (b == want)) := rfl
theorem mkFV_un (w : Bool) (x : SV) : mkFV true w x = .is x := rfl
theorem mkFV_g (w : Bool) (x : SV) : mkFV false w x = .cnd w x := rfl
theorem pickV_bool (c a b : Bool) : pickV c (.v (.bool a)) (.v (.bool b)) = .v (.bool (bif c then a else b)) := rfl
theorem pickV_int (c : Bool) (k k' : IntKind) (a b : Int) : pickV c (.v (.int k a)) (.v (.int k' b)) = .v (bif c then .int k a else .int k' b) := rfl
theorem pickV_v (c : Bool) (x y : Value) : pickV c (.v x) (.v y) = .v (bif c then x else y) := by
  cases c <;> (simp only [pickV]; split <;> simp_all)
theorem upd_eq {α : Type} (f : Nat → α) (k : Nat) (x : α) (j : Nat) : upd f k x j = if j = k then x else f j := rfl
theorem putO_some (φ : Fr) (d : Nat) (x : FV) : putO φ (some d) x = upd φ d x := rfl
theorem putO_none (φ : Fr) (x : FV) : putO φ none x = φ := rfl
theorem updL_nil {α : Type} (f : Nat → α) : updL f [] = f := rfl
theorem updL_cons {α : Type} (f : Nat → α) (k : Nat) (x : α) (r : List (Nat × α)) : updL f ((k, x) :: r) = updL (upd f k x) r := rfl
theorem frL_nil (t : Nat) : frL [] t = .any := rfl
theorem frL_cons (t k : Nat) (x : FV) (r : List (Nat × FV)) : frL ((k, x) :: r) t = if t = k then x else frL r t := rfl
theorem hpL_nil (t : Nat) : hpL [] t = none := rfl
theorem hpL_cons (t k : Nat) (x : Ent) (r : List (Nat × Ent)) : hpL ((k, x) :: r) t = if t = k then some x else hpL r t := rfl
theorem dstOk_some (n d : Nat) : dstOk n (some d) = (d < n) := rfl
theorem dstOk_none (n : Nat) : dstOk n none = True := rfl
section
variable {κ : Nat} {h : Hp}
theorem sem_move (o : Operand) (x : SV) : sem Γ W bs κ h (.move o) [x] = .ok x := rfl
theorem sem_assign (o : Operand) (x : SV) : sem Γ W bs κ h (.assign o) [x] = .ok x := rfl
theorem sem_alloc (T : TypeId) : sem Γ W bs κ h (.alloc T) [] = semAlloc P κ T := rfl
theorem sem_box (T : TypeId) (o : Operand) (l : List SV) : sem Γ W bs κ h (.box T o) l = semBox κ T l := rfl
theorem sem_build (T : TypeId) (ps : Array (Nat × Operand)) (l : List SV) : sem Γ W bs κ h (.build T ps) l = semBuild P T (ps.toList.map (·.1)) l := rfl
theorem sem_buildSlice (T : TypeId) (n : Nat) (ps : Array (Nat × Operand)) (l : List SV) : sem Γ W bs κ h (.buildSlice T n ps) l = semBuildSlice P κ T n (ps.toList.map (·.1)) l := rfl
theorem sem_load (T : TypeId) (o : Operand) (l : List SV) : sem Γ W bs κ h (.load T o) l = semLoad P W bs h T l := rfl
theorem sem_store (T : TypeId) (o o' : Operand) (l : List SV) : sem Γ W bs κ h (.store T o o') l = semStore P h T l := rfl
theorem sem_nilCheck (o : Operand) (l : List SV) : sem Γ W bs κ h (.nilCheck o) l = semNilCheck h l := rfl
theorem sem_binOp (op : BinOp) (T : TypeId) (x y : Operand) (r : TypeId) (l : List SV) : sem Γ W bs κ h (.binOp op T x y r) l = semBinN P Γ.eqs h op T x y l := rfl
theorem sem_unOp (op : UnOp) (T : TypeId) (x : Operand) (l : List SV) : sem Γ W bs κ h (.unOp op T x) l = semUn op l := rfl
theorem sem_convert (a b : TypeId) (x : Operand) (l : List SV) : sem Γ W bs κ h (.convert a b x) l = semConvN P h a b l := rfl
theorem sem_makeSlice (T : TypeId) (x y : Operand) (l : List SV) : sem Γ W bs κ h (.makeSlice T x y) l = semMake P κ T l := rfl
theorem sem_panic (x : Operand) (l : List SV) : sem Γ W bs κ h (.panic x) l = semPanic l := rfl
theorem sem_makeInterface (T : TypeId) (o : Operand) (l : List SV) : sem Γ W bs κ h (.makeInterface T o) l = semMkI P T l := rfl
theorem sem_slice (T : TypeId) (o : Operand) (lo hi mx : Option Operand) (l : List SV) : sem Γ W bs κ h (.slice T o lo hi mx) l = semSliceN P κ h T lo.isSome hi.isSome mx.isSome l := rfl
theorem sem_sliceV (T : TypeId) (lo hi mx : Bool) (x : Value) (r : List SV) : semSliceN P κ h T lo hi mx (.v x :: r) = semSlice P T lo hi mx (.v x :: r) := rfl
theorem sem_fieldAddr (T : TypeId) (o : Operand) (f : Nat) (l : List SV) : sem Γ W bs κ h (.fieldAddr T o f) l = semFieldAddr P h T f l := rfl
theorem sem_field (T : TypeId) (o : Operand) (f : Nat) (l : List SV) : sem Γ W bs κ h (.field T o f) l = semField P T f l := rfl
theorem sem_indexAddr (T : TypeId) (o i : Operand) (l : List SV) : sem Γ W bs κ h (.indexAddr T o i) l = semIndexAddr P h T l := rfl
theorem sem_index (T : TypeId) (o i : Operand) (l : List SV) : sem Γ W bs κ h (.index T o i) l = semIndex P T l := rfl
theorem sem_extract (o : Operand) (i : Nat) (l : List SV) : sem Γ W bs κ h (.extract o i) l = semExtract i l := rfl
theorem sem_len (as_ : Array Operand) (T : TypeId) (l : List SV) : sem Γ W bs κ h (.call { callee := .builtin .len, args := as_, argTypes := #[T] }) l = semLen P h T l := rfl
theorem sem_append (as_ : Array Operand) (tys : Array TypeId) (l : List SV) : sem Γ W bs κ h (.call { callee := .builtin .append, args := as_, argTypes := tys }) l = semApp P W bs κ h tys.toList l := rfl
theorem sem_call (f : Operand) (as_ : Array Operand) (tys : Array TypeId) (l : List SV) : sem Γ W bs κ h (.call { callee := .value f, args := as_, argTypes := tys }) l = semCall Γ W bs κ h l := rfl
theorem sem_invoke (f : Operand) (n : String) (as_ : Array Operand) (tys : Array TypeId) (l : List SV) : sem Γ W bs κ h (.call { callee := .invoke f n, args := as_, argTypes := tys }) l = semInvoke Γ W bs κ h n l := rfl
theorem semCall_v (f : FuncId) (first cap : Array Value) (rest : List SV) : semCall Γ W bs κ h (.v (.func (.func f) first cap) :: rest) = semF Γ W bs κ h f (first.toList.map .v ++ rest ++ cap.toList.map .v) := rfl
theorem semF_eq (f : FuncId) (l : List SV) {s : Spec P f} (hs : Γ.sp f = some s) : semF Γ W bs κ h f l = s.ev W bs κ h l := by simp only [semF, hs]
end
theorem R_new (k : Nat) (e : Ent) (x : SV) : R.new k e x = ⟨True, x, [(k, some e)], none, [], []⟩ := rfl
theorem R_ok (x : SV) : R.ok x = ⟨True, x, [], none, [], []⟩ := rfl
theorem R_req (p : Prop) (x : SV) : R.req p x = ⟨p, x, [], none, [], []⟩ := rfl
theorem nk_eq (n : Nat) : nk n = 8 * n := rfl
theorem keysU_nil {α : Type} : keysU ([] : List (Nat × α)) = [] := rfl
theorem keysU_cons {α : Type} (k : Nat) (x : α) (r : List (Nat × α)) : keysU ((k, x) :: r) = k :: keysU r := rfl
theorem partsOf_agg (l : List SV) : partsOf (.agg l) = l := rfl
theorem partsOf_vagg (cs : Array Value) : partsOf (.v (.agg cs)) = cs.toList.map .v := rfl
theorem partsOf_int (k : IntKind) (n : Int) : partsOf (.v (.int k n)) = [.v (.int k n)] := rfl
theorem partsOf_string (b : ByteArray) : partsOf (.v (.string b)) = [.v (.string b)] := rfl
theorem partsOf_bool (b : Bool) : partsOf (.v (.bool b)) = [.v (.bool b)] := rfl
theorem partsOf_slice (a : Option Addr) (n c : Nat) : partsOf (.v (.slice a n c)) = [.v (.slice a n c)] := rfl
theorem partsOf_pointer (a : Option Addr) : partsOf (.v (.pointer a)) = [.v (.pointer a)] := rfl
theorem partsOf_iface (t : TypeId) (x : Value) : partsOf (.v (.iface t x)) = [.v (.iface t x)] := rfl
theorem partsOf_nilIface : partsOf (.v .nilIface) = [.v .nilIface] := rfl
theorem partsOf_own (k o : Nat) : partsOf (.own k o) = [.own k o] := rfl
theorem partsOf_hd (k : Nat) : partsOf (.hd k) = [.hd k] := rfl
theorem partsOf_part (k i : Nat) : partsOf (.part k i) = [.part k i] := rfl
theorem partsOf_ifc (t : TypeId) (x : SV) : partsOf (.ifc t x) = [.ifc t x] := rfl
theorem oneSV_int (k : IntKind) (n : Int) : oneSV (.v (.int k n)) = true := rfl
theorem oneSV_string (b : ByteArray) : oneSV (.v (.string b)) = true := rfl
theorem oneSV_bool (b : Bool) : oneSV (.v (.bool b)) = true := rfl
theorem oneSV_slice (a : Option Addr) (n c : Nat) : oneSV (.v (.slice a n c)) = true := rfl
theorem oneSV_pointer (a : Option Addr) : oneSV (.v (.pointer a)) = true := rfl
theorem oneSV_iface (t : TypeId) (x : Value) : oneSV (.v (.iface t x)) = true := rfl
theorem oneSV_nilIface : oneSV (.v .nilIface) = true := rfl
theorem oneSV_own (k o : Nat) : oneSV (.own k o) = true := rfl
theorem oneSV_hd (k : Nat) : oneSV (.hd k) = true := rfl
theorem oneSV_part (k i : Nat) : oneSV (.part k i) = true := rfl
theorem oneSV_ifc (t : TypeId) (x : SV) : oneSV (.ifc t x) = true := rfl
theorem entVs_cells (T : TypeId) (vs : List SV) : entVs (some (.cells T vs)) = some vs := rfl
theorem entVs_row (T : TypeId) (s n : Nat) (vs : List SV) : entVs (some (.row T s n vs)) = some vs := rfl
theorem setEnt_cells (T : TypeId) (vs : List SV) (o : Nat) (ps : List SV) : setEnt (some (.cells T vs)) o ps = some (.cells T (setRange vs o ps)) := rfl
theorem setEnt_row (T : TypeId) (s n : Nat) (vs : List SV) (o : Nat) (ps : List SV) : setEnt (some (.row T s n vs)) o ps = some (.row T s n (setRange vs o ps)) := rfl
section
variable {κ : Nat} {h : Hp}
def allocK (κ : Nat) (T : TypeId) : Option (List Value) → R
  | some zs => ⟨True, .own (8 * κ) 0, [(8 * κ, some (.cells T (zs.map .v)))], none, [], []⟩
  | none => .bad
theorem semAlloc_eq (T : TypeId) : semAlloc P κ T = allocK κ T (tz P T) := by simp only [semAlloc]; unfold allocK; cases tz P T <;> rfl
theorem allocK_some (T : TypeId) (zs : List Value) : allocK κ T (some zs) = ⟨True, .own (8 * κ) 0, [(8 * κ, some (.cells T (zs.map .v)))], none, [], []⟩ := rfl
theorem semBox_eq (T : TypeId) (x : SV) : semBox κ T [x] = ⟨True, .own (8 * κ) 0, [(8 * κ, some (.cells T (partsOf x)))], none, [], []⟩ := rfl
def loadK (o k : Nat) : Option Nat → Option Bool → Option (List SV) → R
  | some sz, some true, some vs => ⟨o + sz ≤ vs.length ∧ 0 < sz, .agg ((vs.drop o).take sz), [], none, [], [k]⟩
  | some _, some false, some vs => ⟨o < vs.length, vs.getD o (.v undef), [], none, [], [k]⟩
  | _, _, _ => .bad
theorem semLoad_own (T : TypeId) (k o : Nat) : semLoad P W bs h T [.own k o] = loadK o k (ts P T) (ta P T) (entVs (h k)) := by
  simp only [semLoad]; unfold loadK
  rcases ts P T with _ | sz <;> rcases ta P T with _ | _ | _ <;> rcases entVs (h k) with _ | vs <;> rfl
theorem loadK_agg (o k sz : Nat) (vs : List SV) : loadK o k (some sz) (some true) (some vs) = ⟨o + sz ≤ vs.length ∧ 0 < sz, .agg ((vs.drop o).take sz), [], none, [], [k]⟩ := rfl
theorem loadK_one (o k sz : Nat) (vs : List SV) : loadK o k (some sz) (some false) (some vs) = ⟨o < vs.length, vs.getD o (.v undef), [], none, [], [k]⟩ := rfl
def loadX (W : World) (bs : List Nat) (b o : Nat) : Option Nat → Option Bool → R
  | some sz, some true => ⟨b ∉ bs ∧ xthere W b o sz, .agg (xcells W b o sz), [], none, [], []⟩
  | some _, some false => ⟨b ∉ bs ∧ (W.cell? ⟨b, o, none⟩).isSome = true, .v ((W.cell? ⟨b, o, none⟩).getD undef), [], none, [], []⟩
  | _, _ => .bad
theorem semLoad_ext (T : TypeId) (b o : Nat) : semLoad P W bs h T [.v (.pointer (some ⟨b, o, none⟩))] = loadX W bs b o (ts P T) (ta P T) := by
  simp only [semLoad]; unfold loadX
  rcases ts P T with _ | sz <;> rcases ta P T with _ | _ | _ <;> rfl
theorem loadX_agg (b o sz : Nat) : loadX W bs b o (some sz) (some true) = ⟨b ∉ bs ∧ xthere W b o sz, .agg (xcells W b o sz), [], none, [], []⟩ := rfl
theorem loadX_one (b o sz : Nat) : loadX W bs b o (some sz) (some false) = ⟨b ∉ bs ∧ (W.cell? ⟨b, o, none⟩).isSome = true, .v ((W.cell? ⟨b, o, none⟩).getD undef), [], none, [], []⟩ := rfl
theorem xcells_zero (b o : Nat) : xcells W b o 0 = [] := rfl
theorem xcells_succ (b o n : Nat) : xcells W b o (n + 1) = .v ((W.cell? ⟨b, o, none⟩).getD undef) :: xcells W b (o + 1) n := rfl
theorem xthere_zero (b o : Nat) : xthere W b o 0 = True := rfl
theorem xthere_succ (b o n : Nat) : xthere W b o (n + 1) = ((W.cell? ⟨b, o, none⟩).isSome = true ∧ xthere W b (o + 1) n) := rfl
def storeK (e : Option Ent) (k o : Nat) (x : SV) : Option Nat → Option (List SV) → R
  | some sz, some vs => ⟨(partsOf x).length = sz ∧ o + sz ≤ vs.length ∧ (0 < sz ∨ isC e = true) ∧ (partsOf x).all oneSV = true, .v undef, [(k, setEnt e o (partsOf x))], none, [], [k]⟩
  | _, _ => .bad
theorem semStore_own (T : TypeId) (k o : Nat) (x : SV) : semStore P h T [.own k o, x] = storeK (h k) k o x (ts P T) (entVs (h k)) := by
  simp only [semStore]; unfold storeK
  rcases ts P T with _ | sz <;> rcases entVs (h k) with _ | vs <;> rfl
theorem storeK_some (e : Option Ent) (k o sz : Nat) (x : SV) (vs : List SV) : storeK e k o x (some sz) (some vs) = ⟨(partsOf x).length = sz ∧ o + sz ≤ vs.length ∧ (0 < sz ∨ isC e = true) ∧ (partsOf x).all oneSV = true, .v undef, [(k, setEnt e o (partsOf x))], none, [], [k]⟩ := rfl
theorem isC_cells (T : TypeId) (vs : List SV) : isC (some (.cells T vs)) = true := rfl
def faK (k o : Nat) : Option (Nat × Nat × Bool) → Option (List SV) → R
  | some (off, sz, _), some vs => ⟨0 < sz ∧ o < vs.length, .own k (o + off), [], none, [], [k]⟩
  | _, _ => .bad
theorem semFieldAddr_own (T : TypeId) (f k o : Nat) : semFieldAddr P h T f [.own k o] = faK k o (tf P T f) (entVs (h k)) := by
  simp only [semFieldAddr]; unfold faK
  rcases tf P T f with _ | ⟨a, b, c⟩ <;> rcases entVs (h k) with _ | vs <;> rfl
theorem faK_some (k o off sz : Nat) (ag : Bool) (vs : List SV) : faK k o (some (off, sz, ag)) (some vs) = ⟨0 < sz ∧ o < vs.length, .own k (o + off), [], none, [], [k]⟩ := rfl
def faX (b o : Nat) : Option (Nat × Nat × Bool) → R
  | some (off, sz, _) => ⟨0 < sz, .v (.pointer (some ⟨b, o + off, none⟩)), [], none, [], []⟩
  | _ => .bad
theorem semFieldAddr_ext (T : TypeId) (f b o : Nat) : semFieldAddr P h T f [.v (.pointer (some ⟨b, o, none⟩))] = faX b o (tf P T f) := by
  simp only [semFieldAddr]; unfold faX
  rcases tf P T f with _ | ⟨a, b, c⟩ <;> rfl
theorem faX_some (b o off sz : Nat) (ag : Bool) : faX b o (some (off, sz, ag)) = ⟨0 < sz, .v (.pointer (some ⟨b, o + off, none⟩)), [], none, [], []⟩ := rfl
def fieldK (l : List SV) : Option (Nat × Nat × Bool) → R
  | some (off, sz, ag) => partSV ag off sz l
  | none => .bad
theorem semField_agg (T : TypeId) (f : Nat) (l : List SV) : semField P T f [.agg l] = fieldK l (tf P T f) := by
  simp only [semField]; unfold fieldK
  rcases tf P T f with _ | ⟨a, b, c⟩ <;> rfl
theorem semField_vagg (T : TypeId) (f : Nat) (cs : Array Value) : semField P T f [.v (.agg cs)] = fieldK (cs.toList.map .v) (tf P T f) := by
  simp only [semField]; unfold fieldK
  rcases tf P T f with _ | ⟨a, b, c⟩ <;> rfl
theorem fieldK_agg (l : List SV) (off sz : Nat) : fieldK l (some (off, sz, true)) = ⟨off + sz ≤ l.length, .agg ((l.drop off).take sz), [], none, [], []⟩ := rfl
theorem fieldK_one (l : List SV) (off sz : Nat) : fieldK l (some (off, sz, false)) = ⟨off < l.length, l.getD off (.v undef), [], none, [], []⟩ := rfl
theorem semExtract_tup (i : Nat) (l : List SV) : semExtract i [.tup l] = ⟨i < l.length, l.getD i (.v undef), [], none, [], []⟩ := rfl
theorem semExtract_vtup (i : Nat) (vs : Array Value) : semExtract i [.v (.tuple vs)] = ⟨i < vs.size, .v (vs.getD i undef), [], none, [], []⟩ := rfl
theorem semBin_shl (eqs : (T : TypeId) → Option (EqSpec P T)) (T : TypeId) (k k' : IntKind) (a b : Int) : semBin P eqs .shl T [.v (.int k a), .v (.int k' b)] = ⟨0 ≤ b, .v (.int k (k.wrap (a * 2 ^ (min b.toNat k.bits)))), [], none, [], []⟩ := rfl
theorem semBin_shr (eqs : (T : TypeId) → Option (EqSpec P T)) (T : TypeId) (k k' : IntKind) (a b : Int) : semBin P eqs .shr T [.v (.int k a), .v (.int k' b)] = ⟨0 ≤ b, .v (.int k (a.fdiv (2 ^ (min b.toNat k.bits)))), [], none, [], []⟩ := rfl
theorem semBin_int (eqs : (T : TypeId) → Option (EqSpec P T)) (T : TypeId) (k : IntKind) (a b : Int) :
    semBin P eqs .add T [.v (.int k a), .v (.int k b)] = ⟨True, .v (.int k (k.wrap (a + b))), [], none, [], []⟩ ∧
    semBin P eqs .sub T [.v (.int k a), .v (.int k b)] = ⟨True, .v (.int k (k.wrap (a - b))), [], none, [], []⟩ ∧
    semBin P eqs .mul T [.v (.int k a), .v (.int k b)] = ⟨True, .v (.int k (k.wrap (a * b))), [], none, [], []⟩ ∧
    semBin P eqs .quo T [.v (.int k a), .v (.int k b)] = ⟨b ≠ 0, .v (.int k (k.wrap (a.tdiv b))), [], none, [], []⟩ ∧
    semBin P eqs .rem T [.v (.int k a), .v (.int k b)] = ⟨b ≠ 0, .v (.int k (a.tmod b)), [], none, [], []⟩ ∧
    semBin P eqs .and T [.v (.int k a), .v (.int k b)] = ⟨True, .v (.int k (bitsV .and k a b)), [], none, [], []⟩ ∧
    semBin P eqs .or T [.v (.int k a), .v (.int k b)] = ⟨True, .v (.int k (bitsV .or k a b)), [], none, [], []⟩ ∧
    semBin P eqs .xor T [.v (.int k a), .v (.int k b)] = ⟨True, .v (.int k (bitsV .xor k a b)), [], none, [], []⟩ ∧
    semBin P eqs .eql T [.v (.int k a), .v (.int k b)] = ⟨True, .v (.bool (decide (a = b))), [], none, [], []⟩ ∧
    semBin P eqs .neq T [.v (.int k a), .v (.int k b)] = ⟨True, .v (.bool (!decide (a = b))), [], none, [], []⟩ ∧
    semBin P eqs .lss T [.v (.int k a), .v (.int k b)] = ⟨True, .v (.bool (decide (a < b))), [], none, [], []⟩ ∧
    semBin P eqs .leq T [.v (.int k a), .v (.int k b)] = ⟨True, .v (.bool (decide (a ≤ b))), [], none, [], []⟩ ∧
    semBin P eqs .gtr T [.v (.int k a), .v (.int k b)] = ⟨True, .v (.bool (decide (b < a))), [], none, [], []⟩ ∧
    semBin P eqs .geq T [.v (.int k a), .v (.int k b)] = ⟨True, .v (.bool (decide (b ≤ a))), [], none, [], []⟩ := by
  simp [semBin, binI, R.req]
theorem semBin_str (eqs : (T : TypeId) → Option (EqSpec P T)) (T : TypeId) (a b : ByteArray) :
    semBin P eqs .add T [.v (.string a), .v (.string b)] = ⟨a.size + b.size ≤ 9223372036854775807, .v (.string (a ++ b)), [], none, [], []⟩ ∧
    semBin P eqs .eql T [.v (.string a), .v (.string b)] = ⟨True, .v (.bool (decide (a = b))), [], none, [], []⟩ ∧
    semBin P eqs .neq T [.v (.string a), .v (.string b)] = ⟨True, .v (.bool (!decide (a = b))), [], none, [], []⟩ ∧
    semBin P eqs .lss T [.v (.string a), .v (.string b)] = ⟨True, .v (.bool (Op.bytesLess a.toList b.toList)), [], none, [], []⟩ ∧
    semBin P eqs .gtr T [.v (.string a), .v (.string b)] = ⟨True, .v (.bool (!(Op.bytesLess a.toList b.toList || decide (a = b)))), [], none, [], []⟩ := by
  simp [semBin, binS, R.req]
theorem semBin_bool (eqs : (T : TypeId) → Option (EqSpec P T)) (T : TypeId) (a b : Bool) :
    semBin P eqs .eql T [.v (.bool a), .v (.bool b)] = ⟨P.underlying T = some .bool, .v (.bool (a == b)), [], none, [], []⟩ ∧
    semBin P eqs .neq T [.v (.bool a), .v (.bool b)] = ⟨P.underlying T = some .bool, .v (.bool (!(a == b))), [], none, [], []⟩ := ⟨rfl, rfl⟩
def valsL : List SV → Option (List Value)
  | [] => some []
  | .v x :: r => (valsL r).map (x :: ·)
  | _ => none
theorem valsOf_agg : ∀ l : List SV, valsOf (.agg l) = valsL l
  | [] => rfl
  | x :: r => by
    have ih := valsOf_agg r
    simp only [valsOf] at ih ⊢
    rw [List.mapM_cons, ih]
    cases x <;> simp [valsL] <;> cases valsL r <;> rfl
theorem valsOf_v (cs : Array Value) : valsOf (.v (.agg cs)) = some cs.toList := rfl
theorem valsL_nil : valsL [] = some [] := rfl
theorem valsL_cons (x : Value) (r : List SV) : valsL (.v x :: r) = (valsL r).map (x :: ·) := rfl
def eqK {T : TypeId} (neg : Bool) : Option (List Value) → Option (List Value) → Option (EqSpec P T) → R
  | some xs, some ys, some e => ⟨(e.f xs ys).isSome = true, .v (.bool (neg ^^ (e.f xs ys).getD false)), [], none, [], []⟩
  | _, _, _ => .bad
def aggL : SV → Option (List Value)
  | .v (.agg cs) => some cs.toList
  | .agg l => valsL l
  | _ => none
theorem semBin_eqS (eqs : (T : TypeId) → Option (EqSpec P T)) (T : TypeId) (l l' : List SV) :
    semBin P eqs .eql T [.agg l, .agg l'] = eqK false (valsL l) (valsL l') (eqs T) ∧ semBin P eqs .neq T [.agg l, .agg l'] = eqK true (valsL l) (valsL l') (eqs T) := by
  simp only [semBin, valsOf_agg, valsOf_v]
  constructor <;> (unfold eqK; rcases valsL l with _ | xs <;> rcases valsL l' with _ | ys <;> rcases eqs T with _ | e <;> simp [R.req])
theorem semBin_eqVV (eqs : (T : TypeId) → Option (EqSpec P T)) (T : TypeId) (cs cs' : Array Value) :
    semBin P eqs .eql T [.v (.agg cs), .v (.agg cs')] = eqK false (some cs.toList) (some cs'.toList) (eqs T) ∧ semBin P eqs .neq T [.v (.agg cs), .v (.agg cs')] = eqK true (some cs.toList) (some cs'.toList) (eqs T) := by
  simp only [semBin, valsOf_agg, valsOf_v]
  refine ⟨?_, ?_⟩ <;> (unfold eqK; rcases eqs T with _ | e <;> simp [R.req])
theorem semBin_eqVA (eqs : (T : TypeId) → Option (EqSpec P T)) (T : TypeId) (cs : Array Value) (l : List SV) :
    semBin P eqs .eql T [.v (.agg cs), .agg l] = eqK false (some cs.toList) (valsL l) (eqs T) ∧ semBin P eqs .neq T [.v (.agg cs), .agg l] = eqK true (some cs.toList) (valsL l) (eqs T) ∧
    semBin P eqs .eql T [.agg l, .v (.agg cs)] = eqK false (valsL l) (some cs.toList) (eqs T) ∧ semBin P eqs .neq T [.agg l, .v (.agg cs)] = eqK true (valsL l) (some cs.toList) (eqs T) := by
  simp only [semBin, valsOf_agg, valsOf_v]
  refine ⟨?_, ?_, ?_, ?_⟩ <;> (unfold eqK; rcases valsL l with _ | xs <;> rcases eqs T with _ | e <;> simp [R.req])
theorem eqK_some {T : TypeId} (neg : Bool) (xs ys : List Value) (e : EqSpec P T) : eqK neg (some xs) (some ys) (some e) = ⟨(e.f xs ys).isSome = true, .v (.bool (neg ^^ (e.f xs ys).getD false)), [], none, [], []⟩ := rfl
theorem semUn_not (b : Bool) : semUn .not [.v (.bool b)] = ⟨True, .v (.bool (!b)), [], none, [], []⟩ := rfl
theorem semUn_neg (k : IntKind) (n : Int) : semUn .neg [.v (.int k n)] = ⟨True, .v (.int k (k.wrap (0 - n))), [], none, [], []⟩ := rfl
def lenK (n : Nat) (k : Nat) : Option TypeDesc → R
  | some (.slice _) => ⟨True, .v (.int .i64 n), [], none, [], [k]⟩
  | _ => ⟨False, .v (.int .i64 n), [], none, [], [k]⟩
theorem semLen_str (T : TypeId) (s : ByteArray) : semLen P h T [.v (.string s)] = ⟨P.underlying T = some .string, .v (.int .i64 s.size), [], none, [], []⟩ := rfl
theorem semLen_slice (T : TypeId) (a : Option Addr) (n c : Nat) : semLen P h T [.v (.slice a n c)] = ⟨∃ e, P.underlying T = some (.slice e), .v (.int .i64 n), [], none, [], []⟩ := rfl
def lenH (P : Program) (T : TypeId) (k : Nat) : Option Ent → R
  | some (.row _ _ n _) => ⟨∃ e, P.underlying T = some (.slice e), .v (.int .i64 n), [], none, [], [k]⟩
  | _ => .bad
theorem semLen_hd (T : TypeId) (k : Nat) : semLen P h T [.hd k] = lenH P T k (h k) := by
  simp only [semLen]; unfold lenH
  rcases h k with _ | e
  · rfl
  · cases e <;> rfl
theorem lenH_row (T T' : TypeId) (k s n : Nat) (vs : List SV) : lenH P T k (some (.row T' s n vs)) = ⟨∃ e, P.underlying T = some (.slice e), .v (.int .i64 n), [], none, [], [k]⟩ := rfl
theorem sliceEx (d : TypeDesc) (e : TypeId) (hd : d = .slice e) : (∃ e, (some d : Option TypeDesc) = some (.slice e)) = True := by subst hd; simp
def ixK (P : Program) (k : Nat) (i : Int) : Option TypeDesc → Option Ent → R
  | some (.slice e), some (.row _ size n _) => ⟨ts P e = some size ∧ 0 ≤ i ∧ i < n ∧ 0 < size, .own k (i.toNat * size), [], none, [], [k]⟩
  | _, _ => .bad
theorem semIndexAddr_hd (T : TypeId) (k : Nat) (ik : IntKind) (i : Int) : semIndexAddr P h T [.hd k, .v (.int ik i)] = ixK P k i (P.underlying T) (h k) := by
  simp only [semIndexAddr]; unfold ixK
  rcases P.underlying T with _ | d <;> rcases h k with _ | e
  · rfl
  · cases e <;> rfl
  · cases d <;> rfl
  · cases d <;> cases e <;> rfl
theorem ixK_some (e e' : TypeId) (k size n : Nat) (i : Int) (vs : List SV) : ixK P k i (some (.slice e)) (some (.row e' size n vs)) = ⟨ts P e = some size ∧ 0 ≤ i ∧ i < n ∧ 0 < size, .own k (i.toNat * size), [], none, [], [k]⟩ := rfl
def ixY (b o n : Nat) (i : Int) : Option Nat → R
  | some sz => ⟨0 ≤ i ∧ i < n, .v (.pointer (some ⟨b, o + i.toNat * sz, none⟩)), [], none, [], []⟩
  | none => .bad
def ixX (P : Program) (b o n : Nat) (i : Int) : Option TypeDesc → R
  | some (.slice e) => ixY b o n i (ts P e)
  | _ => .bad
theorem semIndexAddr_ext (T : TypeId) (b o n c : Nat) (ik : IntKind) (i : Int) : semIndexAddr P h T [.v (.slice (some ⟨b, o, none⟩) n c), .v (.int ik i)] = ixX P b o n i (P.underlying T) := by
  simp only [semIndexAddr]; unfold ixX
  rcases P.underlying T with _ | d
  · rfl
  · cases d <;> rfl
theorem ixX_slice (e : TypeId) (b o n : Nat) (i : Int) : ixX P b o n i (some (.slice e)) = ixY b o n i (ts P e) := rfl
def ixH (b o : Nat) (i : Int) (n : Nat) : Option Nat → R
  | some sz => ⟨0 ≤ i ∧ i < n ∧ 1 < n, .v (.pointer (some ⟨b, o + i.toNat * sz, none⟩)), [], none, [], []⟩
  | none => .bad
def ixG (P : Program) (b o : Nat) (i : Int) : Option TypeDesc → R
  | some (.array n e) => ixH b o i n (ts P e)
  | _ => .bad
theorem semIndexAddr_glo (T : TypeId) (b o : Nat) (ik : IntKind) (i : Int) : semIndexAddr P h T [.v (.pointer (some ⟨b, o, none⟩)), .v (.int ik i)] = ixG P b o i (P.underlying T) := by
  simp only [semIndexAddr]; unfold ixG
  rcases P.underlying T with _ | d
  · rfl
  · cases d
    case array n e => unfold ixH; cases ts P e <;> rfl
    all_goals rfl
theorem ixG_array (b o n : Nat) (i : Int) (e : TypeId) : ixG P b o i (some (.array n e)) = ixH b o i n (ts P e) := rfl
theorem ixH_some (b o n sz : Nat) (i : Int) : ixH b o i n (some sz) = ⟨0 ≤ i ∧ i < n ∧ 1 < n, .v (.pointer (some ⟨b, o + i.toNat * sz, none⟩)), [], none, [], []⟩ := rfl
theorem ixY_some (b o n : Nat) (i : Int) (sz : Nat) : ixY b o n i (some sz) = ⟨0 ≤ i ∧ i < n, .v (.pointer (some ⟨b, o + i.toNat * sz, none⟩)), [], none, [], []⟩ := rfl
theorem semIndex_str (T : TypeId) (s : ByteArray) (ik : IntKind) (i : Int) : semIndex P T [.v (.string s), .v (.int ik i)] = ⟨P.underlying T = some .string ∧ 0 ≤ i ∧ i < s.size, .v (.int .u8 (bt s i)), [], none, [], []⟩ := rfl
theorem semSlice_s11 (T : TypeId) (s : ByteArray) (k k' : IntKind) (a b : Int) : semSlice P T true true false [.v (.string s), .v (.int k a), .v (.int k' b)] = ⟨P.underlying T = some .string ∧ 0 ≤ a ∧ a ≤ b ∧ b ≤ s.size, .v (.string (s.extract a.toNat b.toNat)), [], none, [], []⟩ := by
  simp [semSlice, sliceArgs, semSliceS, R.req]
theorem semSlice_s10 (T : TypeId) (s : ByteArray) (k : IntKind) (a : Int) : semSlice P T true false false [.v (.string s), .v (.int k a)] = ⟨P.underlying T = some .string ∧ 0 ≤ a ∧ a ≤ s.size, .v (.string (s.extract a.toNat s.size)), [], none, [], []⟩ := by
  simp [semSlice, sliceArgs, semSliceS, R.req]
theorem semSlice_s01 (T : TypeId) (s : ByteArray) (k' : IntKind) (b : Int) : semSlice P T false true false [.v (.string s), .v (.int k' b)] = ⟨P.underlying T = some .string ∧ 0 ≤ b ∧ b ≤ s.size, .v (.string (s.extract 0 b.toNat)), [], none, [], []⟩ := by
  simp [semSlice, sliceArgs, semSliceS, R.req]
theorem semNilCheck_own (k o : Nat) (vs : List SV) (hv : entVs (h k) = some vs) : semNilCheck h [.own k o] = ⟨o < vs.length, .own k o, [], none, [], [k]⟩ := by simp only [semNilCheck, hv]
theorem semNilCheck_ext (a : Addr) : semNilCheck h [.v (.pointer (some a))] = ⟨True, .v (.pointer (some a)), [], none, [], []⟩ := rfl
theorem semMkI_v (T : TypeId) (x : Value) : semMkI P T [.v x] = ⟨P.concrete T = true, .v (.iface T x), [], none, [], []⟩ := rfl
def buildK (idx : List Nat) (args : List SV) : Option (List Value) → Option (List (Nat × Nat)) → Option TypeDesc → R
  | some zs, some fl, some (.struct _) => match fillSV (fun i => fl[i]?) (zs.map .v) (idx.zip args) with
    | some cells => ⟨True, .agg cells, [], none, [], []⟩
    | none => .bad
  | _, _, _ => .bad
end
end
end Go.LE
end
section
namespace Go.LE
def ev1 := (And.intro @rgo_nil (And.intro @rgo_cons (And.intro @rgoK_mk (And.intro @rgAdd_mk (And.intro @isPick_no (And.intro @step_go (And.intro @stepG_mk (And.intro @stepE_mk (And.intro @stepR_mk (And.intro @step_pick (And.intro @stepP_mk (And.intro @stepP2_mk (And.intro @evO_tmp (And.intro @evS_is (And.intro @evS_cnd (And.intro @evO_const (And.intro @evO_global (And.intro @evO_func (And.intro @evL_nil (And.intro @evL_cons (And.intro @evC_mk (And.intro @evG_none (And.intro @evG_some (And.intro @evGD_some (And.intro @evGS_is (And.intro @evGS_cnd (And.intro @mkFV_un (And.intro @mkFV_g (And.intro @pickV_bool (And.intro @upd_eq (And.intro @putO_some (And.intro @putO_none (And.intro @updL_nil (And.intro @updL_cons (And.intro @frL_nil (And.intro @frL_cons (And.intro @hpL_nil (And.intro @hpL_cons (And.intro @dstOk_some (And.intro @dstOk_none (And.intro @sem_move (And.intro @sem_assign (And.intro @sem_alloc (And.intro @sem_box (And.intro @sem_build (And.intro @sem_buildSlice (And.intro @sem_load (And.intro @sem_store (And.intro @sem_nilCheck (And.intro @sem_binOp @sem_unOp))))))))))))))))))))))))))))))))))))))))))))))))))
def ev2 := (And.intro @sem_convert (And.intro @sem_makeSlice (And.intro @sem_panic (And.intro @sem_makeInterface (And.intro @sem_slice <| And.intro @sem_sliceV (And.intro @sem_fieldAddr (And.intro @sem_field (And.intro @sem_indexAddr (And.intro @sem_index (And.intro @sem_extract (And.intro @sem_len (And.intro @sem_append (And.intro @sem_call (And.intro @sem_invoke (And.intro @semCall_v (And.intro @R_new (And.intro @R_ok (And.intro @R_req (And.intro @nk_eq (And.intro @keysU_nil (And.intro @keysU_cons (And.intro @partsOf_agg (And.intro @partsOf_vagg (And.intro @partsOf_int (And.intro @partsOf_string (And.intro @partsOf_bool (And.intro @partsOf_slice (And.intro @partsOf_pointer (And.intro @partsOf_iface (And.intro @partsOf_nilIface (And.intro @partsOf_own (And.intro @partsOf_hd (And.intro @partsOf_part (And.intro @partsOf_ifc (And.intro @oneSV_int (And.intro @oneSV_string (And.intro @oneSV_bool (And.intro @oneSV_slice (And.intro @oneSV_pointer (And.intro @oneSV_iface (And.intro @oneSV_nilIface (And.intro @oneSV_own (And.intro @oneSV_hd (And.intro @oneSV_part (And.intro @oneSV_ifc (And.intro @entVs_cells (And.intro @entVs_row (And.intro @setEnt_cells (And.intro @setEnt_row (And.intro @semAlloc_eq @allocK_some))))))))))))))))))))))))))))))))))))))))))))))))))
def ev3 := (And.intro @semIndexAddr_glo (And.intro @ixG_array (And.intro @ixH_some (And.intro @isC_cells (And.intro @true_or (And.intro @semBox_eq (And.intro @semLoad_own (And.intro @loadK_agg (And.intro @loadK_one (And.intro @semLoad_ext (And.intro @loadX_agg (And.intro @loadX_one (And.intro @xcells_zero (And.intro @xcells_succ (And.intro @xthere_zero (And.intro @xthere_succ (And.intro @semStore_own (And.intro @storeK_some (And.intro @semFieldAddr_own (And.intro @faK_some (And.intro @semFieldAddr_ext (And.intro @faX_some (And.intro @semField_agg (And.intro @semField_vagg (And.intro @fieldK_agg (And.intro @fieldK_one (And.intro @semExtract_tup (And.intro @semExtract_vtup (And.intro @semBin_shl (And.intro @semBin_shr (And.intro @semBin_int (And.intro @semBin_str (And.intro @semBin_bool (And.intro @valsL_nil (And.intro @valsL_cons (And.intro @semBin_eqS (And.intro @semBin_eqVV (And.intro @semBin_eqVA (And.intro @eqK_some (And.intro @semUn_not (And.intro @semUn_neg (And.intro @semLen_str (And.intro @semLen_slice (And.intro @semLen_hd (And.intro @lenH_row (And.intro @semIndexAddr_hd (And.intro @ixK_some (And.intro @semIndexAddr_ext (And.intro @ixX_slice (And.intro @ixY_some (And.intro @semIndex_str (And.intro @semSlice_s11 (And.intro @semSlice_s10 (And.intro @semSlice_s01 (And.intro @semNilCheck_ext @semMkI_v)))))))))))))))))))))))))))))))))))))))))))))))))))))))
end Go.LE
end
section
namespace Go.LE
open Go.RowKit
def argL : List Value → Nat → List (Nat × FV)
  | [], _ => []
  | x :: r, i => (i, .is (.v x)) :: argL r (i + 1)
theorem argL_nil (i : Nat) : argL [] i = [] := rfl
theorem argL_cons (x : Value) (r : List Value) (i : Nat) : argL (x :: r) i = (i, .is (.v x)) :: argL r (i + 1) := rfl
def σ0 (args : List Value) : St := ⟨0, frL (argL args 0), hpL []⟩
theorem argL_keys : ∀ (l : List Value) (i t : Nat), (frL (argL l i) t).keys = []
  | [], _, _ => rfl
  | x :: r, i, t => by
    simp only [argL, frL, upd]
    split
    · rfl
    · exact argL_keys r (i + 1) t
theorem argL_fits (E : Nat → Value) : ∀ (l : List Value) (i t : Nat) (tm : Nat → Value), (∀ j (h : j < l.length), tm (i + j) = l[j]) → fits E (frL (argL l i) t) (tm t)
  | [], _, _, _, _ => trivial
  | x :: r, i, t, tm, h => by
    simp only [argL, frL, upd]
    split
    · rename_i ht
      subst ht
      have := h 0 (by simp)
      simpa [fits, den] using this
    · exact argL_fits E r (i + 1) t tm fun j hj => by
        have := h (j + 1) (by simpa using hj)
        rw [show i + 1 + j = i + (j + 1) by omega]
        simpa using this
theorem sat_entry {w : World} {nt m : Nat} (args : Array Value) (hnt : args.size + m = nt) :
    Sat w [] nt ⟨[], []⟩ (σ0 args.toList) { tmps := args ++ Array.replicate m undef, defers := [] } w := by
  refine ⟨⟨fun _ => undef, fun _ => [], fun t => ?_, ⟨fun k e h => (by cases h), fun k e h => (by cases h), fun k e h => (by cases h), fun k k' e e' _ h => (by cases h), Keeps.refl w []⟩, fun p hp => (by cases hp)⟩, by simpa using hnt, rfl, fun p hp => (by cases hp), fun t k hk => ?_, fun k e h => (by cases h)⟩
  · refine argL_fits _ args.toList 0 t (fun t => (args ++ Array.replicate m undef).getD t undef) fun j hj => ?_
    have hj' : j < args.size := by simpa using hj
    rw [Nat.zero_add, Array.getD_eq_getD_getElem?, Array.getElem?_append_left hj', Array.getElem?_eq_getElem hj']
    rfl
  · simp only [σ0, argL_keys] at hk; cases hk
section
variable {P : Program} {f : FuncId} {fn : Func} {c : Code} {args : Array Value} {w : World} {nt : Nat}
theorem calls_pure {v : Value} (rs : List ResultVar) (hf : P.funcs[f]? = some fn) (hb : fn.body = some c) (hrs : fn.results.toList = rs) (hnt : args.size + (fn.ntmps - args.size) = nt)
    (h : Wp P w [] nt ⟨[], []⟩ c (Fin P rs (fun _ _ x _ => ∀ E, den E x = v) (fun _ _ => False)) (σ0 args.toList)) :
    Calls P f args w fun e w' => e = .returned v ∧ Keeps w [] w' := by
  subst hrs
  refine (calls_Wp hf hb (sat_entry args hnt) h).mono fun e w' he => ?_
  cases e with
  | returned u =>
    obtain ⟨W', bs', E, F, x, h, hx, hR, rfl, hs, _⟩ := he
    exact ⟨by rw [hR E], hx.keep hs.keeps⟩
  | panicked c => obtain ⟨_, _, _, _, _, _, hf, _⟩ := he; exact hf.elim
  | outgrown => exact he.elim
def RowR (T : TypeId) (s n : Nat) (vs : List Value) (x : SV) (h : Hp) : Prop := 0 < s ∧ ((∃ k, x = .hd k ∧ h k = some (.row T s n (vs.map .v))) ∨ (x = .v nilSl ∧ n = 0 ∧ vs = []))
theorem calls_maker {T : TypeId} {s n : Nat} {vs : List Value} (g : Value → Value) (rs : List ResultVar) (hf : P.funcs[f]? = some fn) (hb : fn.body = some c) (hrs : fn.results.toList = rs) (hnt : args.size + (fn.ntmps - args.size) = nt)
    (h : Wp P w [] nt ⟨[], []⟩ c (Fin P rs (fun _ _ x h => ∃ y, RowR T s n vs y h ∧ ∀ E, den E x = g (den E y)) (fun _ _ => False)) (σ0 args.toList)) :
    Calls P f args w fun e w' => ∃ u fp, e = .returned (g u) ∧ (∀ E', entSat E' u fp w' (.row T s n (vs.map .v))) ∧ (∀ b ∈ fp, w.heap.size ≤ b ∧ b < w'.heap.size) ∧ Keeps w [] w' := by
  subst hrs
  refine (calls_Wp hf hb (sat_entry args hnt) h).mono fun e w' he => ?_
  cases e with
  | returned u =>
    obtain ⟨W', bs', E, F, x, h, hx, ⟨y, ⟨hs0, hR⟩, hg⟩, rfl, hs, _⟩ := he
    rcases hR with ⟨k, rfl, hk⟩ | ⟨rfl, rfl, rfl⟩
    · have hent := hs.ent k _ hk
      refine ⟨E k, F k, by rw [hg E]; simp only [den]; rw [hv_of (entSat_one hent)], fun E' => ?_, fun b hb => ⟨?_, hs.lt k _ hk b hb⟩, hx.keep hs.keeps⟩
      · simpa [entSat, denL_map_v] using hent
      · exact ((hs.back hx).mine k _ hk b hb).resolve_right (by simp)
    · exact ⟨nilSl, [], by rw [hg E]; rfl, fun E' => ⟨⟨by simp [denL], .inl ⟨rfl, rfl⟩⟩, rfl⟩, fun b hb => (by cases hb), hx.keep hs.keeps⟩
  | panicked c => obtain ⟨_, _, _, _, _, _, hf, _⟩ := he; exact hf.elim
  | outgrown => exact he.elim
end
inductive AV where
  | val (v : Value)
  | row (T : TypeId) (s n : Nat) (vs : List Value)
  | mp (ks : List ByteArray) (vs : List Value)
def rowAV (k : Nat) : Option Ent → Option (AV × List Nat)
  | some (.row T s n us) => (valsL us).map fun vs => (.row T s n vs, [k])
  | some (.mp ks us) => (valsL us).map fun vs => (.mp ks vs, [k])
  | _ => none
def viewA (h : Hp) : SV → Option (AV × List Nat)
  | .v x => some (.val x, [])
  | .agg l => (valsL l).map fun vs => (.val (.agg vs.toArray), [])
  | .hd k => rowAV k (h k)
  | _ => none
def consV : Option (AV × List Nat) → Option (List AV × List Nat) → Option (List AV × List Nat)
  | some (a, r), some (as_, rs) => some (a :: as_, r ++ rs)
  | _, _ => none
def viewL (h : Hp) : List SV → Option (List AV × List Nat)
  | [] => some ([], [])
  | x :: r => consV (viewA h x) (viewL h r)
def mpBlock : Value → Option Nat
  | .map r => r
  | _ => none
def mpSat (w : World) (u : Value) (ks : List ByteArray) (vs : List Value) : Prop :=
  ∃ b es c, u = .map (some b) ∧ w.heap[b]? = some (.map es c) ∧ es.toList.map (·.key) = ks.map .string ∧ es.toList.map (·.val) = vs
theorem mpSat_ent {E : Nat → Value} {w : World} {u : Value} {ks : List ByteArray} {vs : List SV} {fp : List Nat} : entSat E u fp w (.mp ks vs) ↔ mpSat w u ks (denL E vs) ∧ fp = (mpBlock u).toList := by
  constructor
  · rintro ⟨b, es, c, rfl, rfl, h⟩
    exact ⟨⟨b, es, c, rfl, h⟩, rfl⟩
  · rintro ⟨⟨b, es, c, rfl, h⟩, rfl⟩
    exact ⟨b, es, c, rfl, rfl, h⟩
def avSat (w : World) (u : Value) : AV → Prop
  | .val v => u = v
  | .row T s n vs => w.ownsRow 0 T s u n vs
  | .mp ks vs => mpSat w u ks vs
def avsSat (w : World) : List Value → List AV → Prop
  | [], [] => True
  | u :: r, a :: s => avSat w u a ∧ avsSat w r s
  | _, _ => False
theorem valsL_den {E : Nat → Value} : ∀ {l : List SV} {vs : List Value}, valsL l = some vs → denL E l = vs
  | [], vs, h => by simp [valsL] at h; subst h; rfl
  | x :: r, vs, h => by
    cases x with
    | v x =>
      simp only [valsL, Option.map_eq_some_iff] at h
      obtain ⟨ws, h1, rfl⟩ := h
      simp [denL, den, valsL_den h1]
    | _ => simp [valsL] at h
section
variable {P : Program} {W : World} {bs : List Nat} {E : Nat → Value} {F : Nat → List Nat} {h : Hp} {w : World}
theorem viewA_sat (hs : HeapSat W bs E F h w) {x : SV} {a : AV} {r : List Nat} (hv : viewA h x = some (a, r)) : avSat w (den E x) a := by
  cases x with
  | v x => simp [viewA] at hv; obtain ⟨rfl, rfl⟩ := hv; rfl
  | agg l =>
    simp only [viewA, Option.map_eq_some_iff, Prod.mk.injEq] at hv
    obtain ⟨vs, h1, rfl, rfl⟩ := hv
    simp [avSat, den, valsL_den h1]
  | hd k =>
    simp only [viewA] at hv
    cases hk : h k with
    | none => rw [hk] at hv; simp [rowAV] at hv
    | some e =>
      cases e with
      | row T s n us =>
        rw [hk] at hv
        simp only [rowAV, Option.map_eq_some_iff, Prod.mk.injEq] at hv
        obtain ⟨vs, h1, rfl, rfl⟩ := hv
        have := hs.ent k _ hk
        simp only [avSat, den]
        rw [hv_of (entSat_one this), ← valsL_den (E := E) h1]
        exact this.1
      | mp ks us =>
        rw [hk] at hv
        simp only [rowAV, Option.map_eq_some_iff, Prod.mk.injEq] at hv
        obtain ⟨vs, h1, rfl, rfl⟩ := hv
        have := hs.ent k _ hk
        simp only [avSat, den]
        rw [hv_of (entSat_one this), ← valsL_den (E := E) h1]
        exact (mpSat_ent.1 this).1
      | cells T vs => rw [hk] at hv; simp [rowAV] at hv
      | obj d R => rw [hk] at hv; simp [rowAV] at hv
  | own k o => simp [viewA] at hv
  | tup l => simp [viewA] at hv
  | ifc t x => simp [viewA] at hv
  | part k i => simp [viewA] at hv
  | fn f a c => simp [viewA] at hv
theorem viewL_sat (hs : HeapSat W bs E F h w) : ∀ {l : List SV} {as_ : List AV} {r : List Nat}, viewL h l = some (as_, r) → avsSat w (denL E l) as_
  | [], as_, r, hv => by simp [viewL] at hv; obtain ⟨rfl, rfl⟩ := hv; trivial
  | x :: l, as_, r, hv => by
    simp only [viewL] at hv
    cases h1 : viewA h x with
    | none => rw [h1] at hv; simp [consV] at hv
    | some p =>
      cases h2 : viewL h l with
      | none => rw [h1, h2] at hv; simp [consV] at hv
      | some q =>
        obtain ⟨a, ra⟩ := p
        obtain ⟨as', rs⟩ := q
        rw [h1, h2] at hv
        simp only [consV, Option.some.injEq, Prod.mk.injEq] at hv
        obtain ⟨rfl, rfl⟩ := hv
        exact ⟨viewA_sat hs h1, viewL_sat hs h2⟩
theorem viewA_loc {h' : Hp} {x : SV} {a : AV} {r : List Nat} (hv : viewA h x = some (a, r)) (hr : ∀ k ∈ r, h' k = h k) : viewA h' x = some (a, r) := by
  cases x with
  | hd k =>
    simp only [viewA] at hv ⊢
    have : k ∈ r := by
      cases hk : h k with
      | none => rw [hk] at hv; simp [rowAV] at hv
      | some e =>
        cases e <;> rw [hk] at hv <;> simp [rowAV] at hv
        all_goals (obtain ⟨vs, h1, rfl, rfl⟩ := hv; simp)
    rw [hr k this]; exact hv
  | _ => exact hv
theorem viewL_loc {h' : Hp} : ∀ {l : List SV} {as_ : List AV} {r : List Nat}, viewL h l = some (as_, r) → (∀ k ∈ r, h' k = h k) → viewL h' l = some (as_, r)
  | [], _, _, hv, _ => hv
  | x :: l, as_, r, hv, hr => by
    simp only [viewL] at hv ⊢
    cases h1 : viewA h x with
    | none => rw [h1] at hv; simp [consV] at hv
    | some p =>
      cases h2 : viewL h l with
      | none => rw [h1, h2] at hv; simp [consV] at hv
      | some q =>
        obtain ⟨a, ra⟩ := p
        obtain ⟨as', rs⟩ := q
        rw [h1, h2] at hv
        simp only [consV, Option.some.injEq, Prod.mk.injEq] at hv
        obtain ⟨rfl, rfl⟩ := hv
        rw [viewA_loc h1 fun k hk => hr k (by simp [hk]), viewL_loc h2 fun k hk => hr k (by simp [hk])]
        rfl
end
structure PureC (P : Program) (f : FuncId) where
  pre : World → List Nat → List AV → Prop
  res : World → List AV → Value
  enters : ∀ args w, (callFunc f args).run P w = .ok (.enter f args) w
  ok : ∀ (W w : World) (bs : List Nat) (us : List Value) (as_ : List AV), Keeps W bs w → avsSat w us as_ → pre W bs as_ → Calls P f us.toArray w fun e w' => e = .returned (res W as_) ∧ Keeps w [] w'
def pureK (pre : World → List Nat → List AV → Prop) (res : World → List AV → Value) (W : World) (bs : List Nat) : Option (List AV × List Nat) → R
  | some (as_, rs) => ⟨pre W bs as_, .v (res W as_), [], none, [], rs⟩
  | none => .bad
def PureC.spec {P : Program} {f : FuncId} (p : PureC P f) : Spec P f where
  ev := fun W bs _ h args => pureK p.pre p.res W bs (viewL h args)
  good := fun W bs κ E F h w K args hs hK hk hx hside => by
    rw [p.enters]
    cases hv : viewL h args with
    | none => rw [hv] at hside; exact hside.elim
    | some q =>
      obtain ⟨as_, rs⟩ := q
      rw [hv] at hside
      exact good_pure hs (p.ok W w bs _ as_ hs.keeps (viewL_sat hs hv) hside) rfl rfl rfl
  keys := fun W bs κ h K args hK hx hside => by
    cases hv : viewL h args with
    | none => rw [hv] at hside; exact hside.elim
    | some q => exact KeysOk.plain (fun k hk => by cases hk) rfl
  loc := fun W bs κ h h' args hside hr => by
    cases hv : viewL h args with
    | none => rw [hv] at hside; exact hside.elim
    | some q =>
      obtain ⟨as_, rs⟩ := q
      rw [hv] at hr
      rw [viewL_loc hv hr]
structure MakeC (P : Program) (f : FuncId) where
  pre : World → List Nat → List AV → Prop
  T : TypeId
  s : Nat
  n : World → List AV → Nat
  vs : World → List AV → List Value
  tm : World → List AV → SV → SV
  g : World → List AV → Value → Value
  tmg : ∀ W as_ E x, den E (tm W as_ x) = g W as_ (den E x)
  tmk : ∀ W as_ x, ∀ k ∈ (tm W as_ x).keys, k ∈ x.keys
  enters : ∀ args w, (callFunc f args).run P w = .ok (.enter f args) w
  ok : ∀ (W w : World) (bs : List Nat) (us : List Value) (as_ : List AV), Keeps W bs w → avsSat w us as_ → pre W bs as_ → Calls P f us.toArray w fun e w' =>
    ∃ u fp, e = .returned (g W as_ u) ∧ (∀ E', entSat E' u fp w' (.row T s (n W as_) ((vs W as_).map .v))) ∧ (∀ b ∈ fp, w.heap.size ≤ b ∧ b < w'.heap.size) ∧ Keeps w [] w'
def makeK (κ : Nat) (T : TypeId) (s : Nat) (pre : World → List Nat → List AV → Prop) (n : World → List AV → Nat) (vs : World → List AV → List Value) (tm : World → List AV → SV → SV) (W : World) (bs : List Nat) : Option (List AV × List Nat) → R
  | some (as_, rs) => ⟨pre W bs as_, tm W as_ (.hd (8 * κ)), [(8 * κ, some (.row T s (n W as_) ((vs W as_).map .v)))], none, [], rs⟩
  | none => .bad
def MakeC.spec {P : Program} {f : FuncId} (p : MakeC P f) : Spec P f where
  ev := fun W bs κ h args => makeK κ p.T p.s p.pre p.n p.vs p.tm W bs (viewL h args)
  good := fun W bs κ E F h w K args hs hK hk hx hside => by
    rw [p.enters]
    cases hv : viewL h args with
    | none => rw [hv] at hside; exact hside.elim
    | some q =>
      obtain ⟨as_, rs⟩ := q
      rw [hv] at hside
      refine good_maker hs hK hk ((p.ok W w bs _ as_ hs.keeps (viewL_sat hs hv) hside).mono fun e w' he => ?_) rfl rfl
      obtain ⟨u, fp, rfl, hent, hfp, hkeep⟩ := he
      refine ⟨_, u, fp, rfl, hent, hfp, hkeep, ?_⟩
      simp only [makeK, p.tmg, den, nk, upd_same]
      rw [hv_of (entSat_one (hent E))]
  keys := fun W bs κ h K args hK hx hside => by
    cases hv : viewL h args with
    | none => rw [hv] at hside; exact hside.elim
    | some q =>
      obtain ⟨as_, rs⟩ := q
      refine ⟨fun k hk => .inr ?_, fun q hq => ?_⟩
      · have := p.tmk _ _ _ k hk
        simp [SV.keys] at this
        subst this
        exact nk_div0 κ
      · simp only [makeK, List.mem_singleton] at hq
        subst hq
        refine ⟨.inr (nk_div0 κ), fun e he k hk => ?_⟩
        simp only [Option.some.injEq] at he
        subst he
        simp only [Ent.keys, keysL_map_v] at hk
        cases hk
  loc := fun W bs κ h h' args hside hr => by
    cases hv : viewL h args with
    | none => rw [hv] at hside; exact hside.elim
    | some q =>
      obtain ⟨as_, rs⟩ := q
      rw [hv] at hr
      rw [viewL_loc hv hr]
theorem viewL_nil (h : Hp) : viewL h [] = some ([], []) := rfl
theorem viewL_cons (h : Hp) (x : SV) (r : List SV) : viewL h (x :: r) = consV (viewA h x) (viewL h r) := rfl
theorem viewA_v (h : Hp) (x : Value) : viewA h (.v x) = some (.val x, []) := rfl
theorem viewA_agg (h : Hp) (l : List SV) : viewA h (.agg l) = (valsL l).map fun vs => (.val (.agg vs.toArray), []) := rfl
theorem viewA_hd (h : Hp) (k : Nat) : viewA h (.hd k) = rowAV k (h k) := rfl
theorem rowAV_row (k : Nat) (T : TypeId) (s n : Nat) (us : List SV) : rowAV k (some (.row T s n us)) = (valsL us).map fun vs => (.row T s n vs, [k]) := rfl
theorem consV_some (a : AV) (r : List Nat) (as_ : List AV) (rs : List Nat) : consV (some (a, r)) (some (as_, rs)) = some (a :: as_, r ++ rs) := rfl
theorem valsL_map (l : List Value) : valsL (l.map .v) = some l := by
  induction l with
  | nil => rfl
  | cons x r ih => simp [valsL, ih]
theorem pureK_some (pre : World → List Nat → List AV → Prop) (res : World → List AV → Value) (W : World) (bs : List Nat) (as_ : List AV) (rs : List Nat) : pureK pre res W bs (some (as_, rs)) = ⟨pre W bs as_, .v (res W as_), [], none, [], rs⟩ := rfl
theorem makeK_some (κ : Nat) (T : TypeId) (s : Nat) (pre : World → List Nat → List AV → Prop) (n : World → List AV → Nat) (vs : World → List AV → List Value) (tm : World → List AV → SV → SV) (W : World) (bs : List Nat) (as_ : List AV) (rs : List Nat) :
    makeK κ T s pre n vs tm W bs (some (as_, rs)) = ⟨pre W bs as_, tm W as_ (.hd (8 * κ)), [(8 * κ, some (.row T s (n W as_) ((vs W as_).map .v)))], none, [], rs⟩ := rfl
end Go.LE
end
section
namespace Go.LE
open Go.RowKit
section
variable {P : Program} {W : World} {bs : List Nat} {κ : Nat} {h : Hp}
def fillF (fl : List (Nat × Nat)) (cells : List SV) (l : List (Nat × SV)) : Option (List SV) := fillSV (fun i => fl[i]?) cells l
def fillG (fl : List (Nat × Nat)) (cells : List SV) (r : List (Nat × SV)) (x : SV) : Option (Nat × Nat) → Option (List SV)
  | some (off, size) => if (partsOf x).length = size ∧ off + size ≤ cells.length then fillF fl (setRange cells off (partsOf x)) r else none
  | none => none
theorem fillF_nil (fl : List (Nat × Nat)) (cells : List SV) : fillF fl cells [] = some cells := rfl
theorem fillF_cons (fl : List (Nat × Nat)) (cells : List SV) (i : Nat) (x : SV) (r : List (Nat × SV)) : fillF fl cells ((i, x) :: r) = fillG fl cells r x (fl[i]?) := by
  simp only [fillF, fillSV, fillG]
  cases fl[i]? <;> rfl
theorem fillG_some (fl : List (Nat × Nat)) (cells : List SV) (r : List (Nat × SV)) (x : SV) (off size : Nat) :
    fillG fl cells r x (some (off, size)) = if (partsOf x).length = size ∧ off + size ≤ cells.length then fillF fl (setRange cells off (partsOf x)) r else none := rfl
def aggK : Option (List SV) → R
  | some cells => ⟨True, .agg cells, [], none, [], []⟩
  | none => .bad
theorem aggK_some (l : List SV) : aggK (some l) = ⟨True, .agg l, [], none, [], []⟩ := rfl
def buildF (idx : List Nat) (args : List SV) : Option (List Value) → Option (List (Nat × Nat)) → R
  | some zs, some fl => aggK (fillF fl (zs.map .v) (idx.zip args))
  | _, _ => .bad
theorem buildF_some (idx : List Nat) (args : List SV) (zs : List Value) (fl : List (Nat × Nat)) : buildF idx args (some zs) (some fl) = aggK (fillF fl (zs.map .v) (idx.zip args)) := rfl
theorem semBuild_eq (T : TypeId) (idx : List Nat) (args : List SV) (hs : (tfs P T).isSome = true) : semBuild P T idx args = buildF idx args (tz P T) (tfs P T) := by
  have hu : ∃ fs, P.underlying T = some (.struct fs) := by
    unfold tfs at hs
    split at hs
    · rename_i fs hfs; exact ⟨fs, hfs⟩
    · cases hs
  obtain ⟨fs, hu⟩ := hu
  obtain ⟨fl, hfl⟩ := Option.isSome_iff_exists.1 hs
  unfold semBuild buildF
  rw [hu, hfl]
  cases tz P T with
  | none => rfl
  | some zs =>
    simp only [fillF, aggK]
    cases fillSV (fun i => fl[i]?) (zs.map .v) (idx.zip args) <;> rfl
def fillS (sz : Nat) (cells : List SV) (l : List (Nat × SV)) : Option (List SV) := fillSV (fun i => some (i * sz, sz)) cells l
theorem fillS_nil (sz : Nat) (cells : List SV) : fillS sz cells [] = some cells := rfl
theorem fillS_cons (sz : Nat) (cells : List SV) (i : Nat) (x : SV) (r : List (Nat × SV)) :
    fillS sz cells ((i, x) :: r) = if (partsOf x).length = sz ∧ i * sz + sz ≤ cells.length then fillS sz (setRange cells (i * sz) (partsOf x)) r else none := rfl
def rowK (κ : Nat) (e : TypeId) (sz len : Nat) (p : Prop) : Option (List SV) → R
  | some cells => ⟨p, .hd (8 * κ), [(8 * κ, some (.row e sz len cells))], none, [], []⟩
  | none => .bad
theorem rowK_some (e : TypeId) (sz len : Nat) (p : Prop) (l : List SV) : rowK κ e sz len p (some l) = ⟨p, .hd (8 * κ), [(8 * κ, some (.row e sz len l))], none, [], []⟩ := rfl
def bsK (κ : Nat) (e : TypeId) (len : Nat) (idx : List Nat) (args : List SV) : Option Nat → Option (List Value) → R
  | some sz, some zs => rowK κ e sz len (len * sz ≤ 16777216 ∧ zs.length = sz ∧ 0 < sz) (fillS sz ((List.replicate len zs).flatten.map .v) (idx.zip args))
  | _, _ => .bad
theorem bsK_some (e : TypeId) (len : Nat) (idx : List Nat) (args : List SV) (sz : Nat) (zs : List Value) :
    bsK κ e len idx args (some sz) (some zs) = rowK κ e sz len (len * sz ≤ 16777216 ∧ zs.length = sz ∧ 0 < sz) (fillS sz ((List.replicate len zs).flatten.map .v) (idx.zip args)) := rfl
def bsU (P : Program) (κ : Nat) (len : Nat) (idx : List Nat) (args : List SV) : Option TypeDesc → R
  | some (.slice e) => bsK κ e len idx args (ts P e) (tz P e)
  | _ => .bad
theorem bsU_slice (len : Nat) (idx : List Nat) (args : List SV) (e : TypeId) : bsU P κ len idx args (some (.slice e)) = bsK κ e len idx args (ts P e) (tz P e) := rfl
theorem semBuildSlice_eq (T : TypeId) (len : Nat) (idx : List Nat) (args : List SV) : semBuildSlice P κ T len idx args = bsU P κ len idx args (P.underlying T) := by
  unfold semBuildSlice bsU
  rcases P.underlying T with _ | d
  · rfl
  · cases d with
    | slice e =>
      simp only [bsK]
      rcases ts P e with _ | sz <;> rcases tz P e with _ | zs
      · rfl
      · rfl
      · rfl
      · simp only [rowK, fillS]
        cases fillSV (fun i => some (i * sz, sz)) ((List.replicate len zs).flatten.map .v) (idx.zip args) <;> rfl
    | _ => rfl
def appK (P : Program) (κ k j : Nat) (tys : List TypeId) : Option Ent → Option Ent → R
  | some (.row e sz n vs), some (.row _ sz' m us) => match tys, tby P e, tz P e with
    | [T, T'], some by_, some zs => ⟨T' = T ∧ P.underlying T = some (.slice e) ∧ ts P e = some sz ∧ zs.length = sz ∧ 0 < sz ∧ sz' = sz ∧ k ≠ j ∧ 0 < m ∧ n + m ≤ maxLen ∧ (n + m) * by_ ≤ 140737488355328 ∧ us.all oneSV = true, .hd (8 * κ), [(k, none), (8 * κ, some (.row e sz (n + m) (vs ++ us)))], none, [], [k, j]⟩
    | _, _, _ => .bad
  | _, _ => .bad
theorem semApp_own (tys : List TypeId) (k j : Nat) : semApp P W bs κ h tys [.hd k, .hd j] = appK P κ k j tys (h k) (h j) := by
  simp only [semApp]
  unfold appK
  rcases h k with _ | e <;> rcases h j with _ | e'
  · rcases tys with _ | ⟨a, _ | ⟨b, _ | _⟩⟩ <;> rfl
  · rcases tys with _ | ⟨a, _ | ⟨b, _ | _⟩⟩ <;> rfl
  · rcases tys with _ | ⟨a, _ | ⟨b, _ | _⟩⟩ <;> cases e <;> rfl
  · rcases tys with _ | ⟨a, _ | ⟨b, _ | _⟩⟩ <;> cases e <;> cases e' <;> try rfl
    rename_i T s n vs T' s' n' vs'
    simp only []
    rcases tby P T with _ | x <;> rcases tz P T with _ | y <;> rfl
def appJ (P : Program) (κ k j : Nat) (T T' e sz n sz' m : Nat) (vs us : List SV) : Option Nat → Option (List Value) → R
  | some by_, some zs => ⟨T' = T ∧ P.underlying T = some (.slice e) ∧ ts P e = some sz ∧ zs.length = sz ∧ 0 < sz ∧ sz' = sz ∧ k ≠ j ∧ 0 < m ∧ n + m ≤ maxLen ∧ (n + m) * by_ ≤ 140737488355328 ∧ us.all oneSV = true, .hd (8 * κ), [(k, none), (8 * κ, some (.row e sz (n + m) (vs ++ us)))], none, [], [k, j]⟩
  | _, _ => .bad
theorem appK_row (k j : Nat) (T T' e e' : TypeId) (sz n sz' m : Nat) (vs us : List SV) :
    appK P κ k j [T, T'] (some (.row e sz n vs)) (some (.row e' sz' m us)) = appJ P κ k j T T' e sz n sz' m vs us (tby P e) (tz P e) := by
  simp only [appK, appJ]
  rcases tby P e with _ | x <;> rcases tz P e with _ | y <;> rfl
theorem appJ_some (k j : Nat) (T T' e sz n sz' m : Nat) (vs us : List SV) (by_ : Nat) (zs : List Value) :
    appJ P κ k j T T' e sz n sz' m vs us (some by_) (some zs) = ⟨T' = T ∧ P.underlying T = some (.slice e) ∧ ts P e = some sz ∧ zs.length = sz ∧ 0 < sz ∧ sz' = sz ∧ k ≠ j ∧ 0 < m ∧ n + m ≤ maxLen ∧ (n + m) * by_ ≤ 140737488355328 ∧ us.all oneSV = true, .hd (8 * κ), [(k, none), (8 * κ, some (.row e sz (n + m) (vs ++ us)))], none, [], [k, j]⟩ := rfl
def appN (P : Program) (κ j : Nat) (T T' : TypeId) : Option TypeDesc → Option Ent → R
  | some (.slice e), some (.row _ sz m us) => match tby P e, tz P e with
    | some by_, some zs => ⟨T' = T ∧ ts P e = some sz ∧ zs.length = sz ∧ 0 < sz ∧ 0 < m ∧ m ≤ maxLen ∧ m * by_ ≤ 140737488355328 ∧ us.all oneSV = true, .hd (8 * κ), [(8 * κ, some (.row e sz m us))], none, [], [j]⟩
    | _, _ => .bad
  | _, _ => .bad
def appY (κ k : Nat) (T T' e : TypeId) (sz n m : Nat) (vs us : List SV) (P : Program) (q : Prop) : Option Nat → Option (List Value) → R
  | some by_, some zs => ⟨T' = T ∧ P.underlying T = some (.slice e) ∧ ts P e = some sz ∧ zs.length = sz ∧ q ∧ n + m ≤ maxLen ∧ (n + m) * by_ ≤ 140737488355328 ∧ us.all oneSV = true, .hd (8 * κ), [(k, none), (8 * κ, some (.row e sz (n + m) (vs ++ us)))], none, [], [k]⟩
  | _, _ => .bad
def appX (P : Program) (W : World) (bs : List Nat) (κ k : Nat) (ao : Option Addr) (m : Nat) (T T' : TypeId) : Bool → Option Ent → R
  | true, some (.row e sz n vs) => ⟨T' = T ∧ P.underlying T = some (.slice e) ∧ ts P e = some sz ∧ m = 0, .hd k, [], none, [], [k]⟩
  | false, some (.row e sz n vs) => (match ao with
    | some ⟨b, o, none⟩ => appY κ k T T' e sz n m vs (xcells W b o (m * sz)) P (b ∉ bs ∧ xthere W b o (m * sz)) (tby P e) (tz P e)
    | _ => .bad)
  | _, _ => .bad
theorem semApp_ext (T T' : TypeId) (k m c : Nat) (ao : Option Addr) : semApp P W bs κ h [T, T'] [.hd k, .v (.slice ao m c)] = appX P W bs κ k ao m T T' (m == 0) (h k) := by
  simp only [semApp]
  unfold appX
  rcases h k with _ | e
  · cases (m == 0) <;> rfl
  · cases e with
    | row e sz n vs =>
      cases (m == 0) with
      | true => rfl
      | false =>
        simp only [cond_false]
        rcases ao with _ | ⟨b, o, _ | s⟩
        · rfl
        · simp only [appY]
          rcases tby P e with _ | x <;> rcases tz P e with _ | y <;> rfl
        · rfl
    | _ => cases (m == 0) <;> rfl
theorem appX_zero (k m : Nat) (ao : Option Addr) (T T' e : TypeId) (sz n : Nat) (vs : List SV) : appX P W bs κ k ao m T T' true (some (.row e sz n vs)) = ⟨T' = T ∧ P.underlying T = some (.slice e) ∧ ts P e = some sz ∧ m = 0, .hd k, [], none, [], [k]⟩ := rfl
theorem appX_pos (k m b o : Nat) (T T' e : TypeId) (sz n : Nat) (vs : List SV) : appX P W bs κ k (some ⟨b, o, none⟩) m T T' false (some (.row e sz n vs)) = appY κ k T T' e sz n m vs (xcells W b o (m * sz)) P (b ∉ bs ∧ xthere W b o (m * sz)) (tby P e) (tz P e) := rfl
theorem appY_some (k : Nat) (T T' e : TypeId) (sz n m : Nat) (vs us : List SV) (q : Prop) (by_ : Nat) (zs : List Value) : appY κ k T T' e sz n m vs us P q (some by_) (some zs) = ⟨T' = T ∧ P.underlying T = some (.slice e) ∧ ts P e = some sz ∧ zs.length = sz ∧ q ∧ n + m ≤ maxLen ∧ (n + m) * by_ ≤ 140737488355328 ∧ us.all oneSV = true, .hd (8 * κ), [(k, none), (8 * κ, some (.row e sz (n + m) (vs ++ us)))], none, [], [k]⟩ := rfl
def appS (P : Program) (κ k : Nat) (s : ByteArray) (T T' : TypeId) : Option Ent → R
  | some (.row e sz n vs) => (match tby P e, tz P e with
    | some by_, some zs => ⟨P.underlying T' = some .string ∧ P.underlying T = some (.slice e) ∧ ts P e = some sz ∧ zs.length = sz ∧ sz = 1 ∧ n + s.size ≤ maxLen ∧ (n + s.size) * by_ ≤ 140737488355328, .hd (8 * κ), [(k, none), (8 * κ, some (.row e sz (n + s.size) (vs ++ (byteCells s).map .v)))], none, [], [k]⟩
    | _, _ => .bad)
  | _ => .bad
theorem semApp_strg (T T' : TypeId) (k : Nat) (s : ByteArray) : semApp P W bs κ h [T, T'] [.hd k, .v (.string s)] = appS P κ k s T T' (h k) := by
  simp only [semApp]
  unfold appS
  rcases h k with _ | e
  · rfl
  · cases e with
    | _ => rfl
def appR (κ k : Nat) (s : ByteArray) (P : Program) (T T' e : TypeId) (sz n : Nat) (vs : List SV) : Option Nat → Option (List Value) → R
  | some by_, some zs => ⟨P.underlying T' = some .string ∧ P.underlying T = some (.slice e) ∧ ts P e = some sz ∧ zs.length = sz ∧ sz = 1 ∧ n + s.size ≤ maxLen ∧ (n + s.size) * by_ ≤ 140737488355328, .hd (8 * κ), [(k, none), (8 * κ, some (.row e sz (n + s.size) (vs ++ (byteCells s).map .v)))], none, [], [k]⟩
  | _, _ => .bad
theorem appS_row (k : Nat) (s : ByteArray) (T T' e : TypeId) (sz n : Nat) (vs : List SV) : appS P κ k s T T' (some (.row e sz n vs)) = appR κ k s P T T' e sz n vs (tby P e) (tz P e) := by
  simp only [appS, appR]
theorem appR_some (k : Nat) (s : ByteArray) (T T' e : TypeId) (sz n : Nat) (vs : List SV) (by_ : Nat) (zs : List Value) : appR κ k s P T T' e sz n vs (some by_) (some zs) = ⟨P.underlying T' = some .string ∧ P.underlying T = some (.slice e) ∧ ts P e = some sz ∧ zs.length = sz ∧ sz = 1 ∧ n + s.size ≤ maxLen ∧ (n + s.size) * by_ ≤ 140737488355328, .hd (8 * κ), [(k, none), (8 * κ, some (.row e sz (n + s.size) (vs ++ (byteCells s).map .v)))], none, [], [k]⟩ := rfl
theorem semApp_nil (T T' : TypeId) (j : Nat) : semApp P W bs κ h [T, T'] [.v (.slice none 0 0), .hd j] = appN P κ j T T' (P.underlying T) (h j) := by
  simp only [semApp]
  unfold appN
  rcases h j with _ | e'
  · rcases P.underlying T with _ | d
    · rfl
    · cases d <;> rfl
  · cases e' with
    | row e sz m us =>
      simp only []
      rcases P.underlying T with _ | d
      · rfl
      · cases d with
        | slice a =>
          simp only []
          rcases tby P a with _ | x <;> rcases tz P a with _ | y <;> rfl
        | _ => rfl
    | cells T2 vs =>
      rcases P.underlying T with _ | d
      · rfl
      · cases d <;> rfl
    | mp ks us =>
      rcases P.underlying T with _ | d
      · rfl
      · cases d <;> rfl
    | obj d R =>
      rcases P.underlying T with _ | d
      · rfl
      · cases d <;> rfl
def appM (P : Program) (κ j : Nat) (T T' e sz m : Nat) (us : List SV) : Option Nat → Option (List Value) → R
  | some by_, some zs => ⟨T' = T ∧ ts P e = some sz ∧ zs.length = sz ∧ 0 < sz ∧ 0 < m ∧ m ≤ maxLen ∧ m * by_ ≤ 140737488355328 ∧ us.all oneSV = true, .hd (8 * κ), [(8 * κ, some (.row e sz m us))], none, [], [j]⟩
  | _, _ => .bad
theorem appN_row (j : Nat) (T T' e e' : TypeId) (sz m : Nat) (us : List SV) :
    appN P κ j T T' (some (.slice e)) (some (.row e' sz m us)) = appM P κ j T T' e sz m us (tby P e) (tz P e) := by
  simp only [appN, appM]
theorem appM_some (j : Nat) (T T' e sz m : Nat) (us : List SV) (by_ : Nat) (zs : List Value) :
    appM P κ j T T' e sz m us (some by_) (some zs) = ⟨T' = T ∧ ts P e = some sz ∧ zs.length = sz ∧ 0 < sz ∧ 0 < m ∧ m ≤ maxLen ∧ m * by_ ≤ 140737488355328 ∧ us.all oneSV = true, .hd (8 * κ), [(8 * κ, some (.row e sz m us))], none, [], [j]⟩ := rfl
end
theorem wrap64_id {n : Int} (h1 : -9223372036854775808 ≤ n) (h2 : n ≤ 9223372036854775807) : IntKind.i64.wrap n = n := by
  simp only [IntKind.wrap, IntKind.bits, IntKind.signed, Bool.true_and, decide_eq_true_eq, show (2 : Int) ^ (64 - 1) = 9223372036854775808 from rfl, show (2 : Int) ^ 64 = 18446744073709551616 from rfl]
  split <;> omega
theorem xcells1 (W : World) (b o : Nat) : xcells W b o 1 = [.v ((W.cell? ⟨b, o, none⟩).getD undef)] := rfl
theorem xcells2 (W : World) (b o : Nat) : xcells W b o 2 = [.v ((W.cell? ⟨b, o, none⟩).getD undef), .v ((W.cell? ⟨b, o + 1, none⟩).getD undef)] := rfl
theorem xcells3 (W : World) (b o : Nat) : xcells W b o 3 = [.v ((W.cell? ⟨b, o, none⟩).getD undef), .v ((W.cell? ⟨b, o + 1, none⟩).getD undef), .v ((W.cell? ⟨b, o + 2, none⟩).getD undef)] := rfl
theorem xcells4 (W : World) (b o : Nat) : xcells W b o 4 = [.v ((W.cell? ⟨b, o, none⟩).getD undef), .v ((W.cell? ⟨b, o + 1, none⟩).getD undef), .v ((W.cell? ⟨b, o + 2, none⟩).getD undef), .v ((W.cell? ⟨b, o + 3, none⟩).getD undef)] := rfl
theorem xthere1 (W : World) (b o : Nat) : xthere W b o 1 = ((W.cell? ⟨b, o, none⟩).isSome = true) := by simp [xthere]
theorem xthere2 (W : World) (b o : Nat) : xthere W b o 2 = ((W.cell? ⟨b, o, none⟩).isSome = true ∧ (W.cell? ⟨b, o + 1, none⟩).isSome = true) := by simp [xthere]
theorem xthere3 (W : World) (b o : Nat) : xthere W b o 3 = ((W.cell? ⟨b, o, none⟩).isSome = true ∧ (W.cell? ⟨b, o + 1, none⟩).isSome = true ∧ (W.cell? ⟨b, o + 2, none⟩).isSome = true) := by simp [xthere]
theorem xthere4 (W : World) (b o : Nat) : xthere W b o 4 = ((W.cell? ⟨b, o, none⟩).isSome = true ∧ (W.cell? ⟨b, o + 1, none⟩).isSome = true ∧ (W.cell? ⟨b, o + 2, none⟩).isSome = true ∧ (W.cell? ⟨b, o + 3, none⟩).isSome = true) := by simp [xthere]
theorem sliceEq (e e' : TypeId) : ((some (TypeDesc.slice e) : Option TypeDesc) = some (.slice e')) = (e = e') := by simp
theorem sliceIs (e : TypeId) : (∃ e', (some (TypeDesc.slice e) : Option TypeDesc) = some (.slice e')) = True := by simp
theorem semExtract_agg (i : Nat) (vs : Array Value) : semExtract i [.v (.tuple vs)] = ⟨i < vs.size, .v (vs.getD i undef), [], none, [], []⟩ := rfl
theorem callOps_b (b : Builtin) (as_ : Array Operand) (tys : Array TypeId) : Call.operands { callee := .builtin b, args := as_, argTypes := tys } = as_ := by simp [Call.operands]
theorem callOps_v (f : Operand) (as_ : Array Operand) (tys : Array TypeId) : (Call.operands { callee := .value f, args := as_, argTypes := tys }).toList = f :: as_.toList := by simp [Call.operands]
theorem callOps_i (f : Operand) (n : String) (as_ : Array Operand) (tys : Array TypeId) : (Call.operands { callee := .invoke f n, args := as_, argTypes := tys }).toList = f :: as_.toList := by simp [Call.operands]
def semFK {P : Program} {f : FuncId} (W : World) (bs : List Nat) (κ : Nat) (h : Hp) (l : List SV) : Option (Spec P f) → R
  | some s => s.ev W bs κ h l
  | none => .bad
theorem semF_K {P : Program} {W : World} {bs : List Nat} {κ : Nat} {h : Hp} (Γ : Env P) (f : FuncId) (l : List SV) : semF Γ W bs κ h f l = semFK W bs κ h l (Γ.sp f) := by
  simp only [semF, semFK]
  cases Γ.sp f <;> rfl
theorem semFK_some {P : Program} {f : FuncId} (W : World) (bs : List Nat) (κ : Nat) (h : Hp) (l : List SV) (s : Spec P f) : semFK W bs κ h l (some s) = s.ev W bs κ h l := rfl
theorem pureC_ev {P : Program} {f : FuncId} (p : PureC P f) (W : World) (bs : List Nat) (κ : Nat) (h : Hp) (l : List SV) : p.spec.ev W bs κ h l = pureK p.pre p.res W bs (viewL h l) := rfl
theorem makeC_ev {P : Program} {f : FuncId} (p : MakeC P f) (W : World) (bs : List Nat) (κ : Nat) (h : Hp) (l : List SV) : p.spec.ev W bs κ h l = makeK κ p.T p.s p.pre p.n p.vs p.tm W bs (viewL h l) := rfl
theorem resL_nil {P : Program} {W : World} {bs : List Nat} {σ : St} : resL P W bs σ [] = (True, []) := rfl
theorem resL_cons {P : Program} {W : World} {bs : List Nat} {σ : St} (r : ResultVar) (l : List ResultVar) : resL P W bs σ (r :: l) = evC (resOne P W bs σ r) (resL P W bs σ l) := rfl
def resS : FV → Prop × SV
  | .is x => (True, x)
  | .cnd b x => (b = true, x)
  | .any => (False, .v undef)
theorem resOne_tmp {P : Program} {W : World} {bs : List Nat} {σ : St} (t : Nat) : resOne P W bs σ (.tmp t) = resS (σ.φ t) := by
  simp only [resOne, resS]
  all_goals cases σ.φ t <;> rfl
theorem resS_is (x : SV) : resS (.is x) = (True, x) := rfl
def resC (P : Program) (W : World) (bs : List Nat) (h : Hp) (T : TypeId) : FV → Prop × SV
  | .is (.own k o) => resR (semLoad P W bs h T [.own k o])
  | _ => (False, .v undef)
where resR (r : R) : Prop × SV := (r.side, r.val)
theorem resOne_cell {P : Program} {W : World} {bs : List Nat} {σ : St} (t : Nat) (T : TypeId) : resOne P W bs σ (.cell t T) = resC P W bs σ.h T (σ.φ t) := by
  simp only [resOne, resC]
  rcases σ.φ t with x | ⟨b, x⟩ | _
  · cases x <;> rfl
  · rfl
  · rfl
theorem resC_own {P : Program} {W : World} {bs : List Nat} {h : Hp} (T : TypeId) (k o : Nat) : resC P W bs h T (.is (.own k o)) = resC.resR (semLoad P W bs h T [.own k o]) := rfl
theorem resR_mk (side : Prop) (val : SV) (u : List (Nat × Option Ent)) (pan : Option (List PanicEntry)) (pupd reads : List Nat) : resC.resR ⟨side, val, u, pan, pupd, reads⟩ = (side, val) := rfl
theorem tupOf_one (x : SV) : tupOf [x] = x := rfl
theorem tupOf_two (x y : SV) (l : List SV) : tupOf (x :: y :: l) = .tup (x :: y :: l) := rfl
def finK (R : World → List Nat → SV → Hp → Prop) (W : World) (bs : List Nat) (h : Hp) (x : Prop × List SV) : Prop := x.1 ∧ R W bs (tupOf x.2) h
theorem Fin_ret {P : Program} {W : World} {bs : List Nat} {rs : List ResultVar} {R : World → List Nat → SV → Hp → Prop} {RP : List PanicEntry → Hp → Prop} {σ : St} : Fin P rs R RP .ret W bs σ = finK R W bs σ.h (resL P W bs σ rs) := rfl
theorem Fin_normal {P : Program} {W : World} {bs : List Nat} {rs : List ResultVar} {R : World → List Nat → SV → Hp → Prop} {RP : List PanicEntry → Hp → Prop} {σ : St} : Fin P rs R RP .normal W bs σ = finK R W bs σ.h (resL P W bs σ rs) := rfl
theorem finK_mk (R : World → List Nat → SV → Hp → Prop) (W : World) (bs : List Nat) (h : Hp) (p : Prop) (l : List SV) : finK R W bs h (p, l) = (p ∧ R W bs (tupOf l) h) := rfl
end Go.LE
end
section
namespace Go.LE
def ev4 := (And.intro @viewL_nil (And.intro @viewL_cons (And.intro @viewA_v (And.intro @viewA_agg (And.intro @viewA_hd (And.intro @rowAV_row (And.intro @consV_some (And.intro @valsL_map (And.intro @pureK_some (And.intro @makeK_some (And.intro @argL_nil @argL_cons)))))))))))
def ev5 := (And.intro @semApp_ext (And.intro @appX_zero (And.intro @appX_pos (And.intro @appY_some (And.intro @semApp_strg (And.intro @appS_row (And.intro @appR_some (And.intro @fillF_nil (And.intro @fillF_cons (And.intro @fillG_some (And.intro @aggK_some (And.intro @buildF_some (And.intro @fillS_nil (And.intro @fillS_cons (And.intro @rowK_some (And.intro @bsK_some (And.intro @bsU_slice (And.intro @fillF_nil (And.intro @semApp_own (And.intro @appK_row (And.intro @appJ_some (And.intro @semApp_nil (And.intro @appN_row (And.intro @appM_some (And.intro @xcells1 (And.intro @xcells2 (And.intro @xcells3 (And.intro @xcells4 (And.intro @xthere1 (And.intro @xthere2 (And.intro @xthere3 (And.intro @xthere4 (And.intro @sliceEq (And.intro @sliceIs (And.intro @semExtract_agg (And.intro @callOps_b (And.intro @callOps_v (And.intro @callOps_i (And.intro @semF_K (And.intro @semFK_some (And.intro @pureC_ev (And.intro @makeC_ev (And.intro @resL_nil (And.intro @resL_cons (And.intro @resOne_tmp (And.intro @resS_is (And.intro @resOne_cell (And.intro @resC_own (And.intro @resR_mk (And.intro @tupOf_one (And.intro @tupOf_two (And.intro @Fin_ret (And.intro @Fin_normal @finK_mk)))))))))))))))))))))))))))))))))))))))))))))))))))))
def ev0 := (And.intro @if_true (And.intro @if_false (And.intro @List.toList_toArray (And.intro @Option.isNone_none (And.intro @Option.isNone_some (And.intro @Option.isSome_none (And.intro @Option.isSome_some (And.intro @and_true (And.intro @true_and (And.intro @and_self (And.intro @true_imp_iff (And.intro @forall_const (And.intro @List.append_nil (And.intro @List.nil_append (And.intro @List.cons_append (And.intro @cond_true (And.intro @cond_false (And.intro @List.map_cons (And.intro @List.map_nil (And.intro @Bool.true_and (And.intro @Bool.and_true (And.intro @beq_false (And.intro @beq_true (And.intro @imp_self (And.intro @implies_true (And.intro @Bool.cond_self (And.intro @Option.bind_some (And.intro @List.getElem?_toArray (And.intro @List.getElem?_cons_zero (And.intro @List.getElem?_cons_succ (And.intro @List.length_cons (And.intro @List.length_nil (And.intro @List.getD_cons_zero (And.intro @List.getD_cons_succ (And.intro @List.take_succ_cons (And.intro @List.take_zero (And.intro @List.drop_succ_cons (And.intro @List.drop_zero (And.intro @List.zip_cons_cons (And.intro @List.zip_nil_right (And.intro @Option.getD_some (And.intro @List.all_cons (And.intro @List.all_nil (And.intro @Bool.cond_true_left (And.intro @Bool.cond_false_right (And.intro @Bool.cond_true_right @Bool.cond_false_left))))))))))))))))))))))))))))))))))))))))))))))
end Go.LE
end
section
namespace Go.Proofs.YtohmdnnagmjnkaaGreatDoor
open Go.RowKit Go.LE
theorem hmix : Tryz.prog.follows .mixedOrders = true := by kernel_rfl
theorem ty0 : ts Tryz.prog 0 = some 1 := by kernel_rfl
theorem ty1 : ta Tryz.prog 0 = some false := by kernel_rfl
theorem ty2 : ts Tryz.prog 3 = some 1 := by kernel_rfl
theorem ty3 : ta Tryz.prog 3 = some false := by kernel_rfl
theorem ty4 : tz Tryz.prog 3 = some [Value.int IntKind.i64 0] := by kernel_rfl
theorem ty5 : Program.underlying Tryz.prog 3 = some (.int IntKind.i64) := by kernel_rfl
theorem ty6 : ts Tryz.prog 4 = some 1 := by kernel_rfl
theorem ty7 : ta Tryz.prog 4 = some false := by kernel_rfl
theorem ty8 : tz Tryz.prog 4 = some [Value.bool false] := by kernel_rfl
theorem ty9 : Program.underlying Tryz.prog 4 = some .bool := by kernel_rfl
theorem ty10 : ts Tryz.prog 5 = some 1 := by kernel_rfl
theorem ty11 : ta Tryz.prog 5 = some false := by kernel_rfl
theorem ty12 : tz Tryz.prog 5 = some [Value.int IntKind.u8 0] := by kernel_rfl
theorem ty13 : Program.underlying Tryz.prog 5 = some (.int IntKind.u8) := by kernel_rfl
theorem ty14 : ts Tryz.prog 207 = some 1 := by kernel_rfl
theorem ty15 : ta Tryz.prog 207 = some false := by kernel_rfl
theorem ty16 : tz Tryz.prog 207 = some [Value.int IntKind.u64 0] := by kernel_rfl
theorem ty17 : Program.underlying Tryz.prog 207 = some (.int IntKind.u64) := by kernel_rfl
theorem ty18 : ts Tryz.prog 209 = some 4 := by kernel_rfl
theorem ty19 : ta Tryz.prog 209 = some true := by kernel_rfl
theorem ty20 : tz Tryz.prog 209 = some [Value.int IntKind.u64 0, Value.int IntKind.u64 0, Value.int IntKind.u64 0, Value.int IntKind.u64 0] := by kernel_rfl
theorem ty21 : Program.underlying Tryz.prog 209 = some (.array 4 207) := by kernel_rfl
def tyF0 := (And.intro ty0 (And.intro ty1 (And.intro ty2 (And.intro ty3 (And.intro ty4 (And.intro ty5 (And.intro ty6 (And.intro ty7 (And.intro ty8 (And.intro ty9 (And.intro ty10 (And.intro ty11 (And.intro ty12 (And.intro ty13 (And.intro ty14 (And.intro ty15 (And.intro ty16 (And.intro ty17 (And.intro ty18 (And.intro ty19 (And.intro ty20 ty21)))))))))))))))))))))
end Go.Proofs.YtohmdnnagmjnkaaGreatDoor
end
section
namespace Go.LE
open Go.RowKit
def SlIs (w : World) (ao : Option Addr) (vs : List Value) : Prop :=
  vs = [] ∨ ∃ b o, ao = some ⟨b, o, none⟩ ∧ ∀ j (h : j < vs.length), w.cell? ⟨b, o + j, none⟩ = some vs[j]
def avIs (W : World) (bs : List Nat) (sz n : Nat) (vs : List Value) : AV → Prop
  | .row _ s m us => s = sz ∧ m = n ∧ us = vs
  | .val (.slice ao m _) => m = n ∧ vs.length = n * sz ∧ (vs = [] ∨ ∃ b o, ao = some ⟨b, o, none⟩ ∧ b ∉ bs ∧ ∀ j (h : j < vs.length), W.cell? ⟨b, o + j, none⟩ = some vs[j])
  | _ => False
def rdC (W : World) (b o n : Nat) : List Value := (List.range n).map fun j => (W.cell? ⟨b, o + j, none⟩).getD undef
def avVals (W : World) (sz : Nat) : AV → List Value
  | .row _ _ _ us => us
  | .val (.slice (some ⟨b, o, none⟩) m _) => rdC W b o (m * sz)
  | _ => []
theorem avVals_eq {W : World} {bs : List Nat} {sz n : Nat} {vs : List Value} {a : AV} (h : avIs W bs sz n vs a) : avVals W sz a = vs := by
  cases a with
  | mp ks us => exact h.elim
  | row T s m us => exact h.2.2
  | val v =>
    cases v with
    | slice ao m c =>
      obtain ⟨rfl, hl, h⟩ := h
      rcases h with rfl | ⟨b, o, rfl, _, hc⟩
      · have hz : m * sz = 0 := by simpa using hl.symm
        cases ao with
        | none => rfl
        | some a =>
          obtain ⟨b, o, sp⟩ := a
          cases sp with
          | none => simp [avVals, rdC, hz]
          | some x => rfl
      · simp only [avVals, rdC]
        apply List.ext_getElem?
        intro j
        rw [List.getElem?_map]
        by_cases hj : j < m * sz
        · rw [List.getElem?_range hj, List.getElem?_eq_getElem (by omega)]
          simp [hc j (by omega)]
        · rw [List.getElem?_eq_none (by simp; omega), List.getElem?_eq_none (by omega)]
          rfl
    | _ => exact h.elim
theorem avIs_sl {W w : World} {bs : List Nat} {sz n : Nat} {vs : List Value} {a : AV} {u : Value} (hk : Keeps W bs w) (hu : avSat w u a) (h : avIs W bs sz n vs a) : ∃ ao c, u = .slice ao n c ∧ SlIs w ao vs := by
  cases a with
  | mp ks us => exact h.elim
  | row T s m us =>
    obtain ⟨rfl, rfl, rfl⟩ := h
    obtain ⟨hl, h⟩ := hu
    rcases h with ⟨rfl, rfl⟩ | ⟨g, cap, cur, rfl, _, hh, _, _, hsz, htk⟩
    · exact ⟨none, 0, rfl, .inl (by simpa using hl)⟩
    · refine ⟨some ⟨g, 0, none⟩, cap, rfl, .inr ⟨g, 0, rfl, fun j hj => ?_⟩⟩
      rw [Nat.zero_add]
      have hj' : j < m * s := by omega
      have : us[j]? = cur[j]? := by rw [← htk, List.getElem?_take, if_pos hj']; simp
      simp only [World.cell?, hh]
      rw [← this, List.getElem?_eq_getElem hj]
      rfl
  | val v =>
    cases v with
    | slice ao m c =>
      obtain ⟨rfl, hl, h⟩ := h
      cases hu
      refine ⟨ao, c, rfl, ?_⟩
      rcases h with h | ⟨b, o, rfl, hb, hc⟩
      · exact .inl h
      · refine .inr ⟨b, o, rfl, fun j hj => ?_⟩
        have := hc j hj
        rw [hk.cell hb (by rw [this]; rfl), this]
        rfl
    | _ => exact h.elim
theorem HeapSat.lose {W : World} {bs : List Nat} {E : Nat → Value} {F : Nat → List Nat} {h : Nat → Option Ent} {w w' : World} {k : Nat} {e : Ent} (hs : HeapSat W bs E F h w) (hk : h k = some e) (hkeep : Keeps w (F k) w') :
    HeapSat W bs E F (upd h k none) w' := by
  have old : ∀ j x, upd h k none j = some x → h j = some x ∧ j ≠ k := fun j x hj => by
    by_cases hjk : j = k
    · subst hjk; rw [upd_same] at hj; cases hj
    · rw [upd_ne _ _ hjk] at hj; exact ⟨hj, hjk⟩
  refine ⟨fun j x hj => ?_, fun j x hj b hb => Nat.lt_of_lt_of_le (hs.lt j x (old j x hj).1 b hb) hkeep.size, fun j x hj => hs.mine j x (old j x hj).1, fun i j x y hij hi hj => hs.apart i j x y hij (old i x hi).1 (old j y hj).1, ?_⟩
  · obtain ⟨hj, hne⟩ := old j x hj
    exact entSat_local (hs.ent j x hj) fun b hb => hkeep.block b (hs.lt j x hj b hb) fun hb' => hs.apart j k x e hne hj hk b hb hb'
  · exact hs.keeps.trans hkeep fun b hb hlt => (hs.mine k e hk b hb).resolve_left (by omega)
theorem Le.conv {W : World} {bs : List Nat} {nt : Nat} {ds : Aux} {σ : St} {k : Nat} {e e' : Ent} (hk : σ.h k = some e) (he : ∀ E u fp w, entSat E u fp w e → entSat E u fp w e') (hkeys : ∀ j ∈ e'.keys, j ∈ e.keys) :
    Le W bs nt ds σ ⟨σ.n, σ.φ, upd σ.h k (some e')⟩ := by
  rintro a w ⟨⟨E, F, hφ, hs, hp⟩, h1, h2, h3, h4, h5⟩
  have old : ∀ j x, upd σ.h k (some e') j = some x → ∃ y, σ.h j = some y ∧ ((j = k ∧ x = e') ∨ x = y) := fun j x hj => by
    by_cases hjk : j = k
    · subst hjk; rw [upd_same] at hj; cases hj; exact ⟨e, hk, .inl ⟨rfl, rfl⟩⟩
    · rw [upd_ne _ _ hjk] at hj; exact ⟨x, hj, .inr rfl⟩
  refine ⟨⟨E, F, hφ, ⟨fun j x hj => ?_, fun j x hj => ?_, fun j x hj => ?_, fun i j x y hij hi hj => ?_, hs.keeps⟩, hp⟩, h1, h2, h3, h4, fun j x hj => ?_⟩
  · obtain ⟨y, hy, h⟩ := old j x hj
    rcases h with ⟨rfl, rfl⟩ | rfl
    · rw [hk] at hy; cases hy
      exact he _ _ _ _ (hs.ent j e hk)
    · exact hs.ent j x hy
  · obtain ⟨y, hy, _⟩ := old j x hj; exact hs.lt j y hy
  · obtain ⟨y, hy, _⟩ := old j x hj; exact hs.mine j y hy
  · obtain ⟨x', hx', _⟩ := old i x hi
    obtain ⟨y', hy', _⟩ := old j y hj
    exact hs.apart i j x' y' hij hx' hy'
  · obtain ⟨y, hy, h⟩ := old j x hj
    rcases h with ⟨rfl, rfl⟩ | rfl
    · rw [hk] at hy; cases hy
      exact ⟨(h5 j e hk).1, fun i hi => (h5 j e hk).2 i (hkeys i hi)⟩
    · exact h5 j x hy
end Go.LE
end
section
namespace Go.LE
open Go.RowKit
def Sees (W : World) (S : Nat → Prop) (W' : World) (S' : Nat → Prop) : Prop := ∀ b, b < W.heap.size → S b → W'.heap[b]? = W.heap[b]? ∧ S' b
theorem Sees.refl (W : World) (S : Nat → Prop) : Sees W S W S := fun _ _ h => ⟨rfl, h⟩
theorem Sees.trans {W W' W'' : World} {S S' S'' : Nat → Prop} (h : Sees W S W' S') (h' : Sees W' S' W'' S'') (hsz : W.heap.size ≤ W'.heap.size) : Sees W S W'' S'' := fun b hb hs => by
  obtain ⟨h1, h2⟩ := h b hb hs
  obtain ⟨h3, h4⟩ := h' b (by omega) h2
  exact ⟨h3.trans h1, h4⟩
def Out (bs : List Nat) : Nat → Prop := fun b => b ∉ bs
theorem Ext.sees {W W' : World} {bs bs' : List Nat} (h : Ext W bs W' bs') : Sees W (Out bs) W' (Out bs') := fun b hb hs =>
  ⟨h.keeps.block b hb hs, fun hb' => (h.sub b hb').elim (fun h1 => by omega) hs⟩
theorem Keeps.sees {W w : World} {bs : List Nat} (h : Keeps W bs w) : Sees W (Out bs) w (Out bs) := fun b hb hs => ⟨h.block b hb hs, hs⟩
def XC (W : World) (S : Nat → Prop) (b o : Nat) (v : Value) : Prop := S b ∧ W.cell? ⟨b, o, none⟩ = some v
theorem XC.mono {W W' : World} {S S' : Nat → Prop} {b o : Nat} {v : Value} (h : XC W S b o v) (hs : Sees W S W' S') : XC W' S' b o v := by
  have hlt := World.block_lt_of_cell? W _ h.2
  obtain ⟨h1, h2⟩ := hs b hlt h.1
  exact ⟨h2, by rw [← h.2]; exact World.cell?_of_block h1⟩
def SlX (W : World) (S : Nat → Prop) (ao : Option Addr) (vs : List Value) : Prop := vs = [] ∨ ∃ b o, ao = some ⟨b, o, none⟩ ∧ ∀ j (h : j < vs.length), XC W S b (o + j) vs[j]
theorem SlX.mono {W W' : World} {S S' : Nat → Prop} {ao : Option Addr} {vs : List Value} (h : SlX W S ao vs) (hs : Sees W S W' S') : SlX W' S' ao vs := by
  rcases h with h | ⟨b, o, h1, h2⟩
  · exact .inl h
  · exact .inr ⟨b, o, h1, fun j hj => (h2 j hj).mono hs⟩
theorem SlX.is {W : World} {S : Nat → Prop} {ao : Option Addr} {vs : List Value} (h : SlX W S ao vs) : SlIs W ao vs := by
  rcases h with h | ⟨b, o, h1, h2⟩
  · exact .inl h
  · exact .inr ⟨b, o, h1, fun j hj => (h2 j hj).2⟩
theorem SlX.of_is {W : World} {ao : Option Addr} {vs : List Value} (h : SlIs W ao vs) : SlX W (fun _ => True) ao vs := by
  rcases h with h | ⟨b, o, h1, h2⟩
  · exact .inl h
  · exact .inr ⟨b, o, h1, fun j hj => ⟨trivial, h2 j hj⟩⟩
theorem SlX.out {W : World} {ao : Option Addr} {vs : List Value} {S S' : Nat → Prop} (h : SlX W S ao vs) (hs : ∀ b, S b → S' b) : SlX W S' ao vs := h.mono fun b _ hb => ⟨rfl, hs b hb⟩
theorem SlX.av {W : World} {bs : List Nat} {ao : Option Addr} {vs : List Value} {sz n c : Nat} (h : SlX W (Out bs) ao vs) (hl : vs.length = n * sz) : avIs W bs sz n vs (.val (.slice ao n c)) := by
  refine ⟨rfl, hl, ?_⟩
  rcases h with h | ⟨b, o, h1, h2⟩
  · exact .inl h
  · by_cases hv : vs = []
    · exact .inl hv
    · refine .inr ⟨b, o, h1, (h2 0 (List.length_pos_iff.2 hv)).1, fun j hj => (h2 j hj).2⟩
theorem SlX.take {W : World} {S : Nat → Prop} {ao : Option Addr} {vs ws : List Value} (h : SlX W S ao (vs ++ ws)) : SlX W S ao vs := by
  rcases h with h | ⟨b, o, h1, h2⟩
  · exact .inl (by simp at h; exact h.1)
  · refine .inr ⟨b, o, h1, fun j hj => ?_⟩
    have := h2 j (by simp; omega)
    rwa [List.getElem_append_left hj] at this
def fvEq (E : Nat → Value) : FV → FV → Prop
  | .is x, .is y => den E x = den E y
  | .cnd b x, .cnd c y => b = c ∧ (b = true → den E x = den E y)
  | .cnd b x, .is y => b = true ∧ den E x = den E y
  | _, .any => True
  | _, _ => False
def frEq (E : Nat → Value) (φ : Fr) : List (Nat × FV) → Prop
  | [] => True
  | (t, x) :: r => fvEq E (φ t) x ∧ frEq E φ r
theorem fvEq_fits {E : Nat → Value} {x y : FV} {u : Value} (h : fvEq E x y) (hf : fits E x u) : fits E y u := by
  cases x <;> cases y <;> simp only [fvEq] at h <;> first | exact h.elim | trivial | skip
  · simp only [fits] at hf ⊢; rw [hf, h]
  · obtain ⟨rfl, h⟩ := h; simp only [fits, cond_true] at hf ⊢; rw [hf, h]
  · rename_i b x c y
    obtain ⟨rfl, h⟩ := h
    cases b with
    | false => exact hf
    | true => simp only [fits, cond_true] at hf ⊢; rw [hf, h rfl]
theorem frEq_mem {E : Nat → Value} {φ : Fr} : ∀ {L : List (Nat × FV)}, frEq E φ L → ∀ p ∈ L, fvEq E (φ p.1) p.2
  | _ :: _, h, p, hp => by
    rcases List.mem_cons.1 hp with rfl | hp
    · exact h.1
    · exact frEq_mem h.2 p hp
def entEq (E : Nat → Value) : Option Ent → Ent → Prop
  | some (.cells T vs), .cells T' vs' => T = T' ∧ denL E vs = denL E vs'
  | some (.row T s n vs), .row T' s' n' vs' => T = T' ∧ s = s' ∧ n = n' ∧ denL E vs = denL E vs'
  | some (.mp ks vs), .mp ks' vs' => ks = ks' ∧ denL E vs = denL E vs'
  | some (.obj d R), .obj d' R' => d = d' ∧ R = R'
  | _, _ => False
def hpEq (E : Nat → Value) (h : Hp) : List (Nat × Ent) → Prop
  | [] => True
  | (k, e) :: r => entEq E (h k) e ∧ hpEq E h r
theorem hpEq_mem {E : Nat → Value} {h : Hp} : ∀ {H : List (Nat × Ent)}, hpEq E h H → ∀ p ∈ H, entEq E (h p.1) p.2
  | _ :: _, h, p, hp => by
    rcases List.mem_cons.1 hp with rfl | hp
    · exact h.1
    · exact hpEq_mem h.2 p hp
theorem entEq_sat {E : Nat → Value} {u : Value} {fp : List Nat} {w : World} {h : Hp} {k : Nat} {e : Ent} (he : entEq E (h k) e) : ∃ e0, h k = some e0 ∧ (entSat E u fp w e0 → entSat E u fp w e) := by
  cases hk : h k with
  | none => rw [hk] at he; cases e <;> exact he.elim
  | some e0 =>
    rw [hk] at he
    refine ⟨e0, rfl, fun hs => ?_⟩
    cases e0 <;> cases e <;> simp only [entEq] at he <;> first | exact he.elim | skip
    · obtain ⟨rfl, h2⟩ := he; simp only [entSat, ← h2]; exact hs
    · obtain ⟨rfl, rfl, rfl, h2⟩ := he; simp only [entSat, ← h2]; exact hs
    · obtain ⟨rfl, h2⟩ := he; simp only [entSat, ← h2]; exact hs
    · obtain ⟨rfl, rfl⟩ := he; exact hs
theorem Wp.freeze {P : Program} {W : World} {bs : List Nat} {nt : Nat} {ds : Aux} {c : Code} {Q : Post} {σ : St} (n' : Nat) (ks : List Nat) (L : (Nat → Value) → List (Nat × FV)) (H : (Nat → Value) → List (Nat × Ent))
    (hks : ∀ E, (H E).map (·.1) = ks) (hkb : ∀ E, keysB n' (L E) (H E)) (hf : ∀ E, frEq E σ.φ (L E)) (hh : ∀ E, hpEq E σ.h (H E)) (hpn : ∀ p ∈ ds.pins, p.1 / 8 < n')
    (h : ∀ W' bs' E F, Ext W bs W' bs' → HeapSat W bs E F σ.h W' → (∀ k ∈ ks, ∀ b ∈ F k, b ∈ bs') → (∀ k e, σ.h k = some e → k ∉ ks → ∀ b ∈ F k, b ∉ bs') → Wp P W' bs' nt ds c Q ⟨n', frL (L E), hpL (H E)⟩) : Wp P W bs nt ds c Q σ := by
  rintro a w ⟨⟨E, F, hφ, hs, hp⟩, hsz, hdf, _, _, _⟩
  have own : ∀ k ∈ ks, ∃ e, σ.h k = some e := fun k hk => by
    rw [← hks E] at hk
    obtain ⟨p, hp, rfl⟩ := List.mem_map.1 hk
    obtain ⟨e0, h1, _⟩ := entEq_sat (u := undef) (fp := []) (w := w) (hpEq_mem (hh E) p hp)
    exact ⟨e0, h1⟩
  have hx : Ext W bs w (ks.flatMap F) := ⟨hs.keeps, fun b hb => by
    obtain ⟨k, hk, hbk⟩ := List.mem_flatMap.1 hb
    obtain ⟨e, he⟩ := own k hk
    exact hs.mine k e he b hbk⟩
  refine wp_mono (h w (ks.flatMap F) E F hx hs (fun k hk b hb => List.mem_flatMap.2 ⟨k, hk, hb⟩) (fun k e hke hk b hb hb' => ?_) a w ?_) fun e' a' w' hh' => post_back hx hh'
  · obtain ⟨j, hj, hbj⟩ := List.mem_flatMap.1 hb'
    obtain ⟨e2, he2⟩ := own j hj
    exact hs.apart k j e e2 (fun hkj => hk (hkj ▸ hj)) hke he2 b hb hbj
  · have at' : ∀ k e, hpL (H E) k = some e → k ∈ ks ∧ ∃ e0, σ.h k = some e0 ∧ entSat E (E k) (F k) w e := fun k e he => by
      have hm := hpL_cases he
      obtain ⟨e0, h1, h2⟩ := entEq_sat (u := E k) (fp := F k) (w := w) (hpEq_mem (hh E) _ hm)
      exact ⟨by rw [← hks E]; exact List.mem_map.2 ⟨_, hm, rfl⟩, e0, h1, h2 (hs.ent k e0 h1)⟩
    refine ⟨⟨E, F, fun t => ?_, ⟨fun k e he => (at' k e he).2.choose_spec.2, fun k e he b hb => ?_, fun k e he b hb => .inr (List.mem_flatMap.2 ⟨k, (at' k e he).1, hb⟩), fun k k' e e' hne he he' b hb => ?_, Keeps.refl w _⟩, hp⟩, hsz, hdf, hpn, fun t k hk' => ?_, fun k e he => ?_⟩
    · rcases frL_cases (L := L E) t with h | ⟨p, hp, rfl, h⟩
      · simp only [h]; trivial
      · simp only [h]; exact fvEq_fits (frEq_mem (hf E) p hp) (hφ p.1)
    · obtain ⟨_, e0, h1, _⟩ := at' k e he; exact hs.lt k e0 h1 b hb
    · obtain ⟨_, e0, h1, _⟩ := at' k e he
      obtain ⟨_, e1, h2, _⟩ := at' k' e' he'
      exact hs.apart k k' e0 e1 hne h1 h2 b hb
    · rcases frL_cases (L := L E) t with h | ⟨p, hp, _, h⟩
      · simp only [h] at hk'; cases hk'
      · simp only [h] at hk'; exact (hkb E).1 p hp k hk'
    · exact (hkb E).2 _ (hpL_cases he)
theorem wp_cut {P : Program} {W : World} {bs : List Nat} {nt : Nat} {ds : Aux} {Q : Post} {σ : St} {x y : Code} (σ' : St) (h1 : Wp P W bs nt ds x (Th (fun W' bs' σ1 => Le W' bs' nt ds σ1 σ') Q) σ) (h2 : Wp P W bs nt ds y Q σ') :
    Wp P W bs nt ds (.seq x y) Q σ := fun a w hs =>
  wp_seq (wp_mono (h1 a w hs) fun e a' w' ⟨W', bs', σ1, he, hq, hs'⟩ => by
    cases e with
    | normal => exact h2 a' w' (Sat.back he (hq a' w' hs'))
    | _ => exact ⟨W', bs', σ1, he, hq, hs'⟩)
def New (W : World) (bs bs' : List Nat) : Nat → Prop := fun b => b ∉ bs' ∧ (W.heap.size ≤ b ∨ b ∈ bs)
theorem New.out {W : World} {bs bs' : List Nat} {b : Nat} (h : New W bs bs' b) : Out bs' b := h.1
theorem row_new {W W' : World} {bs bs' : List Nat} {E : Nat → Value} {F : Nat → List Nat} {h : Hp} {k : Nat} {T : TypeId} {s n : Nat} {vs : List SV} (hs : HeapSat W bs E F h W') (hk : h k = some (.row T s n vs)) (hb : ∀ b ∈ F k, b ∉ bs') :
    ∃ ao c, E k = .slice ao n c ∧ SlX W' (New W bs bs') ao (denL E vs) ∧ n ≤ c := by
  obtain ⟨⟨hl, h⟩, hF⟩ := hs.ent k _ hk
  rcases h with ⟨h1, rfl⟩ | ⟨g, cap, cur, h1, _, hh, hnc, _, hsz, htk⟩
  · exact ⟨none, 0, h1, .inl (by simpa using hl), Nat.le_refl _⟩
  · have hg : g ∈ F k := by rw [hF, h1]; simp [Value.ownBlock]
    refine ⟨some ⟨g, 0, none⟩, cap, h1, .inr ⟨g, 0, rfl, fun j hj => ⟨⟨hb g hg, hs.mine k _ hk g hg⟩, ?_⟩⟩, hnc⟩
    rw [Nat.zero_add]
    have hj' : j < n * s := by omega
    have : (denL E vs)[j]? = cur[j]? := by rw [← htk, List.getElem?_take, if_pos hj']; simp
    simp only [World.cell?, hh]
    rw [← this, List.getElem?_eq_getElem hj]
    rfl
theorem row_stands {W W' : World} {bs bs' : List Nat} {E : Nat → Value} {F : Nat → List Nat} {h : Hp} {k : Nat} {T : TypeId} {s n : Nat} {vs : List SV} (hs : HeapSat W bs E F h W') (hk : h k = some (.row T s n vs)) (hb : ∀ b ∈ F k, b ∉ bs') :
    ∃ ao c, E k = .slice ao n c ∧ SlX W' (Out bs') ao (denL E vs) ∧ n ≤ c := by
  obtain ⟨ao, c, h1, h2, h3⟩ := row_new hs hk hb
  exact ⟨ao, c, h1, h2.out fun _ => New.out, h3⟩
theorem SlX.grow {W W' : World} {bs' : List Nat} {ao : Option Addr} {vs : List Value} {S : Nat → Prop} (h : SlX W' (New W [] bs') ao vs) : SlX W' (fun b => (b < W.heap.size → S b) ∧ b ∉ bs') ao vs :=
  h.out fun b hb => ⟨fun hlt => absurd (hb.2.resolve_right (by simp)) (Nat.not_le.2 hlt), hb.1⟩
theorem cells_new {W W' : World} {bs bs' : List Nat} {E : Nat → Value} {F : Nat → List Nat} {h : Hp} {k : Nat} {T : TypeId} {vs : List SV} (hs : HeapSat W bs E F h W') (hk : h k = some (.cells T vs)) (hb : ∀ b ∈ F k, b ∉ bs') :
    ∃ b, E k = .pointer (some ⟨b, 0, none⟩) ∧ New W bs bs' b ∧ ∀ j (hj : j < (denL E vs).length), W'.cell? ⟨b, j, none⟩ = some (denL E vs)[j] := by
  obtain ⟨b, h1, hF, hh⟩ := hs.ent k _ hk
  refine ⟨b, h1, ⟨hb b (by rw [hF]; simp), hs.mine k _ hk b (by rw [hF]; simp)⟩, fun j hj => ?_⟩
  simp only [World.cell?, hh]
  simp [List.getElem?_eq_getElem hj]
def bundle (cs : List Value) : Value := .iface 0 (.agg cs.toArray)
theorem partV_bundle (cs : List Value) (i : Nat) : partV (bundle cs) i = cs.getD i .nilIface := by simp [partV, bundle, Array.getD_eq_getD_getElem?, List.getD_eq_getElem?_getD]
theorem den_part (cs : List Value) (k i : Nat) : den (fun _ => bundle cs) (.part k i) = hv (cs.getD i .nilIface) := by simp only [den, partV_bundle]
def Grow (w : World) (S : Nat → Prop) : Nat → Prop := fun b => b < w.heap.size → S b
def factR (W : World) (bs : List Nat) (Φ : List Value → World → (Nat → Prop) → Prop) : List Value → Value → List Nat → World → Prop := fun _ u fp w =>
  ∃ cs, u = bundle cs ∧ ∀ W₂ S₂, (∀ b, b < W.heap.size → b ∉ bs → W₂.heap[b]? = W.heap[b]? ∧ S₂ b) → (∀ b ∈ fp, W₂.heap[b]? = w.heap[b]? ∧ S₂ b) → Φ cs W₂ S₂
structure FactC (P : Program) (f : FuncId) where
  pre : List AV → World → (Nat → Prop) → Prop
  tm : Nat → SV
  Φ : List AV → List Value → World → (Nat → Prop) → Prop
  premono : ∀ as_ W S W' S', Sees W S W' S' → pre as_ W S → pre as_ W' S'
  mono : ∀ as_ cs W S W' S', Sees W S W' S' → Φ as_ cs W S → Φ as_ cs W' S'
  tmg : ∀ E k, den E (tm k) = den (fun _ => E k) (tm 0)
  tmk : ∀ k, ∀ j ∈ (tm k).keys, j = k
  enters : ∀ args w, (callFunc f args).run P w = .ok (.enter f args) w
  ok : ∀ (w : World) (S : Nat → Prop) (us : List Value) (as_ : List AV), avsSat w us as_ → pre as_ w S → Calls P f us.toArray w fun e w' => ∃ cs, e = .returned (den (fun _ => bundle cs) (tm 0)) ∧ Φ as_ cs w' (Grow w S) ∧ Keeps w [] w'
def Old (W : World) (bs : List Nat) : Nat → Prop := fun b => b < W.heap.size ∧ b ∉ bs
def factK (κ : Nat) (pre : List AV → World → (Nat → Prop) → Prop) (tm : Nat → SV) (Φ : List AV → List Value → World → (Nat → Prop) → Prop) (W : World) (bs : List Nat) : Option (List AV × List Nat) → R
  | some (as_, rs) => ⟨pre as_ W (Out bs), tm (8 * κ), [(8 * κ, some (.obj [] (factR W bs (Φ as_))))], none, [], rs⟩
  | none => .bad
def FactC.spec {P : Program} {f : FuncId} (p : FactC P f) : Spec P f where
  ev := fun W bs κ h args => factK κ p.pre p.tm p.Φ W bs (viewL h args)
  good := fun W bs κ E F h w K args hs hK hk hx hside => by
    rw [p.enters]
    cases hv : viewL h args with
    | none => rw [hv] at hside; exact hside.elim
    | some q =>
      obtain ⟨as_, rs⟩ := q
      rw [hv] at hside
      have h0 : Sees W (Out bs) w (Old W bs) := fun b hb hs' => ⟨hs.keeps.block b hb hs', hb, hs'⟩
      refine good_maker hs hK hk (e := .obj [] (factR W bs (p.Φ as_))) ((p.ok w (Old W bs) _ as_ (viewL_sat hs hv) (p.premono as_ _ _ _ _ h0 hside)).mono fun e w' he => ?_) rfl rfl
      obtain ⟨cs, rfl, hΦ, hkeep⟩ := he
      have hmem : ∀ b, b ∈ List.range' w.heap.size (w'.heap.size - w.heap.size) ↔ w.heap.size ≤ b ∧ b < w'.heap.size := fun b => by
        rw [List.mem_range'_1]
        have := hkeep.size
        omega
      have hR : ∀ w3 : World, (∀ b ∈ List.range' w.heap.size (w'.heap.size - w.heap.size), w3.heap[b]? = w'.heap[b]?) → factR W bs (p.Φ as_) [] (bundle cs) (List.range' w.heap.size (w'.heap.size - w.heap.size)) w3 := by
        intro w3 h3
        refine ⟨cs, rfl, fun W₂ S₂ hold hnew => p.mono as_ cs w' (Grow w (Old W bs)) W₂ S₂ (fun b hb hg => ?_) hΦ⟩
        by_cases hbw : b < w.heap.size
        · obtain ⟨g1, g2⟩ := hg hbw
          obtain ⟨g3, g4⟩ := hold b g1 g2
          exact ⟨by rw [g3, hkeep.block b hbw (by simp), hs.keeps.block b g1 g2], g4⟩
        · have hb' := (hmem b).2 ⟨by omega, hb⟩
          obtain ⟨g3, g4⟩ := hnew b hb'
          exact ⟨by rw [g3, h3 b hb'], g4⟩
      refine ⟨_, bundle cs, List.range' w.heap.size (w'.heap.size - w.heap.size), rfl, fun E' => ⟨⟨hR w' fun _ _ => rfl, rfl⟩, hR⟩, fun b hb => (hmem b).1 hb, hkeep, ?_⟩
      simp only [factK]
      rw [p.tmg (upd E (nk κ) (bundle cs)), nk, upd_same]
  keys := fun W bs κ h K args hK hx hside => by
    cases hv : viewL h args with
    | none => rw [hv] at hside; exact hside.elim
    | some q =>
      obtain ⟨as_, rs⟩ := q
      refine ⟨fun k hk => .inr ?_, fun q hq => ?_⟩
      · rw [p.tmk _ k hk]
        exact nk_div0 κ
      · simp only [factK, List.mem_singleton] at hq
        subst hq
        refine ⟨.inr (nk_div0 κ), fun e he k hk => ?_⟩
        simp only [Option.some.injEq] at he
        subst he
        cases hk
  loc := fun W bs κ h h' args hside hr => by
    cases hv : viewL h args with
    | none => rw [hv] at hside; exact hside.elim
    | some q =>
      obtain ⟨as_, rs⟩ := q
      rw [hv] at hr
      rw [viewL_loc hv hr]
theorem factC_ev {P : Program} {f : FuncId} (p : FactC P f) (W : World) (bs : List Nat) (κ : Nat) (h : Hp) (l : List SV) : p.spec.ev W bs κ h l = factK κ p.pre p.tm p.Φ W bs (viewL h l) := rfl
theorem factK_some (κ : Nat) (pre : List AV → World → (Nat → Prop) → Prop) (tm : Nat → SV) (Φ : List AV → List Value → World → (Nat → Prop) → Prop) (W : World) (bs : List Nat) (as_ : List AV) (rs : List Nat) :
    factK κ pre tm Φ W bs (some (as_, rs)) = ⟨pre as_ W (Out bs), tm (8 * κ), [(8 * κ, some (.obj [] (factR W bs (Φ as_))))], none, [], rs⟩ := rfl
theorem fact_stands {W W' : World} {bs bs' : List Nat} {E : Nat → Value} {F : Nat → List Nat} {h : Hp} {k : Nat} {W0 : World} {bs0 : List Nat} {Φ : List Value → World → (Nat → Prop) → Prop} (hs : HeapSat W bs E F h W') (hk : h k = some (.obj [] (factR W0 bs0 Φ)))
    (h0 : Sees W0 (Out bs0) W' (Out bs')) (hb : ∀ b ∈ F k, b ∉ bs') : ∃ cs, E k = bundle cs ∧ Φ cs W' (Out bs') := by
  obtain ⟨⟨⟨cs, h1, h2⟩, _⟩, _⟩ := hs.ent k _ hk
  exact ⟨cs, h1, h2 W' (Out bs') (fun b hlt hn => h0 b hlt hn) fun b hbk => ⟨rfl, hb b hbk⟩⟩
theorem calls_fact {P : Program} {f : FuncId} {fn : Func} {c : Code} {args : Array Value} {w : World} {nt : Nat} {Φ : List Value → World → (Nat → Prop) → Prop} (S : Nat → Prop) (tm : Nat → SV) (rs : List ResultVar)
    (mono : ∀ cs W S W' S', Sees W S W' S' → Φ cs W S → Φ cs W' S') (hf : P.funcs[f]? = some fn) (hb : fn.body = some c) (hrs : fn.results.toList = rs) (hnt : args.size + (fn.ntmps - args.size) = nt)
    (h : Wp P w [] nt ⟨[], []⟩ c (Fin P rs (fun W' bs' x _ => ∃ cs, (∀ E, den E x = den (fun _ => bundle cs) (tm 0)) ∧ Φ cs W' (fun b => Grow w S b ∧ b ∉ bs')) (fun _ _ => False)) (σ0 args.toList)) :
    Calls P f args w fun e w' => ∃ cs, e = .returned (den (fun _ => bundle cs) (tm 0)) ∧ Φ cs w' (Grow w S) ∧ Keeps w [] w' := by
  subst hrs
  refine (calls_Wp hf hb (sat_entry args hnt) h).mono fun e w' he => ?_
  cases e with
  | returned u =>
    obtain ⟨W', bs', E, F, x, h, hx, ⟨cs, hd, hΦ⟩, rfl, hs, _⟩ := he
    exact ⟨cs, by rw [hd E], mono _ _ _ _ _ (fun b hb hS => ⟨hs.keeps.block b hb hS.2, hS.1⟩) hΦ, hx.keep hs.keeps⟩
  | panicked c => obtain ⟨_, _, _, _, _, _, hf, _⟩ := he; exact hf.elim
  | outgrown => exact he.elim
theorem renL_map_v (m : Nat → Src) (l : List Value) : renL m (l.map .v) = l.map .v := by
  induction l with
  | nil => rfl
  | cons x r ih => simp [renL, ren, ih]
theorem renL_append (m : Nat → Src) (a b : List SV) : renL m (a ++ b) = renL m a ++ renL m b := by
  induction a with
  | nil => rfl
  | cons x r ih => simp [renL, ih]
section
variable {P : Program} {κ : Nat} {h : Hp}
def mkV (κ : Nat) (e : TypeId) (l c : Int) : Option Nat → Option (List Value) → Option Nat → R
  | some sz, some zs, some by_ => ⟨0 ≤ l ∧ l ≤ c ∧ (by_ : Int) * c ≤ 281474976710656 ∧ c ≤ 9223372036854775807 ∧ zs.length = sz ∧ 0 < sz, .hd (8 * κ), [(8 * κ, some (.row e sz l.toNat ((List.replicate l.toNat zs).flatten.map .v)))], none, [], []⟩
  | _, _, _ => .bad
def mkU (P : Program) (κ : Nat) (l c : Int) : Option TypeDesc → R
  | some (.slice e) => mkV κ e l c (ts P e) (tz P e) (tby P e)
  | _ => .bad
theorem semMake_int (T : TypeId) (k k' : IntKind) (l c : Int) : semMake P κ T [.v (.int k l), .v (.int k' c)] = mkU P κ l c (P.underlying T) := by
  simp only [semMake]; unfold mkU
  rcases P.underlying T with _ | d
  · rfl
  · cases d <;> first | rfl | (rename_i e; simp only [mkV, nk]; rcases ts P e with _ | a <;> rcases tz P e with _ | b <;> rcases tby P e with _ | c <;> rfl)
theorem mkU_slice (l c : Int) (e : TypeId) : mkU P κ l c (some (.slice e)) = mkV κ e l c (ts P e) (tz P e) (tby P e) := rfl
theorem mkV_some (e : TypeId) (l c : Int) (sz : Nat) (zs : List Value) (by_ : Nat) : mkV κ e l c (some sz) (some zs) (some by_) = ⟨0 ≤ l ∧ l ≤ c ∧ (by_ : Int) * c ≤ 281474976710656 ∧ c ≤ 9223372036854775807 ∧ zs.length = sz ∧ 0 < sz, .hd (8 * κ), [(8 * κ, some (.row e sz l.toNat ((List.replicate l.toNat zs).flatten.map .v)))], none, [], []⟩ := rfl
def slAt (ao : Option Addr) (a sz c : Nat) : Option Addr := if c = a then ao else ao.map (·.add (a * sz))
theorem slAt_zero (ao : Option Addr) (sz c : Nat) : slAt ao 0 sz c = ao := by
  unfold slAt
  split
  · rfl
  · cases ao <;> simp [Addr.add]
theorem SlX.at {W : World} {S : Nat → Prop} {ao : Option Addr} {vs : List Value} {a sz c n : Nat} (h : SlX W S ao vs) (hl : vs.length = n * sz) (hn : n ≤ c) (ha : a ≤ n) : SlX W S (slAt ao a sz c) (vs.drop (a * sz)) := by
  unfold slAt
  split
  · left
    have : vs.length ≤ a * sz := by rw [hl]; exact Nat.mul_le_mul_right _ (by omega)
    simp [this]
  · rcases h with h | ⟨b, o, rfl, h2⟩
    · exact .inl (by simp [h])
    · refine .inr ⟨b, o + a * sz, ?_, fun j hj => ?_⟩
      · simp only [Option.map_some, Addr.add, Option.some.injEq]
        split
        · rename_i h0; simp [h0]
        · rfl
      · simp only [List.length_drop] at hj
        have := h2 (a * sz + j) (by omega)
        rw [List.getElem_drop]
        rwa [Nat.add_assoc]
def slV (ao : Option Addr) (c : Nat) (a b : Int) : Option Nat → R
  | some sz => ⟨0 ≤ a ∧ a ≤ b ∧ b ≤ c, .v (.slice (slAt ao a.toNat sz c) (b.toNat - a.toNat) (c - a.toNat)), [], none, [], []⟩
  | none => .bad
def slU (P : Program) (ao : Option Addr) (c : Nat) (a b : Int) : Option TypeDesc → R
  | some (.slice e) => slV ao c a b (ts P e)
  | _ => .bad
theorem semSliceX_eq (T : TypeId) (ao : Option Addr) (n c : Nat) (a b : Int) : semSliceX P T ao n c a b = slU P ao c a b (P.underlying T) := by
  simp only [semSliceX]; unfold slU
  rcases P.underlying T with _ | d
  · rfl
  · cases d <;> first | rfl | (rename_i e; simp only [slV, R.req, slAt]; rcases ts P e with _ | a <;> rfl)
theorem slU_slice (ao : Option Addr) (c : Nat) (a b : Int) (e : TypeId) : slU P ao c a b (some (.slice e)) = slV ao c a b (ts P e) := rfl
theorem slV_some (ao : Option Addr) (c : Nat) (a b : Int) (sz : Nat) : slV ao c a b (some sz) = ⟨0 ≤ a ∧ a ≤ b ∧ b ≤ c, .v (.slice (slAt ao a.toNat sz c) (b.toNat - a.toNat) (c - a.toNat)), [], none, [], []⟩ := rfl
theorem semSlice_x11 (T : TypeId) (ao : Option Addr) (n c : Nat) (k k' : IntKind) (a b : Int) : semSlice P T true true false [.v (.slice ao n c), .v (.int k a), .v (.int k' b)] = slU P ao c a b (P.underlying T) := by
  rw [← semSliceX_eq T ao n]; rfl
theorem semSlice_x10 (T : TypeId) (ao : Option Addr) (n c : Nat) (k : IntKind) (a : Int) : semSlice P T true false false [.v (.slice ao n c), .v (.int k a)] = slU P ao c a n (P.underlying T) := by
  rw [← semSliceX_eq T ao n]; rfl
theorem semSlice_x01 (T : TypeId) (ao : Option Addr) (n c : Nat) (k : IntKind) (b : Int) : semSlice P T false true false [.v (.slice ao n c), .v (.int k b)] = slU P ao c 0 b (P.underlying T) := by
  rw [← semSliceX_eq T ao n]; rfl
end
end Go.LE
end
section
namespace Go.LE
def ev6 := (And.intro @semMake_int (And.intro @mkU_slice (And.intro @mkV_some (And.intro @slAt_zero (And.intro @slU_slice (And.intro @slV_some (And.intro @semSlice_x11 (And.intro @semSlice_x10 (And.intro @semSlice_x01 (And.intro @factC_ev @factK_some))))))))))
end Go.LE
end
section
namespace Go.LE
open Go.ChangeShapes Go.WideShapes Go.ChangeAt Go.RowKit
section
variable {H : Type} {enc : TypeId × Value → H} {P : Program}
theorem post_low {f : Func} {s : ChangeSpec} {apart fresh handsOn again : Bool} {W W' : World} {args : Array Value} {v : Value} {ds gs : List (DataW H)} {before pa pv : List MemPlace}
    (hW : DataW.Whole enc P f.params.toList s.vars apart W args.toList ds gs before)
    (hres : ∀ (b : Nat) (sp : Nat → Bool) (hd : Bool), DataW.TrodAll enc P W' b sp hd f.resultTypes.toList (v.resultList f.resultTypes.size) (s.fn H (ds ++ gs)).results [])
    (hargs : ∀ sp : Nat → Bool, (∀ p ∈ before, sp p.block = true) → DataW.TrodAll enc P W' 0 sp true f.params.toList args.toList (s.fn H (ds ++ gs)).args pa)
    (hvars : ∀ sp : Nat → Bool, (∀ p ∈ before, sp p.block = true) → DataW.TrodVars enc P W' sp s.vars (s.fn H (ds ++ gs)).vars pv)
    (hps : before = pa ++ pv) (hk : W.keptBut W' (· ∈ before)) (hfz : ∀ a, a.block < W.heap.size → W'.frozen? a = W.frozen? a)
    (hok : ∀ (j : Nat) (t : TypeId) (r : Value), f.resultTypes[j]? = some t → (v.resultList f.resultTypes.size)[j]? = some r → Value.okWide P W' .any 0 t r) :
    s.post enc P f apart fresh handsOn again W args v W' := by
  have hlt := hW.lt
  have hold : ∀ p ∈ before, (fun b => decide (b < W.heap.size)) p.block = true := fun p hp => by simpa using hlt p hp
  refine ⟨ds, gs, before, [], pa, pv, hW, hres _ _ _, hargs _ hold, hvars _ hold, World.keptBut_mono (fun p hp => ⟨hp, ?_⟩) hk, fun _ => ?_⟩
  · rw [hps, List.mem_append] at hp
    exact Or.inr hp
  · obtain ⟨_, _, _, _, _, hz, hn⟩ := hW
    refine ⟨hok, _, _, ([] ++ pa) ++ pv, ⟨[] ++ pa, pv, trodAll_append (hargs _ (fun _ _ => rfl)) (hres _ _ _), hvars _ (fun _ _ => rfl), rfl, ?_, ?_⟩, ?_⟩
    · intro b off hp
      have hp' : MemPlace.cell b off ∈ before := by rw [hps]; simpa using hp
      rw [hfz _ (hlt _ hp')]
      exact hz b off hp'
    · intro ha
      have := hn ha
      rw [hps] at this
      simpa using this
    · intro p hp _
      rw [hps]
      simpa using hp
theorem trodAll_carry {W W' : World} : ∀ {ts : List TypeId} {vs : List Value} {ds : List (DataW H)} {ps : List MemPlace}, DataW.TrodAll enc P W 0 (fun _ => true) true ts vs ds ps → (∀ p ∈ ps, W.sameAt W' p) → DataW.TrodAll enc P W' 0 (fun _ => true) true ts vs ds ps
  | [], [], [], _, h, _ => h
  | t :: ts, v :: vs, d :: ds, ps, ⟨p, q, h1, h2, e⟩, hs => by
    subst e
    obtain ⟨n, hn⟩ := h1
    exact ⟨p, q, ⟨n, DataW.trod_carry n _ _ _ hn (fun x hx => hs x (List.mem_append_left _ hx))⟩, trodAll_carry h2 (fun x hx => hs x (List.mem_append_right _ hx)), rfl⟩
theorem law_post {f : Func} {s : ChangeSpec} {tb : TypeId} (hl : laidOutB P = true) (hm : mapsRowed P = true)
    (hf : ((List.range P.types.size).all fun t => match P.underlying t with | some (.slice e) => decide (0 < P.cellsOf e) | _ => true) = true)
    (hT : f.params.all (fun t => decide (t < P.types.size)) = true) (hrt : f.resultTypes = #[tb]) (hb : P.underlying tb = some .bool) (hvs : s.vars = []) {W W' : World} {args : Array Value} {ds gs : List (DataW H)} {before : List MemPlace}
    (hW : DataW.Whole enc P f.params.toList s.vars false W args.toList ds gs before) (hres : (s.fn H (ds ++ gs)).results = [.lit (.bool true)]) (hargs : (s.fn H (ds ++ gs)).args = ds) (hv : (s.fn H (ds ++ gs)).vars = [])
    (hk : Keeps W [] W') : s.post enc P f false true false false W args (.bool true) W' := by
  have hb' := hk.below
  have hW' := hW
  obtain ⟨p, q, hA, hV, rfl, hfz, hnd⟩ := hW
  have hlt := hW'.lt
  have hq : q = [] := by rw [hvs] at hV; exact (trodVars_none hV).2
  subst hq
  refine post_low (pa := p) (pv := []) hW' (fun _ _ _ => ?_) (fun sp hsp => ?_) (fun sp hsp => ?_) rfl (hb'.frame _) (fun ad hlt => hb'.frozen hlt) ?_
  · rw [hrt, hres]
    exact trodAll_cons_mk (shut_bool hb _) trodAll_mk0
  · rw [hargs]
    refine DataW.TrodAll.respare (kids_rows hl hm) (slices_full_of P hf) (fun t ht => ?_) (trodAll_carry hA fun x hx => hb'.same (hlt x (by simpa using hx))) (fun x hx => hsp x (by simpa using hx))
    rw [Array.all_eq_true] at hT
    obtain ⟨i, hi, he⟩ := Array.mem_iff_getElem.1 (Array.mem_toList_iff.1 ht)
    have := hT i hi
    rw [he] at this
    simpa using this
  · rw [hvs, hv]; rfl
  · exact ok_one hrt rfl (okWide_bool_mk hb _)
theorem open_rows {W : World} {t e : TypeId} {c : Nat} {v : Value} {d : DataW H} {p : List MemPlace} (ht : P.underlying t = some (.slice e)) (hc : P.cellsOf e = c) (hok : ∃ a len cap, v = .slice a len cap) (h : DataW.Trod enc P W 0 (fun _ => true) true t v d p) :
    ∃ ao n cap m, ∃ (C : Nat → List Value) (D : Nat → DataW H) (rest : List (DataW H)), v = .slice ao n cap ∧ ((n = 0 ∧ d = .nil) ∨ d = .slice ((List.range n).map D) rest) ∧
      (∀ i, i < n → (C i).length = c ∧ ∃ pl, DataW.trod enc P W 0 (fun _ => true) true m e (C i) = some (D i, pl)) ∧ SlIs W ao ((List.range n).flatMap C) := by
  obtain ⟨a, len, cap, rfl⟩ := hok
  obtain ⟨fuel, h⟩ := h
  rcases Go.Deep.open_slice ht h with ⟨h1, h2⟩ | ⟨a', len', cap', m, n, D, Pl, h1, hb, hl, hm, hmm, hx, hi⟩
  · simp only [Value.cells, List.cons.injEq, and_true] at h1
    simp only [Prod.mk.injEq] at h2
    cases h1
    exact ⟨none, 0, 0, 0, fun _ => [], fun _ => .nil, [], rfl, .inl ⟨rfl, h2.1⟩, fun i hi => by omega, .inl rfl⟩
  · simp only [Value.cells, List.cons.injEq, and_true] at h1
    cases h1
    simp only [Prod.mk.injEq] at hx
    have hm' : m = cap := by simpa using hmm
    subst hm'
    have hC : ∀ i, i < len → ∃ cs : List Value, cs.length = c ∧ (∀ j, j < c → W.cell? (a'.add (i * c + j)) = cs[j]?) ∧ DataW.trod enc P W 0 (fun _ => true) true n e cs = some (D i, Pl i) := fun i hil => by
      obtain ⟨cs, h1, h2⟩ := hi i (by omega)
      obtain ⟨_, h3, h4⟩ := World.cells?_some h1
      rw [hc] at h3 h4
      refine ⟨cs, h3, fun j hj => ?_, h2⟩
      have := h4 j hj
      rwa [Go.Deep.add_add] at this
    obtain ⟨C, hC⟩ := Go.Deep.choose_lt hC
    refine ⟨some a', len, m, n, C, D, _, rfl, .inr hx.1, fun i hil => ⟨(hC i hil).1, Pl i, (hC i hil).2.2⟩, ?_⟩
    have hlen : ∀ k, k ≤ len → ((List.range k).flatMap C).length = k * c := fun k => by
      induction k with
      | zero => intro _; simp
      | succ k ih =>
        intro hk
        rw [List.range_succ, List.flatMap_append, List.length_append, ih (by omega)]
        simp [(hC k (by omega)).1, Nat.succ_mul]
    have hget : ∀ k, k ≤ len → ∀ j (hj : j < ((List.range k).flatMap C).length), W.cell? (a'.add j) = some ((List.range k).flatMap C)[j] := fun k => by
      induction k with
      | zero => intro _ j hj; simp at hj
      | succ k ih =>
        intro hk j hj
        have hf : (List.range (k + 1)).flatMap C = (List.range k).flatMap C ++ C k := by rw [List.range_succ, List.flatMap_append]; simp
        have hl := hlen k (by omega)
        simp only [hf] at hj ⊢
        by_cases hjk : j < k * c
        · rw [List.getElem_append_left (by omega)]
          exact ih (by omega) j (by omega)
        · rw [List.getElem_append_right (by omega)]
          have h1 := (hC k (by omega)).1
          simp only [List.length_append, hl, h1] at hj
          have := (hC k (by omega)).2.1 (j - k * c) (by omega)
          rw [show k * c + (j - k * c) = j by omega] at this
          rw [this]
          simp only [hl]
          rw [List.getElem?_eq_getElem]
    by_cases hz : (List.range len).flatMap C = []
    · exact .inl hz
    · have h0 := hget len (Nat.le_refl _) 0 (List.length_pos_iff.2 hz)
      have hsp := World.cell?_spot h0
      obtain ⟨b, o, sp⟩ := a'
      have hsp' : sp = none := by simpa [Addr.add] using hsp
      subst hsp'
      refine .inr ⟨b, o, rfl, fun j hj => ?_⟩
      have := hget len (Nat.le_refl _) j hj
      rwa [Addr.add_lit] at this
end
end Go.LE
end
section
namespace Go.LE
open Go.RowKit
section
variable {P : Program} {W : World} {bs : List Nat} {κ : Nat} {E : Nat → Value} {F : Nat → List Nat} {h : Nat → Option Ent} {w : World} {K : Nat → Prop}
def avFp (u : Value) : AV → List Nat
  | .val _ => []
  | .row _ _ _ _ => u.ownBlock.toList
  | .mp _ _ => (mpBlock u).toList
def fpL : List Value → List AV → List Nat
  | u :: us, a :: as_ => avFp u a ++ fpL us as_
  | _, _ => []
def objSat (w : World) (u : Value) (fp : List Nat) (T : TypeId) (fs : List AV) : Prop :=
  ∃ b us, u = .pointer (some ⟨b, 0, none⟩) ∧ w.heap[b]? = some (.cells us.toArray T (0, 0)) ∧ avsSat w us fs ∧ fp = b :: fpL us fs ∧ fp.Nodup
theorem avSat_local {w w' : World} {u : Value} {a : AV} (h : avSat w u a) (hl : ∀ b ∈ avFp u a, w'.heap[b]? = w.heap[b]?) : avSat w' u a := by
  cases a with
  | val v => exact h
  | row T s n vs =>
    have h' : entSat (fun _ => undef) u u.ownBlock.toList w (.row T s n (vs.map .v)) := ⟨by rw [denL_map_v]; exact h, rfl⟩
    have := entSat_local h' hl
    simpa [entSat, denL_map_v, avSat] using this.1
  | mp ks vs =>
    have h' : entSat (fun _ => undef) u (mpBlock u).toList w (.mp ks (vs.map .v)) := mpSat_ent.2 ⟨by rw [denL_map_v]; exact h, rfl⟩
    have := (mpSat_ent.1 (entSat_local h' hl)).1
    rwa [denL_map_v] at this
theorem viewA_fp (hs : HeapSat W bs E F h w) {x : SV} {a : AV} {r : List Nat} (hv : viewA h x = some (a, r)) : avFp (den E x) a = r.flatMap F ∧ ∀ k ∈ r, (∃ e, h k = some e) ∧ ∀ k' ∈ r, k' = k := by
  cases x with
  | v x => simp [viewA] at hv; obtain ⟨rfl, rfl⟩ := hv; exact ⟨rfl, by simp⟩
  | agg l =>
    simp only [viewA, Option.map_eq_some_iff, Prod.mk.injEq] at hv
    obtain ⟨vs, h1, rfl, rfl⟩ := hv
    exact ⟨rfl, by simp⟩
  | hd k =>
    simp only [viewA] at hv
    cases hk : h k with
    | none => rw [hk] at hv; simp [rowAV] at hv
    | some e =>
      cases e with
      | row T s n us =>
        rw [hk] at hv
        simp only [rowAV, Option.map_eq_some_iff, Prod.mk.injEq] at hv
        obtain ⟨vs, h1, rfl, rfl⟩ := hv
        have := hs.ent k _ hk
        refine ⟨?_, fun k' hk' => ?_⟩
        · simp only [avFp, den, hv_of (entSat_one this)]
          simp [this.2]
        · simp only [List.mem_singleton] at hk'
          subst hk'
          exact ⟨⟨_, hk⟩, by simp⟩
      | mp ks us =>
        rw [hk] at hv
        simp only [rowAV, Option.map_eq_some_iff, Prod.mk.injEq] at hv
        obtain ⟨vs, h1, rfl, rfl⟩ := hv
        have := hs.ent k _ hk
        refine ⟨?_, fun k' hk' => ?_⟩
        · simp only [avFp, den, hv_of (entSat_one this)]
          simp [(mpSat_ent.1 this).2]
        · simp only [List.mem_singleton] at hk'
          subst hk'
          exact ⟨⟨_, hk⟩, by simp⟩
      | cells T vs => rw [hk] at hv; simp [rowAV] at hv
      | obj d R => rw [hk] at hv; simp [rowAV] at hv
  | own k o => simp [viewA] at hv
  | tup l => simp [viewA] at hv
  | ifc t x => simp [viewA] at hv
  | part k i => simp [viewA] at hv
  | fn f a c => simp [viewA] at hv
theorem viewL_fp (hs : HeapSat W bs E F h w) : ∀ {l : List SV} {as_ : List AV} {r : List Nat}, viewL h l = some (as_, r) → fpL (denL E l) as_ = r.flatMap F ∧ ∀ k ∈ r, ∃ e, h k = some e
  | [], as_, r, hv => by simp [viewL] at hv; obtain ⟨rfl, rfl⟩ := hv; exact ⟨rfl, by simp⟩
  | x :: l, as_, r, hv => by
    simp only [viewL] at hv
    cases h1 : viewA h x with
    | none => rw [h1] at hv; simp [consV] at hv
    | some p =>
      cases h2 : viewL h l with
      | none => rw [h1, h2] at hv; simp [consV] at hv
      | some q =>
        obtain ⟨a, ra⟩ := p
        obtain ⟨as', rs⟩ := q
        rw [h1, h2] at hv
        simp only [consV, Option.some.injEq, Prod.mk.injEq] at hv
        obtain ⟨rfl, rfl⟩ := hv
        obtain ⟨g1, g2⟩ := viewA_fp hs h1
        obtain ⟨g3, g4⟩ := viewL_fp hs h2
        refine ⟨by simp only [denL, fpL, g1, g3, List.flatMap_append], fun k hk => ?_⟩
        rcases List.mem_append.1 hk with hk | hk
        · exact (g2 k hk).1
        · exact g4 k hk
theorem ownBlock_nodup (u : Value) : u.ownBlock.toList.Nodup := by cases u.ownBlock <;> simp
theorem ent_nodup {u : Value} {fp : List Nat} {e : Ent} (hE : ∀ d R, e ≠ .obj d R) (h : entSat E u fp w e) : fp.Nodup := by
  cases e with
  | cells T vs => obtain ⟨b, _, h2, _⟩ := h; rw [h2]; simp
  | row T s n vs => rw [h.2]; exact ownBlock_nodup u
  | mp ks vs => obtain ⟨b, es, c, _, h2, _⟩ := h; rw [h2]; simp
  | obj d R => exact absurd rfl (hE d R)
theorem viewL_rows {h : Hp} : ∀ {l : List SV} {as_ : List AV} {r : List Nat}, viewL h l = some (as_, r) → ∀ k ∈ r, ∃ e, h k = some e ∧ ∀ d R, e ≠ .obj d R
  | [], as_, r, hv => by simp [viewL] at hv; obtain ⟨rfl, rfl⟩ := hv; simp
  | x :: l, as_, r, hv => by
    simp only [viewL] at hv
    cases h1 : viewA h x with
    | none => rw [h1] at hv; simp [consV] at hv
    | some p =>
      cases h2 : viewL h l with
      | none => rw [h1, h2] at hv; simp [consV] at hv
      | some q =>
        obtain ⟨a, ra⟩ := p
        obtain ⟨as', rs⟩ := q
        rw [h1, h2] at hv
        simp only [consV, Option.some.injEq, Prod.mk.injEq] at hv
        obtain ⟨rfl, rfl⟩ := hv
        intro k hk
        rcases List.mem_append.1 hk with hk | hk
        · cases x with
          | hd j =>
            simp only [viewA] at h1
            cases hj : h j with
            | none => rw [hj] at h1; simp [rowAV] at h1
            | some e =>
              cases e with
              | row T s n us =>
                rw [hj] at h1
                simp only [rowAV, Option.map_eq_some_iff, Prod.mk.injEq] at h1
                obtain ⟨vs, _, _, rfl⟩ := h1
                simp only [List.mem_singleton] at hk
                subst hk
                exact ⟨_, hj, fun _ _ e => by cases e⟩
              | mp ks us =>
                rw [hj] at h1
                simp only [rowAV, Option.map_eq_some_iff, Prod.mk.injEq] at h1
                obtain ⟨vs, _, _, rfl⟩ := h1
                simp only [List.mem_singleton] at hk
                subst hk
                exact ⟨_, hj, fun _ _ e => by cases e⟩
              | _ => rw [hj] at h1; simp [rowAV] at h1
          | v x => simp [viewA] at h1; obtain ⟨_, rfl⟩ := h1; cases hk
          | agg l =>
            simp only [viewA, Option.map_eq_some_iff, Prod.mk.injEq] at h1
            obtain ⟨_, _, _, rfl⟩ := h1
            cases hk
          | _ => simp [viewA] at h1
        · exact viewL_rows h2 k hk
theorem flat_nodup (hs : HeapSat W bs E F h w) : ∀ {ks : List Nat}, ks.Nodup → (∀ k ∈ ks, ∃ e, h k = some e ∧ ∀ d R, e ≠ .obj d R) → (ks.flatMap F).Nodup
  | [], _, _ => by simp
  | k :: r, hn, he => by
    rw [List.flatMap_cons, List.nodup_append]
    obtain ⟨e, h1, h2⟩ := he k (by simp)
    refine ⟨ent_nodup h2 (hs.ent k e h1), flat_nodup hs (List.nodup_cons.1 hn).2 (fun j hj => he j (by simp [hj])), fun b hb c hc hbc => ?_⟩
    subst hbc
    obtain ⟨j, hj, hbj⟩ := List.mem_flatMap.1 hc
    obtain ⟨e2, h3, _⟩ := he j (by simp [hj])
    exact hs.apart k j e e2 (fun e' => (List.nodup_cons.1 hn).1 (e' ▸ hj)) h1 h3 b hb hbj
theorem obj_of_heap (hs : HeapSat W bs E F h w) {k : Nat} {T : TypeId} {vs : List SV} {fs : List AV} {rs : List Nat} (hk : h k = some (.cells T vs)) (hv : viewL h vs = some (fs, rs)) (hn : (k :: rs).Nodup) :
    objSat w (E k) ((k :: rs).flatMap F) T fs := by
  obtain ⟨b, h1, h2, h3⟩ := hs.ent k _ hk
  obtain ⟨g1, _⟩ := viewL_fp hs hv
  refine ⟨b, denL E vs, h1, h3, viewL_sat hs hv, by rw [List.flatMap_cons, h2, g1]; rfl, flat_nodup hs hn fun j hj => ?_⟩
  rcases List.mem_cons.1 hj with rfl | hj
  · exact ⟨_, hk, fun d R e => by cases e⟩
  · exact viewL_rows hv j hj
def cellsF : Nat → List AV → List SV
  | _, [] => []
  | k, .val v :: r => .v v :: cellsF (k + 1) r
  | k, .row _ _ _ _ :: r => .hd k :: cellsF (k + 1) r
  | k, .mp _ _ :: r => .hd k :: cellsF (k + 1) r
def rowsF : Nat → List AV → List (Nat × Ent)
  | _, [] => []
  | k, .val _ :: r => rowsF (k + 1) r
  | k, .row T s n vs :: r => (k, .row T s n (vs.map .v)) :: rowsF (k + 1) r
  | k, .mp ks vs :: r => (k, .mp ks (vs.map .v)) :: rowsF (k + 1) r
def someL : List (Nat × Ent) → List (Nat × Option Ent)
  | [] => []
  | (k, e) :: r => (k, some e) :: someL r
theorem rowsF_keys : ∀ {k : Nat} {fs : List AV}, ∀ p ∈ rowsF k fs, k ≤ p.1 ∧ p.1 < k + fs.length ∧ p.2.keys = []
  | _, [], p, hp => by cases hp
  | k, .val v :: r, p, hp => by
    have := rowsF_keys (k := k + 1) (fs := r) p hp
    simp only [List.length_cons]
    exact ⟨by omega, by omega, this.2.2⟩
  | k, .row T s n vs :: r, p, hp => by
    rcases List.mem_cons.1 hp with rfl | hp
    · simp [Ent.keys, keysL_map_v]
    · have := rowsF_keys (k := k + 1) (fs := r) p hp
      simp only [List.length_cons]
      exact ⟨by omega, by omega, this.2.2⟩
  | k, .mp ks vs :: r, p, hp => by
    rcases List.mem_cons.1 hp with rfl | hp
    · simp [Ent.keys, keysL_map_v]
    · have := rowsF_keys (k := k + 1) (fs := r) p hp
      simp only [List.length_cons]
      exact ⟨by omega, by omega, this.2.2⟩
theorem cellsF_keys : ∀ {k : Nat} {fs : List AV}, ∀ j ∈ keysL (cellsF k fs), k ≤ j ∧ j < k + fs.length
  | _, [], j, hj => by cases hj
  | k, .val v :: r, j, hj => by
    simp only [cellsF, keysL, SV.keys, List.nil_append] at hj
    have := cellsF_keys j hj
    simp only [List.length_cons]
    omega
  | k, .row T s n vs :: r, j, hj => by
    simp only [cellsF, keysL, SV.keys, List.singleton_append, List.mem_cons] at hj
    simp only [List.length_cons]
    rcases hj with rfl | hj
    · omega
    · have := cellsF_keys j hj
      omega
  | k, .mp ks vs :: r, j, hj => by
    simp only [cellsF, keysL, SV.keys, List.singleton_append, List.mem_cons] at hj
    simp only [List.length_cons]
    rcases hj with rfl | hj
    · omega
    · have := cellsF_keys j hj
      omega
def updE : Nat → List Value → (Nat → Value) → Nat → Value
  | _, [], E => E
  | k, u :: us, E => upd (updE (k + 1) us E) k u
def updFp : Nat → List Value → List AV → (Nat → List Nat) → Nat → List Nat
  | k, u :: us, a :: as_, F => upd (updFp (k + 1) us as_ F) k (avFp u a)
  | _, _, _, F => F
theorem updE_out : ∀ {k : Nat} {us : List Value} {E : Nat → Value} {j : Nat}, (j < k ∨ k + us.length ≤ j) → updE k us E j = E j
  | _, [], _, _, _ => rfl
  | k, u :: us, E, j, h => by
    simp only [List.length_cons] at h
    simp only [updE]
    rw [upd_ne _ _ (by omega)]
    exact updE_out (by omega)
theorem updFp_out : ∀ {k : Nat} {us : List Value} {as_ : List AV} {F : Nat → List Nat} {j : Nat}, (j < k ∨ k + as_.length ≤ j) → updFp k us as_ F j = F j
  | k, u :: us, a :: as_, F, j, h => by
    simp only [List.length_cons] at h
    simp only [updFp]
    rw [upd_ne _ _ (by omega)]
    exact updFp_out (by omega)
  | _, [], [], _, _, _ => rfl
  | _, [], _ :: _, _, _, _ => rfl
  | _, _ :: _, [], _, _, _ => rfl
theorem avsSat_len : ∀ {us : List Value} {as_ : List AV}, avsSat w us as_ → us.length = as_.length
  | [], [], _ => rfl
  | _ :: _, _ :: _, h => by simp [avsSat_len h.2]
  | [], _ :: _, h => h.elim
  | _ :: _, [], h => h.elim
theorem den_cellsF : ∀ {k : Nat} {us : List Value} {fs : List AV} {E : Nat → Value}, avsSat w us fs → denL (updE k us E) (cellsF k fs) = us
  | _, [], [], _, _ => rfl
  | k, u :: us, .val v :: fs, E, h => by
    obtain ⟨rfl, h2⟩ := h
    simp only [cellsF, denL, den, updE]
    congr 1
    have : denL (upd (updE (k + 1) us E) k u) (cellsF (k + 1) fs) = denL (updE (k + 1) us E) (cellsF (k + 1) fs) := denL_congr _ fun j hj => upd_ne _ _ (by have := cellsF_keys j hj; omega)
    rw [this]
    exact den_cellsF h2
  | k, u :: us, .row T s n vs :: fs, E, h => by
    obtain ⟨h1, h2⟩ := h
    simp only [cellsF, denL, den, updE, upd_same]
    have hone : u.oneCell' = true := entSat_one (E := E) (fp := u.ownBlock.toList) (w := w) (e := .row T s n (vs.map .v)) ⟨by rw [denL_map_v]; exact h1, rfl⟩
    rw [hv_of hone]
    congr 1
    have : denL (upd (updE (k + 1) us E) k u) (cellsF (k + 1) fs) = denL (updE (k + 1) us E) (cellsF (k + 1) fs) := denL_congr _ fun j hj => upd_ne _ _ (by have := cellsF_keys j hj; omega)
    rw [this]
    exact den_cellsF h2
  | k, u :: us, .mp ks vs :: fs, E, h => by
    obtain ⟨h1, h2⟩ := h
    simp only [cellsF, denL, den, updE, upd_same]
    have hone : u.oneCell' = true := entSat_one (E := E) (w := w) (e := .mp ks (vs.map .v)) (mpSat_ent.2 ⟨by rw [denL_map_v]; exact h1, rfl⟩)
    rw [hv_of hone]
    congr 1
    have : denL (upd (updE (k + 1) us E) k u) (cellsF (k + 1) fs) = denL (updE (k + 1) us E) (cellsF (k + 1) fs) := denL_congr _ fun j hj => upd_ne _ _ (by have := cellsF_keys j hj; omega)
    rw [this]
    exact den_cellsF h2
  | _, [], _ :: _, _, h => h.elim
  | _, _ :: _, [], _, h => h.elim
theorem rowsF_get : ∀ {k : Nat} {us : List Value} {fs : List AV} {E : Nat → Value} {F : Nat → List Nat} {p : Nat × Ent}, avsSat w us fs → p ∈ rowsF k fs →
    ∀ E0 : Nat → Value, entSat E0 (updE k us E p.1) (updFp k us fs F p.1) w p.2 ∧ ∀ b ∈ updFp k us fs F p.1, b ∈ fpL us fs
  | _, [], [], _, _, p, _, hp => by cases hp
  | k, u :: us, .val v :: fs, E, F, p, h, hp => fun E0 => by
    have hk := rowsF_keys (k := k + 1) (fs := fs) p hp
    simp only [updE, updFp]
    rw [upd_ne _ _ (by omega), upd_ne _ _ (by omega)]
    obtain ⟨h1, h2⟩ := rowsF_get (k := k + 1) (E := E) (F := F) h.2 hp E0
    exact ⟨h1, fun b hb => List.mem_append_right _ (h2 b hb)⟩
  | k, u :: us, .row T s n vs :: fs, E, F, p, h, hp => fun E0 => by
    rcases List.mem_cons.1 hp with rfl | hp
    · simp only [updE, updFp, upd_same]
      exact ⟨⟨by rw [denL_map_v]; exact h.1, rfl⟩, fun b hb => List.mem_append_left _ hb⟩
    · have hk := rowsF_keys (k := k + 1) (fs := fs) p hp
      simp only [updE, updFp]
      rw [upd_ne _ _ (by omega), upd_ne _ _ (by omega)]
      obtain ⟨h1, h2⟩ := rowsF_get (k := k + 1) (E := E) (F := F) h.2 hp E0
      exact ⟨h1, fun b hb => List.mem_append_right _ (h2 b hb)⟩
  | k, u :: us, .mp ks vs :: fs, E, F, p, h, hp => fun E0 => by
    rcases List.mem_cons.1 hp with rfl | hp
    · simp only [updE, updFp, upd_same]
      exact ⟨mpSat_ent.2 ⟨by rw [denL_map_v]; exact h.1, rfl⟩, fun b hb => List.mem_append_left _ hb⟩
    · have hk := rowsF_keys (k := k + 1) (fs := fs) p hp
      simp only [updE, updFp]
      rw [upd_ne _ _ (by omega), upd_ne _ _ (by omega)]
      obtain ⟨h1, h2⟩ := rowsF_get (k := k + 1) (E := E) (F := F) h.2 hp E0
      exact ⟨h1, fun b hb => List.mem_append_right _ (h2 b hb)⟩
  | _, [], _ :: _, _, _, p, h, _ => h.elim
  | _, _ :: _, [], _, _, p, h, _ => h.elim
theorem rowsF_tl {k : Nat} {a : AV} {fs : List AV} {r : Nat × Ent} (hr : r ∈ rowsF k (a :: fs)) (hrk : r.1 ≠ k) : r ∈ rowsF (k + 1) fs := by
  cases a with
  | val v => exact hr
  | row T s n vs =>
    rcases List.mem_cons.1 hr with rfl | hr
    · exact absurd rfl hrk
    · exact hr
  | mp ks vs =>
    rcases List.mem_cons.1 hr with rfl | hr
    · exact absurd rfl hrk
    · exact hr
theorem updFp_sub : ∀ {k : Nat} {us : List Value} {fs : List AV} {F : Nat → List Nat} {r : Nat × Ent}, us.length = fs.length → r ∈ rowsF k fs → ∀ b ∈ updFp k us fs F r.1, b ∈ fpL us fs
  | _, [], [], _, r, _, hr, _, _ => by cases hr
  | _, [], _ :: _, _, _, hl, _, _, _ => by simp at hl
  | _, _ :: _, [], _, _, hl, _, _, _ => by simp at hl
  | k, u :: us, a :: fs, F, r, hl, hr, b, hb => by
    simp only [fpL, List.mem_append]
    simp only [updFp] at hb
    by_cases hrk : r.1 = k
    · rw [hrk, upd_same] at hb; exact .inl hb
    · rw [upd_ne _ _ hrk] at hb
      exact .inr (updFp_sub (by simpa using hl) (rowsF_tl hr hrk) b hb)
theorem rowsF_apart : ∀ {k : Nat} {us : List Value} {fs : List AV} {F : Nat → List Nat} {p q : Nat × Ent}, (fpL us fs).Nodup → p ∈ rowsF k fs → q ∈ rowsF k fs → us.length = fs.length → p.1 ≠ q.1 → ∀ b ∈ updFp k us fs F p.1, b ∉ updFp k us fs F q.1
  | _, [], [], _, p, _, _, hp, _, _, _, _, _ => by cases hp
  | _, [], _ :: _, _, _, _, _, _, _, hl, _, _, _ => by simp at hl
  | _, _ :: _, [], _, _, _, _, _, _, hl, _, _, _ => by simp at hl
  | k, u :: us, a :: fs, F, p, q, hn, hp, hq, hl, hpq, b, hb => by
    have hl' : us.length = fs.length := by simpa using hl
    rw [show fpL (u :: us) (a :: fs) = avFp u a ++ fpL us fs from rfl, List.nodup_append] at hn
    obtain ⟨_, n2, n3⟩ := hn
    simp only [updFp] at hb ⊢
    by_cases hpk : p.1 = k
    · rw [hpk, upd_same] at hb
      have hqk : q.1 ≠ k := fun e => hpq (by rw [hpk, e])
      rw [upd_ne _ _ hqk]
      intro hb'
      exact n3 b hb b (updFp_sub hl' (rowsF_tl hq hqk) b hb') rfl
    · rw [upd_ne _ _ hpk] at hb
      by_cases hqk : q.1 = k
      · rw [hqk, upd_same]
        intro hb'
        exact n3 b hb' b (updFp_sub hl' (rowsF_tl hp hpk) b hb) rfl
      · rw [upd_ne _ _ hqk]
        exact rowsF_apart n2 (rowsF_tl hp hpk) (rowsF_tl hq hqk) hl' hpq b hb
end
end Go.LE
end
section
namespace Go.LE
open Go.RowKit
inductive BOut where
  | ret (v : Value) (fs : List AV)
  | pan (c : List PanicEntry) (v : Value)
def bEnds (w : World) (u : Value) (fp : List Nat) (T : TypeId) (e : Ending) (w' : World) : BOut → Prop
  | .ret v fs => e = .returned v ∧ (∃ fp', objSat w' u fp' T fs ∧ (∀ b ∈ fp', b ∈ fp ∨ w.heap.size ≤ b) ∧ ∀ b ∈ fp', b < w'.heap.size) ∧ Keeps w fp w'
  | .pan c _ => e = .panicked c ∧ Keeps w fp w'
structure BorrowC (P : Program) (f : FuncId) where
  T : TypeId
  pre : World → List Nat → List AV → List AV → Prop
  out : World → List AV → List AV → BOut
  enters : ∀ args w, (callFunc f args).run P w = .ok (.enter f args) w
  ok : ∀ (W w : World) (bs : List Nat) (u : Value) (fp : List Nat) (us : List Value) (fs as_ : List AV), Keeps W bs w → objSat w u fp T fs → (∀ b ∈ fp, b < w.heap.size) → (∀ b ∈ fp, W.heap.size ≤ b ∨ b ∈ bs) → avsSat w us as_ → pre W bs fs as_ →
    Calls P f (u :: us).toArray w fun e w' => bEnds w u fp T e w' (out W fs as_)
def dropL (rs : List Nat) : List (Nat × Option Ent) := rs.map fun j => (j, none)
def borrowK (κ k : Nat) (T : TypeId) (pre : Prop) (rs rs' : List Nat) : BOut → R
  | .ret v fs => ⟨pre ∧ (k :: rs).Nodup ∧ (∀ j ∈ rs', j ∉ k :: rs) ∧ fs.length ≤ 8, .v v, dropL rs ++ (someL (rowsF (8 * κ) fs) ++ [(k, some (.cells T (cellsF (8 * κ) fs)))]), none, [], k :: (rs ++ rs')⟩
  | .pan c v => ⟨pre ∧ (k :: rs).Nodup ∧ (∀ j ∈ rs', j ∉ k :: rs), .v v, [], some c, k :: rs, k :: (rs ++ rs')⟩
def borrowI (κ k : Nat) (T T' : TypeId) (pre : List AV → List AV → Prop) (out : List AV → List AV → BOut) (as_ : List AV) (rs' : List Nat) : Option (List AV × List Nat) → R
  | some (fs, rs) => borrowK κ k T (T' = T ∧ pre fs as_) rs rs' (out fs as_)
  | none => .bad
def borrowJ (h : Hp) (κ k : Nat) (T : TypeId) (pre : List AV → List AV → Prop) (out : List AV → List AV → BOut) : Option Ent → Option (List AV × List Nat) → R
  | some (.cells T' vs), some (as_, rs') => borrowI κ k T T' pre out as_ rs' (viewL h vs)
  | _, _ => .bad
def borrowE (h : Hp) (κ : Nat) (T : TypeId) (pre : List AV → List AV → Prop) (out : List AV → List AV → BOut) : List SV → R
  | .own k 0 :: rest => borrowJ h κ k T pre out (h k) (viewL h rest)
  | _ => .bad
section
variable {P : Program} {W : World} {bs : List Nat} {κ : Nat} {E : Nat → Value} {F : Nat → List Nat} {h : Nat → Option Ent} {w : World} {K : Nat → Prop}
theorem updL_append {α : Type} (f : Nat → α) : ∀ (a b : List (Nat × α)), updL f (a ++ b) = updL (updL f a) b
  | [], _ => rfl
  | (k, x) :: r, b => by simp only [List.cons_append, updL]; exact updL_append _ r b
theorem updL_drop (h : Hp) : ∀ (rs : List Nat) (j : Nat), updL h (dropL rs) j = if j ∈ rs then none else h j
  | [], j => by simp [dropL, updL]
  | k :: r, j => by
    have : updL h (dropL (k :: r)) j = updL (upd h k none) (dropL r) j := rfl
    rw [this, updL_drop]
    by_cases hj : j ∈ r
    · simp [hj]
    · by_cases hjk : j = k
      · subst hjk; simp [hj, upd_same]
      · simp [hj, hjk, upd_ne _ _ hjk]
theorem updL_split : ∀ (L : List (Nat × Option Ent)) (f : Hp) (j : Nat), (∀ p ∈ L, ∃ e, p.2 = some e) → updL f L j = match updL (fun _ => none) L j with | some e => some e | none => f j
  | [], f, j, _ => rfl
  | (i, x) :: r, f, j, hL => by
    obtain ⟨e, he⟩ := hL (i, x) (by simp)
    simp only at he
    subst he
    have hr : ∀ p ∈ r, ∃ e, p.2 = some e := fun p hp => hL p (by simp [hp])
    simp only [updL]
    rw [updL_split r (upd f i (some e)) j hr, updL_split r (upd (fun _ => none) i (some e)) j hr]
    cases updL (fun _ => none) r j with
    | some y => rfl
    | none =>
      simp only
      by_cases hj : j = i
      · subst hj; simp [upd_same]
      · simp [upd_ne _ _ hj]
theorem someL_mem {L : List (Nat × Ent)} {p : Nat × Option Ent} : p ∈ someL L ↔ ∃ e, p = (p.1, some e) ∧ (p.1, e) ∈ L := by
  induction L with
  | nil => simp [someL]
  | cons q r ih =>
    obtain ⟨k, e⟩ := q
    simp only [someL, List.mem_cons, ih]
    constructor
    · rintro (rfl | ⟨e', h1, h2⟩)
      · exact ⟨e, rfl, .inl rfl⟩
      · exact ⟨e', h1, .inr h2⟩
    · rintro ⟨e', h1, h2 | h2⟩
      · left
        rw [h1]
        simp only [Prod.mk.injEq] at h2
        rw [h2.1, h2.2]
      · exact .inr ⟨e', h1, h2⟩
theorem borrow_back {w' : World} {k : Nat} {T : TypeId} {vs : List SV} {fs fs' : List AV} {rs fp' : List Nat} (hs : HeapSat W bs E F h w) (hK : KeysIn K h) (hk : ∀ k, k / 8 = κ → ¬ K k)
    (hkk : h k = some (.cells T vs)) (hv : viewL h vs = some (fs, rs)) (hlen : fs'.length ≤ 8) (hn : (k :: rs).Nodup)
    (ho : objSat w' (E k) fp' T fs') (h1 : ∀ b ∈ fp', b ∈ (k :: rs).flatMap F ∨ w.heap.size ≤ b) (h2 : ∀ b ∈ fp', b < w'.heap.size) (hkeep : Keeps w ((k :: rs).flatMap F) w') :
    ∃ E' F', (∀ j, j / 8 ≠ κ → E' j = E j) ∧ HeapSat W bs E' F' (updL h (dropL rs ++ (someL (rowsF (8 * κ) fs') ++ [(k, some (.cells T (cellsF (8 * κ) fs')))]))) w' := by
  obtain ⟨b, us, hu, hb, hus, rfl, hnd⟩ := ho
  have hl := avsSat_len hus
  have hKk : K k := (hK k _ hkk).1
  have hfr : ∀ j, 8 * κ ≤ j → j < 8 * κ + 8 → ¬ K j := fun j g1 g2 => hk j (by omega)
  have hkf : k < 8 * κ ∨ 8 * κ + 8 ≤ k := by
    by_cases g1 : k < 8 * κ
    · exact .inl g1
    · by_cases g2 : 8 * κ + 8 ≤ k
      · exact .inr g2
      · exact absurd hKk (hfr k (by omega) (by omega))
  have hE : ∀ j, j / 8 ≠ κ → updE (8 * κ) us E j = E j := fun j hj => updE_out (by omega)
  have hsome : ∀ p ∈ someL (rowsF (8 * κ) fs') ++ [(k, some (.cells T (cellsF (8 * κ) fs')))], ∃ e, p.2 = some e := fun p hp => by
    rcases List.mem_append.1 hp with hp | hp
    · obtain ⟨e, he, _⟩ := someL_mem.1 hp; exact ⟨e, by rw [he]⟩
    · simp at hp; exact ⟨_, by rw [hp]⟩
  have hNm : ∀ j e, updL (fun _ => none) (someL (rowsF (8 * κ) fs') ++ [(k, some (.cells T (cellsF (8 * κ) fs')))]) j = some e → (j = k ∧ e = .cells T (cellsF (8 * κ) fs')) ∨ (j ≠ k ∧ (j, e) ∈ rowsF (8 * κ) fs') := fun j e he => by
    rw [updL_append] at he
    simp only [updL] at he
    by_cases hj : j = k
    · subst hj; rw [upd_same] at he; cases he; exact .inl ⟨rfl, rfl⟩
    · rw [upd_ne _ _ hj] at he
      rcases updL_mem (fun _ => (none : Option Ent)) (k := j) (u := someL (rowsF (8 * κ) fs')) with ⟨x, hx, hx'⟩ | ⟨_, hx'⟩
      · rw [hx'] at he
        subst he
        obtain ⟨e', h3, h4⟩ := someL_mem.1 hx
        simp only [Prod.mk.injEq, true_and, Option.some.injEq] at h3
        subst h3
        exact .inr ⟨hj, h4⟩
      · rw [hx'] at he; cases he
  have hNk : updL (fun _ => none) (someL (rowsF (8 * κ) fs') ++ [(k, some (.cells T (cellsF (8 * κ) fs')))]) k = some (.cells T (cellsF (8 * κ) fs')) := by
    rw [updL_append]; simp [updL, upd_same]
  have hb' : b ∉ fpL us fs' := (List.nodup_cons.1 hnd).1
  have hnd' : (fpL us fs').Nodup := (List.nodup_cons.1 hnd).2
  refine ⟨updE (8 * κ) us E, upd (updFp (8 * κ) us fs' F) k [b], hE, ?_⟩
  refine hs.trade hK (k :: rs) (updL (fun _ => none) (someL (rowsF (8 * κ) fs') ++ [(k, some (.cells T (cellsF (8 * κ) fs')))])) (fun j hj => ?_) (fun j hj => hE j fun e => hk j e hj) (fun j e he => ?_) (fun i j e e' hij hi hj c hc => ?_) (fun j x hx hj => ?_) (fun j => ?_) hkeep
  · rcases List.mem_cons.1 hj with rfl | hj
    · exact ⟨_, hkk⟩
    · exact (viewL_fp hs hv).2 j hj
  · rcases hNm j e he with ⟨rfl, rfl⟩ | ⟨hjk, hm⟩
    · rw [upd_same, hE j fun e => hk j e hKk]
      refine ⟨⟨b, hu, rfl, by rw [den_cellsF hus]; exact hb⟩, fun c hc => ?_, fun c hc => h2 c (by simp at hc; simp [hc])⟩
      simp only [List.mem_singleton] at hc
      subst hc
      rcases h1 c (by simp) with g | g
      · obtain ⟨i, hi, hci⟩ := List.mem_flatMap.1 g; exact .inl ⟨i, hi, hci⟩
      · exact .inr g
    · rw [upd_ne _ _ hjk]
      obtain ⟨g1, g2⟩ := rowsF_get (E := E) (F := F) hus hm (updE (8 * κ) us E)
      refine ⟨g1, fun c hc => ?_, fun c hc => h2 c (List.mem_cons_of_mem _ (g2 c hc))⟩
      rcases h1 c (List.mem_cons_of_mem _ (g2 c hc)) with g | g
      · obtain ⟨i, hi, hci⟩ := List.mem_flatMap.1 g; exact .inl ⟨i, hi, hci⟩
      · exact .inr g
  · rcases hNm i e hi with ⟨rfl, rfl⟩ | ⟨hik, hmi⟩
    · rcases hNm j e' hj with ⟨rfl, rfl⟩ | ⟨hjk, hmj⟩
      · exact absurd rfl hij
      · rw [upd_same] at hc
        rw [upd_ne _ _ hjk]
        simp only [List.mem_singleton] at hc
        subst hc
        exact fun hc' => hb' (updFp_sub hl hmj c hc')
    · rw [upd_ne _ _ hik] at hc
      rcases hNm j e' hj with ⟨rfl, rfl⟩ | ⟨hjk, hmj⟩
      · rw [upd_same]
        intro hc'
        simp only [List.mem_singleton] at hc'
        subst hc'
        exact hb' (updFp_sub hl hmi c hc)
      · rw [upd_ne _ _ hjk]
        exact rowsF_apart hnd' hmi hmj hl hij c hc
  · have hjk : j ≠ k := fun e => by rw [e, hNk] at hj; cases hj
    rw [upd_ne _ _ hjk]
    have hKj := (hK j x hx).1
    by_cases g1 : j < 8 * κ
    · exact updFp_out (.inl g1)
    · by_cases g2 : 8 * κ + 8 ≤ j
      · exact updFp_out (.inr (by omega))
      · exact absurd hKj (hfr j (by omega) (by omega))
  · rw [updL_append, updL_split _ _ _ hsome, updL_drop]
    cases hN : updL (fun _ => none) (someL (rowsF (8 * κ) fs') ++ [(k, some (.cells T (cellsF (8 * κ) fs')))]) j with
    | some e => rfl
    | none =>
      have hjk : j ≠ k := fun e => by rw [e, hNk] at hN; cases hN
      simp [hjk]
theorem rowsF_K {fs : List AV} (hlen : fs.length ≤ 8) {j : Nat} {e : Ent} (hm : (j, e) ∈ rowsF (8 * κ) fs) : j / 8 = κ ∧ e.keys = [] := by
  have := rowsF_keys _ hm
  exact ⟨by simp only at this; omega, this.2.2⟩
theorem viewL_K (hK : KeysIn K h) {l : List SV} {as_ : List AV} {r : List Nat} (hv : viewL h l = some (as_, r)) : ∀ k ∈ r, K k := fun k hk => by
  obtain ⟨e, h1, _⟩ := viewL_rows hv k hk
  exact (hK k _ h1).1
end
def BorrowC.spec {P : Program} {f : FuncId} (p : BorrowC P f) : Spec P f where
  ev := fun W bs κ h args => borrowE h κ p.T (p.pre W bs) (p.out W) args
  good := fun W bs κ E F h w K args hs hK hk hx hside => by
    rw [p.enters]
    revert hside
    unfold borrowE
    split
    · rename_i k rest
      cases hkk : h k with
      | none => exact fun hf => hf.elim
      | some e =>
        cases e with
        | row T s n vs => exact fun hf => hf.elim
        | mp ks vs => exact fun hf => hf.elim
        | obj d R => exact fun hf => hf.elim
        | cells T' vs =>
          cases hr : viewL h rest with
          | none => exact fun hf => hf.elim
          | some q =>
            obtain ⟨as_, rs'⟩ := q
            simp only [borrowJ]
            cases hv : viewL h vs with
            | none => exact fun hf => hf.elim
            | some q =>
              obtain ⟨fs, rs⟩ := q
              simp only [borrowI]
              have hent := hs.ent k _ hkk
              obtain ⟨b, hu, _, _⟩ := hent
              have hden : den E (.own k 0) = E k := by simp [den, hu, base, ptrAt]
              have call : ∀ hn : (k :: rs).Nodup, T' = p.T → p.pre W bs fs as_ → Calls P f (denL E (.own k 0 :: rest)).toArray w fun e w' => bEnds w (E k) ((k :: rs).flatMap F) p.T e w' (p.out W fs as_) := fun hn hT hp => by
                subst hT
                have ho := obj_of_heap hs hkk hv hn
                have := p.ok W w bs (E k) _ (denL E rest) fs as_ hs.keeps ho (fun c hc => ?_) (fun c hc => ?_) (viewL_sat hs hr) hp
                · simpa only [denL, hden] using this
                · obtain ⟨j, hj, hcj⟩ := List.mem_flatMap.1 hc
                  rcases List.mem_cons.1 hj with rfl | hj
                  · exact hs.lt _ _ hkk c hcj
                  · obtain ⟨e, he⟩ := (viewL_fp hs hv).2 j hj
                    exact hs.lt j e he c hcj
                · obtain ⟨j, hj, hcj⟩ := List.mem_flatMap.1 hc
                  rcases List.mem_cons.1 hj with rfl | hj
                  · exact hs.mine _ _ hkk c hcj
                  · obtain ⟨e, he⟩ := (viewL_fp hs hv).2 j hj
                    exact hs.mine j e he c hcj
              cases hout : p.out W fs as_ with
              | ret v fs' =>
                simp only [borrowK]
                rintro ⟨⟨hT, hp⟩, hn, hd, hlen⟩
                have hc := call hn hT hp
                rw [hout] at hc
                subst hT
                refine hc.mono fun e w' he => ?_
                obtain ⟨rfl, ⟨fp', ho, h1, h2⟩, hkeep⟩ := he
                obtain ⟨E', F', hE', hs'⟩ := borrow_back hs hK hk hkk hv hlen hn ho h1 h2 hkeep
                exact ⟨rfl, E', F', hE', rfl, hs'⟩
              | pan c _ =>
                simp only [borrowK]
                rintro ⟨⟨hT, hp⟩, hn, hd⟩
                have hc := call hn hT hp
                rw [hout] at hc
                refine hc.mono fun e w' he => ?_
                obtain ⟨rfl, hkeep⟩ := he
                refine ⟨rfl, F, ?_⟩
                refine hs.trade hK (k :: rs) (fun _ => none) (fun j hj => ?_) (fun _ _ => rfl) (fun j e he => by cases he) (fun i j e e' _ he => by cases he) (fun _ _ _ _ => rfl) (fun j => ?_) hkeep
                · rcases List.mem_cons.1 hj with rfl | hj
                  · exact ⟨_, hkk⟩
                  · exact (viewL_fp hs hv).2 j hj
                · simp only [dropKeys]
    · exact fun hf => hf.elim
  keys := fun W bs κ h K args hK hx hside => by
    revert hside
    unfold borrowE
    split
    · rename_i k rest
      cases hkk : h k with
      | none => exact fun hf => hf.elim
      | some e =>
        cases e with
        | row T s n vs => exact fun hf => hf.elim
        | mp ks vs => exact fun hf => hf.elim
        | obj d R => exact fun hf => hf.elim
        | cells T' vs =>
          cases hr : viewL h rest with
          | none => exact fun hf => hf.elim
          | some q =>
            obtain ⟨as_, rs'⟩ := q
            simp only [borrowJ]
            cases hv : viewL h vs with
            | none => exact fun hf => hf.elim
            | some q =>
              obtain ⟨fs, rs⟩ := q
              simp only [borrowI]
              cases hout : p.out W fs as_ with
              | ret v fs' =>
                simp only [borrowK]
                rintro ⟨_, hn, hd, hlen⟩
                refine ⟨fun j hj => (by cases hj), fun q hq => ?_⟩
                simp only [List.mem_append, List.mem_singleton] at hq
                rcases hq with hq | hq | rfl
                · simp only [dropL, List.mem_map] at hq
                  obtain ⟨j, hj, rfl⟩ := hq
                  exact ⟨.inl (viewL_K hK hv j hj), fun e he => by cases he⟩
                · obtain ⟨e, h1, h2⟩ := someL_mem.1 hq
                  obtain ⟨h3, h4⟩ := rowsF_K hlen h2
                  refine ⟨.inr h3, fun e' he' j hj => ?_⟩
                  rw [h1] at he'
                  simp only [Option.some.injEq] at he'
                  subst he'
                  rw [h4] at hj
                  cases hj
                · refine ⟨.inl (hK k _ hkk).1, fun e' he' j hj => .inr ?_⟩
                  simp only [Option.some.injEq] at he'
                  subst he'
                  have := cellsF_keys j hj
                  omega
              | pan c _ =>
                simp only [borrowK]
                rintro _
                exact ⟨fun j hj => (by cases hj), fun q hq => by cases hq⟩
    · exact fun hf => hf.elim
  loc := fun W bs κ h h' args hside hr => by
    revert hside hr
    unfold borrowE
    split
    · rename_i k rest
      cases hkk : h k with
      | none => exact fun hf => hf.elim
      | some e =>
        cases e with
        | row T s n vs => exact fun hf => hf.elim
        | mp ks vs => exact fun hf => hf.elim
        | obj d R => exact fun hf => hf.elim
        | cells T' vs =>
          cases hrr : viewL h rest with
          | none => exact fun hf => hf.elim
          | some q =>
            obtain ⟨as_, rs'⟩ := q
            simp only [borrowJ]
            cases hv : viewL h vs with
            | none => exact fun hf => hf.elim
            | some q =>
              obtain ⟨fs, rs⟩ := q
              simp only [borrowI]
              have key : ∀ r : R, (∀ j ∈ r.reads, h' j = h j) → r.reads = k :: (rs ++ rs') → h' k = some (.cells T' vs) ∧ viewL h' rest = some (as_, rs') ∧ viewL h' vs = some (fs, rs) := fun r hr he => by
                rw [he] at hr
                exact ⟨by rw [hr k (by simp), hkk], viewL_loc hrr fun j hj => hr j (by simp [hj]), viewL_loc hv fun j hj => hr j (by simp [hj])⟩
              intro _ hr
              obtain ⟨g1, g2, g3⟩ := key _ hr (by cases p.out W fs as_ <;> rfl)
              rw [g1, g2]
              simp only [borrowJ, g3, borrowI]
    · exact fun hf => hf.elim
theorem borrowC_ev {P : Program} {f : FuncId} (p : BorrowC P f) (W : World) (bs : List Nat) (κ : Nat) (h : Hp) (l : List SV) : p.spec.ev W bs κ h l = borrowE h κ p.T (p.pre W bs) (p.out W) l := rfl
theorem borrowE_own (h : Hp) (κ k : Nat) (T : TypeId) (pre : List AV → List AV → Prop) (out : List AV → List AV → BOut) (rest : List SV) : borrowE h κ T pre out (.own k 0 :: rest) = borrowJ h κ k T pre out (h k) (viewL h rest) := rfl
theorem borrowJ_cells (h : Hp) (κ k : Nat) (T T' : TypeId) (pre : List AV → List AV → Prop) (out : List AV → List AV → BOut) (vs : List SV) (as_ : List AV) (rs' : List Nat) : borrowJ h κ k T pre out (some (.cells T' vs)) (some (as_, rs')) = borrowI κ k T T' pre out as_ rs' (viewL h vs) := rfl
theorem borrowI_some (κ k : Nat) (T T' : TypeId) (pre : List AV → List AV → Prop) (out : List AV → List AV → BOut) (as_ : List AV) (rs' : List Nat) (fs : List AV) (rs : List Nat) : borrowI κ k T T' pre out as_ rs' (some (fs, rs)) = borrowK κ k T (T' = T ∧ pre fs as_) rs rs' (out fs as_) := rfl
theorem borrowK_ret (κ k : Nat) (T : TypeId) (pre : Prop) (rs rs' : List Nat) (v : Value) (fs : List AV) : borrowK κ k T pre rs rs' (.ret v fs) = ⟨pre ∧ (k :: rs).Nodup ∧ (∀ j ∈ rs', j ∉ k :: rs) ∧ fs.length ≤ 8, .v v, dropL rs ++ (someL (rowsF (8 * κ) fs) ++ [(k, some (.cells T (cellsF (8 * κ) fs)))]), none, [], k :: (rs ++ rs')⟩ := rfl
theorem borrowK_pan (κ k : Nat) (T : TypeId) (pre : Prop) (rs rs' : List Nat) (c : List PanicEntry) (v : Value) : borrowK κ k T pre rs rs' (.pan c v) = ⟨pre ∧ (k :: rs).Nodup ∧ (∀ j ∈ rs', j ∉ k :: rs), .v v, [], some c, k :: rs, k :: (rs ++ rs')⟩ := rfl
theorem semUn_xor (k : IntKind) (n : Int) : semUn .xor [.v (.int k n)] = ⟨True, .v (.int k (bitsV .xor k (if k.signed then -1 else k.max) n)), [], none, [], []⟩ := rfl
theorem dropL_nil : dropL [] = [] := rfl
theorem dropL_cons (k : Nat) (r : List Nat) : dropL (k :: r) = (k, none) :: dropL r := rfl
theorem rowsF_nil (k : Nat) : rowsF k [] = [] := rfl
theorem rowsF_val (k : Nat) (v : Value) (r : List AV) : rowsF k (.val v :: r) = rowsF (k + 1) r := rfl
theorem rowsF_row (k : Nat) (T s n : Nat) (vs : List Value) (r : List AV) : rowsF k (.row T s n vs :: r) = (k, .row T s n (vs.map .v)) :: rowsF (k + 1) r := rfl
theorem cellsF_nil (k : Nat) : cellsF k [] = [] := rfl
theorem cellsF_val (k : Nat) (v : Value) (r : List AV) : cellsF k (.val v :: r) = .v v :: cellsF (k + 1) r := rfl
theorem cellsF_row (k : Nat) (T s n : Nat) (vs : List Value) (r : List AV) : cellsF k (.row T s n vs :: r) = .hd k :: cellsF (k + 1) r := rfl
theorem someL_nil : someL [] = [] := rfl
theorem someL_cons (k : Nat) (e : Ent) (r : List (Nat × Ent)) : someL ((k, e) :: r) = (k, some e) :: someL r := rfl
def σB (T : TypeId) (fs : List AV) (args : List Value) : St := ⟨1, frL ((0, .is (.own 0 0)) :: argL args 1), hpL ((0, .cells T (cellsF 1 fs)) :: rowsF 1 fs)⟩
theorem hpL_rows {k : Nat} {fs : List AV} {j : Nat} {e : Ent} (h : hpL (rowsF k fs) j = some e) : (j, e) ∈ rowsF k fs := hpL_cases h
theorem sat_borrow {w : World} {nt m : Nat} {T : TypeId} {fs : List AV} {u : Value} {fp : List Nat} (us : Array Value) (hlen : fs.length ≤ 7) (ho : objSat w u fp T fs) (hlt : ∀ b ∈ fp, b < w.heap.size) (hnt : us.size + 1 + m = nt) :
    Sat w fp nt ⟨[], [(0, u)]⟩ (σB T fs us.toList) { tmps := (#[u] ++ us) ++ Array.replicate m undef, defers := [] } w := by
  obtain ⟨b, vs, rfl, hb, hvs, rfl, hnd⟩ := ho
  have hl := avsSat_len hvs
  have hb' : b ∉ fpL vs fs := (List.nodup_cons.1 hnd).1
  have hnd' : (fpL vs fs).Nodup := (List.nodup_cons.1 hnd).2
  have at' : ∀ j e, hpL ((0, .cells T (cellsF 1 fs)) :: rowsF 1 fs) j = some e → (j = 0 ∧ e = .cells T (cellsF 1 fs)) ∨ (j ≠ 0 ∧ (j, e) ∈ rowsF 1 fs) := fun j e he => by
    simp only [hpL] at he
    by_cases hj : j = 0
    · subst hj; rw [upd_same] at he; cases he; exact .inl ⟨rfl, rfl⟩
    · rw [upd_ne _ _ hj] at he; exact .inr ⟨hj, hpL_rows he⟩
  have e0 : updE 1 vs (fun _ => .pointer (some ⟨b, 0, none⟩)) 0 = .pointer (some ⟨b, 0, none⟩) := updE_out (.inl (by omega))
  refine ⟨⟨updE 1 vs (fun _ => .pointer (some ⟨b, 0, none⟩)), upd (updFp 1 vs fs (fun _ => [])) 0 [b], fun t => ?_, ⟨fun j e he => ?_, fun j e he c hc => ?_, fun j e he c hc => ?_, fun i j e e' hij hi hj c hc => ?_, Keeps.refl w _⟩, fun p hp => ?_⟩, ?_, rfl, fun p hp => ?_, fun t k hk => ?_, fun j e he => ?_⟩
  · show fits _ (frL ((0, .is (.own 0 0)) :: argL us.toList 1) t) _
    simp only [frL, upd]
    split
    · rename_i ht
      subst ht
      simp only [fits, den, e0, base, ptrAt]
      rw [Array.getD_eq_getD_getElem?, Array.getElem?_append_left (by simp; omega), Array.getElem?_append_left (by simp)]
      rfl
    · refine argL_fits _ us.toList 1 t (fun t => ((#[Value.pointer (some ⟨b, 0, none⟩)] ++ us) ++ Array.replicate m undef).getD t undef) fun j hj => ?_
      have hj' : j < us.size := by simpa using hj
      rw [Array.getD_eq_getD_getElem?, Array.getElem?_append_left (by simp; omega), Array.getElem?_append_right (by simp)]
      simp [Array.getElem?_eq_getElem hj']
  · rcases at' j e he with ⟨rfl, rfl⟩ | ⟨hj, hm⟩
    · exact ⟨b, e0, by rw [upd_same], by rw [den_cellsF hvs]; exact hb⟩
    · rw [upd_ne _ _ hj]
      exact (rowsF_get hvs hm _).1
  · rcases at' j e he with ⟨rfl, rfl⟩ | ⟨hj, hm⟩
    · rw [upd_same] at hc; exact hlt c (by simp at hc; simp [hc])
    · rw [upd_ne _ _ hj] at hc; exact hlt c (List.mem_cons_of_mem _ (updFp_sub hl hm c hc))
  · right
    rcases at' j e he with ⟨rfl, rfl⟩ | ⟨hj, hm⟩
    · rw [upd_same] at hc; simp at hc; simp [hc]
    · rw [upd_ne _ _ hj] at hc; exact List.mem_cons_of_mem _ (updFp_sub hl hm c hc)
  · rcases at' i e hi with ⟨rfl, rfl⟩ | ⟨hi0, hmi⟩
    · rcases at' j e' hj with ⟨rfl, rfl⟩ | ⟨hj0, hmj⟩
      · exact absurd rfl hij
      · rw [upd_same] at hc
        rw [upd_ne _ _ hj0]
        simp only [List.mem_singleton] at hc
        subst hc
        exact fun hc' => hb' (updFp_sub hl hmj c hc')
    · rw [upd_ne _ _ hi0] at hc
      rcases at' j e' hj with ⟨rfl, rfl⟩ | ⟨hj0, hmj⟩
      · rw [upd_same]
        intro hc'
        simp only [List.mem_singleton] at hc'
        subst hc'
        exact hb' (updFp_sub hl hmi c hc)
      · rw [upd_ne _ _ hj0]
        exact rowsF_apart hnd' hmi hmj hl hij c hc
  · simp only [List.mem_singleton] at hp
    subst hp
    exact e0
  · simp; omega
  · simp only [List.mem_singleton] at hp
    subst hp
    show 0 / 8 < 1
    omega
  · simp only [σB, frL, upd] at hk
    split at hk
    · simp [FV.keys, SV.keys] at hk; subst hk; show 0 / 8 < 1; omega
    · rw [argL_keys] at hk; cases hk
  · rcases at' j e he with ⟨rfl, rfl⟩ | ⟨hj, hm⟩
    · refine ⟨by show 0 / 8 < 1; omega, fun i hi => ?_⟩
      have := cellsF_keys i hi
      show i / 8 < 1
      omega
    · have := rowsF_keys _ hm
      refine ⟨by show j / 8 < 1; simp only at this; omega, fun i hi => ?_⟩
      rw [this.2.2] at hi
      cases hi
theorem calls_borrow {P : Program} {f : FuncId} {fn : Func} {c : Code} {w : World} {nt : Nat} {T : TypeId} {u : Value} {fp : List Nat} {fs : List AV} {out : BOut} (us : Array Value) (rs : List ResultVar)
    (hlen : fs.length ≤ 7) (ho : objSat w u fp T fs) (hlt : ∀ b ∈ fp, b < w.heap.size)
    (hf : P.funcs[f]? = some fn) (hb : fn.body = some c) (hrs : fn.results.toList = rs) (hnt : us.size + 1 + (fn.ntmps - (us.size + 1)) = nt)
    (h : Wp P w fp nt ⟨[], [(0, u)]⟩ c (Fin P rs (fun _ _ x h => ∃ v fs', out = .ret v fs' ∧ (∀ E, den E x = v) ∧ ∃ vs ks, h 0 = some (.cells T vs) ∧ viewL h vs = some (fs', ks) ∧ (0 :: ks).Nodup) (fun c _ => ∃ v, out = .pan c v)) (σB T fs us.toList)) :
    Calls P f (#[u] ++ us) w fun e w' => bEnds w u fp T e w' out := by
  subst hrs
  have hsat := sat_borrow (nt := nt) (m := fn.ntmps - (us.size + 1)) us hlen ho hlt hnt
  have hsz : (#[u] ++ us).size = us.size + 1 := by simp; omega
  refine (calls_Wp hf hb (by rw [hsz]; exact hsat) h).mono fun e w' he => ?_
  cases e with
  | returned v' =>
    obtain ⟨W', bs', E, F, x, h', hx, ⟨v, fs', rfl, hd, vs, ks, h0, hv, hn⟩, rfl, hs, hp⟩ := he
    have hs' := hs.back hx
    have hE : E 0 = u := hp (0, u) (by simp)
    have ho' := obj_of_heap hs' h0 hv hn
    rw [hE] at ho'
    refine ⟨by rw [hd E], ⟨_, ho', fun b hb => ?_, fun b hb => ?_⟩, hs'.keeps⟩
    · obtain ⟨j, hj, hbj⟩ := List.mem_flatMap.1 hb
      have : ∃ e, h' j = some e := by
        rcases List.mem_cons.1 hj with rfl | hj
        · exact ⟨_, h0⟩
        · exact (viewL_fp hs' hv).2 j hj
      obtain ⟨e, he⟩ := this
      exact (hs'.mine j e he b hbj).symm
    · obtain ⟨j, hj, hbj⟩ := List.mem_flatMap.1 hb
      have : ∃ e, h' j = some e := by
        rcases List.mem_cons.1 hj with rfl | hj
        · exact ⟨_, h0⟩
        · exact (viewL_fp hs' hv).2 j hj
      obtain ⟨e, he⟩ := this
      exact hs'.lt j e he b hbj
  | panicked c =>
    obtain ⟨W', bs', E, F, h', hx, ⟨_, rfl⟩, hs, hp⟩ := he
    exact ⟨rfl, (hs.back hx).keeps⟩
  | outgrown => exact he.elim
end Go.LE
end
section
namespace Go.LE
def ev7 := (And.intro @semUn_xor (And.intro @borrowC_ev (And.intro @borrowE_own (And.intro @borrowJ_cells (And.intro @borrowI_some (And.intro @borrowK_ret (And.intro @borrowK_pan (And.intro @dropL_nil (And.intro @dropL_cons (And.intro @rowsF_nil (And.intro @rowsF_val (And.intro @rowsF_row (And.intro @cellsF_nil (And.intro @cellsF_val (And.intro @cellsF_row (And.intro @someL_nil @someL_cons))))))))))))))))
end Go.LE
end
section
namespace Go.LE
open Go.RowKit
theorem bitsN : IntKind.i64.bits = 64 ∧ IntKind.u64.bits = 64 ∧ IntKind.u8.bits = 8 ∧ IntKind.i32.bits = 32 ∧ IntKind.u32.bits = 32 ∧ IntKind.u16.bits = 16 := ⟨rfl, rfl, rfl, rfl, rfl, rfl⟩
structure PureX (P : Program) (f : FuncId) where
  pre : World → List Nat → List AV → Prop
  res : World → List AV → Value
  ok : ∀ (W w : World) (bs : List Nat) (us : List Value) (as_ : List AV), Keeps W bs w → avsSat w us as_ → pre W bs as_ → (callFunc f us.toArray).run P w = .ok (.value (res W as_)) w
def PureX.spec {P : Program} {f : FuncId} (p : PureX P f) : Spec P f where
  ev := fun W bs _ h args => pureK p.pre p.res W bs (viewL h args)
  good := fun W bs κ E F h w K args hs hK hk hx hside => by
    cases hv : viewL h args with
    | none => rw [hv] at hside; exact hside.elim
    | some q =>
      obtain ⟨as_, rs⟩ := q
      rw [hv] at hside
      rw [p.ok W w bs _ as_ hs.keeps (viewL_sat hs hv) hside]
      exact Good.pure hs rfl rfl rfl
  keys := fun W bs κ h K args hK hx hside => by
    cases hv : viewL h args with
    | none => rw [hv] at hside; exact hside.elim
    | some q => exact KeysOk.plain (fun k hk => by cases hk) rfl
  loc := fun W bs κ h h' args hside hr => by
    cases hv : viewL h args with
    | none => rw [hv] at hside; exact hside.elim
    | some q =>
      obtain ⟨as_, rs⟩ := q
      rw [hv] at hr
      rw [viewL_loc hv hr]
theorem pureX_ev {P : Program} {f : FuncId} (p : PureX P f) (W : World) (bs : List Nat) (κ : Nat) (h : Hp) (l : List SV) : p.spec.ev W bs κ h l = pureK p.pre p.res W bs (viewL h l) := rfl
theorem minN : min 6 8 = 6 ∧ min 6 64 = 6 ∧ min 4 8 = 4 ∧ min 1 64 = 1 ∧ min 2 64 = 2 ∧ min 4 64 = 4 ∧ min 8 64 = 8 ∧ min 16 64 = 16 ∧ min 32 64 = 32 := by decide
section
variable {P : Program} {W : World} {bs : List Nat} {κ : Nat} {h : Hp} {Γ : Env P}
theorem sem_makeFunc (fn : Fn) (first cap : Array Operand) (l : List SV) : sem Γ W bs κ h (.makeFunc fn first cap) l = ⟨True, .fn fn (l.take first.size) (l.drop first.size), [], none, [], []⟩ := rfl
theorem sem_typeAssert (x : Operand) (xT T : TypeId) (ok : Bool) (l : List SV) : sem Γ W bs κ h (.typeAssert x xT T ok) l = semAssert P T ok l := rfl
theorem sem_min (as_ : Array Operand) (tys : Array TypeId) (l : List SV) : sem Γ W bs κ h (.call { callee := .builtin .min, args := as_, argTypes := tys }) l = semMin l := rfl
theorem sem_max (as_ : Array Operand) (tys : Array TypeId) (l : List SV) : sem Γ W bs κ h (.call { callee := .builtin .max, args := as_, argTypes := tys }) l = semMax l := rfl
theorem semCall_fn (f : FuncId) (first cap rest : List SV) : semCall Γ W bs κ h (.fn (.func f) first cap :: rest) = semF Γ W bs κ h f (first ++ rest ++ cap) := rfl
theorem oneSV_fn (f : Fn) (a c : List SV) : oneSV (.fn f a c) = true := rfl
theorem partsOf_fn (f : Fn) (a c : List SV) : partsOf (.fn f a c) = [.fn f a c] := rfl
theorem oneSV_func (f : Fn) (a c : Array Value) : oneSV (.v (.func f a c)) = true := rfl
theorem partsOf_func (f : Fn) (a c : Array Value) : partsOf (.v (.func f a c)) = [.v (.func f a c)] := rfl
theorem oneSV_nilFunc : oneSV (.v .nilFunc) = true := rfl
theorem partsOf_nilFunc : partsOf (.v .nilFunc) = [.v .nilFunc] := rfl
def ncK (k o : Nat) : Option (List SV) → R
  | some vs => ⟨o < vs.length, .own k o, [], none, [], [k]⟩
  | none => .bad
theorem semNilCheck_ownK (k o : Nat) : semNilCheck h [.own k o] = ncK k o (entVs (h k)) := by
  simp only [semNilCheck]; unfold ncK
  rcases entVs (h k) with _ | vs <;> rfl
theorem ncK_some (k o : Nat) (vs : List SV) : ncK k o (some vs) = ⟨o < vs.length, .own k o, [], none, [], [k]⟩ := rfl
def ixO2 (k o n : Nat) (i : Int) (vs : List SV) : Option Nat → R
  | some sz => ⟨0 ≤ i ∧ i < n ∧ 1 < n ∧ o < vs.length, .own k (o + i.toNat * sz), [], none, [], [k]⟩
  | none => .bad
def ixO (P : Program) (k o : Nat) (i : Int) : Option TypeDesc → Option (List SV) → R
  | some (.array n e), some vs => ixO2 k o n i vs (ts P e)
  | _, _ => .bad
theorem semIndexAddr_own (T : TypeId) (k o : Nat) (ik : IntKind) (i : Int) : semIndexAddr P h T [.own k o, .v (.int ik i)] = ixO P k o i (P.underlying T) (entVs (h k)) := by
  simp only [semIndexAddr]; unfold ixO
  rcases P.underlying T with _ | d
  · rfl
  · rcases entVs (h k) with _ | vs
    · cases d <;> rfl
    · cases d <;> first | rfl | (rename_i n e; simp only [ixO2]; rcases ts P e with _ | sz <;> rfl)
theorem ixO_arr (k o : Nat) (i : Int) (n : Nat) (e : TypeId) (vs : List SV) : ixO P k o i (some (.array n e)) (some vs) = ixO2 k o n i vs (ts P e) := rfl
theorem ixO2_some (k o n : Nat) (i : Int) (vs : List SV) (sz : Nat) : ixO2 k o n i vs (some sz) = ⟨0 ≤ i ∧ i < n ∧ 1 < n ∧ o < vs.length, .own k (o + i.toNat * sz), [], none, [], [k]⟩ := rfl
def inB (n : Nat) (i : Int) (l : List SV) : Option Nat → Option Bool → R
  | some sz, some true => ⟨0 ≤ i ∧ i < n ∧ i.toNat * sz + sz ≤ l.length, .agg ((l.drop (i.toNat * sz)).take sz), [], none, [], []⟩
  | some sz, some false => ⟨0 ≤ i ∧ i < n ∧ i.toNat * sz < l.length, l.getD (i.toNat * sz) (.v undef), [], none, [], []⟩
  | _, _ => .bad
def inA (P : Program) (i : Int) (l : List SV) : Option TypeDesc → R
  | some (.array n e) => inB n i l (ts P e) (ta P e)
  | _ => .bad
theorem semIndex_agg (T : TypeId) (l : List SV) (ik : IntKind) (i : Int) : semIndex P T [.agg l, .v (.int ik i)] = inA P i l (P.underlying T) := by
  simp only [semIndex]; unfold inA
  rcases P.underlying T with _ | d
  · rfl
  · cases d <;> first | rfl | (rename_i n e; simp only [inB]; rcases ts P e with _ | sz <;> rcases ta P e with _ | b <;> first | rfl | (cases b <;> simp [partSV, R.req]))
theorem semIndex_vagg (T : TypeId) (cs : Array Value) (ik : IntKind) (i : Int) : semIndex P T [.v (.agg cs), .v (.int ik i)] = inA P i (cs.toList.map .v) (P.underlying T) := by
  simp only [semIndex]; unfold inA
  rcases P.underlying T with _ | d
  · rfl
  · cases d <;> first | rfl | (rename_i n e; simp only [inB]; rcases ts P e with _ | sz <;> rcases ta P e with _ | b <;> first | rfl | (cases b <;> simp [partSV, R.req]))
theorem inA_arr (i : Int) (l : List SV) (n : Nat) (e : TypeId) : inA P i l (some (.array n e)) = inB n i l (ts P e) (ta P e) := rfl
theorem inB_agg (n : Nat) (i : Int) (l : List SV) (sz : Nat) : inB n i l (some sz) (some true) = ⟨0 ≤ i ∧ i < n ∧ i.toNat * sz + sz ≤ l.length, .agg ((l.drop (i.toNat * sz)).take sz), [], none, [], []⟩ := rfl
theorem inB_one (n : Nat) (i : Int) (l : List SV) (sz : Nat) : inB n i l (some sz) (some false) = ⟨0 ≤ i ∧ i < n ∧ i.toNat * sz < l.length, l.getD (i.toNat * sz) (.v undef), [], none, [], []⟩ := rfl
def cvI (n : Int) : Option TypeDesc → Option TypeDesc → R
  | some _, some (.int k) => ⟨True, .v (.int k (k.wrap n)), [], none, [], []⟩
  | _, _ => .bad
theorem semConvert_int (src dst : TypeId) (k : IntKind) (n : Int) : semConvert P src dst [.v (.int k n)] = cvI n (P.underlying src) (P.underlying dst) := by
  simp only [semConvert]; unfold cvI
  rcases P.underlying src with _ | d <;> rcases P.underlying dst with _ | d' <;> first | rfl | (cases d' <;> rfl)
theorem cvI_int (n : Int) (d : TypeDesc) (k : IntKind) : cvI n (some d) (some (.int k)) = ⟨True, .v (.int k (k.wrap n)), [], none, [], []⟩ := rfl
theorem semPanic_i (t : TypeId) (x : Value) : semPanic [.v (.iface t x)] = ⟨True, .v undef, [], some [{ v := .iface t x, recovered := false }], [], []⟩ := rfl
def miK (P : Program) (T : TypeId) (l : List SV) : Option (List Value) → R
  | some vs => ⟨P.concrete T = true, .v (.iface T (.agg vs.toArray)), [], none, [], []⟩
  | none => ⟨P.concrete T = true, .ifc T (.agg l), [], none, [], []⟩
theorem semMkI_agg (T : TypeId) (l : List SV) : semMkI P T [.agg l] = miK P T l (valsL l) := by
  simp only [semMkI, valsOf_agg]; unfold miK
  rcases valsL l with _ | vs <;> rfl
theorem miK_some (T : TypeId) (l : List SV) (vs : List Value) : miK P T l (some vs) = ⟨P.concrete T = true, .v (.iface T (.agg vs.toArray)), [], none, [], []⟩ := rfl
def aK (T t : TypeId) (x : SV) (ok : Bool) : Option Bool → Option Value → R
  | some false, some z => match ok with
    | true => ⟨True, if t = T then .tup [x, .v (.bool true)] else .tup [.v z, .v (.bool false)], [], none, [], []⟩
    | false => ⟨t = T, x, [], none, [], []⟩
  | _, _ => .bad
theorem semAssert_v (T t : TypeId) (x : Value) (ok : Bool) : semAssert P T ok [.v (.iface t x)] = aK T t (.v x) ok (isIface P T) (tzv P T) := by
  simp only [semAssert]; unfold aK
  rcases isIface P T with _ | b
  · rfl
  · cases b <;> rcases tzv P T with _ | z <;> first | rfl | (cases ok <;> rfl)
theorem aK_false (T t : TypeId) (x : SV) (z : Value) : aK T t x false (some false) (some z) = ⟨t = T, x, [], none, [], []⟩ := rfl
theorem aK_true (T t : TypeId) (x : SV) (z : Value) : aK T t x true (some false) (some z) = ⟨True, if t = T then .tup [x, .v (.bool true)] else .tup [.v z, .v (.bool false)], [], none, [], []⟩ := rfl
def nK (ok : Bool) : Option Bool → Option Value → R
  | some false, some z => match ok with
    | true => ⟨True, .tup [.v z, .v (.bool false)], [], none, [], []⟩
    | false => .bad
  | _, _ => .bad
theorem semAssert_nil (T : TypeId) (ok : Bool) : semAssert P T ok [.v .nilIface] = nK ok (isIface P T) (tzv P T) := by
  simp only [semAssert]; unfold nK
  rcases isIface P T with _ | b
  · rfl
  · cases b <;> rcases tzv P T with _ | z <;> first | rfl | (cases ok <;> rfl)
theorem nK_true (z : Value) : nK true (some false) (some z) = ⟨True, .tup [.v z, .v (.bool false)], [], none, [], []⟩ := rfl
def isArrD : Option TypeDesc → Bool
  | some (.array _ _) => true
  | _ => false
theorem isArrD_arr (n : Nat) (e : TypeId) : isArrD (some (.array n e)) = true := rfl
def buildB (idx : List Nat) (args : List SV) (zs : List Value) : Option Nat → R
  | some sz => aggK (fillS sz (zs.map .v) (idx.zip args))
  | none => .bad
def buildA (P : Program) (idx : List Nat) (args : List SV) : Option (List Value) → Option TypeDesc → R
  | some zs, some (.array _ e) => buildB idx args zs (ts P e)
  | _, _ => .bad
theorem semBuild_arr (T : TypeId) (idx : List Nat) (args : List SV) (ha : isArrD (P.underlying T) = true) : semBuild P T idx args = buildA P idx args (tz P T) (P.underlying T) := by
  unfold isArrD at ha
  split at ha
  · rename_i n e hu
    unfold semBuild buildA
    rw [hu]
    cases tz P T with
    | none => rfl
    | some zs =>
      simp only [buildB, fillS, aggK]
      cases tfs P T <;> cases ts P e with
      | none => rfl
      | some sz => cases fillSV (fun i => some (i * sz, sz)) (zs.map .v) (idx.zip args) <;> rfl
  · cases ha
theorem buildA_arr (idx : List Nat) (args : List SV) (zs : List Value) (n : Nat) (e : TypeId) : buildA P idx args (some zs) (some (.array n e)) = buildB idx args zs (ts P e) := rfl
theorem buildB_some (idx : List Nat) (args : List SV) (zs : List Value) (sz : Nat) : buildB idx args zs (some sz) = aggK (fillS sz (zs.map .v) (idx.zip args)) := rfl
theorem semMin_two (a b : Int) : semMin [.v (.int .i64 a), .v (.int .i64 b)] = ⟨True, .v (.int .i64 (if b < a then b else a)), [], none, [], []⟩ := rfl
theorem semMax_two (a b : Int) : semMax [.v (.int .i64 a), .v (.int .i64 b)] = ⟨True, .v (.int .i64 (if a < b then b else a)), [], none, [], []⟩ := rfl
theorem semMax_three (a b c : Int) : semMax [.v (.int .i64 a), .v (.int .i64 b), .v (.int .i64 c)] = ⟨True, .v (.int .i64 (if (if a < b then b else a) < c then c else (if a < b then b else a))), [], none, [], []⟩ := rfl
end
open Classical in
noncomputable def dec {α : Type} (f : α → Value) (v : Value) : Option α := if h : ∃ a, v = f a then some h.choose else none
theorem dec_some {α : Type} {f : α → Value} {v : Value} {a : α} (h : dec f v = some a) : v = f a := by
  unfold dec at h
  split at h
  · rename_i h1
    simp only [Option.some.injEq] at h
    rw [← h]
    exact h1.choose_spec
  · cases h
theorem dec_eq {α : Type} {f : α → Value} (hf : ∀ a b, f a = f b → a = b) (a : α) : dec f (f a) = some a := by
  unfold dec
  have h1 : ∃ b, f a = f b := ⟨a, rfl⟩
  rw [dif_pos h1]
  exact congrArg some (hf _ _ h1.choose_spec).symm
section
variable {P : Program} (eqs : (T : TypeId) → Option (EqSpec P T)) (h : Hp) (op : BinOp) (T : TypeId) (X Y : Operand)
theorem eqRes_eql (p : Prop) (b : Bool) (rd : List Nat) : eqRes .eql p b rd = ⟨p, .v (.bool b), [], none, [], rd⟩ := rfl
theorem eqRes_neq (p : Prop) (b : Bool) (rd : List Nat) : eqRes .neq p b rd = ⟨p, .v (.bool (!b)), [], none, [], rd⟩ := rfl
theorem semBinN_int (k k' : IntKind) (a b : Int) : semBinN P eqs h op T X Y [.v (.int k a), .v (.int k' b)] = semBin P eqs op T [.v (.int k a), .v (.int k' b)] := rfl
theorem semBinN_str (a b : ByteArray) : semBinN P eqs h op T X Y [.v (.string a), .v (.string b)] = semBin P eqs op T [.v (.string a), .v (.string b)] := rfl
theorem semBinN_bool (a b : Bool) : semBinN P eqs h op T X Y [.v (.bool a), .v (.bool b)] = semBin P eqs op T [.v (.bool a), .v (.bool b)] := rfl
theorem semBinN_aa (a b : List SV) : semBinN P eqs h op T X Y [.agg a, .agg b] = semBin P eqs op T [.agg a, .agg b] := rfl
theorem semBinN_av (a : List SV) (b : Array Value) : semBinN P eqs h op T X Y [.agg a, .v (.agg b)] = semBin P eqs op T [.agg a, .v (.agg b)] := rfl
theorem semBinN_va (a : Array Value) (b : List SV) : semBinN P eqs h op T X Y [.v (.agg a), .agg b] = semBin P eqs op T [.v (.agg a), .agg b] := rfl
theorem semBinN_vv (a b : Array Value) : semBinN P eqs h op T X Y [.v (.agg a), .v (.agg b)] = semBin P eqs op T [.v (.agg a), .v (.agg b)] := rfl
theorem semBinN_nn : semBinN P eqs h op T X Y [.v .nilIface, .v .nilIface] = eqRes op (isIface P T = some true ∧ (isConstO X || isConstO Y) = true) true [] := rfl
theorem semBinN_ni (t : TypeId) (x : Value) : semBinN P eqs h op T X Y [.v .nilIface, .v (.iface t x)] = eqRes op (isIface P T = some true) false [] := rfl
theorem semBinN_in (t : TypeId) (x : Value) : semBinN P eqs h op T X Y [.v (.iface t x), .v .nilIface] = eqRes op (isIface P T = some true) false [] := rfl
theorem semBinN_nc (t : TypeId) (x : SV) : semBinN P eqs h op T X Y [.v .nilIface, .ifc t x] = eqRes op (isIface P T = some true) false [] := rfl
theorem semBinN_cn (t : TypeId) (x : SV) : semBinN P eqs h op T X Y [.ifc t x, .v .nilIface] = eqRes op (isIface P T = some true) false [] := rfl
theorem semBinN_pp : semBinN P eqs h op T X Y [.v (.pointer none), .v (.pointer none)] = eqRes op (isPtr P T = some true) true [] := rfl
theorem semBinN_pa (a : Addr) : semBinN P eqs h op T X Y [.v (.pointer none), .v (.pointer (some a))] = eqRes op (isPtr P T = some true) false [] := rfl
theorem semBinN_ap (a : Addr) : semBinN P eqs h op T X Y [.v (.pointer (some a)), .v (.pointer none)] = eqRes op (isPtr P T = some true) false [] := rfl
def eqOwn (P : Program) (op : BinOp) (T : TypeId) (k o : Nat) : Option (List SV) → R
  | some vs => eqRes op (isPtr P T = some true ∧ o < vs.length) false [k]
  | none => .bad
theorem eqOwn_some (k o : Nat) (vs : List SV) : eqOwn P op T k o (some vs) = eqRes op (isPtr P T = some true ∧ o < vs.length) false [k] := rfl
theorem semBinN_op (k o : Nat) : semBinN P eqs h op T X Y [.own k o, .v (.pointer none)] = eqOwn P op T k o (entVs (h k)) := by
  simp only [semBinN]; unfold eqOwn; cases entVs (h k) <;> rfl
theorem semBinN_po (k o : Nat) : semBinN P eqs h op T X Y [.v (.pointer none), .own k o] = eqOwn P op T k o (entVs (h k)) := by
  simp only [semBinN]; unfold eqOwn; cases entVs (h k) <;> rfl
theorem isConstO_const (v : Value) : isConstO (.const v) = true := rfl
theorem isConstO_tmp (t : Nat) : isConstO (.tmp t) = false := rfl
end
section
variable {P : Program} (h : Hp) (src dst : TypeId)
theorem semConvN_int (k : IntKind) (n : Int) : semConvN P h src dst [.v (.int k n)] = semConvert P src dst [.v (.int k n)] := rfl
theorem semConvN_str (s : ByteArray) : semConvN P h src dst [.v (.string s)] = semConvert P src dst [.v (.string s)] := rfl
theorem semConvN_hd (k : Nat) : semConvN P h src dst [.hd k] = cvH P src dst k (h k) := rfl
theorem cvH_row (k T n : Nat) (vs : List SV) : cvH P src dst k (some (.row T 1 n vs)) = cvB P k n (P.underlying src) (P.underlying dst) (bytesL vs) := rfl
theorem cvB_some (k n e : Nat) (ns : List Int) : cvB P k n (some (.slice e)) (some .string) (some ns) = ⟨P.underlying e = some (.int .u8) ∧ ns.length = n, .v (.string (strI ns)), [], none, [], [k]⟩ := rfl
theorem bytesL_nil : bytesL [] = some [] := rfl
theorem bytesL_cons (n : Int) (r : List SV) : bytesL (.v (.int .u8 n) :: r) = (bytesL r).map (n :: ·) := rfl
theorem bytesL_ints : ∀ ns : List Int, bytesL (ns.map fun n => SV.v (.int .u8 n)) = some ns
  | [] => rfl
  | n :: r => by rw [List.map_cons, bytesL_cons, bytesL_ints r]; rfl
end
end Go.LE
end
section
namespace Go.LE
def ev8 := (And.intro @pureX_ev (And.intro @sem_makeFunc (And.intro @sem_typeAssert (And.intro @sem_min (And.intro @sem_max (And.intro @semCall_fn (And.intro @oneSV_fn (And.intro @partsOf_fn (And.intro @oneSV_func (And.intro @partsOf_func (And.intro @oneSV_nilFunc (And.intro @partsOf_nilFunc (And.intro @semNilCheck_ownK (And.intro @ncK_some (And.intro @semIndexAddr_own (And.intro @ixO_arr (And.intro @ixO2_some (And.intro @semIndex_agg (And.intro @semIndex_vagg (And.intro @inA_arr (And.intro @inB_agg (And.intro @inB_one (And.intro @semConvert_int (And.intro @cvI_int (And.intro @semPanic_i (And.intro @semMkI_agg (And.intro @miK_some (And.intro @semAssert_v (And.intro @aK_false (And.intro @aK_true (And.intro @semAssert_nil (And.intro @nK_true (And.intro @isArrD_arr (And.intro @semBuild_arr (And.intro @buildA_arr (And.intro @buildB_some (And.intro @semMin_two (And.intro @semMax_two @semMax_three))))))))))))))))))))))))))))))))))))))
def ev9 := And.intro @rgoP_cons <| And.intro @rgoPK_some <| And.intro @rgoPK_none <| And.intro @rpAdd_mk <| (And.intro @eqRes_eql (And.intro @eqRes_neq (And.intro @semBinN_int (And.intro @semBinN_str (And.intro @semBinN_bool (And.intro @semBinN_aa (And.intro @semBinN_av (And.intro @semBinN_va (And.intro @semBinN_vv (And.intro @semBinN_nn (And.intro @semBinN_ni (And.intro @semBinN_in (And.intro @semBinN_nc (And.intro @semBinN_cn (And.intro @semBinN_pp (And.intro @semBinN_pa (And.intro @semBinN_ap (And.intro @eqOwn_some (And.intro @semBinN_op (And.intro @semBinN_po (And.intro @isConstO_const (And.intro @isConstO_tmp (And.intro @semConvN_int (And.intro @semConvN_str (And.intro @semConvN_hd (And.intro @cvH_row (And.intro @cvB_some (And.intro @bytesL_nil (And.intro @bytesL_cons @bytesL_ints)))))))))))))))))))))))))))))
end Go.LE
end
