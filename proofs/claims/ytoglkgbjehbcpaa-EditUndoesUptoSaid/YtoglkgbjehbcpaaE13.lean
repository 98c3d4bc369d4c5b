/-
  LE, the engine, part 13: a region, walked once in the text's order; what it comes to, in that order or in whatever order Go allows.
-/
import Derived.Test.YtoglkgbjehbcpaaE12
namespace Go.LE
open Go.RowKit
set_option linter.unusedSimpArgs false
set_option linter.unusedVariables false

section
variable {P : Program} {W : World} {bs : List Nat} {nt : Nat} {ops : Array Oper} {K : Nat → Prop} {κ : Nat} {φ φ' : Fr} {h h' : Hp} (Γ : Env P)

theorem step_notpick {o : Oper} (hop : ∀ c x y, o.op ≠ .pick c x y) : step Γ W bs nt ops κ φ h o = { side := (evG φ ops o.guard).1 ∧ (evL φ (evG φ ops o.guard).2 o.op.operands.toList).1 ∧ ((evG φ ops o.guard).2 = true → (sem Γ W bs κ h o.op (evL φ (evG φ ops o.guard).2 o.op.operands.toList).2).side) ∧ (∀ d, o.dst = some d → d < nt), fv := mkFV o.guard.isNone (evG φ ops o.guard).2 (sem Γ W bs κ h o.op (evL φ (evG φ ops o.guard).2 o.op.operands.toList).2).val, upd := bif (evG φ ops o.guard).2 then (sem Γ W bs κ h o.op (evL φ (evG φ ops o.guard).2 o.op.operands.toList).2).upd else [], pan := bif (evG φ ops o.guard).2 then (sem Γ W bs κ h o.op (evL φ (evG φ ops o.guard).2 o.op.operands.toList).2).pan else none, pupd := (sem Γ W bs κ h o.op (evL φ (evG φ ops o.guard).2 o.op.operands.toList).2).pupd, reads := (sem Γ W bs κ h o.op (evL φ (evG φ ops o.guard).2 o.op.operands.toList).2).reads, uk := keysU (sem Γ W bs κ h o.op (evL φ (evG φ ops o.guard).2 o.op.operands.toList).2).upd } := by
  unfold step
  split
  · rename_i c x y he
    exact absurd he (hop c x y)
  · rfl

theorem guard_true {o : Oper} (hn : o.guard.isNone = true) : (evG φ ops o.guard).2 = true := by
  cases hg : o.guard with
  | none => rfl
  | some p => rw [hg] at hn; cases hn

theorem step_side {o : Oper} (hs : (step Γ W bs nt ops κ φ h o).side) : (evG φ ops o.guard).1 ∧ ∀ d, o.dst = some d → d < nt := by
  by_cases hp : ∃ c x y, o.op = .pick c x y
  · obtain ⟨c, x, y, hop⟩ := hp
    simp only [step, hop] at hs
    revert hs
    split
    · exact fun hs => ⟨hs.1, hs.2.2.2.2⟩
    · exact fun hs => hs.elim
  · rw [step_notpick Γ fun c x y e => hp ⟨c, x, y, e⟩] at hs
    exact ⟨hs.1, hs.2.2.2⟩

theorem step_keys {o : Oper} (hKF : FrKeys K φ) (hK : KeysIn K h) (hs : (step Γ W bs nt ops κ φ h o).side) :
    (∀ k ∈ (step Γ W bs nt ops κ φ h o).fv.keys, K k ∨ k / 8 = κ) ∧ ∀ p ∈ (step Γ W bs nt ops κ φ h o).upd, (K p.1 ∨ p.1 / 8 = κ) ∧ ∀ e, p.2 = some e → ∀ k ∈ e.keys, K k ∨ k / 8 = κ := by
  by_cases hp : ∃ c x y, o.op = .pick c x y
  · obtain ⟨c, x, y, hop⟩ := hp
    simp only [step, hop] at hs ⊢
    revert hs
    split
    · rename_i cb hcb
      rintro ⟨hg, hc, ha, hb, hd⟩
      refine ⟨fun k hk => .inl ?_, by simp⟩
      obtain ⟨hgt, hk⟩ := mkFV_keys (fun hn => guard_true hn) hk
      rw [hgt] at ha hb hk
      rcases pickV_keys hk with ⟨hcb', hk⟩ | ⟨hcb', hk⟩
      · subst hcb'; exact evO_keys hKF rfl (ha rfl) hk
      · subst hcb'; exact evO_keys hKF rfl (hb rfl) hk
    · exact fun hs => hs.elim
  · rw [step_notpick Γ fun c x y e => hp ⟨c, x, y, e⟩] at hs ⊢
    obtain ⟨hg, he, hr, hd⟩ := hs
    simp only
    cases hgv : (evG φ ops o.guard).2 with
    | false =>
      refine ⟨fun k hk => ?_, by simp⟩
      have := mkFV_keys (fun hn => by rw [guard_true hn] at hgv; cases hgv) hk
      cases this.1
    | true =>
      rw [hgv] at he hr
      have hok := sem_keys Γ o.op _ hK (fun k hk => evL_keys hKF rfl he hk) (hr rfl)
      refine ⟨fun k hk => hok.1 k (mkFV_keys (fun _ => rfl) hk).2, fun p hp => hok.2 p (by simpa using hp)⟩

theorem evO_agree {g : Bool} {x : Operand} (hx : ∀ t, x = .tmp t → φ' t = φ t) : evO φ' g x = evO φ g x := by
  cases x with
  | tmp t => simp only [evO, hx t rfl]
  | const v => rfl
  | global g => rfl
  | func f => rfl
theorem evL_agree {g : Bool} : ∀ {l : List Operand}, (∀ t, Operand.tmp t ∈ l → φ' t = φ t) → evL φ' g l = evL φ g l
  | [], _ => rfl
  | x :: r, hx => by
    have e1 : evO φ' g x = evO φ g x := evO_agree fun t e => hx t (by simp [e])
    have e2 : evL φ' g r = evL φ g r := evL_agree (l := r) fun t e => hx t (by simp [e])
    simp only [evL, e1, e2]
theorem evG_agree {g : Option (Nat × Bool)} (hx : ∀ j w d, g = some (j, w) → (ops[j]?).bind (·.dst) = some d → φ' d = φ d) : evG φ' ops g = evG φ ops g := by
  cases g with
  | none => rfl
  | some p =>
    simp only [evG]
    cases hd : (ops[p.1]?).bind (·.dst) with
    | none => rfl
    | some d => simp only [hx p.1 p.2 d rfl hd]

theorem step_agree {o : Oper} (hφ : ∀ t ∈ o.looksAt ops, φ' t = φ t) (hs : (step Γ W bs nt ops κ φ h o).side) (hh : ∀ k ∈ (step Γ W bs nt ops κ φ h o).reads, h' k = h k) :
    evG φ' ops o.guard = evG φ ops o.guard ∧ ((evG φ ops o.guard).2 = true → step Γ W bs nt ops κ φ' h' o = step Γ W bs nt ops κ φ h o) := by
  have e1 : evG φ' ops o.guard = evG φ ops o.guard := evG_agree fun j w d hg hd => hφ d (List.mem_append_right _ (by simp [hg, hd]))
  have e2 : ∀ g, evL φ' g o.op.operands.toList = evL φ g o.op.operands.toList := fun g => evL_agree fun t ht => hφ t (List.mem_append_left _ (List.mem_filterMap.2 ⟨_, ht, rfl⟩))
  refine ⟨e1, fun hgt => ?_⟩
  by_cases hp : ∃ c x y, o.op = .pick c x y
  · obtain ⟨c, x, y, hop⟩ := hp
    have e3 : ∀ g z, z ∈ [c, x, y] → evO φ' g z = evO φ g z := fun g z hz => evO_agree fun t ht => hφ t (List.mem_append_left _ (List.mem_filterMap.2 ⟨z, by rw [hop]; simpa [Op.operands] using hz, by rw [ht]⟩))
    simp only [step, hop, e1, e3 _ c (by simp), e3 _ x (by simp), e3 _ y (by simp)]
  · have hn : ∀ c x y, o.op ≠ .pick c x y := fun c x y e => hp ⟨c, x, y, e⟩
    rw [step_notpick Γ hn] at hs hh ⊢
    rw [step_notpick Γ hn]
    simp only [e1, e2] at *
    rw [sem_loc Γ o.op _ h' (hs.2.2.1 hgt) hh]

/-! ### The walk in the text's order -/
def fuOf (o : Oper) (s : S) : List (Nat × FV) := match o.dst with
  | some d => [(d, s.fv)]
  | none => []
theorem putO_updL (φ : Fr) (o : Oper) (s : S) : putO φ o.dst s.fv = updL φ (fuOf o s) := by
  unfold putO fuOf
  cases o.dst <;> rfl
theorem keys_fuOf {o : Oper} {s : S} {t : Nat} : t ∈ keysU (fuOf o s) ↔ o.dst = some t := by
  unfold fuOf
  cases o.dst <;> simp [keysU, eq_comm]

def tr (Γ : Env P) (W : World) (bs : List Nat) (nt : Nat) (ops : Array Oper) : List Oper → Nat → Fr → Hp → List (Oper × S)
  | [], _, _, _ => []
  | o :: r, κ, φ, h => (o, step Γ W bs nt ops κ φ h o) :: tr Γ W bs nt ops r (κ + 1) (putO φ o.dst (step Γ W bs nt ops κ φ h o).fv) (updL h (step Γ W bs nt ops κ φ h o).upd)

def fuL (T : List (Oper × S)) : List (List (Nat × FV)) := T.map fun p => fuOf p.1 p.2
def huL (T : List (Oper × S)) : List (List (Nat × Option Ent)) := T.map fun p => p.2.upd

theorem acc_none {α : Type} : ∀ {l : List (List (Nat × α))} {n : Nat} {S : Nat → Bool} {f : Nat → α}, (∀ i, i < l.length → S (n + i) = false) → accOf l n S f = f
  | [], _, _, _, _ => rfl
  | u :: r, n, S, f, h => by
    have h0 := h 0 (by simp)
    simp only [Nat.add_zero] at h0
    simp only [accOf, h0, Bool.false_eq_true, if_false]
    exact acc_none fun i hi => by have := h (i + 1) (by simp; omega); rwa [show n + (i + 1) = n + 1 + i by omega] at this

theorem tr_spec : ∀ (l : List Oper) (κ m : Nat) (φ : Fr) (h : Hp) (i : Nat) (o : Oper) (s : S), (tr Γ W bs nt ops l κ φ h)[i]? = some (o, s) →
    l[i]? = some o ∧ s = step Γ W bs nt ops (κ + i) (accOf (fuL (tr Γ W bs nt ops l κ φ h)) m (fun j => decide (j < m + i)) φ) (accOf (huL (tr Γ W bs nt ops l κ φ h)) m (fun j => decide (j < m + i)) h) o
  | [], _, _, _, _, _, _, _, hT => by simp [tr] at hT
  | x :: r, κ, m, φ, h, 0, o, s, hT => by
    simp only [tr, List.getElem?_cons_zero, Option.some.injEq, Prod.mk.injEq] at hT
    obtain ⟨rfl, rfl⟩ := hT
    refine ⟨rfl, ?_⟩
    rw [acc_none (fun i _ => by simp), acc_none (fun i _ => by simp)]
    rfl
  | x :: r, κ, m, φ, h, i + 1, o, s, hT => by
    simp only [tr, List.getElem?_cons_succ] at hT
    obtain ⟨h1, h2⟩ := tr_spec r (κ + 1) (m + 1) _ _ i o s hT
    refine ⟨by simpa using h1, ?_⟩
    rw [h2]
    simp only [tr, fuL, huL, List.map_cons, accOf, show m < m + (i + 1) by omega, decide_true, if_true, ← putO_updL]
    rw [show κ + 1 + i = κ + (i + 1) by omega]
    congr 2 <;> (funext j; simp only [decide_eq_decide]; omega)

theorem tr_len : ∀ (l : List Oper) (κ : Nat) (φ : Fr) (h : Hp), (tr Γ W bs nt ops l κ φ h).length = l.length
  | [], _, _, _ => rfl
  | x :: r, κ, φ, h => by simp [tr, tr_len r]

theorem tr_get {l : List Oper} {κ : Nat} {φ : Fr} {h : Hp} {i : Nat} {o : Oper} (ho : l[i]? = some o) : ∃ s, (tr Γ W bs nt ops l κ φ h)[i]? = some (o, s) := by
  have hi : i < (tr Γ W bs nt ops l κ φ h).length := by rw [tr_len]; exact (List.getElem?_eq_some_iff.1 ho).1
  obtain ⟨o', s, hp⟩ : ∃ o' s, (tr Γ W bs nt ops l κ φ h)[i] = (o', s) := ⟨_, _, rfl⟩
  have hT : (tr Γ W bs nt ops l κ φ h)[i]? = some (o', s) := by rw [List.getElem?_eq_getElem hi, hp]
  have := (tr_spec Γ l κ 0 φ h i o' s hT).1
  rw [ho] at this
  cases this
  exact ⟨s, hT⟩

/-! ### What is asked of a region that draws its order -/
def cmpB (ops : Array Oper) (i j : Nat) : Bool := if i < j then ((Region.before ops).getD j 0).testBit i else ((Region.before ops).getD i 0).testBit j
def Cmp (ops : Array Oper) (i j : Nat) : Prop := (i < j → Reach ops i j) ∧ (j < i → Reach ops j i)
theorem cmpB_spec {i j : Nat} (h : cmpB ops i j = true) : Cmp ops i j := by
  unfold cmpB at h
  split at h
  · rename_i hij; exact ⟨fun _ => before_reach ops i j h, fun hji => by omega⟩
  · exact ⟨fun hij => by omega, fun _ => before_reach ops j i h⟩

structure Draws (ops : Array Oper) (T : List (Oper × S)) : Prop where
  edge : ∀ j o, ops[j]? = some o → ∀ e ∈ o.after, Region.binds .any e = true → e.on < j
  slot : ∀ i j oi oj t, i ≠ j → ops[i]? = some oi → ops[j]? = some oj → oj.dst = some t → t ∈ oi.looksAt ops ∨ oi.dst = some t → Cmp ops i j
  heap : ∀ i j oi oj si sj k, i ≠ j → T[i]? = some (oi, si) → T[j]? = some (oj, sj) → k ∈ keysU sj.upd → k ∈ si.reads ∨ k ∈ keysU si.upd → Cmp ops i j

end
end Go.LE
