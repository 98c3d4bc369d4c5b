/-
  LE, the engine, part 14: the law of a region.
-/
import Derived.Test.YtoglkgbjehbcpaaE13
namespace Go.LE
open Go.RowKit
set_option linter.unusedSimpArgs false
set_option linter.unusedVariables false

/-- What stays throughout a call: the deferred calls; handles that are pinned down. -/
structure Aux where
  defers : List Deferred
  pins : List (Nat × Value)

def Pn (ds : Aux) (E : Nat → Value) : Prop := ∀ p ∈ ds.pins, E p.1 = p.2

/-- A symbolic state: the number of the next operation, the frame, own memory. -/
structure St where
  n : Nat
  φ : Fr
  h : Hp

structure Sat (W : World) (bs : List Nat) (nt : Nat) (ds : Aux) (σ : St) (a : Act) (w : World) : Prop where
  ex : ∃ E F, FrSat E σ.φ a ∧ HeapSat W bs E F σ.h w ∧ Pn ds E
  size : a.tmps.size = nt
  defers : a.defers = ds.defers
  pk : ∀ p ∈ ds.pins, p.1 / 8 < σ.n
  fk : FrKeys (· / 8 < σ.n) σ.φ
  hk : KeysIn (· / 8 < σ.n) σ.h

theorem updL_mem {α : Type} (f : Nat → α) {k : Nat} : ∀ {u : List (Nat × α)}, (∃ x, (k, x) ∈ u ∧ updL f u k = x) ∨ (k ∉ keysU u ∧ updL f u k = f k) := by
  intro u
  induction u generalizing f with
  | nil => exact .inr ⟨by simp [keysU], rfl⟩
  | cons p r ih =>
    obtain ⟨i, x⟩ := p
    simp only [updL]
    rcases ih (upd f i x) with ⟨y, h1, h2⟩ | ⟨h1, h2⟩
    · exact .inl ⟨y, by simp [h1], h2⟩
    · by_cases hk : k = i
      · subst hk
        exact .inl ⟨x, by simp, by rw [h2, upd_same]⟩
      · refine .inr ⟨?_, by rw [h2, upd_ne _ _ hk]⟩
        simp only [keysU, List.map_cons, List.mem_cons, not_or] at h1 ⊢
        exact ⟨hk, by simpa [keysU] using h1⟩

def anyD (ops : Array Oper) (φ : Fr) : Fr := fun t => if ops.toList.any (fun o => o.dst == some t) then .any else φ t

section
variable {P : Program} {W : World} {bs : List Nat} {nt : Nat} {ds : Aux} {ops : Array Oper} (Γ : Env P)

theorem step_idle {κ : Nat} {φ : Fr} {h : Hp} {o : Oper} (hg : (evG φ ops o.guard).2 = false) (hs : (step Γ W bs nt ops κ φ h o).side) :
    (∃ x, (step Γ W bs nt ops κ φ h o).fv = .cnd false x) ∧ (step Γ W bs nt ops κ φ h o).upd = [] := by
  have hn : o.guard.isNone = false := by
    cases hgn : o.guard.isNone with
    | false => rfl
    | true => rw [guard_true hgn] at hg; cases hg
  by_cases hp : ∃ c x y, o.op = .pick c x y
  · obtain ⟨c, x, y, hop⟩ := hp
    simp only [step, hop] at hs ⊢
    revert hs
    split
    · intro _; rw [hg, hn]; exact ⟨⟨_, rfl⟩, rfl⟩
    · exact fun hs => hs.elim
  · rw [step_notpick Γ fun c x y e => hp ⟨c, x, y, e⟩] at hs ⊢
    simp only [hg, hn]
    exact ⟨⟨_, rfl⟩, rfl⟩

/-- The keys that a set of operations may speak of. -/
def KS (n : Nat) (S : Nat → Bool) (k : Nat) : Prop := k / 8 < n ∨ ∃ j, S j = true ∧ k / 8 = n + j

/-- Where the walk stands when the operations in S are behind it. -/
structure Inv (W : World) (bs : List Nat) (nt : Nat) (ds : Aux) (T : List (Oper × S)) (σ : St) (S : Nat → Bool) (a : Act) (w : World) : Prop where
  ex : ∃ E F, FrSat E (accOf (fuL T) 0 S σ.φ) a ∧ HeapSat W bs E F (accOf (huL T) 0 S σ.h) w ∧ Pn ds E
  size : a.tmps.size = nt
  defers : a.defers = ds.defers
  fk : FrKeys (KS σ.n S) (accOf (fuL T) 0 S σ.φ)
  hk : KeysIn (KS σ.n S) (accOf (huL T) 0 S σ.h)

def lostOf (T : List (Oper × S)) : List Nat := T.flatMap fun p => p.2.uk ++ p.2.pupd

theorem step_uk {κ : Nat} {φ : Fr} {h : Hp} {o : Oper} {k : Nat} (hk : k ∈ keysU (step Γ W bs nt ops κ φ h o).upd) : k ∈ (step Γ W bs nt ops κ φ h o).uk := by
  by_cases hp : ∃ c x y, o.op = .pick c x y
  · obtain ⟨c, x, y, hop⟩ := hp
    simp only [step, hop] at hk ⊢
    split at hk <;> exact hk
  · rw [step_notpick Γ fun c x y e => hp ⟨c, x, y, e⟩] at hk ⊢
    simp only at hk ⊢
    revert hk
    cases (evG φ ops o.guard).2 with
    | true => exact fun hk => hk
    | false => exact fun hk => by cases hk

theorem acc_out {α : Type} {k : Nat} : ∀ {l : List (List (Nat × α))} {n : Nat} {S : Nat → Bool} {f : Nat → α}, (∀ u ∈ l, k ∉ keysU u) → accOf l n S f k = f k
  | [], _, _, _, _ => rfl
  | u :: r, n, S, f, h => by
    simp only [accOf]
    rw [acc_out fun v hv => h v (by simp [hv])]
    split
    · exact updL_out f (h u (by simp))
    · rfl

theorem one {σ : St} {Q : Exit → Act → World → Prop} {next : Act → World → Prop} {i : Nat} {o : Oper} {s : S} {S S' : Nat → Bool} {a : Act} {w : World}
    (hT : (tr Γ W bs nt ops ops.toList σ.n σ.φ σ.h)[i]? = some (o, s)) (hSi : S i = false) (hS'i : S' i = true) (hne : ∀ j, j ≠ i → S' j = S j)
    (agr : ∀ t ∈ o.looksAt ops, accOf (fuL (tr Γ W bs nt ops ops.toList σ.n σ.φ σ.h)) 0 S σ.φ t = accOf (fuL (tr Γ W bs nt ops ops.toList σ.n σ.φ σ.h)) 0 (fun j => decide (j < 0 + i)) σ.φ t)
    (agh : ∀ k ∈ s.reads, accOf (huL (tr Γ W bs nt ops ops.toList σ.n σ.φ σ.h)) 0 S σ.h k = accOf (huL (tr Γ W bs nt ops ops.toList σ.n σ.φ σ.h)) 0 (fun j => decide (j < 0 + i)) σ.h k)
    (insf : ∀ j v, i < j → (fuL (tr Γ W bs nt ops ops.toList σ.n σ.φ σ.h))[j]? = some v → S j = true → ∀ k ∈ keysU (fuOf o s), k ∉ keysU v)
    (insh : ∀ j v, i < j → (huL (tr Γ W bs nt ops ops.toList σ.n σ.φ σ.h))[j]? = some v → S j = true → ∀ k ∈ keysU s.upd, k ∉ keysU v)
    (I : Inv W bs nt ds (tr Γ W bs nt ops ops.toList σ.n σ.φ σ.h) σ S a w) (hside : s.side)
    (hnext : ∀ a' w', Inv W bs nt ds (tr Γ W bs nt ops ops.toList σ.n σ.φ σ.h) σ S' a' w' → next a' w')
    (hpan : ∀ c, s.pan = some c → ∀ a' w', Sat W bs nt ds ⟨σ.n, anyD ops σ.φ, dropKeys σ.h (lostOf (tr Γ W bs nt ops ops.toList σ.n σ.φ σ.h))⟩ a' w' → Q (.panic c) a' w')
    (hσf : FrKeys (· / 8 < σ.n) σ.φ) (hσh : KeysIn (· / 8 < σ.n) σ.h) (hσp : ∀ p ∈ ds.pins, p.1 / 8 < σ.n) :
    wpOp P ops Q i next a w := by
  obtain ⟨ho, hs⟩ := tr_spec Γ ops.toList σ.n 0 σ.φ σ.h i o s hT
  rw [Array.getElem?_toList] at ho
  have hfu : (fuL (tr Γ W bs nt ops ops.toList σ.n σ.φ σ.h))[i]? = some (fuOf o s) := by simp [fuL, hT]
  have hhu : (huL (tr Γ W bs nt ops ops.toList σ.n σ.φ σ.h))[i]? = some s.upd := by simp [huL, hT]
  have ef : accOf (fuL (tr Γ W bs nt ops ops.toList σ.n σ.φ σ.h)) 0 S' σ.φ = updL (accOf (fuL (tr Γ W bs nt ops ops.toList σ.n σ.φ σ.h)) 0 S σ.φ) (fuOf o s) :=
    acc_insert (Nat.zero_le i) hfu hSi hS'i hne insf
  have eh : accOf (huL (tr Γ W bs nt ops ops.toList σ.n σ.φ σ.h)) 0 S' σ.h = updL (accOf (huL (tr Γ W bs nt ops ops.toList σ.n σ.φ σ.h)) 0 S σ.h) s.upd :=
    acc_insert (Nat.zero_le i) hhu hSi hS'i hne insh
  obtain ⟨⟨E, F, hf, hh, hpn⟩, hsz, hdf, hfk, hhk⟩ := I
  have hsub : ∀ k, KS σ.n S k → KS σ.n S' k := fun k hk => hk.imp id fun ⟨j, hj, e⟩ => ⟨j, by
    by_cases hji : j = i
    · subst hji; rw [hSi] at hj; cases hj
    · rw [hne j hji]; exact hj, e⟩
  have hown : ∀ k, k / 8 = σ.n + i → KS σ.n S' k := fun k hk => .inr ⟨i, hS'i, hk⟩
  have hfresh : ∀ k, k / 8 = σ.n + i → ¬ KS σ.n S k := fun k hk hK => by
    rcases hK with hK | ⟨j, hj, e⟩
    · omega
    · have : j = i := by omega
      subst this; rw [hSi] at hj; cases hj
  -- the keys of the result
  have hkeys : (evG (accOf (fuL (tr Γ W bs nt ops ops.toList σ.n σ.φ σ.h)) 0 S σ.φ) ops o.guard).2 = true → step Γ W bs nt ops (σ.n + i) (accOf (fuL (tr Γ W bs nt ops ops.toList σ.n σ.φ σ.h)) 0 S σ.φ) (accOf (huL (tr Γ W bs nt ops ops.toList σ.n σ.φ σ.h)) 0 S σ.h) o = s →
      FrKeys (KS σ.n S') (updL (accOf (fuL (tr Γ W bs nt ops ops.toList σ.n σ.φ σ.h)) 0 S σ.φ) (fuOf o s)) ∧ KeysIn (KS σ.n S') (updL (accOf (huL (tr Γ W bs nt ops ops.toList σ.n σ.φ σ.h)) 0 S σ.h) s.upd) := by
    intro _ he
    have hk := step_keys Γ (W := W) (bs := bs) (nt := nt) (ops := ops) (κ := σ.n + i) (o := o) hfk hhk (by rw [he]; exact hside)
    rw [he] at hk
    have conv : ∀ k, KS σ.n S k ∨ k / 8 = σ.n + i → KS σ.n S' k := fun k hk => hk.elim (hsub k) (hown k)
    constructor
    · intro t k hkt
      rcases updL_mem (accOf (fuL (tr Γ W bs nt ops ops.toList σ.n σ.φ σ.h)) 0 S σ.φ) (k := t) (u := fuOf o s) with ⟨x, hx, hx'⟩ | ⟨_, hx'⟩
      · rw [hx'] at hkt
        have : x = s.fv := by
          unfold fuOf at hx
          cases hd : o.dst <;> simp [hd] at hx
          exact hx.2
        subst this
        exact conv k (hk.1 k hkt)
      · rw [hx'] at hkt
        exact hsub k (hfk t k hkt)
    · intro k e hke
      rcases updL_mem (accOf (huL (tr Γ W bs nt ops ops.toList σ.n σ.φ σ.h)) 0 S σ.h) (k := k) (u := s.upd) with ⟨x, hx, hx'⟩ | ⟨_, hx'⟩
      · rw [hx'] at hke
        have := hk.2 _ hx
        exact ⟨conv k this.1, fun j hj => conv j (this.2 e hke j hj)⟩
      · rw [hx'] at hke
        exact ⟨hsub k (hhk k e hke).1, fun j hj => hsub j ((hhk k e hke).2 j hj)⟩
  have hag := step_agree Γ (W := W) (bs := bs) (nt := nt) (ops := ops) (κ := σ.n + i) (o := o) (φ' := accOf (fuL (tr Γ W bs nt ops ops.toList σ.n σ.φ σ.h)) 0 S σ.φ) (h' := accOf (huL (tr Γ W bs nt ops ops.toList σ.n σ.φ σ.h)) 0 S σ.h) agr (by rw [← hs]; exact hside) (by rw [← hs]; exact agh)
  rw [← hs] at hag
  cases hgv : (evG (accOf (fuL (tr Γ W bs nt ops ops.toList σ.n σ.φ σ.h)) 0 S σ.φ) ops o.guard).2 with
  | true =>
    have he := hag.2 (by rw [← hag.1]; exact hgv)
    have hk' := hkeys hgv he
    refine step_wp Γ ho hf hh hsz hfk hhk hfresh (by rw [he]; exact hside) (fun hp a' w' E' F' hE hf' hh' hsz' hd' => hnext a' w' ?_) (fun c hc w' F' hh' => hpan c (by rw [he] at hc; exact hc) a w' ?_)
    · rw [he] at hf' hh'
      rw [putO_updL] at hf'
      exact ⟨⟨E', F', by rw [ef]; exact hf', by rw [eh]; exact hh', fun p hp => (hE p.1 (by have := hσp p hp; omega)).trans (hpn p hp)⟩, hsz', hd'.trans hdf, by rw [ef]; exact hk'.1, by rw [eh]; exact hk'.2⟩
    · rw [he] at hh'
      have hTm : (o, s) ∈ tr Γ W bs nt ops ops.toList σ.n σ.φ σ.h := List.mem_of_getElem? hT
      refine ⟨⟨E, F', ?_, hh'.drop ?_, hpn⟩, hsz, hdf, hσp, ?_, ?_⟩
      · intro t
        simp only [anyD]
        split
        · trivial
        · rename_i hnt
          have := hf t
          rwa [acc_out] at this
          intro u hu
          simp only [fuL, List.mem_map] at hu
          obtain ⟨p, hp, rfl⟩ := hu
          rw [keys_fuOf]
          intro hd
          obtain ⟨jj, hjj⟩ := List.getElem?_of_mem hp
          have := (tr_spec Γ ops.toList σ.n 0 σ.φ σ.h jj p.1 p.2 hjj).1
          exact hnt (List.any_eq_true.2 ⟨p.1, List.mem_of_getElem? this, by simp [hd]⟩)
      · intro k e hke
        simp only [dropKeys] at hke ⊢
        split at hke
        · cases hke
        · rename_i hnk
          rw [if_neg fun hm => hnk (List.mem_flatMap.2 ⟨_, hTm, by simp [hm]⟩), acc_out]
          · exact hke
          · intro u hu
            simp only [huL, List.mem_map] at hu
            obtain ⟨p, hp, rfl⟩ := hu
            intro hm
            obtain ⟨jj, hjj⟩ := List.getElem?_of_mem hp
            have := (tr_spec Γ ops.toList σ.n 0 σ.φ σ.h jj p.1 p.2 hjj).2
            refine hnk (List.mem_flatMap.2 ⟨p, hp, List.mem_append_left _ ?_⟩)
            rw [this] at hm ⊢
            exact step_uk Γ hm
      · intro t k hk
        simp only [anyD] at hk
        split at hk
        · cases hk
        · exact hσf t k hk
      · intro k e hke
        simp only [dropKeys] at hke
        split at hke
        · cases hke
        · exact hσh k e hke
  | false =>
    have hgs : (evG (accOf (fuL (tr Γ W bs nt ops ops.toList σ.n σ.φ σ.h)) 0 S σ.φ) ops o.guard).1 := by
      rw [hag.1]
      rw [hs] at hside
      exact (step_side Γ hside).1
    have hgv' := hgv
    rw [hag.1] at hgv'
    have hidle := step_idle Γ (W := W) (bs := bs) (nt := nt) (ops := ops) (κ := σ.n + i) (o := o) (h := accOf (huL (tr Γ W bs nt ops ops.toList σ.n σ.φ σ.h)) 0 (fun j => decide (j < 0 + i)) σ.h) hgv' (by rw [← hs]; exact hside)
    rw [← hs] at hidle
    obtain ⟨⟨x, hx⟩, hu⟩ := hidle
    have hw : Region.wanted o (yielded ops a.tmps) = false := by rw [evG_den hf hgs, hgv]
    unfold wpOp
    simp only [ho, hw, Bool.false_eq_true, if_false]
    have hdst : ∀ d, o.dst = some d → d < a.tmps.size := fun d hd => by
      rw [hsz]
      rw [hs] at hside
      exact (step_side Γ hside).2 d hd
    refine hnext _ _ ⟨⟨E, F, ?_, ?_, hpn⟩, ?_, ?_, ?_, ?_⟩
    · rw [ef, ← putO_updL]
      exact hf.put hdst (by rw [hx]; rfl)
    · rw [eh, hu]; exact hh
    · rw [← hsz]; cases o.dst <;> simp [Act.put]
    · rw [← hdf]; cases o.dst <;> simp [Act.put]
    · rw [ef]
      intro t k hkt
      rcases updL_mem (accOf (fuL (tr Γ W bs nt ops ops.toList σ.n σ.φ σ.h)) 0 S σ.φ) (k := t) (u := fuOf o s) with ⟨y, hy, hy'⟩ | ⟨_, hy'⟩
      · rw [hy'] at hkt
        have : y = s.fv := by
          unfold fuOf at hy
          cases hd : o.dst <;> simp [hd] at hy
          exact hy.2
        subst this
        rw [hx] at hkt
        cases hkt
      · rw [hy'] at hkt
        exact hsub k (hfk t k hkt)
    · rw [eh, hu]
      intro k e hke
      exact ⟨hsub k (hhk k e hke).1, fun j hj => hsub j ((hhk k e hke).2 j hj)⟩
end
end Go.LE
