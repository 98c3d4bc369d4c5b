/-
  LE, the engine, part 15: a region's code.
-/
import Derived.Test.YtoglkgbjehbcpaaE14
namespace Go.LE
open Go.RowKit
set_option linter.unusedSimpArgs false
set_option linter.unusedVariables false

/-- What a region comes to. -/
structure RG where
  side : Prop
  n : Nat
  φ : Fr
  h : Hp
  pans : List (Option (List PanicEntry))
  lost : List Nat
  fx : List (List Nat × List Nat)

section
variable {P : Program} {W : World} {bs : List Nat} {nt : Nat} {ds : Aux} {ops : Array Oper} (Γ : Env P)

def rgAdd (s : S) (g : RG) : RG := ⟨s.side ∧ g.side, g.n, g.φ, g.h, s.pan :: g.pans, s.uk ++ s.pupd ++ g.lost, (s.uk, s.reads) :: g.fx⟩

def rgo (Γ : Env P) (W : World) (bs : List Nat) (nt : Nat) (ops : Array Oper) : List Oper → Nat → Fr → Hp → RG
  | [], κ, φ, h => ⟨True, κ, φ, h, [], [], []⟩
  | o :: r, κ, φ, h => rgAdd (step Γ W bs nt ops κ φ h o) (rgo Γ W bs nt ops r (κ + 1) (putO φ o.dst (step Γ W bs nt ops κ φ h o).fv) (updL h (step Γ W bs nt ops κ φ h o).upd))

theorem rgo_tr : ∀ (l : List Oper) (κ m : Nat) (φ : Fr) (h : Hp),
    (rgo Γ W bs nt ops l κ φ h).φ = accOf (fuL (tr Γ W bs nt ops l κ φ h)) m (fun _ => true) φ ∧
    (rgo Γ W bs nt ops l κ φ h).h = accOf (huL (tr Γ W bs nt ops l κ φ h)) m (fun _ => true) h ∧
    (rgo Γ W bs nt ops l κ φ h).pans = (tr Γ W bs nt ops l κ φ h).map (·.2.pan) ∧
    (rgo Γ W bs nt ops l κ φ h).lost = lostOf (tr Γ W bs nt ops l κ φ h) ∧
    (rgo Γ W bs nt ops l κ φ h).fx = (tr Γ W bs nt ops l κ φ h).map (fun p => (p.2.uk, p.2.reads)) ∧
    ((rgo Γ W bs nt ops l κ φ h).side → ∀ p ∈ tr Γ W bs nt ops l κ φ h, p.2.side) ∧ (rgo Γ W bs nt ops l κ φ h).n = κ + l.length
  | [], _, _, _, _ => ⟨rfl, rfl, rfl, rfl, rfl, by simp [tr], rfl⟩
  | o :: r, κ, m, φ, h => by
    obtain ⟨h1, h2, h3, h4, h5, h6, h7⟩ := rgo_tr r (κ + 1) (m + 1) (putO φ o.dst (step Γ W bs nt ops κ φ h o).fv) (updL h (step Γ W bs nt ops κ φ h o).upd)
    simp only [rgo, rgAdd, tr, fuL, huL, lostOf, List.map_cons, accOf, if_true, List.flatMap_cons, List.mem_cons] at *
    refine ⟨by rw [h1, putO_updL], by rw [h2], by rw [h3], by rw [h4], by rw [h5], ?_, by rw [h7, List.length_cons]; omega⟩
    rintro ⟨hs, hr⟩ p (rfl | hp)
    · exact hs
    · exact h6 hr p hp

/-- Of a region that draws its order: what it asks of the slots. -/
def slotB (ops : Array Oper) : Bool :=
  (List.range ops.size).all fun j => match ops[j]? with
    | none => true
    | some oj => (oj.after.all fun e => !Region.binds .any e || decide (e.on < j)) && match oj.dst with
      | none => true
      | some t => (List.range ops.size).all fun i => i == j || match ops[i]? with
        | none => true
        | some oi => !((oi.looksAt ops).contains t || oi.dst == some t) || cmpB ops i j

/-- .. and of own memory. -/
def heapB (ops : Array Oper) (fx : List (List Nat × List Nat)) : Bool :=
  (List.range fx.length).all fun j => match fx[j]? with
    | none => true
    | some pj => pj.1.isEmpty || (List.range fx.length).all fun i => i == j || match fx[i]? with
      | none => true
      | some pi => (pj.1.all fun k => !(pi.2.contains k || pi.1.contains k)) || cmpB ops i j

theorem draws_of {σ : St} (h1 : slotB ops = true) (h2 : heapB ops (rgo Γ W bs nt ops ops.toList σ.n σ.φ σ.h).fx = true) : Draws ops (tr Γ W bs nt ops ops.toList σ.n σ.φ σ.h) := by
  have lt : ∀ {α : Type} {l : Array α} {i : Nat} {x : α}, l[i]? = some x → i < l.size := fun hx => (Array.getElem?_eq_some_iff.1 hx).1
  unfold slotB at h1
  rw [List.all_eq_true] at h1
  constructor
  · intro j o ho e he hb
    have := h1 j (List.mem_range.2 (lt ho))
    rw [ho] at this
    simp only [Bool.and_eq_true] at this
    have := Array.all_eq_true.1 this.1
    obtain ⟨i, hi, hie⟩ := Array.mem_iff_getElem.1 he
    have := this i hi
    rw [hie, hb] at this
    simpa using this
  · intro i j oi oj t hij hi hj hd hc
    have := h1 j (List.mem_range.2 (lt hj))
    rw [hj] at this
    simp only [Bool.and_eq_true, hd, List.all_eq_true] at this
    have := this.2 i (List.mem_range.2 (lt hi))
    rw [hi] at this
    have hij' : (i == j) = false := by simpa using hij
    simp only [hij', Bool.false_or] at this
    have hc' : ((oi.looksAt ops).contains t || oi.dst == some t) = true := by
      rcases hc with hc | hc
      · simp [hc]
      · simp [hc]
    rw [hc'] at this
    exact cmpB_spec (by simpa using this)
  · intro i j oi oj si sj k hij hi hj hk hc
    rw [(rgo_tr Γ ops.toList σ.n 0 σ.φ σ.h).2.2.2.2.1] at h2
    unfold heapB at h2
    rw [List.all_eq_true] at h2
    have llt : ∀ {l : List (Oper × S)} {i : Nat} {x : Oper × S}, l[i]? = some x → i < (l.map (fun p => (p.2.uk, p.2.reads))).length := fun hx => by simpa using (List.getElem?_eq_some_iff.1 hx).1
    have huk : ∀ (i : Nat) (o : Oper) (s : S), (tr Γ W bs nt ops ops.toList σ.n σ.φ σ.h)[i]? = some (o, s) → ∀ k ∈ keysU s.upd, k ∈ s.uk := fun i o s hT k hk => by
      have := (tr_spec Γ ops.toList σ.n 0 σ.φ σ.h i o s hT).2
      rw [this] at hk ⊢
      exact step_uk Γ hk
    have := h2 j (List.mem_range.2 (llt hj))
    simp only [List.getElem?_map, hj, Option.map_some, Bool.or_eq_true, List.all_eq_true] at this
    rcases this with this | this
    · have hk' := huk j oj sj hj k hk
      rw [List.isEmpty_iff] at this
      rw [this] at hk'
      cases hk'
    · have := this i (List.mem_range.2 (llt hi))
      simp only [hi, Option.map_some] at this
      have hij' : (i == j) = false := by simpa using hij
      rw [hij'] at this
      simp only [Bool.false_eq_true, false_or, Bool.or_eq_true, List.all_eq_true] at this
      rcases this with this | this
      · have := this k (huk j oj sj hj k hk)
        rcases hc with hc | hc
        · simp [hc] at this
        · simp [huk i oi si hi k hc] at this
      · exact cmpB_spec this

theorem inv_end {σ : St} {S : Nat → Bool} {a : Act} {w : World} (I : Inv W bs nt ds (tr Γ W bs nt ops ops.toList σ.n σ.φ σ.h) σ S a w) (hS : ∀ i, i < ops.size → S i = true) (hS' : ∀ i, S i = true → i < ops.size) (hσp : ∀ p ∈ ds.pins, p.1 / 8 < σ.n) :
    Sat W bs nt ds ⟨σ.n + ops.size, (rgo Γ W bs nt ops ops.toList σ.n σ.φ σ.h).φ, (rgo Γ W bs nt ops ops.toList σ.n σ.φ σ.h).h⟩ a w := by
  obtain ⟨e1, e2, _⟩ := rgo_tr Γ ops.toList σ.n 0 σ.φ σ.h (W := W) (bs := bs) (nt := nt) (ops := ops)
  have ef : accOf (fuL (tr Γ W bs nt ops ops.toList σ.n σ.φ σ.h)) 0 S σ.φ = accOf (fuL (tr Γ W bs nt ops ops.toList σ.n σ.φ σ.h)) 0 (fun _ => true) σ.φ := funext fun t => acc_congr rfl fun i u hi _ => by
    have := (List.getElem?_eq_some_iff.1 hi).1
    simp only [fuL, List.length_map, tr_len, Array.length_toList] at this
    rw [Nat.zero_add]; exact hS i this
  have eh : accOf (huL (tr Γ W bs nt ops ops.toList σ.n σ.φ σ.h)) 0 S σ.h = accOf (huL (tr Γ W bs nt ops ops.toList σ.n σ.φ σ.h)) 0 (fun _ => true) σ.h := funext fun t => acc_congr rfl fun i u hi _ => by
    have := (List.getElem?_eq_some_iff.1 hi).1
    simp only [huL, List.length_map, tr_len, Array.length_toList] at this
    rw [Nat.zero_add]; exact hS i this
  obtain ⟨hex, hsz, hdf, hfk, hhk⟩ := I
  rw [ef] at hfk hex
  rw [eh] at hhk hex
  have conv : ∀ k, KS σ.n S k → k / 8 < σ.n + ops.size := fun k hk => by
    rcases hk with hk | ⟨j, hj, e⟩
    · omega
    · have := hS' j hj; omega
  refine ⟨by rw [e1, e2]; exact hex, hsz, hdf, fun p hp => Nat.lt_of_lt_of_le (hσp p hp) (Nat.le_add_right _ _), ?_, ?_⟩
  · rw [e1]; exact fun t k hk => conv k (hfk t k hk)
  · rw [e2]; exact fun k e hk => ⟨conv k (hhk k e hk).1, fun j hj => conv j ((hhk k e hk).2 j hj)⟩

theorem inv_start {σ : St} {a : Act} {w : World} (hsat : Sat W bs nt ds σ a w) {V : Nat → Bool} (hS : ∀ i, V i = false) (T : List (Oper × S)) : Inv W bs nt ds T σ V a w := by
  obtain ⟨hex, hsz, hdf, _, hfk, hhk⟩ := hsat
  have ef : accOf (fuL T) 0 V σ.φ = σ.φ := acc_none fun i _ => hS _
  have eh : accOf (huL T) 0 V σ.h = σ.h := acc_none fun i _ => hS _
  refine ⟨by rw [ef, eh]; exact hex, hsz, hdf, ?_, ?_⟩
  · rw [ef]; exact fun t k hk => .inl (hfk t k hk)
  · rw [eh]; exact fun k e hk => ⟨.inl (hhk k e hk).1, fun j hj => .inl ((hhk k e hk).2 j hj)⟩

theorem region_seq {σ : St} {Q : Exit → Act → World → Prop} (hσf : FrKeys (· / 8 < σ.n) σ.φ) (hσh : KeysIn (· / 8 < σ.n) σ.h) (hσp : ∀ p ∈ ds.pins, p.1 / 8 < σ.n)
    (hside : ∀ p ∈ tr Γ W bs nt ops ops.toList σ.n σ.φ σ.h, p.2.side)
    (hQ : ∀ a' w', Sat W bs nt ds ⟨σ.n + ops.size, (rgo Γ W bs nt ops ops.toList σ.n σ.φ σ.h).φ, (rgo Γ W bs nt ops ops.toList σ.n σ.φ σ.h).h⟩ a' w' → Q .normal a' w')
    (hP : ∀ p ∈ tr Γ W bs nt ops ops.toList σ.n σ.φ σ.h, ∀ c, p.2.pan = some c → ∀ a' w', Sat W bs nt ds ⟨σ.n, anyD ops σ.φ, dropKeys σ.h (lostOf (tr Γ W bs nt ops ops.toList σ.n σ.φ σ.h))⟩ a' w' → Q (.panic c) a' w') :
    ∀ (m i : Nat), i + m = ops.size → ∀ a w, Inv W bs nt ds (tr Γ W bs nt ops ops.toList σ.n σ.φ σ.h) σ (fun j => decide (j < i)) a w → wpOps P ops Q (List.range' i m) a w
  | 0, i, hi, a, w, I => hQ a w (inv_end Γ I (fun j hj => by simp; omega) (fun j hj => by simp at hj; omega) hσp)
  | m + 1, i, hi, a, w, I => by
    rw [List.range'_succ, wpOps_cons]
    have hlt : i < ops.toList.length := by simp; omega
    obtain ⟨s, hT⟩ := tr_get Γ (W := W) (bs := bs) (nt := nt) (ops := ops) (κ := σ.n) (φ := σ.φ) (h := σ.h) (List.getElem?_eq_getElem hlt)
    have hz : ∀ j, decide (j < 0 + i) = decide (j < i) := fun j => by simp
    refine one Γ hT (S' := fun j => decide (j < i + 1)) (by simp) (by simp) (fun j hj => by simp; omega) (fun t _ => by simp only [hz]) (fun t _ => by simp only [hz]) (fun j v hj _ hs => by simp at hs; omega) (fun j v hj _ hs => by simp at hs; omega) I (hside _ (List.mem_of_getElem? hT)) (region_seq hσf hσh hσp hside hQ hP m (i + 1) (by omega)) (fun c hc a' w' => hP _ (List.mem_of_getElem? hT) c hc a' w') hσf hσh hσp

theorem region_any {σ : St} {Q : Exit → Act → World → Prop} (hσf : FrKeys (· / 8 < σ.n) σ.φ) (hσh : KeysIn (· / 8 < σ.n) σ.h) (hσp : ∀ p ∈ ds.pins, p.1 / 8 < σ.n)
    (hd : Draws ops (tr Γ W bs nt ops ops.toList σ.n σ.φ σ.h))
    (hside : ∀ p ∈ tr Γ W bs nt ops ops.toList σ.n σ.φ σ.h, p.2.side)
    (hQ : ∀ a' w', Sat W bs nt ds ⟨σ.n + ops.size, (rgo Γ W bs nt ops ops.toList σ.n σ.φ σ.h).φ, (rgo Γ W bs nt ops ops.toList σ.n σ.φ σ.h).h⟩ a' w' → Q .normal a' w')
    (hP : ∀ p ∈ tr Γ W bs nt ops ops.toList σ.n σ.φ σ.h, ∀ c, p.2.pan = some c → ∀ a' w', Sat W bs nt ds ⟨σ.n, anyD ops σ.φ, dropKeys σ.h (lostOf (tr Γ W bs nt ops ops.toList σ.n σ.φ σ.h))⟩ a' w' → Q (.panic c) a' w') :
    ∀ (fuel : Nat) (listed : Array Bool) (a : Act) (w : World), listed.size = ops.size → listed.toList.count false ≤ fuel →
      (∀ j o, ops[j]? = some o → listed.getD j false = true → ∀ e ∈ o.after, Region.binds .any e = true → listed.getD e.on false = true) →
      Inv W bs nt ds (tr Γ W bs nt ops ops.toList σ.n σ.φ σ.h) σ (fun j => listed.getD j false) a w → wpAny P .any ops Q fuel listed a w := by
  have gd : ∀ (l : Array Bool) i, i < l.size → l.getD i true = l.getD i false := fun l i hi => by simp [Array.getD_eq_getD_getElem?, Array.getElem?_eq_getElem hi]
  have done : ∀ (listed : Array Bool) (a : Act) (w : World), listed.size = ops.size → Region.ready .any ops listed = [] →
      Inv W bs nt ds (tr Γ W bs nt ops ops.toList σ.n σ.φ σ.h) σ (fun j => listed.getD j false) a w → Q .normal a w := by
    intro listed a w hsz hr I
    have all : ∀ i, i < ops.size → listed.getD i false = true := by
      intro i
      induction i using Nat.strongRecOn with
      | _ i ih =>
        intro hi
        cases hl : listed.getD i false with
        | true => rfl
        | false =>
          exfalso
          have : i ∈ Region.ready .any ops listed := by
            refine List.mem_filter.2 ⟨List.mem_range.2 hi, ?_⟩
            rw [gd _ _ (by omega), hl]
            simp only [Bool.not_false, Bool.true_and, Array.getElem?_eq_getElem hi, Option.map_some, Option.getD_some]
            rw [Array.all_eq_true]
            intro j hj
            cases hb : Region.binds .any (ops[i].after[j]) with
            | false => rfl
            | true =>
              have hlt := hd.edge i ops[i] (Array.getElem?_eq_getElem hi) (ops[i].after[j]) (Array.getElem_mem hj) hb
              simpa using ih _ hlt (by omega)
          rw [hr] at this
          cases this
    refine hQ a w (inv_end Γ I all (fun i hi => ?_) hσp)
    by_cases hlt : i < listed.size
    · omega
    · simp [Array.getD_eq_getD_getElem?, Array.getElem?_eq_none (Nat.le_of_not_lt hlt)] at hi
  intro fuel
  induction fuel with
  | zero =>
    intro listed a w hsz hc hcl I
    have hr : Region.ready .any ops listed = [] := by
      refine List.filter_eq_nil_iff.2 fun i hi => ?_
      have hi' : i < listed.size := by rw [hsz]; exact List.mem_range.1 hi
      have : listed.getD i true = true := by
        rw [Array.getD_eq_getD_getElem?, Array.getElem?_eq_getElem hi']
        simp only [Option.getD_some]
        have h0 := List.count_eq_zero.1 (Nat.le_zero.1 hc)
        cases hv : listed[i] with
        | true => rfl
        | false => exact absurd (by rw [← hv]; simp) h0
      simp [this]
    exact ⟨hr, done listed a w hsz hr I⟩
  | succ fuel ih =>
    intro listed a w hsz hc hcl I
    refine ⟨fun hr => done listed a w hsz hr I, fun i hi => ?_⟩
    obtain ⟨hi, hready⟩ := List.mem_filter.1 hi
    have hi := List.mem_range.1 hi
    have ho : ops[i]? = some ops[i] := Array.getElem?_eq_getElem hi
    have hil : i < listed.size := by omega
    rw [gd _ _ hil] at hready
    simp only [ho, Option.map_some, Option.getD_some, Bool.and_eq_true, Bool.not_eq_true'] at hready
    obtain ⟨hli, hpre⟩ := hready
    rw [Array.all_eq_true] at hpre
    obtain ⟨s, hT⟩ := tr_get Γ (W := W) (bs := bs) (nt := nt) (ops := ops) (κ := σ.n) (φ := σ.φ) (h := σ.h) (l := ops.toList) (i := i) (o := ops[i]) (by rw [Array.getElem?_toList]; exact ho)
    have hset : ∀ j, (listed.setIfInBounds i true).getD j false = if j = i then true else listed.getD j false := fun j => by
      simp only [Array.getD_eq_getD_getElem?, Array.getElem?_setIfInBounds]
      by_cases hji : i = j
      · subst hji; simp [hil]
      · rw [if_neg hji, if_neg (Ne.symm hji)]
    have hcl' : ∀ j o, ops[j]? = some o → (listed.setIfInBounds i true).getD j false = true → ∀ e ∈ o.after, Region.binds .any e = true → (listed.setIfInBounds i true).getD e.on false = true := by
      intro j o hj hl e he hb
      rw [hset] at hl ⊢
      split
      · rfl
      · split at hl
        · rename_i hji
          subst hji
          rw [ho] at hj
          cases hj
          obtain ⟨m, hm, hme⟩ := Array.mem_iff_getElem.1 he
          have := hpre m hm
          rw [hme, hb] at this
          simpa using this
        · exact hcl j o hj hl e he hb
    have rb : ∀ j, Reach ops j i → j ≠ i → listed.getD j false = true := fun j hr hji => by
      have := reach_closed (S := fun j => (listed.setIfInBounds i true).getD j false) hcl' hr (by simp only [hset, if_pos])
      simp only [hset, if_neg hji] at this
      exact this
    have ra : ∀ j, Reach ops i j → listed.getD j false = false := fun j hr => by
      cases hl : listed.getD j false with
      | false => rfl
      | true =>
        have := reach_closed (S := fun j => listed.getD j false) hcl hr hl
        simp only [hli] at this
        cases this
    have agree : ∀ j, j ≠ i → Cmp ops i j → listed.getD j false = decide (j < 0 + i) := fun j hji hc => by
      rw [Nat.zero_add]
      by_cases hlt : j < i
      · rw [rb j (hc.2 hlt) hji]; simp [hlt]
      · rw [ra j (hc.1 (by omega))]; simp [hlt]
    have self : listed.getD i false = decide (i < 0 + i) := by rw [hli]; simp
    have inT : ∀ (j : Nat) (v : List (Nat × FV)), (fuL (tr Γ W bs nt ops ops.toList σ.n σ.φ σ.h))[j]? = some v → ∃ (o : Oper) (s : S), (tr Γ W bs nt ops ops.toList σ.n σ.φ σ.h)[j]? = some (o, s) ∧ ops[j]? = some o ∧ v = fuOf o s := fun j v hv => by
      simp only [fuL, List.getElem?_map, Option.map_eq_some_iff] at hv
      obtain ⟨⟨o, s⟩, h1, h2⟩ := hv
      have := (tr_spec Γ ops.toList σ.n 0 σ.φ σ.h j o s h1).1
      rw [Array.getElem?_toList] at this
      exact ⟨o, s, h1, this, h2.symm⟩
    have inH : ∀ (j : Nat) (v : List (Nat × Option Ent)), (huL (tr Γ W bs nt ops ops.toList σ.n σ.φ σ.h))[j]? = some v → ∃ (o : Oper) (s : S), (tr Γ W bs nt ops ops.toList σ.n σ.φ σ.h)[j]? = some (o, s) ∧ v = s.upd := fun j v hv => by
      simp only [huL, List.getElem?_map, Option.map_eq_some_iff] at hv
      obtain ⟨⟨o, s⟩, h1, h2⟩ := hv
      exact ⟨o, s, h1, h2.symm⟩
    refine one Γ hT (S := fun j => listed.getD j false) (S' := fun j => (listed.setIfInBounds i true).getD j false) hli (by simp only [hset, if_pos]) (fun j hj => by simp only [hset, if_neg hj]) (fun t ht => ?_) (fun k hk => ?_) (fun j v hij hv hs k hk hk' => ?_) (fun j v hij hv hs k hk hk' => ?_) I (hside _ (List.mem_of_getElem? hT)) (fun a' w' I' => ?_) (fun c hc a' w' => hP _ (List.mem_of_getElem? hT) c hc a' w') hσf hσh hσp
    · refine acc_congr rfl fun j u hj hju => ?_
      obtain ⟨o', s', _, hj', rfl⟩ := inT j u hj
      rw [Nat.zero_add]
      by_cases hji : j = i
      · subst hji; exact self
      · exact agree j hji (hd.slot i j _ o' t (Ne.symm hji) ho hj' (keys_fuOf.1 hju) (.inl ht))
    · refine acc_congr rfl fun j u hj hju => ?_
      obtain ⟨o', s', hj', rfl⟩ := inH j u hj
      rw [Nat.zero_add]
      by_cases hji : j = i
      · subst hji; exact self
      · exact agree j hji (hd.heap i j _ o' _ s' k (Ne.symm hji) hT hj' hju (.inl hk))
    · obtain ⟨o', s', _, hj', rfl⟩ := inT j v hv
      have := ra j ((hd.slot i j _ o' k (by omega) ho hj' (keys_fuOf.1 hk') (.inr (keys_fuOf.1 hk))).1 hij)
      rw [this] at hs
      cases hs
    · obtain ⟨o', s', hj', rfl⟩ := inH j v hv
      have := ra j ((hd.heap i j _ o' _ s' k (by omega) hT hj' hk' (.inr hk)).1 hij)
      rw [this] at hs
      cases hs
    · refine ih _ a' w' (by simpa using hsz) ?_ hcl' I'
      rw [Array.toList_setIfInBounds, List.count_set (by simpa using hil)]
      have e1 : listed.toList[i]'(by simpa using hil) = false := by
        rw [Array.getD_eq_getD_getElem?, Array.getElem?_eq_getElem hil] at hli
        simpa using hli
      rw [e1]
      have hpos : 0 < listed.toList.count false := List.count_pos_iff.2 (e1 ▸ List.getElem_mem _)
      simp only [beq_self_eq_true, if_true, show (true == false) = false from rfl, Bool.false_eq_true, if_false]
      omega

/-- **A REGION'S CODE.** -/
theorem region_wp {id : Nat} {d : Bool} {σ : St} {Q : Exit → Act → World → Prop} {a : Act} {w : World} (hm : P.follows .mixedOrders = true) (hsat : Sat W bs nt ds σ a w)
    {g : RG} (hg : rgo Γ W bs nt ops ops.toList σ.n σ.φ σ.h = g) (hside : g.side) (hd : d = true → slotB ops = true ∧ heapB ops g.fx = true)
    (hQ : ∀ a' w', Sat W bs nt ds ⟨g.n, g.φ, g.h⟩ a' w' → Q .normal a' w')
    (hP : ∀ c, some c ∈ g.pans → ∀ a' w', Sat W bs nt ds ⟨σ.n, anyD ops σ.φ, dropKeys σ.h g.lost⟩ a' w' → Q (.panic c) a' w') :
    (Code.region id ops d).wp P Q a w := by
  subst hg
  obtain ⟨_, _, h3, h4, _, h6, h7⟩ := rgo_tr Γ ops.toList σ.n 0 σ.φ σ.h (W := W) (bs := bs) (nt := nt) (ops := ops)
  rw [Array.length_toList] at h7
  rw [h7] at hQ
  have hP' : ∀ p ∈ tr Γ W bs nt ops ops.toList σ.n σ.φ σ.h, ∀ c, p.2.pan = some c → ∀ a' w', Sat W bs nt ds ⟨σ.n, anyD ops σ.φ, dropKeys σ.h (lostOf (tr Γ W bs nt ops ops.toList σ.n σ.φ σ.h))⟩ a' w' → Q (.panic c) a' w' := by
    intro p hp c hc
    rw [← h4]
    exact hP c (by rw [h3]; exact List.mem_map.2 ⟨p, hp, hc⟩)
  cases d with
  | false =>
    refine wp_region ?_
    rw [List.range_eq_range']
    exact region_seq Γ hsat.fk hsat.hk hsat.pk (h6 hside) hQ hP' ops.size 0 (by omega) a w (inv_start hsat (by simp) _)
  | true =>
    refine wp_region_any hm ?_
    have hsat' : Sat W bs nt ds σ a { w with drawn := w.drawn + 1 } := by
      obtain ⟨⟨E, F, hf, hh, hp⟩, h1, h2, h3, h4, h5⟩ := hsat
      exact ⟨⟨E, F, hf, hh.grow ⟨rfl, rfl, rfl, Nat.le_refl _, fun _ _ _ => rfl⟩, hp⟩, h1, h2, h3, h4, h5⟩
    have hz : ∀ i, (Array.replicate ops.size false).getD i false = false := fun i => by
      simp only [Array.getD_eq_getD_getElem?, Array.getElem?_replicate]
      split <;> rfl
    refine region_any Γ hsat.fk hsat.hk hsat.pk (draws_of Γ (hd rfl).1 (hd rfl).2) (h6 hside) hQ hP' ops.size _ a _ (by simp) (by simp [List.count_replicate]) (fun j o _ hj => by rw [hz] at hj; cases hj) (inv_start hsat' hz _)
end
end Go.LE
