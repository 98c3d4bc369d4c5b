/-
  LE, the engine, part 26: rows that say 'true, and the input reads as it did'; slices that come in, opened.
-/
import Derived.Test.YtoglkgbjehbcpaaE25
import Derived.WalkKit
import Derived.ProofKit
import Derived.OpenShut
import Derived.JoinedCond
import Derived.Lib.SmallJoins
import Derived.ReadAgain
import Derived.Deep.Slices
import Derived.Deep.Strs
namespace Go.LE
open Go.ChangeShapes Go.WideShapes Go.ChangeAt Go.RowKit
set_option linter.unusedVariables false
set_option linter.unusedSimpArgs false

section
variable {H : Type} {enc : TypeId × Value → H} {P : Program}
/-- 'post_of_same', where what is new may be frozen. -/
theorem post_low {f : Func} {s : ChangeSpec} {apart fresh handsOn again : Bool} {W W' : World} {args : Array Value} {v : Value} {ds gs : List (DataW H)} {before pa pv : List MemPlace}
    (hW : DataW.Whole enc P f.params.toList s.vars apart W args.toList ds gs before)
    (hres : ∀ (b : Nat) (sp : Nat → Bool) (hd : Bool), DataW.TrodAll enc P W' b sp hd f.resultTypes.toList (v.resultList f.resultTypes.size) (s.fn H (ds ++ gs)).results [])
    (hargs : ∀ sp : Nat → Bool, (∀ p ∈ before, sp p.block = true) → DataW.TrodAll enc P W' 0 sp true f.params.toList args.toList (s.fn H (ds ++ gs)).args pa)
    (hvars : ∀ sp : Nat → Bool, (∀ p ∈ before, sp p.block = true) → DataW.TrodVars enc P W' sp s.vars (s.fn H (ds ++ gs)).vars pv)
    (hps : before = pa ++ pv) (hk : W.keptBut W' (· ∈ before)) (hfz : ∀ a, a.block < W.heap.size → W'.frozen? a = W.frozen? a)
    (hok : ∀ (j : Nat) (t : TypeId) (r : Value), f.resultTypes[j]? = some t → (v.resultList f.resultTypes.size)[j]? = some r → Value.okWide P W' .any 0 t r) :
    s.post enc P f apart fresh handsOn again W args v W' := by
  have hlt := hW.lt
  have hold : ∀ p ∈ before, (fun b => decide (b < W.heap.size)) p.block = true := fun p hp => by simpa using hlt p hp
  refine ⟨ds, gs, before, [], pa, pv, hW, hres _ _ _, hargs _ hold, hvars _ hold, World.keptBut_mono (fun p hp => ⟨hp, ?_⟩) hk, fun _ => ?_⟩
  · rw [hps, List.mem_append] at hp
    exact Or.inr hp
  · obtain ⟨_, _, _, _, _, hz, hn⟩ := hW
    refine ⟨hok, _, _, ([] ++ pa) ++ pv, ⟨[] ++ pa, pv, trodAll_append (hargs _ (fun _ _ => rfl)) (hres _ _ _), hvars _ (fun _ _ => rfl), rfl, ?_, ?_⟩, ?_⟩
    · intro b off hp
      have hp' : MemPlace.cell b off ∈ before := by rw [hps]; simpa using hp
      rw [hfz _ (hlt _ hp')]
      exact hz b off hp'
    · intro ha
      have := hn ha
      rw [hps] at this
      simpa using this
    · intro p hp _
      rw [hps]
      simpa using hp

theorem trodAll_carry {W W' : World} : ∀ {ts : List TypeId} {vs : List Value} {ds : List (DataW H)} {ps : List MemPlace}, DataW.TrodAll enc P W 0 (fun _ => true) true ts vs ds ps → (∀ p ∈ ps, W.sameAt W' p) → DataW.TrodAll enc P W' 0 (fun _ => true) true ts vs ds ps
  | [], [], [], _, h, _ => h
  | t :: ts, v :: vs, d :: ds, ps, ⟨p, q, h1, h2, e⟩, hs => by
    subst e
    obtain ⟨n, hn⟩ := h1
    exact ⟨p, q, ⟨n, DataW.trod_carry n _ _ _ hn (fun x hx => hs x (List.mem_append_left _ hx))⟩, trodAll_carry h2 (fun x hx => hs x (List.mem_append_right _ hx)), rfl⟩

/-- THE LAW's ROW: true comes back, what came in stands. -/
theorem law_post {f : Func} {s : ChangeSpec} {tb : TypeId} (hl : laidOutB P = true) (hm : mapsRowed P = true)
    (hf : ((List.range P.types.size).all fun t => match P.underlying t with | some (.slice e) => decide (0 < P.cellsOf e) | _ => true) = true)
    (hT : f.params.all (fun t => decide (t < P.types.size)) = true) (hrt : f.resultTypes = #[tb]) (hb : P.underlying tb = some .bool) (hvs : s.vars = []) {W W' : World} {args : Array Value} {ds gs : List (DataW H)} {before : List MemPlace}
    (hW : DataW.Whole enc P f.params.toList s.vars false W args.toList ds gs before) (hres : (s.fn H (ds ++ gs)).results = [.lit (.bool true)]) (hargs : (s.fn H (ds ++ gs)).args = ds) (hv : (s.fn H (ds ++ gs)).vars = [])
    (hk : Keeps W [] W') : s.post enc P f false true false false W args (.bool true) W' := by
  have hb' := hk.below
  have hW' := hW
  obtain ⟨p, q, hA, hV, rfl, hfz, hnd⟩ := hW
  have hlt := hW'.lt
  have hq : q = [] := by rw [hvs] at hV; exact (trodVars_none hV).2
  subst hq
  refine post_low (pa := p) (pv := []) hW' (fun _ _ _ => ?_) (fun sp hsp => ?_) (fun sp hsp => ?_) rfl (hb'.frame _) (fun ad hlt => hb'.frozen hlt) ?_
  · rw [hrt, hres]
    exact trodAll_cons_mk (shut_bool hb _) trodAll_mk0
  · rw [hargs]
    refine DataW.TrodAll.respare (kids_rows hl hm) (slices_full_of P hf) (fun t ht => ?_) (trodAll_carry hA fun x hx => hb'.same (hlt x (by simpa using hx))) (fun x hx => hsp x (by simpa using hx))
    rw [Array.all_eq_true] at hT
    obtain ⟨i, hi, he⟩ := Array.mem_iff_getElem.1 (Array.mem_toList_iff.1 ht)
    have := hT i hi
    rw [he] at this
    simpa using this
  · rw [hvs, hv]; rfl
  · exact ok_one hrt rfl (okWide_bool_mk hb _)

/-- A SLICE THAT CAME IN: its elements' cells stand, and each reads as its datum. -/
theorem open_rows {W : World} {t e : TypeId} {c : Nat} {v : Value} {d : DataW H} {p : List MemPlace} (ht : P.underlying t = some (.slice e)) (hc : P.cellsOf e = c) (hok : ∃ a len cap, v = .slice a len cap) (h : DataW.Trod enc P W 0 (fun _ => true) true t v d p) :
    ∃ ao n cap m, ∃ (C : Nat → List Value) (D : Nat → DataW H) (rest : List (DataW H)), v = .slice ao n cap ∧ ((n = 0 ∧ d = .nil) ∨ d = .slice ((List.range n).map D) rest) ∧
      (∀ i, i < n → (C i).length = c ∧ ∃ pl, DataW.trod enc P W 0 (fun _ => true) true m e (C i) = some (D i, pl)) ∧ SlIs W ao ((List.range n).flatMap C) := by
  obtain ⟨a, len, cap, rfl⟩ := hok
  obtain ⟨fuel, h⟩ := h
  rcases Go.Deep.open_slice ht h with ⟨h1, h2⟩ | ⟨a', len', cap', m, n, D, Pl, h1, hb, hl, hm, hmm, hx, hi⟩
  · simp only [Value.cells, List.cons.injEq, and_true] at h1
    simp only [Prod.mk.injEq] at h2
    cases h1
    exact ⟨none, 0, 0, 0, fun _ => [], fun _ => .nil, [], rfl, .inl ⟨rfl, h2.1⟩, fun i hi => by omega, .inl rfl⟩
  · simp only [Value.cells, List.cons.injEq, and_true] at h1
    cases h1
    simp only [Prod.mk.injEq] at hx
    have hm' : m = cap := by simpa using hmm
    subst hm'
    have hC : ∀ i, i < len → ∃ cs : List Value, cs.length = c ∧ (∀ j, j < c → W.cell? (a'.add (i * c + j)) = cs[j]?) ∧ DataW.trod enc P W 0 (fun _ => true) true n e cs = some (D i, Pl i) := fun i hil => by
      obtain ⟨cs, h1, h2⟩ := hi i (by omega)
      obtain ⟨_, h3, h4⟩ := World.cells?_some h1
      rw [hc] at h3 h4
      refine ⟨cs, h3, fun j hj => ?_, h2⟩
      have := h4 j hj
      rwa [Go.Deep.add_add] at this
    obtain ⟨C, hC⟩ := Go.Deep.choose_lt hC
    refine ⟨some a', len, m, n, C, D, _, rfl, .inr hx.1, fun i hil => ⟨(hC i hil).1, Pl i, (hC i hil).2.2⟩, ?_⟩
    have hlen : ∀ k, k ≤ len → ((List.range k).flatMap C).length = k * c := fun k => by
      induction k with
      | zero => intro _; simp
      | succ k ih =>
        intro hk
        rw [List.range_succ, List.flatMap_append, List.length_append, ih (by omega)]
        simp [(hC k (by omega)).1, Nat.succ_mul]
    have hget : ∀ k, k ≤ len → ∀ j (hj : j < ((List.range k).flatMap C).length), W.cell? (a'.add j) = some ((List.range k).flatMap C)[j] := fun k => by
      induction k with
      | zero => intro _ j hj; simp at hj
      | succ k ih =>
        intro hk j hj
        have hf : (List.range (k + 1)).flatMap C = (List.range k).flatMap C ++ C k := by rw [List.range_succ, List.flatMap_append]; simp
        have hl := hlen k (by omega)
        simp only [hf] at hj ⊢
        by_cases hjk : j < k * c
        · rw [List.getElem_append_left (by omega)]
          exact ih (by omega) j (by omega)
        · rw [List.getElem_append_right (by omega)]
          have h1 := (hC k (by omega)).1
          simp only [List.length_append, hl, h1] at hj
          have := (hC k (by omega)).2.1 (j - k * c) (by omega)
          rw [show k * c + (j - k * c) = j by omega] at this
          rw [this]
          simp only [hl]
          rw [List.getElem?_eq_getElem]
    by_cases hz : (List.range len).flatMap C = []
    · exact .inl hz
    · have h0 := hget len (Nat.le_refl _) 0 (List.length_pos_iff.2 hz)
      have hsp := World.cell?_spot h0
      obtain ⟨b, o, sp⟩ := a'
      have hsp' : sp = none := by simpa [Addr.add] using hsp
      subst hsp'
      refine .inr ⟨b, o, rfl, fun j hj => ?_⟩
      have := hget len (Nat.le_refl _) j hj
      rwa [Addr.add_lit] at this
end
end Go.LE
