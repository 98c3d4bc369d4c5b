/-
  LE, the engine, part 17: into a function and out of it.
-/
import Derived.Test.YtoglkgbjehbcpaaE16
namespace Go.LE
open Go.RowKit
set_option linter.unusedSimpArgs false
set_option linter.unusedVariables false

section
variable {P : Program} {W : World} {bs : List Nat} {nt : Nat} {ds : Aux} {σ : St}

theorem load_own {E : Nat → Value} {F : Nat → List Nat} {h : Nat → Option Ent} {w : World} {T : TypeId} {k o : Nat} (hs : HeapSat W bs E F h w) (hside : (semLoad P W bs h T [.own k o]).side) :
    ∃ a, den E (.own k o) = .pointer (some a) ∧ (loadVar T a).run P w = .ok (den E (semLoad P W bs h T [.own k o]).val) w := by
  revert hside
  simp only [semLoad]
  split
  · rename_i sz vs hsz hag hvs
    rintro ⟨hlen, hpos⟩
    obtain ⟨b, hb, hcells⟩ := ent_cells hs hvs (by omega)
    have hrun : (loadVar T ⟨b, 0 + o, none⟩).run P w = .ok (.agg (((denL E vs).drop o).take sz).toArray) w := by
      refine run_loadVar_agg hsz hag _ _ (by simp [denL_length]; omega) fun j v hj => ?_
      have hjl : j < sz := by
        have := (List.getElem?_eq_some_iff.1 hj).1
        simp at this; omega
      rw [Addr.add_lit, Nat.zero_add, hcells (o + j) (by omega)]
      rw [List.getElem?_take, if_pos hjl, List.getElem?_drop] at hj
      rw [hj]; rfl
    refine ⟨⟨b, 0 + o, none⟩, by simp [den, hb, ptrAt], ?_⟩
    rw [hrun]
    simp [den, denL_eq_map, List.map_take, List.map_drop]
  · rename_i sz vs hsz hag hvs
    intro hlen
    obtain ⟨b, hb, hcells⟩ := ent_cells hs hvs (Nat.zero_lt_of_lt hlen)
    have hrun := run_loadVar_one (w := w) hag ⟨b, 0 + o, none⟩ ((denL E vs)[o]?.getD undef) (by rw [Nat.zero_add]; exact hcells o hlen)
    refine ⟨⟨b, 0 + o, none⟩, by simp [den, hb, ptrAt], ?_⟩
    rw [hrun, denL_getD]
  · exact fun hf => hf.elim

def resOne (P : Program) (W : World) (bs : List Nat) (σ : St) : ResultVar → Prop × SV
  | .tmp t => match σ.φ t with
    | .is x => (True, x)
    | .cnd b x => (b = true, x)
    | .any => (False, .v undef)
  | .cell t T => match σ.φ t with
    | .is (.own k o) => ((semLoad P W bs σ.h T [.own k o]).side, (semLoad P W bs σ.h T [.own k o]).val)
    | _ => (False, .v undef)
def resL (P : Program) (W : World) (bs : List Nat) (σ : St) : List ResultVar → Prop × List SV
  | [] => (True, [])
  | r :: l => ((resOne P W bs σ r).1 ∧ (resL P W bs σ l).1, (resOne P W bs σ r).2 :: (resL P W bs σ l).2)
def tupOf : List SV → SV
  | [x] => x
  | l => .tup l

/-- Where a call ends. -/
def Fin (P : Program) (rs : List ResultVar) (R : World → List Nat → SV → Hp → Prop) (RP : List PanicEntry → Hp → Prop) : Post
  | .normal, W, bs, σ | .ret, W, bs, σ => (resL P W bs σ rs).1 ∧ R W bs (tupOf (resL P W bs σ rs).2) σ.h
  | .panic c, _, _, σ => RP c σ.h
  | _, _, _, _ => False

def Ends (W : World) (bs : List Nat) (pins : List (Nat × Value)) (R : World → List Nat → SV → Hp → Prop) (RP : List PanicEntry → Hp → Prop) : Ending → World → Prop
  | .returned v, w' => ∃ W' bs' E F x h, Ext W bs W' bs' ∧ R W' bs' x h ∧ v = den E x ∧ HeapSat W' bs' E F h w' ∧ ∀ p ∈ pins, E p.1 = p.2
  | .panicked c, w' => ∃ W' bs' E F h, Ext W bs W' bs' ∧ RP c h ∧ HeapSat W' bs' E F h w' ∧ ∀ p ∈ pins, E p.1 = p.2
  | .outgrown, _ => False

def resRun (a : Act) : ResultVar → Sem Value
  | .tmp t => pure (a.tmps.getD t undef)
  | .cell x t => do loadVar t (← asAddr (a.tmps.getD x undef))

theorem resOne_run {E : Nat → Value} {F : Nat → List Nat} {a : Act} {w : World} (hφ : FrSat E σ.φ a) (hs : HeapSat W bs E F σ.h w) (r : ResultVar) (hr : (resOne P W bs σ r).1) :
    (resRun a r).run P w = .ok (den E (resOne P W bs σ r).2) w := by
  cases r with
  | tmp t =>
    have := hφ t
    simp only [resOne, resRun] at hr ⊢
    revert hr this
    cases σ.φ t with
    | is x => intro _ h; simp only [fits] at h; rw [h]; rfl
    | cnd b x =>
      intro hb h
      simp only at hb
      subst hb
      simp only [fits, cond_true] at h
      rw [h]; rfl
    | any => exact fun hf _ => hf.elim
  | cell t T =>
    have := hφ t
    simp only [resOne, resRun] at hr ⊢
    revert hr this
    split
    · rename_i k o hk
      intro hr h
      rw [hk] at h
      simp only [fits] at h
      obtain ⟨ad, h1, h2⟩ := load_own hs hr
      rw [h, h1]
      simpa [asAddr] using h2
    · exact fun hf _ => hf.elim

theorem resL_run {E : Nat → Value} {F : Nat → List Nat} {a : Act} {w : World} (hφ : FrSat E σ.φ a) (hs : HeapSat W bs E F σ.h w) : ∀ (l : List ResultVar), (resL P W bs σ l).1 →
    (l.mapM (resRun a)).run P w = .ok (denL E (resL P W bs σ l).2) w
  | [], _ => rfl
  | r :: l, h => by
    have h1 := resOne_run hφ hs r h.1
    have h2 := resL_run hφ hs l h.2
    rw [List.mapM_cons]
    simp [h1, h2, resL, denL]

theorem resL_len : ∀ (l : List ResultVar), (resL P W bs σ l).2.length = l.length
  | [] => rfl
  | r :: l => by simp [resL, resL_len l]

theorem results_run {E : Nat → Value} {F : Nat → List Nat} {a : Act} {w : World} {fn : Func} (hφ : FrSat E σ.φ a) (hs : HeapSat W bs E F σ.h w) (h : (resL P W bs σ fn.results.toList).1) :
    (results fn a.tmps).run P w = .ok (den E (tupOf (resL P W bs σ fn.results.toList).2)) w := by
  have h1 := resL_run hφ hs fn.results.toList h
  have h2 : results fn a.tmps = ((Functor.map List.toArray (fn.results.toList.mapM (resRun a))) >>= fun (vs : Array Value) => (pure (if h : vs.size = 1 then vs[0] else .tuple vs) : Sem Value)) := by
    rw [← Array.mapM_eq_mapM_toList]
    unfold results
    congr 1
  rw [h2]
  have : ((Functor.map List.toArray (fn.results.toList.mapM (resRun a))) >>= fun (vs : Array Value) => (pure (if h : vs.size = 1 then vs[0] else .tuple vs) : Sem Value)).run P w =
      .ok (den E (tupOf (resL P W bs σ fn.results.toList).2)) w := by
    simp only [map_eq_pure_bind, bind_assoc, pure_bind]
    simp [h1]
    generalize (resL P W bs σ fn.results.toList).2 = l
    match l with
    | [] => simp [denL, tupOf, den]
    | [x] => simp [denL, tupOf]
    | x :: y :: r => simp [denL, tupOf, den]
  exact this

/-- **A CALL**: its body walked from a state that its arguments fit. -/
theorem calls_Wp {f : FuncId} {fn : Func} {c : Code} {args : Array Value} {w : World} {pins : List (Nat × Value)} {R : World → List Nat → SV → Hp → Prop} {RP : List PanicEntry → Hp → Prop}
    (hf : P.funcs[f]? = some fn) (hb : fn.body = some c)
    (hsat : Sat W bs nt ⟨[], pins⟩ σ { tmps := args ++ Array.replicate (fn.ntmps - args.size) undef, defers := [] } w)
    (h : Wp P W bs nt ⟨[], pins⟩ c (Fin P fn.results.toList R RP) σ) :
    Calls P f args w (Ends W bs pins R RP) := by
  refine calls_of_wp hf hb (wp_mono (h _ w hsat) fun e a' w' ⟨W', bs', σ', hx, hq, hs'⟩ => ?_)
  obtain ⟨⟨E, F, hφ, hh, hp⟩, hsz, hdf, _⟩ := hs'
  have ret : (resL P W' bs' σ' fn.results.toList).1 ∧ R W' bs' (tupOf (resL P W' bs' σ' fn.results.toList).2) σ'.h → a'.defers = [] ∧ ∃ v, (results fn a'.tmps).run P w' = .ok v w' ∧ Ends W bs pins R RP (.returned v) w' :=
    fun hq => ⟨hdf, _, results_run hφ hh hq.1, W', bs', E, F, _, _, hx, hq.2, rfl, hh, hp⟩
  cases e with
  | normal => exact ret hq
  | ret => exact ret hq
  | panic ch => exact ⟨hdf, W', bs', E, F, _, hx, hq, hh, hp⟩
  | exit i => exact hq.elim
  | goto l => exact hq.elim
  | outgrown => exact hq.elim

/-! ### A callee's contract, for the caller -/
theorem good_pure {κ : Nat} {E : Nat → Value} {F : Nat → List Nat} {h : Hp} {w : World} {f : FuncId} {args : Array Value} {r : R} {v : Value} (hs : HeapSat W bs E F h w)
    (hc : Calls P f args w fun e w' => e = .returned v ∧ Keeps w [] w') (hv : v = den E r.val) (hu : r.upd = []) (hp : r.pan = none) :
    Good P W bs κ E h r (.ok (.enter f args) w) := by
  refine hc.mono fun e w' he => ?_
  obtain ⟨rfl, hk⟩ := he
  exact ⟨hp, E, F, fun _ _ => rfl, hv, by rw [hu]; exact hs.grow hk⟩

theorem good_maker {κ : Nat} {E : Nat → Value} {F : Nat → List Nat} {h : Hp} {w : World} {K : Nat → Prop} {f : FuncId} {args : Array Value} {r : R} {e : Ent} (hs : HeapSat W bs E F h w)
    (hK : KeysIn K h) (hk : ∀ k, k / 8 = κ → ¬ K k)
    (hc : Calls P f args w fun en w' => ∃ v u fp, en = .returned v ∧ (∀ E', entSat E' u fp w' e) ∧ (∀ b ∈ fp, w.heap.size ≤ b ∧ b < w'.heap.size) ∧ Keeps w [] w' ∧ v = den (upd E (nk κ) u) r.val)
    (hu : r.upd = [(nk κ, some e)]) (hp : r.pan = none) :
    Good P W bs κ E h r (.ok (.enter f args) w) := by
  refine hc.mono fun en w' he => ?_
  obtain ⟨v, u, fp, rfl, hent, hfp, hkeep, hv⟩ := he
  refine ⟨hp, upd E (nk κ) u, upd F (nk κ) fp, fun k hk' => upd_ne _ _ fun e => hk' (by subst e; exact nk_div0 κ), hv, ?_⟩
  rw [hu]
  exact hs.new hK (hk _ (nk_div0 κ)) (hent _) hfp hkeep

theorem good_borrow {κ k : Nat} {E : Nat → Value} {F : Nat → List Nat} {h : Hp} {w : World} {f : FuncId} {args : Array Value} {r : R} {e e' : Ent} (hs : HeapSat W bs E F h w)
    (hk : h k = some e)
    (hc : Calls P f args w fun en w' => ∃ v fp, en = .returned v ∧ entSat E (E k) fp w' e' ∧ (∀ b ∈ fp, b ∈ F k ∨ w.heap.size ≤ b) ∧ (∀ b ∈ fp, b < w'.heap.size) ∧ Keeps w (F k) w' ∧ v = den E r.val)
    (hu : r.upd = [(k, some e')]) (hp : r.pan = none) :
    Good P W bs κ E h r (.ok (.enter f args) w) := by
  refine hc.mono fun en w' he => ?_
  obtain ⟨v, fp, rfl, hent, hfp, hlt, hkeep, hv⟩ := he
  refine ⟨hp, E, upd F k fp, fun _ _ => rfl, hv, ?_⟩
  rw [hu]
  exact hs.turn hk hent hfp hlt hkeep
end
end Go.LE
