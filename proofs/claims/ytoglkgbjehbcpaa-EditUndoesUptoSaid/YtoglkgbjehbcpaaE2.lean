/-
  LE, the engine, part 2: what one operation does to symbolic values and own memory, and that it is so.
-/
import Derived.Test.YtoglkgbjehbcpaaE1
namespace Go.LE
open Go.RowKit

/-- What an operation comes to: what must hold, its value, what becomes of own things; whether it panics, and what is lost then; what it looked at. -/
structure R where
  side : Prop
  val : SV
  upd : List (Nat × Option Ent) := []
  pan : Option (List PanicEntry) := none
  pupd : List Nat := []
  reads : List Nat := []

def R.bad : R := { side := False, val := .v undef }
/-- a plain value -/
def R.ok (x : SV) : R := { side := True, val := x }
def R.req (p : Prop) (x : SV) : R := { side := p, val := x }
/-- a new own thing under key k -/
def R.new (k : Nat) (e : Ent) (x : SV) : R := { side := True, val := x, upd := [(k, some e)] }

def dropKeys (h : Nat → Option Ent) (ks : List Nat) : Nat → Option Ent := fun k => if k ∈ ks then none else h k

/-- The first key of operation number κ. -/
def nk (κ : Nat) : Nat := 8 * κ

def Runs (P : Program) (res : Result Next) (K : Value → World → Prop) (KP : List PanicEntry → World → Prop) : Prop :=
  match res with
  | .ok (.value v) w' => K v w'
  | .ok .skip w' => K undef w'
  | .ok (.enter f args) w' => Calls P f args w' fun
      | .returned v, w'' => K v w''
      | .panicked c, w'' => KP c w''
      | .outgrown, _ => False
  | .halt (.panic v) w' => KP [{ v, recovered := false }] w'
  | _ => False

theorem Runs.mono {P : Program} {res : Result Next} {K K' : Value → World → Prop} {KP KP' : List PanicEntry → World → Prop} (h : Runs P res K KP)
    (hk : ∀ v w, K v w → K' v w) (hp : ∀ c w, KP c w → KP' c w) : Runs P res K' KP' := by
  unfold Runs at *
  split at h
  · exact hk _ _ h
  · exact hk _ _ h
  · exact h.mono fun e w he => by cases e <;> first | exact hk _ _ he | exact hp _ _ he | exact he
  · exact hp _ _ h
  · exact h.elim

theorem wp_of_runs {P : Program} {o : Oper} {a : Act} {w : World} {K : Act → World → Prop} {Q : Exit → Act → World → Prop}
    (h : Runs P ((execOp a.eval o).run P w) (fun v w' => K (a.put o.dst v) w') (fun c w' => Q (.panic c) a w')) : o.wp P a w K Q := by
  unfold Oper.wp
  unfold Runs at h
  split at h
  · rename_i hr; rw [hr]; exact h
  · rename_i hr; rw [hr]; exact h
  · rename_i hr; rw [hr]; exact h.mono fun e w he => by cases e <;> first | exact he | exact he.elim
  · rename_i hr; rw [hr]; exact h
  · exact h.elim

def Good (P : Program) (W : World) (bs : List Nat) (κ : Nat) (E : Nat → Value) (h : Nat → Option Ent) (r : R) (res : Result Next) : Prop :=
  Runs P res
    (fun v w' => r.pan = none ∧ ∃ E' F', (∀ k, k / 8 ≠ κ → E' k = E k) ∧ v = den E' r.val ∧ HeapSat W bs E' F' (updL h r.upd) w')
    (fun c w' => r.pan = some c ∧ ∃ F', HeapSat W bs E F' (dropKeys h r.pupd) w')

section
variable {P : Program} {W : World} {bs : List Nat} {κ : Nat} {E : Nat → Value} {F : Nat → List Nat} {h : Nat → Option Ent} {w : World}

theorem Good.pure {r : R} {v : Value} (hs : HeapSat W bs E F h w) (hv : v = den E r.val) (hu : r.upd = []) (hp : r.pan = none) :
    Good P W bs κ E h r (.ok (.value v) w) := by
  simp only [Good, Runs]
  exact ⟨hp, E, F, fun _ _ => rfl, hv, by rw [hu]; exact hs⟩
theorem Good.skip {r : R} (hs : HeapSat W bs E F h w) (hv : r.val = .v undef) (hu : r.upd = []) (hp : r.pan = none) :
    Good P W bs κ E h r (.ok .skip w) := by
  simp only [Good, Runs]
  exact ⟨hp, E, F, fun _ _ => rfl, by rw [hv]; rfl, by rw [hu]; exact hs⟩

/-- The memory with more blocks, own ones unturned. -/
theorem HeapSat.grow {w' : World} (hs : HeapSat W bs E F h w) (hk : Keeps w [] w') : HeapSat W bs E F h w' := by
  refine ⟨fun k e he => entSat_local (hs.ent k e he) fun b hb => hk.block b (hs.lt k e he b hb) (by simp), fun k e he b hb => Nat.lt_of_lt_of_le (hs.lt k e he b hb) hk.size, hs.mine, hs.apart, ?_⟩
  exact hs.keeps.trans hk (by simp)

theorem nk_div (κ j : Nat) (hj : j < 8) : (nk κ + j) / 8 = κ := by unfold nk; omega
theorem nk_div0 (κ : Nat) : nk κ / 8 = κ := by unfold nk; omega

/-- The keys that are spoken of. -/
def KeysIn (K : Nat → Prop) (h : Nat → Option Ent) : Prop := ∀ k e, h k = some e → K k ∧ ∀ j ∈ e.keys, K j

/-- A NEW OWN THING, in new blocks, under a new key: its handle, its blocks. -/
theorem HeapSat.new {w' : World} {e : Ent} {u : Value} {fp : List Nat} {K : Nat → Prop} {k : Nat} (hs : HeapSat W bs E F h w) (hK : KeysIn K h) (hk : ¬ K k)
    (he : entSat (upd E k u) u fp w' e) (hfp : ∀ b ∈ fp, w.heap.size ≤ b ∧ b < w'.heap.size) (hkeep : Keeps w [] w') :
    HeapSat W bs (upd E k u) (upd F k fp) (upd h k (some e)) w' := by
  have hne : ∀ j x, h j = some x → j ≠ k := fun j x hj hjk => hk (hjk ▸ (hK j x hj).1)
  have g := hs.grow hkeep
  constructor
  · intro j x hj
    by_cases hjk : j = k
    · subst hjk
      simp only [upd_same, Option.some.injEq] at hj ⊢
      subst hj
      exact he
    · rw [upd_ne _ _ hjk] at hj
      rw [upd_ne _ _ hjk, upd_ne _ _ hjk]
      exact entSat_congr (fun i hi => (upd_ne _ _ (show i ≠ k from fun hik => by subst hik; exact hk ((hK j x hj).2 i hi))).symm) (g.ent j x hj)
  · intro j x hj b hb
    by_cases hjk : j = k
    · subst hjk; rw [upd_same] at hb; exact (hfp b hb).2
    · rw [upd_ne _ _ hjk] at hj hb; exact g.lt j x hj b hb
  · intro j x hj b hb
    by_cases hjk : j = k
    · subst hjk; rw [upd_same] at hb; exact .inl (Nat.le_trans hs.keeps.size (hfp b hb).1)
    · rw [upd_ne _ _ hjk] at hj hb; exact g.mine j x hj b hb
  · intro i j x y hij hi hj b hb
    by_cases hik : i = k
    · subst hik
      rw [upd_ne _ _ (Ne.symm hij)] at hj ⊢
      rw [upd_same] at hb
      exact fun hb' => by have h1 := hs.lt j y hj b hb'; have h2 := (hfp b hb).1; omega
    · rw [upd_ne _ _ hik] at hi hb
      by_cases hjk : j = k
      · subst hjk
        rw [upd_same]
        exact fun hb' => by have h1 := hs.lt i x hi b hb; have h2 := (hfp b hb').1; omega
      · rw [upd_ne _ _ hjk] at hj ⊢
        exact hs.apart i j x y hij hi hj b hb
  · exact g.keeps

/-- AN OWN THING TURNED: only its own blocks are written (and new ones made); it may have moved. -/
theorem HeapSat.turn {w' : World} {e e' : Ent} {fp : List Nat} {k : Nat} (hs : HeapSat W bs E F h w) (hk : h k = some e)
    (he : entSat E (E k) fp w' e') (hfp : ∀ b ∈ fp, b ∈ F k ∨ w.heap.size ≤ b) (hlt : ∀ b ∈ fp, b < w'.heap.size) (hkeep : Keeps w (F k) w') :
    HeapSat W bs E (upd F k fp) (upd h k (some e')) w' := by
  have old : ∀ j x, h j = some x → j ≠ k → ∀ b ∈ F j, w'.heap[b]? = w.heap[b]? := fun j x hj hjk b hb =>
    hkeep.block b (hs.lt j x hj b hb) fun hb' => hs.apart j k x e hjk hj hk b hb hb'
  constructor
  · intro j x hj
    by_cases hjk : j = k
    · subst hjk
      simp only [upd_same, Option.some.injEq] at hj ⊢
      subst hj
      exact he
    · rw [upd_ne _ _ hjk] at hj
      rw [upd_ne _ _ hjk]
      exact entSat_local (hs.ent j x hj) (old j x hj hjk)
  · intro j x hj b hb
    by_cases hjk : j = k
    · subst hjk; rw [upd_same] at hb; exact hlt b hb
    · rw [upd_ne _ _ hjk] at hj hb; exact Nat.lt_of_lt_of_le (hs.lt j x hj b hb) hkeep.size
  · intro j x hj b hb
    by_cases hjk : j = k
    · subst hjk
      rw [upd_same] at hb
      rcases hfp b hb with hb | hb
      · exact hs.mine j e hk b hb
      · exact .inl (Nat.le_trans hs.keeps.size hb)
    · rw [upd_ne _ _ hjk] at hj hb; exact hs.mine j x hj b hb
  · intro i j x y hij hi hj b hb
    by_cases hik : i = k
    · subst hik
      rw [upd_ne _ _ (Ne.symm hij)] at hj ⊢
      rw [upd_same] at hb
      rcases hfp b hb with hb | hb
      · exact hs.apart i j e y hij hk hj b hb
      · exact fun hb' => by have h1 := hs.lt j y hj b hb'; omega
    · rw [upd_ne _ _ hik] at hi hb
      by_cases hjk : j = k
      · subst hjk
        rw [upd_same]
        intro hb'
        rcases hfp b hb' with hb' | hb'
        · exact hs.apart i j x e hij hi hk b hb hb'
        · have h1 := hs.lt i x hi b hb; omega
      · rw [upd_ne _ _ hjk] at hj ⊢
        exact hs.apart i j x y hij hi hj b hb
  · exact hs.keeps.trans hkeep fun b hb hlt' => (hs.mine k e hk b hb).resolve_left (by omega)

/-- What is not spoken of any more. -/
theorem HeapSat.drop {h' : Nat → Option Ent} (hs : HeapSat W bs E F h w) (hd : ∀ k e, h' k = some e → h k = some e) : HeapSat W bs E F h' w :=
  ⟨fun k e he => hs.ent k e (hd k e he), fun k e he => hs.lt k e (hd k e he), fun k e he => hs.mine k e (hd k e he), fun k k' e e' hne he he' => hs.apart k k' e e' hne (hd k e he) (hd k' e' he'), hs.keeps⟩

end
end Go.LE
