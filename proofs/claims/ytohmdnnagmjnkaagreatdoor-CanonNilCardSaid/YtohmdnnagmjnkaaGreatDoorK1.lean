/-
  Part 1 of the proof.
-/
import Derived.WalkKit
import Derived.WalkLawsBesides
import Derived.WalkSpells
import Derived.Deep.AppendSrc
import Derived.Deep.Upon
set_option linter.unusedSimpArgs false
set_option linter.unusedVariables false
set_option linter.defProp false
section
namespace Go.LE
open Go.RowKit
inductive SV where
  | v (x : Value)
  | own (k off : Nat)
  | hd (k : Nat)
  | agg (l : List SV)
  | tup (l : List SV)
  | ifc (t : TypeId) (x : SV)
  | part (k i : Nat)
  | fn (f : Fn) (first cap : List SV)
def base : Value → Option Addr
  | .pointer (some a) => some a
  | .slice (some a) _ _ => some a
  | _ => none
def ptrAt : Option Addr → Nat → Value
  | some a, o => .pointer (some ⟨a.block, a.off + o, none⟩)
  | none, _ => .nilIface
def hv (u : Value) : Value := if u.oneCell' then u else .nilIface
theorem hv_one (u : Value) : (hv u).oneCell' = true := by
  unfold hv
  split
  · assumption
  · rfl
theorem hv_of {u : Value} (h : u.oneCell' = true) : hv u = u := by simp [hv, h]
theorem cells_of_one' {u : Value} (h : u.oneCell' = true) : u.cells = #[u] := by cases u <;> first | rfl | (simp [Value.oneCell'] at h)
def partV : Value → Nat → Value
  | .iface _ (.agg cs), i => cs.getD i .nilIface
  | _, _ => .nilIface
mutual
def den (E : Nat → Value) : SV → Value
  | .v x => x
  | .own k o => ptrAt (base (E k)) o
  | .hd k => hv (E k)
  | .agg l => .agg (denL E l).toArray
  | .tup l => .tuple (denL E l).toArray
  | .ifc t x => .iface t (den E x)
  | .part k i => hv (partV (E k) i)
  | .fn f a c => .func f (denL E a).toArray (denL E c).toArray
def denL (E : Nat → Value) : List SV → List Value
  | [] => []
  | x :: r => den E x :: denL E r
end
mutual
def SV.keys : SV → List Nat
  | .v _ => []
  | .own k _ => [k]
  | .hd k => [k]
  | .agg l => keysL l
  | .tup l => keysL l
  | .ifc _ x => x.keys
  | .part k _ => [k]
  | .fn _ a c => keysL a ++ keysL c
def keysL : List SV → List Nat
  | [] => []
  | x :: r => x.keys ++ keysL r
end
mutual
theorem den_congr {E E' : Nat → Value} : ∀ x : SV, (∀ k ∈ x.keys, E k = E' k) → den E x = den E' x
  | .v _, _ => rfl
  | .own k o, h => by simp only [den]; rw [h k (by simp [SV.keys])]
  | .hd k, h => by simp only [den]; rw [h k (by simp [SV.keys])]
  | .agg l, h => by simp only [den]; rw [denL_congr l (by simpa [SV.keys] using h)]
  | .tup l, h => by simp only [den]; rw [denL_congr l (by simpa [SV.keys] using h)]
  | .ifc t x, h => by simp only [den]; rw [den_congr x (by simpa [SV.keys] using h)]
  | .part k i, h => by simp only [den]; rw [h k (by simp [SV.keys])]
  | .fn f a c, h => by
    simp only [den]
    rw [denL_congr a (fun k hk => h k (by simp [SV.keys, hk])), denL_congr c (fun k hk => h k (by simp [SV.keys, hk]))]
theorem denL_congr {E E' : Nat → Value} : ∀ l : List SV, (∀ k ∈ keysL l, E k = E' k) → denL E l = denL E' l
  | [], _ => rfl
  | x :: r, h => by
    simp only [denL]
    rw [den_congr x (fun k hk => h k (by simp [keysL, hk])), denL_congr r (fun k hk => h k (by simp [keysL, hk]))]
end
theorem denL_eq_map (E : Nat → Value) : ∀ l, denL E l = l.map (den E)
  | [] => rfl
  | x :: r => by simp [denL, denL_eq_map E r]
theorem keysL_mem {k : Nat} : ∀ {l : List SV}, k ∈ keysL l ↔ ∃ x ∈ l, k ∈ x.keys
  | [] => by simp [keysL]
  | x :: r => by simp [keysL, keysL_mem (l := r)]
theorem denL_length (E : Nat → Value) (l : List SV) : (denL E l).length = l.length := by simp [denL_eq_map]
theorem denL_map_v (E : Nat → Value) (l : List Value) : denL E (l.map SV.v) = l := by simp [denL_eq_map, Function.comp_def, den]
theorem keysL_map_v (l : List Value) : keysL (l.map SV.v) = [] := by
  induction l with
  | nil => rfl
  | cons x r ih => simp [keysL, SV.keys, ih]
theorem denL_append (E : Nat → Value) (a b : List SV) : denL E (a ++ b) = denL E a ++ denL E b := by simp [denL_eq_map]
theorem keysL_append (a b : List SV) : keysL (a ++ b) = keysL a ++ keysL b := by
  induction a with
  | nil => rfl
  | cons x r ih => simp [keysL, ih]
inductive FV where
  | is (x : SV)
  | cnd (b : Bool) (x : SV)
  | any
def FV.keys : FV → List Nat
  | .is x => x.keys
  | .cnd b x => bif b then x.keys else []
  | .any => []
def fits (E : Nat → Value) : FV → Value → Prop
  | .is x, u => u = den E x
  | .cnd b x, u => u = bif b then den E x else undef
  | .any, _ => True
theorem fits_congr {E E' : Nat → Value} {f : FV} {u : Value} (h : ∀ k ∈ f.keys, E k = E' k) (hf : fits E f u) : fits E' f u := by
  cases f with
  | is x => simpa [fits, den_congr x h] using hf
  | cnd b x =>
    cases b with
    | false => exact hf
    | true => simpa [fits, den_congr x h] using hf
  | any => trivial
inductive Ent where
  | cells (T : TypeId) (vs : List SV)
  | row (T : TypeId) (size n : Nat) (vs : List SV)
  | mp (ks : List ByteArray) (vs : List SV)
  | obj (d : List Value) (R : List Value → Value → List Nat → World → Prop)
def Ent.keys : Ent → List Nat
  | .cells _ vs => keysL vs
  | .row _ _ _ vs => keysL vs
  | .mp _ vs => keysL vs
  | .obj _ _ => []
def entSat (E : Nat → Value) (u : Value) (fp : List Nat) (w : World) : Ent → Prop
  | .cells T vs => ∃ b, u = .pointer (some ⟨b, 0, none⟩) ∧ fp = [b] ∧ w.heap[b]? = some (.cells (denL E vs).toArray T (0, 0))
  | .row T size n vs => w.ownsRow 0 T size u n (denL E vs) ∧ fp = u.ownBlock.toList
  | .mp ks vs => ∃ b es c, u = .map (some b) ∧ fp = [b] ∧ w.heap[b]? = some (.map es c) ∧ es.toList.map (·.key) = ks.map .string ∧ es.toList.map (·.val) = denL E vs
  | .obj d R => (R d u fp w ∧ u.oneCell' = true) ∧ ∀ w' : World, (∀ b ∈ fp, w'.heap[b]? = w.heap[b]?) → R d u fp w'
theorem entSat_local {E : Nat → Value} {u : Value} {fp : List Nat} {w w' : World} {e : Ent} (h : entSat E u fp w e) (hl : ∀ b ∈ fp, w'.heap[b]? = w.heap[b]?) : entSat E u fp w' e := by
  cases e with
  | cells T vs =>
    obtain ⟨b, h1, h2, h3⟩ := h
    exact ⟨b, h1, h2, by rw [hl b (by simp [h2])]; exact h3⟩
  | row T size n vs =>
    obtain ⟨⟨h1, h2⟩, h3⟩ := h
    refine ⟨⟨h1, ?_⟩, h3⟩
    rcases h2 with h2 | ⟨g, cap, cur, hv, hg, hh, r⟩
    · exact .inl h2
    · refine .inr ⟨g, cap, cur, hv, hg, ?_, r⟩
      rw [hl g (by rw [h3, hv]; simp [Value.ownBlock])]
      exact hh
  | mp ks vs =>
    obtain ⟨b, es, c, h1, h2, h3, h4⟩ := h
    exact ⟨b, es, c, h1, h2, by rw [hl b (by simp [h2])]; exact h3, h4⟩
  | obj d R =>
    refine ⟨⟨h.2 w' hl, h.1.2⟩, fun w'' hl' => h.2 w'' fun b hb => (hl' b hb).trans (hl b hb)⟩
theorem entSat_one {E : Nat → Value} {u : Value} {fp : List Nat} {w : World} {e : Ent} (h : entSat E u fp w e) : u.oneCell' = true := by
  cases e with
  | cells T vs => obtain ⟨b, h1, _⟩ := h; rw [h1]; rfl
  | row T size n vs => rcases h.1.2 with ⟨h1, _⟩ | ⟨g, cap, cur, h1, _⟩ <;> rw [h1] <;> rfl
  | mp ks vs => obtain ⟨b, es, c, h1, _⟩ := h; rw [h1]; rfl
  | obj d R => exact h.1.2
theorem entSat_congr {E E' : Nat → Value} {u : Value} {fp : List Nat} {w : World} {e : Ent} (hk : ∀ k ∈ e.keys, E k = E' k) (h : entSat E u fp w e) : entSat E' u fp w e := by
  cases e with
  | cells T vs => simpa [entSat, denL_congr vs hk] using h
  | row T size n vs => simpa [entSat, denL_congr vs hk] using h
  | mp ks vs => simpa [entSat, denL_congr vs hk] using h
  | obj d R => exact h
structure Keeps (W : World) (bs : List Nat) (w : World) : Prop where
  os : w.os = W.os
  tape : w.tape = W.tape
  output : w.output = W.output
  size : W.heap.size ≤ w.heap.size
  block : ∀ b, b < W.heap.size → b ∉ bs → w.heap[b]? = W.heap[b]?
theorem Keeps.refl (W : World) (bs : List Nat) : Keeps W bs W := ⟨rfl, rfl, rfl, Nat.le_refl _, fun _ _ _ => rfl⟩
theorem Keeps.below {W w : World} (h : Keeps W [] w) : Below W.heap.size W w := ⟨h.os, h.tape, h.output, h.size, fun k hk => h.block k hk (by simp)⟩
theorem Keeps.of_below {W w : World} (h : Below W.heap.size W w) : Keeps W [] w := ⟨h.os, h.tape, h.output, h.size, fun b hb _ => h.block b hb⟩
theorem Keeps.mono {W w : World} {bs bs' : List Nat} (h : Keeps W bs w) (hs : ∀ b ∈ bs, b ∈ bs') : Keeps W bs' w :=
  ⟨h.os, h.tape, h.output, h.size, fun b hb hn => h.block b hb fun hm => hn (hs b hm)⟩
theorem Keeps.drop {W w : World} {bs bs' : List Nat} (h : Keeps W bs' w) (hs : ∀ b ∈ bs', b < W.heap.size → b ∈ bs) : Keeps W bs w :=
  ⟨h.os, h.tape, h.output, h.size, fun b hb hn => h.block b hb fun hm => hn (hs b hm hb)⟩
theorem Keeps.trans {W w w' : World} {bs bs' : List Nat} (h : Keeps W bs w) (h' : Keeps w bs' w') (hs : ∀ b ∈ bs', b < W.heap.size → b ∈ bs) : Keeps W bs w' :=
  ⟨h'.os.trans h.os, h'.tape.trans h.tape, h'.output.trans h.output, Nat.le_trans h.size h'.size,
   fun b hb hn => (h'.block b (Nat.lt_of_lt_of_le hb h.size) fun hm => hn (hs b hm hb)).trans (h.block b hb hn)⟩
structure HeapSat (W : World) (bs : List Nat) (E : Nat → Value) (F : Nat → List Nat) (h : Nat → Option Ent) (w : World) : Prop where
  ent : ∀ k e, h k = some e → entSat E (E k) (F k) w e
  lt : ∀ k e, h k = some e → ∀ b ∈ F k, b < w.heap.size
  mine : ∀ k e, h k = some e → ∀ b ∈ F k, W.heap.size ≤ b ∨ b ∈ bs
  apart : ∀ k k' e e', k ≠ k' → h k = some e → h k' = some e' → ∀ b ∈ F k, b ∉ F k'
  keeps : Keeps W bs w
def upd {α : Type} (f : Nat → α) (k : Nat) (x : α) : Nat → α := fun j => if j = k then x else f j
theorem upd_same {α : Type} (f : Nat → α) (k : Nat) (x : α) : upd f k x k = x := by simp [upd]
theorem upd_ne {α : Type} (f : Nat → α) {k j : Nat} (x : α) (h : j ≠ k) : upd f k x j = f j := by simp [upd, h]
def updL {α : Type} (f : Nat → α) : List (Nat × α) → Nat → α
  | [] => f
  | (k, x) :: r => updL (upd f k x) r
end Go.LE
end
section
namespace Go.LE
open Go.RowKit
structure R where
  side : Prop
  val : SV
  upd : List (Nat × Option Ent) := []
  pan : Option (List PanicEntry) := none
  pupd : List Nat := []
  reads : List Nat := []
def R.bad : R := { side := False, val := .v undef }
def R.ok (x : SV) : R := { side := True, val := x }
def R.req (p : Prop) (x : SV) : R := { side := p, val := x }
def R.new (k : Nat) (e : Ent) (x : SV) : R := { side := True, val := x, upd := [(k, some e)] }
def dropKeys (h : Nat → Option Ent) (ks : List Nat) : Nat → Option Ent := fun k => if k ∈ ks then none else h k
def nk (κ : Nat) : Nat := 8 * κ
def Runs (P : Program) (res : Result Next) (K : Value → World → Prop) (KP : List PanicEntry → World → Prop) : Prop :=
  match res with
  | .ok (.value v) w' => K v w'
  | .ok .skip w' => K undef w'
  | .ok (.enter f args) w' => Calls P f args w' fun
      | .returned v, w'' => K v w''
      | .panicked c, w'' => KP c w''
      | .outgrown, _ => False
  | .halt (.panic v) w' => KP [{ v, recovered := false }] w'
  | _ => False
theorem Runs.mono {P : Program} {res : Result Next} {K K' : Value → World → Prop} {KP KP' : List PanicEntry → World → Prop} (h : Runs P res K KP)
    (hk : ∀ v w, K v w → K' v w) (hp : ∀ c w, KP c w → KP' c w) : Runs P res K' KP' := by
  unfold Runs at *
  split at h
  · exact hk _ _ h
  · exact hk _ _ h
  · exact h.mono fun e w he => by cases e <;> first | exact hk _ _ he | exact hp _ _ he | exact he
  · exact hp _ _ h
  · exact h.elim
theorem wp_of_runs {P : Program} {o : Oper} {a : Act} {w : World} {K : Act → World → Prop} {Q : Exit → Act → World → Prop}
    (h : Runs P ((execOp a.eval o).run P w) (fun v w' => K (a.put o.dst v) w') (fun c w' => Q (.panic c) a w')) : o.wp P a w K Q := by
  unfold Oper.wp
  unfold Runs at h
  split at h
  · rename_i hr; rw [hr]; exact h
  · rename_i hr; rw [hr]; exact h
  · rename_i hr; rw [hr]; exact h.mono fun e w he => by cases e <;> first | exact he | exact he.elim
  · rename_i hr; rw [hr]; exact h
  · exact h.elim
def Good (P : Program) (W : World) (bs : List Nat) (κ : Nat) (E : Nat → Value) (h : Nat → Option Ent) (r : R) (res : Result Next) : Prop :=
  Runs P res
    (fun v w' => r.pan = none ∧ ∃ E' F', (∀ k, k / 8 ≠ κ → E' k = E k) ∧ v = den E' r.val ∧ HeapSat W bs E' F' (updL h r.upd) w')
    (fun c w' => r.pan = some c ∧ ∃ F', HeapSat W bs E F' (dropKeys h r.pupd) w')
section
variable {P : Program} {W : World} {bs : List Nat} {κ : Nat} {E : Nat → Value} {F : Nat → List Nat} {h : Nat → Option Ent} {w : World}
theorem Good.pure {r : R} {v : Value} (hs : HeapSat W bs E F h w) (hv : v = den E r.val) (hu : r.upd = []) (hp : r.pan = none) :
    Good P W bs κ E h r (.ok (.value v) w) := by
  simp only [Good, Runs]
  exact ⟨hp, E, F, fun _ _ => rfl, hv, by rw [hu]; exact hs⟩
theorem Good.skip {r : R} (hs : HeapSat W bs E F h w) (hv : r.val = .v undef) (hu : r.upd = []) (hp : r.pan = none) :
    Good P W bs κ E h r (.ok .skip w) := by
  simp only [Good, Runs]
  exact ⟨hp, E, F, fun _ _ => rfl, by rw [hv]; rfl, by rw [hu]; exact hs⟩
theorem HeapSat.grow {w' : World} (hs : HeapSat W bs E F h w) (hk : Keeps w [] w') : HeapSat W bs E F h w' := by
  refine ⟨fun k e he => entSat_local (hs.ent k e he) fun b hb => hk.block b (hs.lt k e he b hb) (by simp), fun k e he b hb => Nat.lt_of_lt_of_le (hs.lt k e he b hb) hk.size, hs.mine, hs.apart, ?_⟩
  exact hs.keeps.trans hk (by simp)
theorem nk_div (κ j : Nat) (hj : j < 8) : (nk κ + j) / 8 = κ := by unfold nk; omega
theorem nk_div0 (κ : Nat) : nk κ / 8 = κ := by unfold nk; omega
def KeysIn (K : Nat → Prop) (h : Nat → Option Ent) : Prop := ∀ k e, h k = some e → K k ∧ ∀ j ∈ e.keys, K j
theorem HeapSat.new {w' : World} {e : Ent} {u : Value} {fp : List Nat} {K : Nat → Prop} {k : Nat} (hs : HeapSat W bs E F h w) (hK : KeysIn K h) (hk : ¬ K k)
    (he : entSat (upd E k u) u fp w' e) (hfp : ∀ b ∈ fp, w.heap.size ≤ b ∧ b < w'.heap.size) (hkeep : Keeps w [] w') :
    HeapSat W bs (upd E k u) (upd F k fp) (upd h k (some e)) w' := by
  have hne : ∀ j x, h j = some x → j ≠ k := fun j x hj hjk => hk (hjk ▸ (hK j x hj).1)
  have g := hs.grow hkeep
  constructor
  · intro j x hj
    by_cases hjk : j = k
    · subst hjk
      simp only [upd_same, Option.some.injEq] at hj ⊢
      subst hj
      exact he
    · rw [upd_ne _ _ hjk] at hj
      rw [upd_ne _ _ hjk, upd_ne _ _ hjk]
      exact entSat_congr (fun i hi => (upd_ne _ _ (show i ≠ k from fun hik => by subst hik; exact hk ((hK j x hj).2 i hi))).symm) (g.ent j x hj)
  · intro j x hj b hb
    by_cases hjk : j = k
    · subst hjk; rw [upd_same] at hb; exact (hfp b hb).2
    · rw [upd_ne _ _ hjk] at hj hb; exact g.lt j x hj b hb
  · intro j x hj b hb
    by_cases hjk : j = k
    · subst hjk; rw [upd_same] at hb; exact .inl (Nat.le_trans hs.keeps.size (hfp b hb).1)
    · rw [upd_ne _ _ hjk] at hj hb; exact g.mine j x hj b hb
  · intro i j x y hij hi hj b hb
    by_cases hik : i = k
    · subst hik
      rw [upd_ne _ _ (Ne.symm hij)] at hj ⊢
      rw [upd_same] at hb
      exact fun hb' => by have h1 := hs.lt j y hj b hb'; have h2 := (hfp b hb).1; omega
    · rw [upd_ne _ _ hik] at hi hb
      by_cases hjk : j = k
      · subst hjk
        rw [upd_same]
        exact fun hb' => by have h1 := hs.lt i x hi b hb; have h2 := (hfp b hb').1; omega
      · rw [upd_ne _ _ hjk] at hj ⊢
        exact hs.apart i j x y hij hi hj b hb
  · exact g.keeps
theorem HeapSat.turn {w' : World} {e e' : Ent} {fp : List Nat} {k : Nat} (hs : HeapSat W bs E F h w) (hk : h k = some e)
    (he : entSat E (E k) fp w' e') (hfp : ∀ b ∈ fp, b ∈ F k ∨ w.heap.size ≤ b) (hlt : ∀ b ∈ fp, b < w'.heap.size) (hkeep : Keeps w (F k) w') :
    HeapSat W bs E (upd F k fp) (upd h k (some e')) w' := by
  have old : ∀ j x, h j = some x → j ≠ k → ∀ b ∈ F j, w'.heap[b]? = w.heap[b]? := fun j x hj hjk b hb =>
    hkeep.block b (hs.lt j x hj b hb) fun hb' => hs.apart j k x e hjk hj hk b hb hb'
  constructor
  · intro j x hj
    by_cases hjk : j = k
    · subst hjk
      simp only [upd_same, Option.some.injEq] at hj ⊢
      subst hj
      exact he
    · rw [upd_ne _ _ hjk] at hj
      rw [upd_ne _ _ hjk]
      exact entSat_local (hs.ent j x hj) (old j x hj hjk)
  · intro j x hj b hb
    by_cases hjk : j = k
    · subst hjk; rw [upd_same] at hb; exact hlt b hb
    · rw [upd_ne _ _ hjk] at hj hb; exact Nat.lt_of_lt_of_le (hs.lt j x hj b hb) hkeep.size
  · intro j x hj b hb
    by_cases hjk : j = k
    · subst hjk
      rw [upd_same] at hb
      rcases hfp b hb with hb | hb
      · exact hs.mine j e hk b hb
      · exact .inl (Nat.le_trans hs.keeps.size hb)
    · rw [upd_ne _ _ hjk] at hj hb; exact hs.mine j x hj b hb
  · intro i j x y hij hi hj b hb
    by_cases hik : i = k
    · subst hik
      rw [upd_ne _ _ (Ne.symm hij)] at hj ⊢
      rw [upd_same] at hb
      rcases hfp b hb with hb | hb
      · exact hs.apart i j e y hij hk hj b hb
      · exact fun hb' => by have h1 := hs.lt j y hj b hb'; omega
    · rw [upd_ne _ _ hik] at hi hb
      by_cases hjk : j = k
      · subst hjk
        rw [upd_same]
        intro hb'
        rcases hfp b hb' with hb' | hb'
        · exact hs.apart i j x e hij hi hk b hb hb'
        · have h1 := hs.lt i x hi b hb; omega
      · rw [upd_ne _ _ hjk] at hj ⊢
        exact hs.apart i j x y hij hi hj b hb
  · exact hs.keeps.trans hkeep fun b hb hlt' => (hs.mine k e hk b hb).resolve_left (by omega)
theorem HeapSat.drop {h' : Nat → Option Ent} (hs : HeapSat W bs E F h w) (hd : ∀ k e, h' k = some e → h k = some e) : HeapSat W bs E F h' w :=
  ⟨fun k e he => hs.ent k e (hd k e he), fun k e he => hs.lt k e (hd k e he), fun k e he => hs.mine k e (hd k e he), fun k k' e e' hne he he' => hs.apart k k' e e' hne (hd k e he) (hd k' e' he'), hs.keeps⟩
end
end Go.LE
end
section
namespace Go.LE
open Go.RowKit
def tz (P : Program) (T : TypeId) : Option (List Value) := (P.info? T).bind fun i => i.zero.map fun z => z.cells.toList
def ts (P : Program) (T : TypeId) : Option Nat := (P.info? T).map (·.size)
def tby (P : Program) (T : TypeId) : Option Nat := (P.info? T).map (·.bytes)
def ta (P : Program) (T : TypeId) : Option Bool := (P.underlying T).map fun | .struct _ => true | .array _ _ => true | _ => false
def tf (P : Program) (S : TypeId) (f : Nat) : Option (Nat × Nat × Bool) :=
  match P.underlying S with
  | some (.struct fs) => (fs[f]?).bind fun d => (ts P d.type).bind fun s => (ta P d.type).map fun a => (d.offset, s, a)
  | _ => none
section
variable {P : Program} {W : World} {bs : List Nat} {κ : Nat} {E : Nat → Value} {F : Nat → List Nat} {h : Nat → Option Ent} {w : World} {K : Nat → Prop}
theorem run_ts {T s : Nat} (ht : ts P T = some s) (w : World) : (sizeOf T).run P w = .ok s w := by
  obtain ⟨i, hi, rfl⟩ := Option.map_eq_some_iff.1 ht
  simp [sizeOf, typeInfo, hi]
theorem run_ta {T : TypeId} {a : Bool} (ht : ta P T = some a) (w : World) : (isAgg T).run P w = .ok a w := by
  obtain ⟨d, hd, hda⟩ := Option.map_eq_some_iff.1 ht
  subst hda
  simp only [isAgg, Sem.run_bind, run_underlying hd, Result.andThen_ok]
  cases d <;> simp
theorem run_tz {T : TypeId} {zs : List Value} (ht : tz P T = some zs) : ∃ z, z.cells.toList = zs ∧ ∀ w : World, (zeroValue T).run P w = .ok z w := by
  unfold tz at ht
  cases hi : P.info? T with
  | none => simp [hi] at ht
  | some i =>
    simp only [hi, Option.bind_some] at ht
    cases hz : i.zero with
    | none => simp [hz] at ht
    | some z =>
      simp only [hz, Option.map_some, Option.some.injEq] at ht
      exact ⟨z, ht, fun w => by simp [zeroValue, typeInfo, hi, hz]⟩
def partsOf : SV → List SV
  | .agg l => l
  | .v x => x.cells.toList.map .v
  | x => [x]
theorem ptrAt_cells (a : Option Addr) (o : Nat) : (ptrAt a o).cells = #[ptrAt a o] := by cases a <;> rfl
theorem denL_partsOf (E : Nat → Value) (x : SV) : denL E (partsOf x) = (den E x).cells.toList := by
  cases x with
  | agg l => simp [partsOf, den, Value.cells]
  | v x => simp [partsOf, den, denL_map_v]
  | own k o => simp [partsOf, den, denL, ptrAt_cells]
  | hd k => simp [partsOf, den, denL, cells_of_one' (hv_one _)]
  | tup l => rfl
  | ifc t x => rfl
  | part k i => simp [partsOf, den, denL, cells_of_one' (hv_one _)]
  | fn f a c => rfl
theorem keys_partsOf (x : SV) : keysL (partsOf x) = x.keys := by
  cases x <;> simp [partsOf, SV.keys, keysL, keysL_map_v]
def oneSV : SV → Bool
  | .v x => x.oneCell'
  | .agg _ => false
  | .tup _ => false
  | .own _ _ => true
  | .hd _ => true
  | .ifc _ _ => true
  | .part _ _ => true
  | .fn _ _ _ => true
def semAlloc (P : Program) (κ : Nat) (T : TypeId) : R :=
  match tz P T with
  | some zs => .new (nk κ) (.cells T (zs.map .v)) (.own (nk κ) 0)
  | none => .bad
theorem keeps_alloc (w : World) (o : Obj) : Keeps w [] (w.alloc o) := ⟨rfl, rfl, rfl, by simp, fun b hb _ => Below.heap_alloc w o b hb⟩
theorem ent_new (E : Nat → Value) (w : World) (T : TypeId) (vs : List SV) (cs : Array Value) (h : denL E vs = cs.toList) :
    entSat E (.pointer (some ⟨w.heap.size, 0, none⟩)) [w.heap.size] (w.alloc (.cells cs T)) (.cells T vs) :=
  ⟨_, rfl, rfl, by rw [h]; simpa using heap_alloc_new w (.cells cs T)⟩
theorem new_cells {T : TypeId} {vs : List SV} {cs : Array Value} {j : Nat} (hj : j < 8) (hs : HeapSat W bs E F h w) (hK : KeysIn K h) (hk : ∀ k, k / 8 = κ → ¬ K k) (hv : ∀ k ∈ keysL vs, K k) (hd : denL E vs = cs.toList) :
    HeapSat W bs (upd E (nk κ + j) (.pointer (some ⟨w.heap.size, 0, none⟩))) (upd F (nk κ + j) [w.heap.size]) (upd h (nk κ + j) (some (.cells T vs))) (w.alloc (.cells cs T)) := by
  have hnk := hk _ (nk_div κ j hj)
  refine hs.new hK hnk (ent_new _ w T vs cs ?_) (fun b hb => ?_) (keeps_alloc w _)
  · rw [← hd]
    exact denL_congr vs fun i hk' => upd_ne _ _ fun e => hnk (e ▸ hv i hk')
  · simp at hb; subst hb; simp
theorem upd_agree {j : Nat} (hj : j < 8) (u : Value) : ∀ k, k / 8 ≠ κ → upd E (nk κ + j) u k = E k := fun _ hk => upd_ne _ _ fun e => hk (e ▸ nk_div κ j hj)
theorem alloc_good {T : TypeId} (hs : HeapSat W bs E F h w) (hK : KeysIn K h) (hk : ∀ k, k / 8 = κ → ¬ K k) (hside : (semAlloc P κ T).side) :
    Good P W bs κ E h (semAlloc P κ T) ((do pure (.value (← Instr.alloc T true (.tuple #[]))) : Sem Next).run P w) := by
  cases hz : tz P T with
  | none => simp [semAlloc, hz, R.bad] at hside
  | some zs =>
    obtain ⟨z, rfl, hrun⟩ := run_tz hz
    simp only [semAlloc, hz]
    have : (do pure (.value (← Instr.alloc T true (.tuple #[]))) : Sem Next).run P w = .ok (.value (.pointer (some ⟨w.heap.size, 0, none⟩))) (w.alloc (.cells z.cells T)) := by
      simp [Instr.alloc, hrun, newVar, newRow]
    rw [this]
    refine ⟨rfl, _, _, upd_agree (j := 0) (by omega) _, ?_, new_cells (j := 0) (by omega) hs hK hk (by simp [keysL_map_v]) (by simp [denL_map_v])⟩
    simp [R.new, den, upd_same, base, ptrAt, nk]
def semBox (κ : Nat) (T : TypeId) : List SV → R
  | [x] => .new (nk κ) (.cells T (partsOf x)) (.own (nk κ) 0)
  | _ => .bad
theorem box_good {T : TypeId} {x : SV} (hs : HeapSat W bs E F h w) (hK : KeysIn K h) (hk : ∀ k, k / 8 = κ → ¬ K k) (hx : ∀ k ∈ x.keys, K k) :
    Good P W bs κ E h (semBox κ T [x]) ((do pure (.value (← Instr.box T (den E x))) : Sem Next).run P w) := by
  have : (do pure (.value (← Instr.box T (den E x))) : Sem Next).run P w = .ok (.value (.pointer (some ⟨w.heap.size, 0, none⟩))) (w.alloc (.cells (den E x).cells T)) := by
    simp [Instr.box, newVar, newRow]
  rw [this]
  refine ⟨rfl, _, _, upd_agree (j := 0) (by omega) _, ?_, new_cells (j := 0) (by omega) hs hK hk (by rw [keys_partsOf]; exact hx) (denL_partsOf E x)⟩
  simp [semBox, R.new, den, upd_same, base, ptrAt, nk]
def entVs : Option Ent → Option (List SV)
  | some (.cells _ vs) => some vs
  | some (.row _ _ _ vs) => some vs
  | _ => none
def xcells (W : World) (b : Nat) : Nat → Nat → List SV
  | _, 0 => []
  | o, n + 1 => .v ((W.cell? ⟨b, o, none⟩).getD undef) :: xcells W b (o + 1) n
def xthere (W : World) (b : Nat) : Nat → Nat → Prop
  | _, 0 => True
  | o, n + 1 => (W.cell? ⟨b, o, none⟩).isSome = true ∧ xthere W b (o + 1) n
def semLoad (P : Program) (W : World) (bs : List Nat) (h : Nat → Option Ent) (T : TypeId) : List SV → R
  | [.own k o] =>
    match ts P T, ta P T, entVs (h k) with
    | some sz, some true, some vs => { side := o + sz ≤ vs.length ∧ 0 < sz, val := .agg ((vs.drop o).take sz), reads := [k] }
    | some _, some false, some vs => { side := o < vs.length, val := vs.getD o (.v undef), reads := [k] }
    | _, _, _ => .bad
  | [.v (.pointer (some ⟨b, o, none⟩))] =>
    match ts P T, ta P T with
    | some sz, some true => { side := b ∉ bs ∧ xthere W b o sz, val := .agg (xcells W b o sz) }
    | some _, some false => { side := b ∉ bs ∧ (W.cell? ⟨b, o, none⟩).isSome = true, val := .v ((W.cell? ⟨b, o, none⟩).getD undef) }
    | _, _ => .bad
  | _ => .bad
theorem run_loadVar_agg {T sz : Nat} (hs : ts P T = some sz) (ha : ta P T = some true) (a : Addr) (cs : List Value) (hl : cs.length = sz) (h : ∀ j v, cs[j]? = some v → w.cell? (a.add j) = some v) :
    (loadVar T a).run P w = .ok (.agg cs.toArray) w := by
  subst hl
  simp [loadVar, run_ta ha, run_ts hs, run_loadCells_list w a cs h]
theorem run_loadVar_one {T : TypeId} (ha : ta P T = some false) (a : Addr) (v : Value) (h : w.cell? a = some v) :
    (loadVar T a).run P w = .ok v w := by
  simp [loadVar, run_ta ha, h]
theorem ent_cells {k : Nat} {vs : List SV} (hs : HeapSat W bs E F h w) (he : entVs (h k) = some vs) (hne : 0 < vs.length) :
    ∃ b, base (E k) = some ⟨b, 0, none⟩ ∧ ∀ j, j < vs.length → w.cell? ⟨b, j, none⟩ = some ((denL E vs)[j]?.getD undef) := by
  cases hk : h k with
  | none => simp [hk, entVs] at he
  | some e =>
    have hent := hs.ent k e hk
    cases e with
    | obj d R => simp [hk, entVs] at he
    | mp ks us => simp [hk, entVs] at he
    | cells T us =>
      simp only [hk, entVs, Option.some.injEq] at he
      subst he
      obtain ⟨b, h1, _, h3⟩ := hent
      refine ⟨b, by rw [h1]; rfl, fun j hj => ?_⟩
      have hj' : j < (denL E us).length := by rw [denL_length]; exact hj
      simp [World.cell?, h3, List.getElem?_eq_getElem hj']
    | row T size n us =>
      simp only [hk, entVs, Option.some.injEq] at he
      subst he
      obtain ⟨⟨hl, hor⟩, _⟩ := hent
      rcases hor with ⟨h1, h2⟩ | ⟨g, cap, cur, h1, _, hh, _, _, hcs, htake⟩
      · have : (denL E us).length = 0 := by rw [hl, h2]; simp
        rw [denL_length] at this
        omega
      · refine ⟨g, by rw [h1]; rfl, fun j hj => ?_⟩
        have hj' : j < (denL E us).length := by rw [denL_length]; exact hj
        have hcur : cur[j]? = (denL E us)[j]? := by
          rw [← htake, List.getElem?_take, if_pos (by omega)]
          simp
        simp [World.cell?, hh, hcur, List.getElem?_eq_getElem hj']
theorem xcells_there : ∀ (n o b : Nat), xthere W b o n → denL E (xcells W b o n) = (List.range n).map (fun j => (W.cell? ⟨b, o + j, none⟩).getD undef) ∧ ∀ j, j < n → (W.cell? ⟨b, o + j, none⟩).isSome = true
  | 0, _, _, _ => ⟨rfl, fun j hj => by omega⟩
  | n + 1, o, b, h => by
    obtain ⟨h1, h2⟩ := xcells_there n (o + 1) b h.2
    refine ⟨?_, fun j hj => ?_⟩
    · simp only [xcells, denL, den, h1, List.range_succ_eq_map, List.map_cons, List.map_map, Nat.add_zero, Function.comp_def]
      congr 1
      apply List.map_congr_left
      intro j _
      simp [Nat.add_assoc, Nat.add_comm 1 j]
    · cases j with
      | zero => exact h.1
      | succ j => have := h2 j (by omega); rwa [show o + (j + 1) = o + 1 + j by omega]
theorem Keeps.cell {b o : Nat} (hk : Keeps W bs w) (hb : b ∉ bs) (hs : (W.cell? ⟨b, o, none⟩).isSome = true) : w.cell? ⟨b, o, none⟩ = some ((W.cell? ⟨b, o, none⟩).getD undef) := by
  obtain ⟨v, hv⟩ := Option.isSome_iff_exists.1 hs
  have hlt := World.block_lt_of_cell? W _ hv
  have : w.cell? ⟨b, o, none⟩ = W.cell? ⟨b, o, none⟩ := World.cell?_of_block (hk.block b hlt hb)
  rw [this, hv]; rfl
theorem denL_getD (E : Nat → Value) (vs : List SV) (o : Nat) : den E (vs.getD o (.v undef)) = (denL E vs)[o]?.getD undef := by
  rw [denL_eq_map, List.getD_eq_getElem?_getD, List.getElem?_map]
  cases vs[o]? <;> rfl
theorem load_good {T : TypeId} {x : SV} (hs : HeapSat W bs E F h w) (hside : (semLoad P W bs h T [x]).side) :
    Good P W bs κ E h (semLoad P W bs h T [x]) ((do pure (.value (← Instr.loadAt T (den E x))) : Sem Next).run P w) := by
  revert hside
  unfold semLoad
  split
  · rename_i k o heq
    simp only [List.cons.injEq, and_true] at heq
    subst heq
    split
    · rename_i sz vs hsz hag hvs
      rintro ⟨hlen, hpos⟩
      obtain ⟨b, hb, hcells⟩ := ent_cells hs hvs (by omega)
      have hrun : (loadVar T ⟨b, 0 + o, none⟩).run P w = .ok (.agg (((denL E vs).drop o).take sz).toArray) w := by
        refine run_loadVar_agg hsz hag _ _ (by simp [denL_length]; omega) fun j v hj => ?_
        have hjl : j < sz := by
          have := (List.getElem?_eq_some_iff.1 hj).1
          simp at this; omega
        rw [Addr.add_lit, Nat.zero_add, hcells (o + j) (by omega)]
        rw [List.getElem?_take, if_pos hjl, List.getElem?_drop] at hj
        rw [hj]; rfl
      rw [Nat.zero_add] at hrun
      have : (do pure (.value (← Instr.loadAt T (den E (.own k o)))) : Sem Next).run P w = .ok (.value (.agg (((denL E vs).drop o).take sz).toArray)) w := by
        simp only [den, hb, ptrAt, Instr.loadAt, Instr.sureAddr]
        simp [hrun]
      rw [this]
      refine Good.pure hs ?_ rfl rfl
      simp [den, denL_eq_map, List.map_take, List.map_drop]
    · rename_i sz vs hsz hag hvs
      intro hlen
      obtain ⟨b, hb, hcells⟩ := ent_cells hs hvs (Nat.zero_lt_of_lt hlen)
      have hrun := run_loadVar_one (w := w) hag ⟨b, 0 + o, none⟩ ((denL E vs)[o]?.getD undef) (by rw [Nat.zero_add]; exact hcells o hlen)
      rw [Nat.zero_add] at hrun
      have : (do pure (.value (← Instr.loadAt T (den E (.own k o)))) : Sem Next).run P w = .ok (.value ((denL E vs)[o]?.getD undef)) w := by
        simp only [den, hb, ptrAt, Instr.loadAt, Instr.sureAddr]
        simp [hrun]
      rw [this]
      exact Good.pure hs (denL_getD E vs o).symm rfl rfl
    · exact fun hf => hf.elim
  · rename_i b o heq
    simp only [List.cons.injEq, and_true] at heq
    subst heq
    split
    · rename_i sz hsz hag
      rintro ⟨hb, hthere⟩
      obtain ⟨_, hsome⟩ := xcells_there (E := E) sz o b hthere
      have hrun : (loadVar T ⟨b, o, none⟩).run P w = .ok (.agg (denL E (xcells W b o sz)).toArray) w := by
        refine run_loadVar_agg hsz hag _ _ ?_ fun j v hj => ?_
        · have : denL E (xcells W b o sz) = denL E (xcells W b o sz) := rfl
          have hl : ∀ n o, (xcells W b o n).length = n := fun n => by induction n with | zero => intro o; rfl | succ n ih => intro o; simp [xcells, ih]
          rw [denL_length, hl]
        · have hd : denL E (xcells W b o sz) = (List.range sz).map (fun j => (W.cell? ⟨b, o + j, none⟩).getD undef) := (xcells_there sz o b hthere).1
          rw [hd] at hj
          have hjl : j < sz := by have := (List.getElem?_eq_some_iff.1 hj).1; simpa using this
          rw [List.getElem?_map, List.getElem?_range hjl] at hj
          simp only [Option.map_some, Option.some.injEq] at hj
          subst hj
          rw [Addr.add_lit]
          exact hs.keeps.cell hb (hsome j hjl)
      have : (do pure (.value (← Instr.loadAt T (den E (.v (.pointer (some ⟨b, o, none⟩)))))) : Sem Next).run P w = .ok (.value (.agg (denL E (xcells W b o sz)).toArray)) w := by
        simp only [den, Instr.loadAt, Instr.sureAddr]
        simp [hrun]
      rw [this]
      exact Good.pure hs rfl rfl rfl
    · rename_i sz hsz hag
      rintro ⟨hb, hsome⟩
      have hrun := run_loadVar_one (w := w) hag ⟨b, o, none⟩ _ (hs.keeps.cell hb hsome)
      have : (do pure (.value (← Instr.loadAt T (den E (.v (.pointer (some ⟨b, o, none⟩)))))) : Sem Next).run P w = .ok (.value ((W.cell? ⟨b, o, none⟩).getD undef)) w := by
        simp only [den, Instr.loadAt, Instr.sureAddr]
        simp [hrun]
      rw [this]
      exact Good.pure hs rfl rfl rfl
    · exact fun hf => hf.elim
  · exact fun hf => hf.elim
end
end Go.LE
end
section
namespace Go.LE
open Go.RowKit
section
variable {P : Program} {W : World} {bs : List Nat} {κ : Nat} {E : Nat → Value} {F : Nat → List Nat} {h : Nat → Option Ent} {w : World} {K : Nat → Prop}
def setRange (vs : List SV) (o : Nat) (ps : List SV) : List SV := vs.take o ++ ps ++ vs.drop (o + ps.length)
def setEnt : Option Ent → Nat → List SV → Option Ent
  | some (.cells T vs), o, ps => some (.cells T (setRange vs o ps))
  | some (.row T s n vs), o, ps => some (.row T s n (setRange vs o ps))
  | e, _, _ => e
def isC : Option Ent → Bool
  | some (.cells _ _) => true
  | _ => false
def semStore (P : Program) (h : Nat → Option Ent) (T : TypeId) : List SV → R
  | [.own k o, x] =>
    match ts P T, entVs (h k) with
    | some sz, some vs => { side := (partsOf x).length = sz ∧ o + sz ≤ vs.length ∧ (0 < sz ∨ isC (h k) = true) ∧ (partsOf x).all oneSV = true, val := .v undef, upd := [(k, setEnt (h k) o (partsOf x))], reads := [k] }
    | _, _ => .bad
  | _ => .bad
theorem ptrAt_one (a : Option Addr) (o : Nat) : (ptrAt a o).oneCell' = true := by cases a <;> rfl
theorem oneSV_den (E : Nat → Value) : ∀ {x : SV}, oneSV x = true → (den E x).oneCell' = true
  | .v x, hx => hx
  | .agg _, hx => by cases hx
  | .tup _, hx => by cases hx
  | .own k o, _ => ptrAt_one _ _
  | .hd k, _ => hv_one _
  | .ifc _ _, _ => rfl
  | .part _ _, _ => hv_one _
  | .fn _ _ _, _ => rfl
theorem denL_setRange (E : Nat → Value) (vs ps : List SV) (o : Nat) : denL E (setRange vs o ps) = (denL E vs).take o ++ denL E ps ++ (denL E vs).drop (o + (denL E ps).length) := by
  simp [setRange, denL_eq_map, List.map_take, List.map_drop]
theorem keeps_setRow (w : World) (g : Nat) (cs : Array Value) : Keeps w [g] (w.setRow g cs) :=
  ⟨rfl, rfl, rfl, by simp, fun b _ hn => setRow_other w g b cs (by simpa using hn)⟩
theorem store_good {T : TypeId} {p x : SV} (hs : HeapSat W bs E F h w) (hside : (semStore P h T [p, x]).side) :
    Good P W bs κ E h (semStore P h T [p, x]) ((do Instr.storeAt T (den E p) (den E x); pure .skip : Sem Next).run P w) := by
  revert hside
  unfold semStore
  split
  · rename_i k o x' heq
    simp only [List.cons.injEq, and_true] at heq
    obtain ⟨rfl, rfl⟩ := heq
    split
    · rename_i sz vs hsz hvs
      rintro ⟨hpl, hlen, hpos, hone⟩
      have hone' : ∀ v ∈ denL E (partsOf x), v.oneCell' = true := by
        intro v hv
        rw [denL_eq_map] at hv
        obtain ⟨y, hy, rfl⟩ := List.mem_map.1 hv
        exact oneSV_den E (List.all_eq_true.1 hone y hy)
      have hcl : (den E x).cells.toList = denL E (partsOf x) := (denL_partsOf E x).symm
      have hcs : (den E x).cells.size = sz := by rw [← Array.length_toList, hcl, denL_length, hpl]
      cases hk : h k with
      | none => simp [hk, entVs] at hvs
      | some e =>
        have hent := hs.ent k e hk
        have key : ∃ g cur T', base (E k) = some ⟨g, 0, none⟩ ∧ F k = [g] ∧ w.heap[g]? = some (.cells cur T' (0, 0)) ∧ o + sz ≤ cur.size ∧
            ∀ w' : World, w'.heap[g]? = some (.cells (cur.toList.take o ++ denL E (partsOf x) ++ cur.toList.drop (o + sz)).toArray T' (0, 0)) → ∃ e', setEnt (h k) o (partsOf x) = some e' ∧ entSat E (E k) [g] w' e' := by
          cases e with
          | obj d R => simp [hk, entVs] at hvs
          | mp ks us => simp [hk, entVs] at hvs
          | cells T' us =>
            simp only [hk, entVs, Option.some.injEq] at hvs
            subst hvs
            obtain ⟨b, h1, h2, h3⟩ := hent
            refine ⟨b, _, _, by rw [h1]; rfl, h2, h3, by simp [denL_length]; omega, fun w' hw' => ⟨.cells T' (setRange us o (partsOf x)), by rw [hk]; rfl, ⟨b, h1, rfl, ?_⟩⟩⟩
            rw [hw', denL_setRange]
            simp [denL_length, hpl]
          | row T' size n us =>
            simp only [hk, entVs, Option.some.injEq] at hvs
            subst hvs
            obtain ⟨⟨hl, hor⟩, hf⟩ := hent
            have hpos : 0 < sz := hpos.resolve_right (by rw [hk]; exact Bool.false_ne_true)
            rcases hor with ⟨h1, h2⟩ | ⟨g, cap, cur, h1, hb0, hh, hnc, hcm, hcs', htake⟩
            · have : (denL E us).length = 0 := by rw [hl, h2]; simp
              rw [denL_length] at this
              omega
            · have hul : us.length = n * size := by rw [← hl, denL_length]
              have hnsz : n * size ≤ cap * size := Nat.mul_le_mul_right _ hnc
              refine ⟨g, cur, _, by rw [h1]; rfl, by rw [hf, h1]; rfl, hh, by omega, fun w' hw' => ⟨.row T' size n (setRange us o (partsOf x)), by rw [hk]; rfl, ⟨⟨?_, .inr ⟨g, cap, _, h1, hb0, hw', hnc, hcm, ?_, ?_⟩⟩, by rw [h1]; rfl⟩⟩⟩
              · rw [denL_setRange]
                simp only [List.length_append, List.length_take, List.length_drop, denL_length, hpl]
                omega
              · simp only [List.size_toArray, List.length_append, List.length_take, List.length_drop, denL_length, hpl, Array.length_toList]
                omega
              · rw [denL_setRange, ← htake]
                simp only [denL_length, hpl]
                apply List.ext_getElem?
                intro j
                simp only [List.getElem?_take, List.getElem?_append, List.length_append, List.length_take, denL_length, hpl, List.getElem?_drop, Array.length_toList]
                by_cases hj1 : j < n * size
                · rw [if_pos hj1]
                  repeat' split
                  all_goals (first | rfl | omega | (congr 1; omega) | skip)
                · rw [if_neg hj1]
                  repeat' split
                  all_goals (first | rfl | omega | skip)
        obtain ⟨g, cur, T', hb, hF, hh, hle, hset⟩ := key
        obtain ⟨e', he', hsat⟩ := hset _ (setRow_heap w g cur _ T' _ hh)
        have hst := run_storeCells_at P g o T' (denL E (partsOf x)) 0 cur w hh (by rw [denL_length, hpl]; omega) hone'
        have : (do Instr.storeAt T (den E (.own k o)) (den E x); pure .skip : Sem Next).run P w = .ok .skip (w.setRow g (cur.toList.take o ++ denL E (partsOf x) ++ cur.toList.drop (o + sz)).toArray) := by
          simp only [den, hb, ptrAt, Instr.storeAt, Instr.sureAddr, Nat.zero_add]
          simp only [Nat.add_zero, denL_length, hpl] at hst
          simp [storeVar, hcs, run_ts hsz, hcl, hst]
        rw [this]
        rw [hk] at he'
        simp only [Good, Runs, updL, he']
        refine ⟨trivial, E, _, fun _ _ => rfl, rfl, hs.turn hk hsat (fun b hb => by left; rw [hF]; exact hb) (fun b hb => ?_) ?_⟩
        · simp at hb; subst hb
          rw [size_setRow]
          exact (Array.getElem?_eq_some_iff.1 hh).1
        · rw [hF]; exact keeps_setRow w g _
    · exact fun hf => hf.elim
  · exact fun hf => hf.elim
end
end Go.LE
end
section
namespace Go.LE
open Go.RowKit
section
variable {P : Program} {W : World} {bs : List Nat} {κ : Nat} {E : Nat → Value} {F : Nat → List Nat} {h : Nat → Option Ent} {w : World} {K : Nat → Prop}
theorem good_value {r : R} {s : Sem Value} (hs : HeapSat W bs E F h w) (hu : r.upd = []) (hp : r.pan = none) (hrun : s.run P w = .ok (den E r.val) w) :
    Good P W bs κ E h r ((do pure (.value (← s)) : Sem Next).run P w) := by
  have : (do pure (.value (← s)) : Sem Next).run P w = .ok (.value (den E r.val)) w := by simp [hrun]
  rw [this]
  exact Good.pure hs rfl hu hp
def semFieldAddr (P : Program) (h : Nat → Option Ent) (S : TypeId) (f : Nat) : List SV → R
  | [.own k o] => match tf P S f, entVs (h k) with
    | some (off, sz, _), some vs => { side := 0 < sz ∧ o < vs.length, val := .own k (o + off), reads := [k] }
    | _, _ => .bad
  | [.v (.pointer (some ⟨b, o, none⟩))] => match tf P S f with
    | some (off, sz, _) => .req (0 < sz) (.v (.pointer (some ⟨b, o + off, none⟩)))
    | none => .bad
  | _ => .bad
theorem tf_parts {S f off sz : Nat} {ag : Bool} (ht : tf P S f = some (off, sz, ag)) : ∃ (fs : Array Field) (d : Field), P.underlying S = some (.struct fs) ∧ fs[f]? = some d ∧ ts P d.type = some sz ∧ ta P d.type = some ag ∧ d.offset = off := by
  unfold tf at ht
  split at ht
  · rename_i fs hu
    obtain ⟨d, hd, ht⟩ := Option.bind_eq_some_iff.1 ht
    obtain ⟨s, hs, ht⟩ := Option.bind_eq_some_iff.1 ht
    obtain ⟨a, ha, ht⟩ := Option.map_eq_some_iff.1 ht
    simp only [Prod.mk.injEq] at ht
    obtain ⟨h1, h2, h3⟩ := ht
    exact ⟨fs, d, hu, hd, h2 ▸ hs, h3 ▸ ha, h1⟩
  · cases ht
theorem run_fieldAt {S f off sz : Nat} {ag : Bool} (ht : tf P S f = some (off, sz, ag)) (hpos : 0 < sz) (b o : Nat) (w : World) :
    (Instr.fieldAt S (.pointer (some ⟨b, o, none⟩)) f).run P w = .ok (.pointer (some ⟨b, o + off, none⟩)) w := by
  obtain ⟨fs, d, hu, hd, hts, hta, ho⟩ := tf_parts ht
  subst ho
  have hne : sz ≠ 0 := by omega
  have hadd : (⟨b, o, none⟩ : Addr).add d.offset = ⟨b, o + d.offset, none⟩ := by unfold Addr.add; split <;> simp_all
  simp [Instr.fieldAt, run_underlying hu, hd, Instr.sureAddr, fieldPlace, run_ts hts, hne, hadd]
theorem fieldAddr_good {S f : Nat} {x : SV} (hs : HeapSat W bs E F h w) (hside : (semFieldAddr P h S f [x]).side) :
    Good P W bs κ E h (semFieldAddr P h S f [x]) ((do pure (.value (← Instr.fieldAt S (den E x) f)) : Sem Next).run P w) := by
  revert hside
  unfold semFieldAddr
  split
  · rename_i k o heq
    simp only [List.cons.injEq, and_true] at heq
    subst heq
    split
    · rename_i off sz ag vs ht hvs
      rintro ⟨hpos, hlt⟩
      obtain ⟨b, hb, _⟩ := ent_cells hs hvs (Nat.zero_lt_of_lt hlt)
      refine good_value hs rfl rfl ?_
      simp only [den, hb, ptrAt, Nat.zero_add]
      exact run_fieldAt ht hpos b o w
    · exact fun hf => hf.elim
  · rename_i b o heq
    simp only [List.cons.injEq, and_true] at heq
    subst heq
    split
    · rename_i off sz ag ht
      intro hpos
      refine good_value hs rfl rfl ?_
      simp only [den]
      exact run_fieldAt ht hpos b o w
    · exact fun hf => hf.elim
  · exact fun hf => hf.elim
def partSV (ag : Bool) (off sz : Nat) (ps : List SV) : R :=
  match ag with
  | true => .req (off + sz ≤ ps.length) (.agg ((ps.drop off).take sz))
  | false => .req (off < ps.length) (ps.getD off (.v undef))
def semField (P : Program) (S : TypeId) (f : Nat) : List SV → R
  | [.agg l] => match tf P S f with
    | some (off, sz, ag) => partSV ag off sz l
    | none => .bad
  | [.v (.agg cs)] => match tf P S f with
    | some (off, sz, ag) => partSV ag off sz (cs.toList.map .v)
    | none => .bad
  | _ => .bad
theorem run_part {T sz : Nat} {ag : Bool} (hts : ts P T = some sz) (hta : ta P T = some ag) (l : List SV) (off : Nat) (w : World) (E : Nat → Value) (hside : (partSV ag off sz l).side) :
    (part T (denL E l).toArray off).run P w = .ok (den E (partSV ag off sz l).val) w := by
  cases ag with
  | true =>
    simp only [partSV, R.req] at hside ⊢
    simp only [part, Sem.run_bind, run_ta hta, Result.andThen_ok, if_true, run_ts hts, Sem.run_pure, den]
    congr 2
    apply Array.ext'
    simp [denL_eq_map, List.map_take, List.map_drop, Array.toList_extract, List.extract_eq_take_drop]
  | false =>
    simp only [partSV, R.req] at hside ⊢
    have hl : off < (denL E l).length := by rw [denL_length]; exact hside
    rw [denL_getD]
    simp [part, run_ta hta, List.getElem?_eq_getElem hl]
theorem partSV_upd (ag : Bool) (off sz : Nat) (l : List SV) : (partSV ag off sz l).upd = [] ∧ (partSV ag off sz l).pan = none := by cases ag <;> exact ⟨rfl, rfl⟩
theorem field_good {S f : Nat} {x : SV} (hs : HeapSat W bs E F h w) (hside : (semField P S f [x]).side) :
    Good P W bs κ E h (semField P S f [x]) ((do pure (.value (← Instr.field S (den E x) f)) : Sem Next).run P w) := by
  revert hside
  unfold semField
  split
  · rename_i l heq
    simp only [List.cons.injEq, and_true] at heq
    subst heq
    split
    · rename_i off sz ag ht
      intro hside
      obtain ⟨fs, d, hu, hd, hts, hta, ho⟩ := tf_parts ht
      refine good_value hs (partSV_upd _ _ _ _).1 (partSV_upd _ _ _ _).2 ?_
      simp only [Instr.field, Sem.run_bind, run_underlying hu, Result.andThen_ok, hd, asAgg, den, Sem.run_pure, ho]
      exact run_part hts hta l off w E hside
    · exact fun hf => hf.elim
  · rename_i cs heq
    simp only [List.cons.injEq, and_true] at heq
    subst heq
    split
    · rename_i off sz ag ht
      intro hside
      obtain ⟨fs, d, hu, hd, hts, hta, ho⟩ := tf_parts ht
      refine good_value hs (partSV_upd _ _ _ _).1 (partSV_upd _ _ _ _).2 ?_
      have hr := run_part hts hta (cs.toList.map .v) off w E hside
      rw [denL_map_v] at hr
      simp only [Instr.field, Sem.run_bind, run_underlying hu, Result.andThen_ok, hd, asAgg, den, Sem.run_pure, ho]
      simpa using hr
    · exact fun hf => hf.elim
  · exact fun hf => hf.elim
def semExtract (i : Nat) : List SV → R
  | [.tup l] => .req (i < l.length) (l.getD i (.v undef))
  | [.v (.tuple vs)] => .req (i < vs.size) (.v (vs.getD i undef))
  | _ => .bad
theorem extract_good {i : Nat} {x : SV} (hs : HeapSat W bs E F h w) (hside : (semExtract i [x]).side) :
    Good P W bs κ E h (semExtract i [x]) ((do pure (.value (← Instr.extract (den E x) i)) : Sem Next).run P w) := by
  revert hside
  unfold semExtract
  split
  · rename_i l heq
    simp only [List.cons.injEq, and_true] at heq
    subst heq
    intro hside
    refine good_value hs rfl rfl ?_
    have hl : i < (denL E l).length := by rw [denL_length]; exact hside
    simp only [R.req]
    rw [denL_getD]
    simp [Instr.extract, den, List.getElem?_eq_getElem hl]
  · rename_i vs heq
    simp only [List.cons.injEq, and_true] at heq
    subst heq
    intro hside
    refine good_value hs rfl rfl ?_
    have hl : i < vs.size := hside
    simp [Instr.extract, den, hl, R.req]
  · exact fun hf => hf.elim
def bitsV (op : BinOp) (k : IntKind) (a b : Int) : Int :=
  let x := BitVec.ofInt k.bits a
  let y := BitVec.ofInt k.bits b
  k.wrap ((match op with | .and => x &&& y | .or => x ||| y | .xor => x ^^^ y | _ => x &&& ~~~y).toNat : Int)
def binI (op : BinOp) (k : IntKind) (a b : Int) : Prop × Value :=
  match op with
  | .add => (True, .int k (k.wrap (a + b)))
  | .sub => (True, .int k (k.wrap (a - b)))
  | .mul => (True, .int k (k.wrap (a * b)))
  | .quo => (b ≠ 0, .int k (k.wrap (a.tdiv b)))
  | .rem => (b ≠ 0, .int k (a.tmod b))
  | .and => (True, .int k (bitsV .and k a b))
  | .or => (True, .int k (bitsV .or k a b))
  | .xor => (True, .int k (bitsV .xor k a b))
  | .andNot => (True, .int k (bitsV .andNot k a b))
  | .eql => (True, .bool (decide (a = b)))
  | .neq => (True, .bool (!decide (a = b)))
  | .lss => (True, .bool (decide (a < b)))
  | .leq => (True, .bool (decide (a ≤ b)))
  | .gtr => (True, .bool (decide (b < a)))
  | .geq => (True, .bool (decide (b ≤ a)))
  | .shl => (False, undef)
  | .shr => (False, undef)
def shiftI (op : BinOp) (k : IntKind) (a b : Int) : Prop × Value :=
  match op with
  | .shl => (0 ≤ b, .int k (k.wrap (a * 2 ^ (min b.toNat k.bits))))
  | _ => (0 ≤ b, .int k (a.fdiv (2 ^ (min b.toNat k.bits))))
def binS (op : BinOp) (a b : ByteArray) : Prop × Value :=
  match op with
  | .add => (a.size + b.size ≤ 9223372036854775807, .string (a ++ b))
  | .eql => (True, .bool (decide (a = b)))
  | .neq => (True, .bool (!decide (a = b)))
  | .lss => (True, .bool (Op.bytesLess a.toList b.toList))
  | .leq => (True, .bool (Op.bytesLess a.toList b.toList || decide (a = b)))
  | .gtr => (True, .bool (!(Op.bytesLess a.toList b.toList || decide (a = b))))
  | .geq => (True, .bool (!Op.bytesLess a.toList b.toList))
  | _ => (False, undef)
structure EqSpec (P : Program) (T : TypeId) where
  f : List Value → List Value → Option Bool
  ok : ∀ xs ys b (w : World), f xs ys = some b → (eqGuard .eql T (.tmp 0) (.tmp 0) (.agg xs.toArray) (.agg ys.toArray)).run P w = .ok () w ∧ (Op.equal T (.agg xs.toArray) (.agg ys.toArray)).run P w = .ok b w
def valsOf : SV → Option (List Value)
  | .v (.agg cs) => some cs.toList
  | .agg l => l.mapM fun | .v x => some x | _ => none
  | _ => none
def semBin (P : Program) (eqs : (T : TypeId) → Option (EqSpec P T)) (op : BinOp) (T : TypeId) : List SV → R
  | [.v (.int k a), .v (.int k' b)] =>
    match op with
    | .shl => .req (shiftI .shl k a b).1 (.v (shiftI .shl k a b).2)
    | .shr => .req (shiftI .shr k a b).1 (.v (shiftI .shr k a b).2)
    | op => .req (k = k' ∧ (binI op k a b).1) (.v (binI op k a b).2)
  | [.v (.string a), .v (.string b)] => .req (binS op a b).1 (.v (binS op a b).2)
  | [.v (.bool a), .v (.bool b)] =>
    match op with
    | .eql => .req (P.underlying T = some .bool) (.v (.bool (a == b)))
    | .neq => .req (P.underlying T = some .bool) (.v (.bool (!(a == b))))
    | _ => .bad
  | [x, y] =>
    match op, valsOf x, valsOf y, eqs T with
    | .eql, some xs, some ys, some e => .req ((e.f xs ys).isSome = true) (.v (.bool ((e.f xs ys).getD false)))
    | .neq, some xs, some ys, some e => .req ((e.f xs ys).isSome = true) (.v (.bool (!(e.f xs ys).getD false)))
    | _, _, _, _ => .bad
  | _ => .bad
theorem bytes_eq (a b : ByteArray) : (a.toList == b.toList) = decide (a = b) := by
  rw [Bool.eq_iff_iff]
  simp only [beq_iff_eq, decide_eq_true_eq]
  constructor
  · intro hh
    have : ∀ x : ByteArray, x.toList = x.data.toList := fun x => by exact ByteArray.toList_eq x
    rw [this, this] at hh
    cases a; cases b
    simpa using hh
  · intro hh; rw [hh]
theorem run_binI (op : BinOp) (T : TypeId) (k : IntKind) (a b : Int) (w : World) (h1 : op ≠ .shl) (h2 : op ≠ .shr) (hside : (binI op k a b).1) :
    (binOp op T (.int k a) (.int k b)).run P w = .ok (binI op k a b).2 w := by
  cases op <;> first
    | exact absurd rfl h1
    | exact absurd rfl h2
    | (simp [binOp, binI, Op.intArith]; done)
    | (simp [binOp, binI, Op.intBits, bitsV]; done)
    | (simp only [binI] at hside; simp [binOp, binI, Op.intDiv, hside]; done)
    | (simp only [binOp, binI, Op.intCmp, ne_eq, not_true_eq_false, if_false]; first | rfl | (simp; done) | (simp only [Sem.run_pure, ite_false]; congr 2; rw [Bool.eq_iff_iff]; simp))
theorem eqGuard_int (op : BinOp) (T : TypeId) (x y : Operand) (k : IntKind) (a : Int) (b : Value) (w : World) : (eqGuard op T x y (.int k a) b).run P w = .ok () w := by
  unfold eqGuard; cases op <;> simp
theorem eqGuard_string (op : BinOp) (T : TypeId) (x y : Operand) (a : ByteArray) (b : Value) (w : World) : (eqGuard op T x y (.string a) b).run P w = .ok () w := by
  unfold eqGuard; cases op <;> simp
theorem eqGuard_bool (op : BinOp) (T : TypeId) (x y : Operand) (a : Bool) (b : Value) (w : World) : (eqGuard op T x y (.bool a) b).run P w = .ok () w := by
  unfold eqGuard; cases op <;> simp
theorem run_binS (op : BinOp) (T : TypeId) (a b : ByteArray) (w : World) (hside : (binS op a b).1) :
    (binOp op T (.string a) (.string b)).run P w = .ok (binS op a b).2 w := by
  have he := bytes_eq a b
  cases op <;> first
    | (simp [binOp, binS, Op.stringOp, he]; done)
    | exact (id hside : False).elim
    | exact run_string_add_sum _ a b hside
theorem eqGuard_agg (op : BinOp) (T : TypeId) (x y x' y' : Operand) (a b : Value) (w : World) (h : (eqGuard .eql T x y a b).run P w = .ok () w) (ha : ∃ cs, a = .agg cs) : (eqGuard op T x' y' a b).run P w = .ok () w := by
  obtain ⟨cs, rfl⟩ := ha
  cases b <;> cases op <;> first | (simp [eqGuard]; done) | (simpa [eqGuard] using h)
theorem valsOf_den (E : Nat → Value) {x : SV} {xs : List Value} (hx : valsOf x = some xs) : den E x = .agg xs.toArray := by
  unfold valsOf at hx
  split at hx
  · simp only [Option.some.injEq] at hx; subst hx; simp [den]
  · rename_i l
    simp only [den]
    congr 2
    induction l generalizing xs with
    | nil => simp at hx; subst hx; rfl
    | cons y r ih =>
      rw [List.mapM_cons] at hx
      obtain ⟨a, ha, hx⟩ := Option.bind_eq_some_iff.1 hx
      obtain ⟨l', hl', hx⟩ := Option.bind_eq_some_iff.1 hx
      simp at hx; subst hx
      split at ha
      · simp at ha; subst ha; simp [denL, den, ih hl']
      · cases ha
  · cases hx
theorem bin_good {eqs : (T : TypeId) → Option (EqSpec P T)} {op : BinOp} {T : TypeId} {o1 o2 : Operand} {x y : SV} (hs : HeapSat W bs E F h w) (hside : (semBin P eqs op T [x, y]).side) :
    Good P W bs κ E h (semBin P eqs op T [x, y]) ((do pure (.value (← (do eqGuard op T o1 o2 (den E x) (den E y); binOp op T (den E x) (den E y)))) : Sem Next).run P w) := by
  revert hside
  unfold semBin
  split
  · rename_i k a k' b heq
    simp only [List.cons.injEq, and_true] at heq
    obtain ⟨rfl, rfl⟩ := heq
    split
    · intro hside
      refine good_value hs rfl rfl ?_
      have h0 : ¬ b < 0 := by simp only [R.req, shiftI] at hside; omega
      simp only [R.req, den, Sem.run_bind, eqGuard_int, eqGuard_string, eqGuard_bool, Result.andThen_ok]
      simp [binOp, Op.shift, h0, shiftI]
    · intro hside
      refine good_value hs rfl rfl ?_
      have h0 : ¬ b < 0 := by simp only [R.req, shiftI] at hside; omega
      simp only [R.req, den, Sem.run_bind, eqGuard_int, eqGuard_string, eqGuard_bool, Result.andThen_ok]
      simp [binOp, Op.shift, h0, shiftI]
    · rename_i h1 h2
      rintro ⟨rfl, hside⟩
      refine good_value hs rfl rfl ?_
      simp only [R.req, den, Sem.run_bind, eqGuard_int, eqGuard_string, eqGuard_bool, Result.andThen_ok]
      exact run_binI op T k a b w (by intro e; exact h1 e) (by intro e; exact h2 e) hside
  · rename_i a b heq
    simp only [List.cons.injEq, and_true] at heq
    obtain ⟨rfl, rfl⟩ := heq
    intro hside
    refine good_value hs rfl rfl ?_
    simp only [R.req, den, Sem.run_bind, eqGuard_int, eqGuard_string, eqGuard_bool, Result.andThen_ok]
    exact run_binS op T a b w hside
  · rename_i a b heq
    simp only [List.cons.injEq, and_true] at heq
    obtain ⟨rfl, rfl⟩ := heq
    split
    · intro hside
      refine good_value hs rfl rfl ?_
      simp only [R.req, den, Sem.run_bind, eqGuard_int, eqGuard_string, eqGuard_bool, Result.andThen_ok]
      exact run_eql_bool w T a b hside
    · intro hside
      refine good_value hs rfl rfl ?_
      simp only [R.req, den, Sem.run_bind, eqGuard_int, eqGuard_string, eqGuard_bool, Result.andThen_ok]
      exact run_neq_bool w T a b hside
    · exact fun hf => hf.elim
  · rename_i x' y' _ _ _ heq
    simp only [List.cons.injEq, and_true] at heq
    obtain ⟨rfl, rfl⟩ := heq
    split
    · rename_i xs ys e hx hy he
      intro hside
      obtain ⟨b, hb⟩ := Option.isSome_iff_exists.1 hside
      obtain ⟨h1, h2⟩ := e.ok xs ys b w hb
      refine good_value hs rfl rfl ?_
      rw [valsOf_den E hx, valsOf_den E hy]
      simp only [R.req, den, Sem.run_bind, eqGuard_agg .eql T _ _ o1 o2 _ _ w h1 ⟨_, rfl⟩, Result.andThen_ok, binOp, h2, hb]
      rfl
    · rename_i xs ys e hx hy he
      intro hside
      obtain ⟨b, hb⟩ := Option.isSome_iff_exists.1 hside
      obtain ⟨h1, h2⟩ := e.ok xs ys b w hb
      refine good_value hs rfl rfl ?_
      rw [valsOf_den E hx, valsOf_den E hy]
      simp only [R.req, den, Sem.run_bind, eqGuard_agg .neq T _ _ o1 o2 _ _ w h1 ⟨_, rfl⟩, Result.andThen_ok, binOp, h2, hb]
      rfl
    · exact fun hf => hf.elim
  · exact fun hf => hf.elim
def semUn (op : UnOp) : List SV → R
  | [.v (.bool b)] => match op with | .not => .ok (.v (.bool (!b))) | _ => .bad
  | [.v (.int k n)] => match op with
    | .neg => .ok (.v (.int k (k.wrap (0 - n))))
    | .xor => .ok (.v (.int k (bitsV .xor k (if k.signed then -1 else k.max) n)))
    | _ => .bad
  | _ => .bad
theorem un_good {op : UnOp} {x : SV} (hs : HeapSat W bs E F h w) (hside : (semUn op [x]).side) :
    Good P W bs κ E h (semUn op [x]) ((do pure (.value (← Op.unary op (den E x))) : Sem Next).run P w) := by
  revert hside
  unfold semUn
  split
  · rename_i b heq
    simp only [List.cons.injEq, and_true] at heq
    subst heq
    split
    · intro _; exact good_value hs rfl rfl (by simp [R.ok, den, Op.unary])
    · exact fun hf => hf.elim
  · rename_i k n heq
    simp only [List.cons.injEq, and_true] at heq
    subst heq
    split
    · intro _; exact good_value hs rfl rfl (by simp [R.ok, den, Op.unary, Op.intArith])
    · intro _; exact good_value hs rfl rfl (by simp [R.ok, den, Op.unary, Op.intBits, bitsV])
    · exact fun hf => hf.elim
  · exact fun hf => hf.elim
end
end Go.LE
end
section
namespace Go.LE
open Go.RowKit
section
variable {P : Program} {W : World} {bs : List Nat} {κ : Nat} {E : Nat → Value} {F : Nat → List Nat} {h : Nat → Option Ent} {w : World} {K : Nat → Prop}
def semConvert (P : Program) (src dst : TypeId) : List SV → R
  | [.v (.int _ n)] => match P.underlying src, P.underlying dst with
    | some _, some (.int k) => .ok (.v (.int k (k.wrap n)))
    | _, _ => .bad
  | [.v (.string s)] => match P.underlying src, P.underlying dst with
    | some .string, some .string => .ok (.v (.string s))
    | _, _ => .bad
  | _ => .bad
theorem convert_good {src dst : TypeId} {x : SV} (hs : HeapSat W bs E F h w) (hside : (semConvert P src dst [x]).side) :
    Good P W bs κ E h (semConvert P src dst [x]) ((do pure (.value (← convert src dst (den E x))) : Sem Next).run P w) := by
  revert hside
  unfold semConvert
  split
  · rename_i k n heq
    simp only [List.cons.injEq, and_true] at heq
    subst heq
    split
    · rename_i d k' h1 h2
      intro _
      refine good_value hs rfl rfl ?_
      simp [R.ok, den, convert, run_underlying h1, run_underlying h2, Conv.intToInt]
    · exact fun hf => hf.elim
  · rename_i s heq
    simp only [List.cons.injEq, and_true] at heq
    subst heq
    split
    · rename_i h1 h2
      intro _
      refine good_value hs rfl rfl ?_
      simp [R.ok, den, convert, run_underlying h1, run_underlying h2]
    · exact fun hf => hf.elim
  · exact fun hf => hf.elim
def sliceArgs : Bool → Bool → List SV → Option (Option Int × Option Int)
  | true, true, [.v (.int _ a), .v (.int _ b)] => some (some a, some b)
  | true, false, [.v (.int _ a)] => some (some a, none)
  | false, true, [.v (.int _ b)] => some (none, some b)
  | false, false, [] => some (none, none)
  | _, _, _ => none
def semSliceS (P : Program) (T : TypeId) (s : ByteArray) (a b : Int) : R :=
  .req (P.underlying T = some .string ∧ 0 ≤ a ∧ a ≤ b ∧ b ≤ s.size) (.v (.string (s.extract a.toNat b.toNat)))
def semSliceX (P : Program) (T : TypeId) (ao : Option Addr) (n c : Nat) (a b : Int) : R :=
  match P.underlying T with
  | some (.slice e) => match ts P e with
    | some sz => .req (0 ≤ a ∧ a ≤ b ∧ b ≤ c) (.v (.slice (if c = a.toNat then ao else ao.map (·.add (a.toNat * sz))) (b.toNat - a.toNat) (c - a.toNat)))
    | none => .bad
  | _ => .bad
def semSlice (P : Program) (T : TypeId) (lo hi mx : Bool) : List SV → R
  | .v (.string s) :: rest => match mx, sliceArgs lo hi rest with
    | false, some (a, b) => semSliceS P T s (a.getD 0) (b.getD s.size)
    | _, _ => .bad
  | .v (.slice ao n c) :: rest => match mx, sliceArgs lo hi rest with
    | false, some (a, b) => semSliceX P T ao n c (a.getD 0) (b.getD n)
    | _, _ => .bad
  | _ => .bad
def argOf (l : List SV) (i : Nat) (E : Nat → Value) : Option Value := l[i]?.map (den E)
theorem sliceBounds_run (isSlice : Bool) (len cap : Nat) {lo hi : Bool} {rest : List SV} {a b : Option Int} (ha : sliceArgs lo hi rest = some (a, b)) (E : Nat → Value)
    (h0 : 0 ≤ a.getD 0) (h1 : a.getD 0 ≤ b.getD len) (h2 : b.getD len ≤ cap) (w : World) :
    (Instr.sliceBounds isSlice len cap (if lo then argOf rest 0 E else none) (if hi then argOf rest (if lo then 1 else 0) E else none) none).run P w = .ok ((a.getD 0).toNat, (b.getD len).toNat, cap) w := by
  unfold sliceArgs at ha
  split at ha <;> simp only [Option.some.injEq, Prod.mk.injEq, reduceCtorEq] at ha <;> obtain ⟨rfl, rfl⟩ := ha <;>
    simp only [Option.getD_some, Option.getD_none] at h0 h1 h2 ⊢
  · rename_i k x k' y
    obtain ⟨y, rfl⟩ := Int.eq_ofNat_of_zero_le (show 0 ≤ y by omega)
    have e1 : (0 ≤ y ∧ y ≤ (cap : Int)) := ⟨by omega, h2⟩
    have e2 : (0 ≤ x ∧ x ≤ (y : Int)) := ⟨h0, h1⟩
    have e1' : (y : Int) ≤ cap := h2
    simp [Instr.sliceBounds, argOf, den, Instr.sliceBound, asIntOf, e1', e2, Int.natCast_nonneg]
    try omega
  · rename_i k x
    have e2 : (0 ≤ x ∧ x ≤ (len : Int)) := ⟨h0, h1⟩
    simp [Instr.sliceBounds, argOf, den, Instr.sliceBound, asIntOf, e2]
  · rename_i k y
    have e1 : (0 ≤ y ∧ y ≤ (cap : Int)) := ⟨by omega, h2⟩
    simp [Instr.sliceBounds, argOf, den, Instr.sliceBound, asIntOf, e1]
  · simp [Instr.sliceBounds]
theorem slice_good {T : TypeId} {lo hi mx : Bool} {x : SV} {rest : List SV} (hs : HeapSat W bs E F h w) (hside : (semSlice P T lo hi mx (x :: rest)).side) :
    Good P W bs κ E h (semSlice P T lo hi mx (x :: rest)) ((do pure (.value (← Instr.sliceAt T (den E x) (if lo then argOf rest 0 E else none) (if hi then argOf rest (if lo then 1 else 0) E else none) none)) : Sem Next).run P w) := by
  revert hside
  unfold semSlice
  split
  · rename_i s rest' heq
    simp only [List.cons.injEq] at heq
    obtain ⟨rfl, rfl⟩ := heq
    split
    · rename_i a b hab
      rintro ⟨hu, h0, h1, h2⟩
      refine good_value hs rfl rfl ?_
      have hb := sliceBounds_run (P := P) false s.size s.size hab E h0 h1 h2 w
      simp only [Instr.sliceAt, Sem.run_bind, run_underlying hu, Result.andThen_ok, den, Instr.slice, Option.isSome_none, Bool.false_eq_true, if_false, hb, semSliceS, R.req, Sem.run_pure]
    · exact fun hf => hf.elim
  · rename_i ao n c rest' heq
    simp only [List.cons.injEq] at heq
    obtain ⟨rfl, rfl⟩ := heq
    split
    · rename_i a b hab
      unfold semSliceX
      split
      · rename_i e hu
        split
        · rename_i sz hsz
          rintro ⟨h0, h1, h2⟩
          refine good_value hs rfl rfl ?_
          have hb := sliceBounds_run (P := P) true n c hab E h0 h1 h2 w
          simp only [Instr.sliceAt, Sem.run_bind, run_underlying hu, Result.andThen_ok, den, Instr.slice, hb, run_ts hsz, R.req, Sem.run_pure]
        · exact fun hf => hf.elim
      · exact fun hf => hf.elim
    · exact fun hf => hf.elim
  · exact fun hf => hf.elim
def bt (s : ByteArray) (i : Int) : Int := ((s.data[i.toNat]?.getD 0).toNat : Int)
def semIndex (P : Program) (T : TypeId) : List SV → R
  | [.v (.string s), .v (.int _ i)] => .req (P.underlying T = some .string ∧ 0 ≤ i ∧ i < s.size) (.v (.int .u8 (bt s i)))
  | [.agg l, .v (.int _ i)] => match P.underlying T with
    | some (.array n e) => match ts P e, ta P e with
      | some sz, some ag => { partSV ag (i.toNat * sz) sz l with side := 0 ≤ i ∧ i < n ∧ (partSV ag (i.toNat * sz) sz l).side }
      | _, _ => .bad
    | _ => .bad
  | [.v (.agg cs), .v (.int _ i)] => match P.underlying T with
    | some (.array n e) => match ts P e, ta P e with
      | some sz, some ag => { partSV ag (i.toNat * sz) sz (cs.toList.map .v) with side := 0 ≤ i ∧ i < n ∧ (partSV ag (i.toNat * sz) sz (cs.toList.map .v)).side }
      | _, _ => .bad
    | _ => .bad
  | _ => .bad
theorem run_index_array {T e n sz : Nat} {ag : Bool} (hu : P.underlying T = some (.array n e)) (hsz : ts P e = some sz) (hag : ta P e = some ag) (l : List SV) (k : IntKind) (i : Int) (h0 : 0 ≤ i) (h1 : i < n)
    (hp : (partSV ag (i.toNat * sz) sz l).side) (w : World) : (Instr.index T (.agg (denL E l).toArray) (.int k i)).run P w = .ok (den E (partSV ag (i.toNat * sz) sz l).val) w := by
  have hi : 0 ≤ i ∧ i < (n : Int) := ⟨h0, h1⟩
  simp only [Instr.index, asIntOf, Sem.run_bind, Sem.run_pure, Result.andThen_ok, run_underlying hu, if_pos hi, run_ts hsz]
  exact run_part hsz hag l _ w E hp
theorem index_good {T : TypeId} {x y : SV} (hs : HeapSat W bs E F h w) (hside : (semIndex P T [x, y]).side) :
    Good P W bs κ E h (semIndex P T [x, y]) ((do pure (.value (← Instr.index T (den E x) (den E y))) : Sem Next).run P w) := by
  revert hside
  unfold semIndex
  split
  · rename_i s k i heq
    simp only [List.cons.injEq, and_true] at heq
    obtain ⟨rfl, rfl⟩ := heq
    rintro ⟨hu, h0, h1⟩
    refine good_value hs rfl rfl ?_
    have hlt : i.toNat < s.size := by omega
    have hd : i.toNat < s.data.size := hlt
    have hg : s[i.toNat]? = some (s[i.toNat]'hlt) := by rw [getElem?_pos]
    have hb : s.data[i.toNat]? = some (s[i.toNat]'hlt) := by rw [Array.getElem?_eq_getElem hd]; rfl
    simp only [Instr.index, asIntOf, den, Sem.run_bind, Sem.run_pure, Result.andThen_ok, run_underlying hu, if_pos h0, hg, R.req, bt, hb, Option.getD_some]
  · rename_i l k i heq
    simp only [List.cons.injEq, and_true] at heq
    obtain ⟨rfl, rfl⟩ := heq
    split
    · rename_i n e hu
      split
      · rename_i sz ag hsz hag
        rintro ⟨h0, h1, hp⟩
        refine good_value hs (partSV_upd _ _ _ _).1 (partSV_upd _ _ _ _).2 ?_
        simp only [den]
        exact run_index_array hu hsz hag l k i h0 h1 hp w
      · exact fun hf => hf.elim
    · exact fun hf => hf.elim
  · rename_i cs k i heq
    simp only [List.cons.injEq, and_true] at heq
    obtain ⟨rfl, rfl⟩ := heq
    split
    · rename_i n e hu
      split
      · rename_i sz ag hsz hag
        rintro ⟨h0, h1, hp⟩
        refine good_value hs (partSV_upd _ _ _ _).1 (partSV_upd _ _ _ _).2 ?_
        have := run_index_array (E := E) hu hsz hag (cs.toList.map .v) k i h0 h1 hp w
        rw [denL_map_v] at this
        simpa [den] using this
      · exact fun hf => hf.elim
    · exact fun hf => hf.elim
  · exact fun hf => hf.elim
def semIndexAddr (P : Program) (h : Nat → Option Ent) (T : TypeId) : List SV → R
  | [.hd k, .v (.int _ i)] => match P.underlying T, h k with
    | some (.slice e), some (.row _ size n _) => { side := ts P e = some size ∧ 0 ≤ i ∧ i < n ∧ 0 < size, val := .own k (i.toNat * size), reads := [k] }
    | _, _ => .bad
  | [.own k o, .v (.int _ i)] => match P.underlying T, entVs (h k) with
    | some (.array n e), some vs => match ts P e with
      | some sz => { side := 0 ≤ i ∧ i < n ∧ 1 < n ∧ o < vs.length, val := .own k (o + i.toNat * sz), reads := [k] }
      | none => .bad
    | _, _ => .bad
  | [.v (.slice (some ⟨b, o, none⟩) n _), .v (.int _ i)] => match P.underlying T with
    | some (.slice e) => match ts P e with
      | some sz => .req (0 ≤ i ∧ i < n) (.v (.pointer (some ⟨b, o + i.toNat * sz, none⟩)))
      | none => .bad
    | _ => .bad
  | [.v (.pointer (some ⟨b, o, none⟩)), .v (.int _ i)] => match P.underlying T with
    | some (.array n e) => match ts P e with
      | some sz => .req (0 ≤ i ∧ i < n ∧ 1 < n) (.v (.pointer (some ⟨b, o + i.toNat * sz, none⟩)))
      | none => .bad
    | _ => .bad
  | _ => .bad
theorem add_lit' (b o n : Nat) : (⟨b, o, none⟩ : Addr).add n = ⟨b, o + n, none⟩ := by unfold Addr.add; split <;> simp_all
theorem indexAddr_good {T : TypeId} {x y : SV} (hs : HeapSat W bs E F h w) (hside : (semIndexAddr P h T [x, y]).side) :
    Good P W bs κ E h (semIndexAddr P h T [x, y]) ((do pure (.value (← Instr.indexAt T (den E x) (den E y))) : Sem Next).run P w) := by
  revert hside
  unfold semIndexAddr
  split
  · rename_i k kk i heq
    simp only [List.cons.injEq, and_true] at heq
    obtain ⟨rfl, rfl⟩ := heq
    split
    · rename_i e T' size n vs hu hk
      rintro ⟨hsz, h0, h1, hpos⟩
      refine good_value hs rfl rfl ?_
      obtain ⟨⟨hl, hor⟩, _⟩ := hs.ent k _ hk
      rcases hor with ⟨_, h2⟩ | ⟨g, cap, cur, hE, _, _, _, _, _, _⟩
      · omega
      · have hi : 0 ≤ i ∧ i < (n : Int) := ⟨h0, h1⟩
        have hvv : hv (E k) = Value.slice (some ⟨g, 0, none⟩) n cap := by rw [hE]; rfl
        simp only [den, hvv]
        rw [hE]
        simp [Instr.indexAt, asIntOf, run_underlying hu, hi, run_ts hsz, add_lit', base, ptrAt]
    · exact fun hf => hf.elim
  · rename_i k o kk i heq
    simp only [List.cons.injEq, and_true] at heq
    obtain ⟨rfl, rfl⟩ := heq
    split
    · rename_i n e vs hu hvs
      split
      · rename_i sz hsz
        rintro ⟨h0, h1, hn, hlt⟩
        obtain ⟨b, hb, _⟩ := ent_cells hs hvs (Nat.zero_lt_of_lt hlt)
        refine good_value hs rfl rfl ?_
        have hi : 0 ≤ i ∧ i < (n : Int) := ⟨h0, h1⟩
        simp [den, hb, ptrAt, Instr.indexAt, asIntOf, run_underlying hu, Instr.sureAddr, hi, run_ts hsz, add_lit']
      · exact fun hf => hf.elim
    · exact fun hf => hf.elim
  · rename_i b o n c kk i heq
    simp only [List.cons.injEq, and_true] at heq
    obtain ⟨rfl, rfl⟩ := heq
    split
    · rename_i e hu
      split
      · rename_i sz hsz
        rintro ⟨h0, h1⟩
        refine good_value hs rfl rfl ?_
        have hi : 0 ≤ i ∧ i < (n : Int) := ⟨h0, h1⟩
        simp [R.req, den, Instr.indexAt, asIntOf, run_underlying hu, hi, run_ts hsz, add_lit']
      · exact fun hf => hf.elim
    · exact fun hf => hf.elim
  · rename_i b o kk i heq
    simp only [List.cons.injEq, and_true] at heq
    obtain ⟨rfl, rfl⟩ := heq
    split
    · rename_i n e hu
      split
      · rename_i sz hsz
        rintro ⟨h0, h1, hn⟩
        refine good_value hs rfl rfl ?_
        have hi : 0 ≤ i ∧ i < (n : Int) := ⟨h0, h1⟩
        simp [R.req, den, Instr.indexAt, asIntOf, run_underlying hu, Instr.sureAddr, hi, run_ts hsz, add_lit']
      · exact fun hf => hf.elim
    · exact fun hf => hf.elim
  · exact fun hf => hf.elim
end
end Go.LE
end
section
namespace Go.LE
open Go.RowKit
section
variable {P : Program} {W : World} {bs : List Nat} {κ : Nat} {E : Nat → Value} {F : Nat → List Nat} {h : Nat → Option Ent} {w : World} {K : Nat → Prop}
def semMkI (P : Program) (T : TypeId) : List SV → R
  | [.v x] => .req (P.concrete T = true) (.v (.iface T x))
  | [x] => match valsOf x with
    | some vs => .req (P.concrete T = true) (.v (.iface T (.agg vs.toArray)))
    | none => .req (P.concrete T = true) (.ifc T x)
  | _ => .bad
theorem mkI_good {T : TypeId} {x : SV} (hs : HeapSat W bs E F h w) (hside : (semMkI P T [x]).side) :
    Good P W bs κ E h (semMkI P T [x]) ((do pure (.value (← Instr.makeInterface T (den E x))) : Sem Next).run P w) := by
  revert hside
  unfold semMkI
  split
  · rename_i x' heq
    simp only [List.cons.injEq, and_true] at heq
    subst heq
    intro hside
    exact good_value hs rfl rfl (run_makeInterface w T _ hside)
  · rename_i x' _ heq
    simp only [List.cons.injEq, and_true] at heq
    subst heq
    split
    · rename_i vs hvs
      intro hside
      refine good_value hs rfl rfl ?_
      simp only [R.req, den]
      rw [valsOf_den E hvs]
      exact run_makeInterface w T _ hside
    · intro hside
      exact good_value hs rfl rfl (run_makeInterface w T _ hside)
  · exact fun hf => hf.elim
def semNilCheck (h : Nat → Option Ent) : List SV → R
  | [.own k o] => match entVs (h k) with
    | some vs => { side := o < vs.length, val := .own k o, reads := [k] }
    | none => .bad
  | [.v (.pointer (some a))] => .ok (.v (.pointer (some a)))
  | _ => .bad
theorem nilCheck_good {x : SV} {o : Oper} {ρ : Operand → Value} {X : Operand} (hop : o.op = .nilCheck X) (hρ : ρ X = den E x) (hs : HeapSat W bs E F h w) (hside : (semNilCheck h [x]).side) :
    Good P W bs κ E h (semNilCheck h [x]) ((execOp ρ o).run P w) := by
  revert hside
  unfold semNilCheck
  split
  · rename_i k off heq
    simp only [List.cons.injEq, and_true] at heq
    subst heq
    split
    · rename_i vs hvs
      intro hlt
      obtain ⟨b, hb, _⟩ := ent_cells hs hvs (Nat.zero_lt_of_lt hlt)
      have : (execOp ρ o).run P w = .ok (.value (den E (.own k off))) w := by simp [execOp, hop, hρ, den, hb, ptrAt]
      rw [this]
      exact Good.pure hs rfl rfl rfl
    · exact fun hf => hf.elim
  · rename_i a heq
    simp only [List.cons.injEq, and_true] at heq
    subst heq
    intro _
    have : (execOp ρ o).run P w = .ok (.value (.pointer (some a))) w := by simp [execOp, hop, hρ, den]
    rw [this]
    exact Good.pure hs rfl rfl rfl
  · exact fun hf => hf.elim
def fillSV (place : Nat → Option (Nat × Nat)) (cells : List SV) : List (Nat × SV) → Option (List SV)
  | [] => some cells
  | (i, x) :: r => match place i with
    | some (off, size) => if (partsOf x).length = size ∧ off + size ≤ cells.length then fillSV place (setRange cells off (partsOf x)) r else none
    | none => none
theorem setRange_length (vs ps : List SV) (o : Nat) (h : o + ps.length ≤ vs.length) : (setRange vs o ps).length = vs.length := by
  simp [setRange]; omega
theorem foldl_set (l : List Value) : ∀ (cs : Array Value) (off j : Nat), off + j + l.length ≤ cs.size →
    ((l.zipIdx j).foldl (fun cs (x : Value × Nat) => cs.setIfInBounds (off + x.2) x.1) cs) = (cs.toList.take (off + j) ++ l ++ cs.toList.drop (off + j + l.length)).toArray := by
  induction l with
  | nil => intro cs off j _; simp
  | cons x r ih =>
    intro cs off j hl
    simp only [List.zipIdx_cons, List.foldl_cons, List.length_cons] at hl ⊢
    rw [ih _ off (j + 1) (by simp; omega)]
    apply Array.ext'
    simp only [Array.toList_setIfInBounds]
    have e1 : off + (j + 1) = off + j + 1 := by omega
    rw [e1]
    have hlt : off + j < cs.toList.length := by simp; omega
    have hs : cs.toList.set (off + j) x = cs.toList.take (off + j) ++ x :: cs.toList.drop (off + j + 1) := by
      rw [List.set_eq_take_append_cons_drop, if_pos hlt]
    have hlen : (cs.toList.take (off + j)).length = off + j := by rw [List.length_take]; omega
    rw [hs]
    have t1 : List.take (off + j + 1) (cs.toList.take (off + j) ++ x :: cs.toList.drop (off + j + 1)) = cs.toList.take (off + j) ++ [x] := by
      have := List.take_length_add_append (l₁ := cs.toList.take (off + j)) (l₂ := x :: cs.toList.drop (off + j + 1)) 1
      rw [hlen] at this
      rw [this]; rfl
    have t2 : List.drop (off + j + 1 + r.length) (cs.toList.take (off + j) ++ x :: cs.toList.drop (off + j + 1)) = cs.toList.drop (off + j + (r.length + 1)) := by
      have := List.drop_length_add_append (l₁ := cs.toList.take (off + j)) (l₂ := x :: cs.toList.drop (off + j + 1)) (1 + r.length)
      rw [hlen] at this
      rw [show off + j + 1 + r.length = off + j + (1 + r.length) by omega, this, Nat.add_comm 1, List.drop_succ_cons, List.drop_drop]
      congr 1; omega
    rw [t1, t2]
    simp
theorem fill_den {place : Nat → Option (Nat × Nat)} (E : Nat → Value) : ∀ {ps : List (Nat × SV)} {cells out : List SV}, fillSV place cells ps = some out →
    Instr.fill place (denL E cells).toArray (ps.map fun p => (p.1, den E p.2)) = some (denL E out).toArray
  | [], cells, out, hf => by simp [fillSV] at hf; subst hf; rfl
  | (i, x) :: r, cells, out, hf => by
    unfold fillSV at hf
    split at hf
    · rename_i off size hpl
      split at hf
      · rename_i hc
        have hcl : (den E x).cells.toList = denL E (partsOf x) := (denL_partsOf E x).symm
        have hcs : (den E x).cells.size = size := by rw [← Array.length_toList, hcl, denL_length, hc.1]
        have ih := fill_den E hf
        simp only [List.map_cons, Instr.fill, hpl]
        have hng : ((den E x).cells.size ≠ size || off + (den E x).cells.size > (denL E cells).toArray.size) = false := by
          simp [hcs, denL_length]; omega
        rw [if_neg (by simp [hcs, denL_length]; omega)]
        have hfo := foldl_set (den E x).cells.toList (denL E cells).toArray off 0 (by rw [Array.length_toList, hcs]; simp [denL_length]; omega)
        have hz : (Array.foldl (fun (cs : Array Value) (x : Value × Nat) => cs.setIfInBounds (off + x.2) x.1) (denL E cells).toArray (den E x).cells.zipIdx) =
            (denL E (setRange cells off (partsOf x))).toArray := by
          rw [← Array.foldl_toList, Array.toList_zipIdx, hfo, hcl, denL_setRange]
          simp [denL_length]
        rw [← ih, ← hz]
      · cases hf
    · cases hf
def tfs (P : Program) (S : TypeId) : Option (List (Nat × Nat)) :=
  match P.underlying S with
  | some (.struct fs) => fs.toList.mapM fun d => (ts P d.type).map fun s => (d.offset, s)
  | _ => none
def semBuild (P : Program) (T : TypeId) (idx : List Nat) (args : List SV) : R :=
  match tz P T, tfs P T, P.underlying T with
  | some zs, some fl, some (.struct _) => match fillSV (fun i => fl[i]?) (zs.map .v) (idx.zip args) with
    | some cells => .ok (.agg cells)
    | none => .bad
  | some zs, _, some (.array _ e) => match ts P e with
    | some sz => match fillSV (fun i => some (i * sz, sz)) (zs.map .v) (idx.zip args) with
      | some cells => .ok (.agg cells)
      | none => .bad
    | none => .bad
  | _, _, _ => .bad
def semBuildSlice (P : Program) (κ : Nat) (T : TypeId) (len : Nat) (idx : List Nat) (args : List SV) : R :=
  match P.underlying T with
  | some (.slice e) => match ts P e, tz P e with
    | some sz, some zs => match fillSV (fun i => some (i * sz, sz)) ((List.replicate len zs).flatten.map .v) (idx.zip args) with
      | some cells => { side := len * sz ≤ 16777216 ∧ zs.length = sz ∧ 0 < sz, val := .hd (nk κ), upd := [(nk κ, some (.row e sz len cells))] }
      | none => .bad
    | _, _ => .bad
  | _ => .bad
theorem run_mapM_list {α β : Type} (f : α → Sem β) (g : α → Option β) (w : World) (hfg : ∀ a b, g a = some b → (f a).run P w = .ok b w) :
    ∀ {l : List α} {r : List β}, l.mapM g = some r → (l.mapM f).run P w = .ok r w
  | [], r, h => by simp at h; subst h; simp
  | a :: l, r, h => by
    rw [List.mapM_cons] at h
    obtain ⟨b, hb, h⟩ := Option.bind_eq_some_iff.1 h
    obtain ⟨bs, hbs, h⟩ := Option.bind_eq_some_iff.1 h
    simp at h; subst h
    rw [List.mapM_cons]
    simp [hfg a b hb, run_mapM_list f g w hfg hbs]
theorem zip_map_fst {α β γ : Type} (f : β → γ) (l : List (α × β)) : (l.map fun p => (p.1, f p.2)) = (l.map (·.1)).zip ((l.map (·.2)).map f) := by
  induction l with
  | nil => rfl
  | cons x r ih => simp [ih]
theorem zip_map_den (E : Nat → Value) (idx : List Nat) (args : List SV) : ((idx.zip args).map fun p => (p.1, den E p.2)) = idx.zip (denL E args) := by
  induction idx generalizing args with
  | nil => rfl
  | cons i r ih => cases args with
    | nil => rfl
    | cons a q => simp [denL, ih]
theorem build_good {T : TypeId} {idx : List Nat} {args : List SV} (hs : HeapSat W bs E F h w) (hside : (semBuild P T idx args).side) :
    Good P W bs κ E h (semBuild P T idx args) ((do pure (.value (← Instr.build T (idx.zip (denL E args)).toArray)) : Sem Next).run P w) := by
  revert hside
  unfold semBuild
  split
  · rename_i zs fl fs hz hfl hu
    split
    · rename_i cells hf
      intro _
      refine good_value hs rfl rfl ?_
      obtain ⟨z, rfl, hrun⟩ := run_tz hz
      unfold tfs at hfl
      simp only [hu] at hfl
      have hm := run_mapM_list (P := P) (fun d : Field => do pure (d.offset, ← sizeOf d.type)) (fun d => (ts P d.type).map fun s => (d.offset, s)) w (fun d b hb => by
        obtain ⟨s, hs, rfl⟩ := Option.map_eq_some_iff.1 hb
        simp [run_ts hs]) hfl
      have hfd := fill_den E hf
      rw [denL_map_v, zip_map_den] at hfd
      have hm' : (fs.mapM (m := Sem) fun d : Field => do pure (d.offset, ← sizeOf d.type)).run P w = .ok fl.toArray w := by
        rw [Array.mapM_eq_mapM_toList]
        rw [Sem.run_map, hm]
        rfl
      simp only [Instr.build, Sem.run_bind, hrun, Result.andThen_ok, run_underlying hu, hm', R.ok, den]
      have hpl : (fun (x : Nat) => fl.toArray[x]?) = fun i => fl[i]? := by funext i; simp
      rw [hpl]
      simp only [Array.toArray_toList] at hfd
      simp [hfd]
    · exact fun hf => hf.elim
  · rename_i zs _ n e hz hu
    split
    · rename_i sz hsz
      split
      · rename_i cells hf
        intro _
        refine good_value hs rfl rfl ?_
        obtain ⟨z, rfl, hrun⟩ := run_tz hz
        have hfd := fill_den E hf
        rw [denL_map_v, zip_map_den] at hfd
        simp only [Array.toArray_toList] at hfd
        simp only [Instr.build, Sem.run_bind, hrun, Result.andThen_ok, run_underlying hu, run_ts hsz, R.ok, den]
        simp [hfd]
      · exact fun hf => hf.elim
    · exact fun hf => hf.elim
  · exact fun hf => hf.elim
theorem fillSV_length {place : Nat → Option (Nat × Nat)} : ∀ {ps : List (Nat × SV)} {cells out : List SV}, fillSV place cells ps = some out → out.length = cells.length
  | [], cells, out, hf => by simp [fillSV] at hf; rw [hf]
  | (i, x) :: r, cells, out, hf => by
    unfold fillSV at hf
    split at hf
    · split at hf
      · rename_i hc
        rw [fillSV_length hf, setRange_length _ _ _ (by omega)]
      · cases hf
    · cases hf
theorem fillSV_keys {place : Nat → Option (Nat × Nat)} {k : Nat} : ∀ {ps : List (Nat × SV)} {cells out : List SV}, fillSV place cells ps = some out → k ∈ keysL out → k ∈ keysL cells ∨ k ∈ keysL (ps.map (·.2))
  | [], cells, out, hf, hk => by simp [fillSV] at hf; subst hf; exact .inl hk
  | (i, x) :: r, cells, out, hf, hk => by
    unfold fillSV at hf
    split at hf
    · split at hf
      · rename_i hc
        rcases fillSV_keys hf hk with h1 | h1
        · rw [setRange, keysL_append, keysL_append, keys_partsOf] at h1
          have ht : ∀ n, k ∈ keysL (cells.take n) → k ∈ keysL cells := fun n hn => by
            obtain ⟨y, hy, hky⟩ := keysL_mem.1 hn
            exact keysL_mem.2 ⟨y, List.mem_of_mem_take hy, hky⟩
          have hd : ∀ n, k ∈ keysL (cells.drop n) → k ∈ keysL cells := fun n hn => by
            obtain ⟨y, hy, hky⟩ := keysL_mem.1 hn
            exact keysL_mem.2 ⟨y, List.mem_of_mem_drop hy, hky⟩
          simp only [List.mem_append] at h1
          rcases h1 with (h1 | h1) | h1
          · exact .inl (ht _ h1)
          · right; simp [keysL, h1]
          · exact .inl (hd _ h1)
        · right; simp [keysL, h1]
      · cases hf
    · cases hf
theorem rep_cells (zs : List Value) (sz len : Nat) (hz : zs.length = sz) (z : Array Value) (hzz : z.toList = zs) : ((Array.range (len * sz)).map (fun i => z[i % z.size]!)).toList = (List.replicate len zs).flatten := by
  subst hz hzz
  induction len with
  | zero => simp
  | succ n ih =>
    rw [List.replicate_succ', List.flatten_append, ← ih]
    simp only [Array.length_toList, Array.toList_map, Array.toList_range]
    rw [Nat.succ_mul, List.range_add, List.map_append]
    congr 1
    simp only [List.flatten_singleton, List.map_map]
    apply List.ext_getElem
    · simp
    · intro i h1 h2
      simp only [List.getElem_map, List.getElem_range, Function.comp]
      have hi : i < z.size := by simpa using h1
      rw [Nat.mul_add_mod_self_right, Nat.mod_eq_of_lt hi]
      simp [hi]
theorem buildSlice_good {T len : Nat} {idx : List Nat} {args : List SV} (hs : HeapSat W bs E F h w) (hK : KeysIn K h) (hk : ∀ k, k / 8 = κ → ¬ K k) (hx : ∀ k ∈ keysL args, K k) (hside : (semBuildSlice P κ T len idx args).side) :
    Good P W bs κ E h (semBuildSlice P κ T len idx args) ((do pure (.value (← Instr.buildSlice T len (idx.zip (denL E args)).toArray)) : Sem Next).run P w) := by
  revert hside
  unfold semBuildSlice
  split
  · rename_i e hu
    split
    · rename_i sz zs hsz hz
      split
      · rename_i cells hf
        rintro ⟨hle, hzl, hpos⟩
        obtain ⟨z, hzz, hrun⟩ := run_tz hz
        have hfd := fill_den E hf
        rw [denL_map_v, zip_map_den] at hfd
        have hcl : cells.length = len * sz := by
          rw [fillSV_length hf]; simp [hzl]
        have hle' : ¬ len * sz > 2 ^ 24 := by omega
        have hrs : (do pure (.value (← Instr.buildSlice T len (idx.zip (denL E args)).toArray)) : Sem Next).run P w =
            .ok (.value (.slice (some ⟨w.heap.size, 0, none⟩) len len)) (w.alloc (.cells (denL E cells).toArray e)) := by
          simp only [Instr.buildSlice, Sem.run_bind, run_underlying hu, Result.andThen_ok, run_ts hsz, if_neg hle']
          by_cases h0 : len * sz = 0
          · have hl0 : len = 0 := by
              rcases Nat.mul_eq_zero.1 h0 with h | h
              · exact h
              · omega
            rw [if_pos h0]
            simp only [Sem.run_bind, Sem.run_pure, Result.andThen_ok]
            have hc1 : (Array.range (len * sz)).map (fun x => (#[] : Array Value)[x % (#[] : Array Value).size]!) = ((List.replicate len zs).flatten).toArray := by subst hl0; simp
            rw [hc1, hfd]
            simp [newRow]
          · rw [if_neg h0]
            simp only [Sem.run_bind, Sem.run_pure, Result.andThen_ok, hrun]
            have hc1 : (Array.range (len * sz)).map (fun x => z.cells[x % z.cells.size]!) = ((List.replicate len zs).flatten).toArray := by
              apply Array.ext'; have := rep_cells zs sz len hzl z.cells hzz; simpa using this
            rw [hc1, hfd]
            simp [newRow]
        rw [hrs]
        simp only [Good, Runs]
        have hnk := hk _ (nk_div κ 0 (by omega))
        simp only [Nat.add_zero] at hnk
        have hkc : ∀ k ∈ keysL cells, K k := fun k hkk => by
          rcases fillSV_keys hf hkk with h1 | h1
          · rw [keysL_map_v] at h1; cases h1
          · refine hx k ?_
            obtain ⟨y, hy, hky⟩ := keysL_mem.1 h1
            obtain ⟨p, hp, rfl⟩ := List.mem_map.1 hy
            exact keysL_mem.2 ⟨p.2, (List.of_mem_zip hp).2, hky⟩
        have hsz' : len ≤ 16777216 := Nat.le_trans (Nat.le_mul_of_pos_right len hpos) hle
        refine ⟨trivial, upd E (nk κ) (.slice (some ⟨w.heap.size, 0, none⟩) len len), upd F (nk κ) [w.heap.size], fun k hkk => upd_ne _ _ fun e => hkk (by subst e; exact nk_div0 κ), ?_, ?_⟩
        · simp [den, upd_same, hv, Value.oneCell']
        · refine hs.new hK hnk ?_ (fun b hb => ?_) (keeps_alloc w _)
          · have hd : denL (upd E (nk κ) (.slice (some ⟨w.heap.size, 0, none⟩) len len)) cells = denL E cells := denL_congr cells fun i hi => upd_ne _ _ fun e => hnk (e ▸ hkc i hi)
            refine ⟨⟨by rw [denL_length, hcl], .inr ⟨w.heap.size, len, (denL E cells).toArray, rfl, Nat.zero_le _, heap_alloc_new w _, Nat.le_refl _, ?_, ?_, ?_⟩⟩, rfl⟩
            · unfold maxLen; omega
            · simp [denL_length, hcl]
            · rw [hd]
              rw [List.take_of_length_le (by simp [denL_length, hcl])]
          · simp at hb; subst hb; simp
      · exact fun hf => hf.elim
    · exact fun hf => hf.elim
  · exact fun hf => hf.elim
def semMake (P : Program) (κ : Nat) (T : TypeId) : List SV → R
  | [.v (.int _ l), .v (.int _ c)] => match P.underlying T with
    | some (.slice e) => match ts P e, tz P e, tby P e with
      | some sz, some zs, some by_ => { side := 0 ≤ l ∧ l ≤ c ∧ (by_ : Int) * c ≤ 281474976710656 ∧ c ≤ 9223372036854775807 ∧ zs.length = sz ∧ 0 < sz, val := .hd (nk κ), upd := [(nk κ, some (.row e sz l.toNat ((List.replicate l.toNat zs).flatten.map .v)))] }
      | _, _, _ => .bad
    | _ => .bad
  | _ => .bad
theorem info_of {T : TypeId} {zs : List Value} {b : Nat} (hz : tz P T = some zs) (hb : tby P T = some b) : ∃ i z, P.info? T = some i ∧ i.zero = some z ∧ z.cells.toList = zs ∧ i.bytes = b ∧ ts P T = some i.size := by
  unfold tz at hz
  unfold tby at hb
  cases hi : P.info? T with
  | none => simp [hi] at hz
  | some i =>
    simp only [hi, Option.bind_some] at hz
    cases hzz : i.zero with
    | none => simp [hzz] at hz
    | some z =>
      simp only [hzz, Option.map_some, Option.some.injEq] at hz
      simp only [hi, Option.map_some, Option.some.injEq] at hb
      exact ⟨i, z, rfl, hzz, hz, hb, by simp [ts, hi]⟩
theorem make_good {T : TypeId} {x y : SV} (hs : HeapSat W bs E F h w) (hK : KeysIn K h) (hk : ∀ k, k / 8 = κ → ¬ K k) (hside : (semMake P κ T [x, y]).side) :
    Good P W bs κ E h (semMake P κ T [x, y]) ((do pure (.value (← Instr.makeSlice T (den E x) (den E y))) : Sem Next).run P w) := by
  revert hside
  unfold semMake
  split
  · rename_i kl l kc c heq
    simp only [List.cons.injEq, and_true] at heq
    obtain ⟨rfl, rfl⟩ := heq
    split
    · rename_i e hu
      split
      · rename_i sz zs by_ hsz hz hb
        rintro ⟨h0, hlc, hby, h63, hzl, hpos⟩
        obtain ⟨i, z, hi, hzz, hzs, hbi, hsi⟩ := info_of hz hb
        have hszi : i.size = sz := by rw [hsz] at hsi; exact (Option.some.inj hsi).symm
        have hr := run_make (P := P) w T e i z hu hi hzz kl kc l c h0 hlc (by rw [hbi]; exact hby) h63
        have hrs : (do pure (.value (← Instr.makeSlice T (den E (.v (.int kl l))) (den E (.v (.int kc c))))) : Sem Next).run P w =
            .ok (.value (.slice (some ⟨w.heap.size, 0, none⟩) l.toNat c.toNat)) (w.alloc (.cells (madeCells z.cells (c.toNat * i.size)) e)) := by
          simp only [den, Sem.run_bind, hr, Result.andThen_ok, Sem.run_pure]
        rw [hrs]
        simp only [Good, Runs]
        have hnk := hk _ (nk_div0 κ)
        refine ⟨trivial, upd E (nk κ) (.slice (some ⟨w.heap.size, 0, none⟩) l.toNat c.toNat), upd F (nk κ) [w.heap.size], fun k hkk => upd_ne _ _ fun e => hkk (by subst e; exact nk_div0 κ), ?_, ?_⟩
        · simp [den, upd_same, hv, Value.oneCell']
        · refine hs.new hK hnk ?_ (fun b hb => ?_) (keeps_alloc w _)
          · rw [hszi]
            refine ⟨⟨by rw [denL_map_v]; simp [hzl], .inr ⟨w.heap.size, c.toNat, madeCells z.cells (c.toNat * sz), rfl, Nat.zero_le _, heap_alloc_new w _, by omega, by unfold maxLen; omega, size_madeCells _ _, ?_⟩⟩, rfl⟩
            rw [denL_map_v]
            have := rep_cells zs sz c.toNat hzl z.cells hzs
            unfold madeCells
            rw [this]
            have hcl : c.toNat = l.toNat + (c.toNat - l.toNat) := by omega
            have hll : ((List.replicate l.toNat zs).flatten).length = l.toNat * sz := by simp [hzl]
            rw [hcl, ← List.replicate_append_replicate, List.flatten_append, ← hll, List.take_left]
          · simp at hb; subst hb; simp
      · exact fun hf => hf.elim
    · exact fun hf => hf.elim
  · exact fun hf => hf.elim
def semLen (P : Program) (h : Nat → Option Ent) (T : TypeId) : List SV → R
  | [.v (.string s)] => .req (P.underlying T = some .string) (.v (.int .i64 s.size))
  | [.v (.slice _ n _)] => .req (∃ e, P.underlying T = some (.slice e)) (.v (.int .i64 n))
  | [.hd k] => match h k with
    | some (.row _ _ n _) => { side := ∃ e, P.underlying T = some (.slice e), val := .v (.int .i64 n), reads := [k] }
    | _ => .bad
  | _ => .bad
theorem len_good {T : TypeId} {tys : Array TypeId} {ty : TypeId} {x : SV} (hs : HeapSat W bs E F h w) (ht : tys[0]? = some T) (hside : (semLen P h T [x]).side) :
    Good P W bs κ E h (semLen P h T [x]) ((do pure (.value (← Builtin.len_ tys ty #[den E x])) : Sem Next).run P w) := by
  revert hside
  unfold semLen
  split
  · rename_i s heq
    simp only [List.cons.injEq, and_true] at heq
    subst heq
    intro hu
    exact good_value hs rfl rfl (by simp [Builtin.len_, ht, run_underlying hu, den, R.req, goInt])
  · rename_i a n c heq
    simp only [List.cons.injEq, and_true] at heq
    subst heq
    rintro ⟨e, hu⟩
    exact good_value hs rfl rfl (by simp [Builtin.len_, ht, run_underlying hu, den, R.req, goInt])
  · rename_i k heq
    simp only [List.cons.injEq, and_true] at heq
    subst heq
    split
    · rename_i T' size n vs hk
      rintro ⟨e, hu⟩
      obtain ⟨⟨hl, hor⟩, _⟩ := hs.ent k _ hk
      have hE : ∃ ao c, E k = .slice ao n c := by
        rcases hor with ⟨h1, h2⟩ | ⟨g, cap, cur, h1, _⟩
        · exact ⟨none, 0, by rw [h1, h2]⟩
        · exact ⟨_, _, h1⟩
      obtain ⟨ao, c, hE⟩ := hE
      refine good_value hs rfl rfl ?_
      simp [Builtin.len_, ht, run_underlying hu, den, hE, hv, Value.oneCell', goInt]
    · exact fun hf => hf.elim
  · exact fun hf => hf.elim
def foldI (f : Int → Int → Int) : Int → List SV → Option Int
  | a, [] => some a
  | a, .v (.int .i64 b) :: r => foldI f (f a b) r
  | _, _ => none
def semMin : List SV → R
  | .v (.int .i64 a) :: r => match foldI (fun x y => if y < x then y else x) a r with | some m => .ok (.v (.int .i64 m)) | none => .bad
  | _ => .bad
def semMax : List SV → R
  | .v (.int .i64 a) :: r => match foldI (fun x y => if x < y then y else x) a r with | some m => .ok (.v (.int .i64 m)) | none => .bad
  | _ => .bad
theorem foldI_min (E : Nat → Value) (w : World) : ∀ {r : List SV} {a m : Int}, foldI (fun x y => if y < x then y else x) a r = some m → ((denL E r).foldlM Builtin.min2 (.int .i64 a)).run P w = .ok (.int .i64 m) w
  | [], a, m, hf => by simp [foldI] at hf; subst hf; simp [denL]
  | x :: r, a, m, hf => by
    unfold foldI at hf
    split at hf
    · rename_i heq; cases heq
    · rename_i a' b r' heq
      simp only [List.cons.injEq] at heq
      obtain ⟨rfl, rfl⟩ := heq
      simp only [denL, den, List.foldlM_cons, Builtin.min2, Sem.run_bind, Sem.run_pure, Result.andThen_ok]
      exact foldI_min E w hf
    · cases hf
theorem foldI_max (E : Nat → Value) (w : World) : ∀ {r : List SV} {a m : Int}, foldI (fun x y => if x < y then y else x) a r = some m → ((denL E r).foldlM Builtin.max2 (.int .i64 a)).run P w = .ok (.int .i64 m) w
  | [], a, m, hf => by simp [foldI] at hf; subst hf; simp [denL]
  | x :: r, a, m, hf => by
    unfold foldI at hf
    split at hf
    · rename_i heq; cases heq
    · rename_i a' b r' heq
      simp only [List.cons.injEq] at heq
      obtain ⟨rfl, rfl⟩ := heq
      simp only [denL, den, List.foldlM_cons, Builtin.max2, Sem.run_bind, Sem.run_pure, Result.andThen_ok]
      exact foldI_max E w hf
    · cases hf
theorem min_good {args : List SV} {tys : Array TypeId} {ty : TypeId} (hs : HeapSat W bs E F h w) (hside : (semMin args).side) :
    Good P W bs κ E h (semMin args) ((do pure (.value (← Builtin.min_ tys ty (denL E args).toArray)) : Sem Next).run P w) := by
  revert hside
  unfold semMin
  split
  · rename_i a r
    split
    · rename_i m hm
      intro _
      refine good_value hs rfl rfl ?_
      simpa [Builtin.min_, denL, den, R.ok] using foldI_min E w hm
    · exact fun hf => hf.elim
  · exact fun hf => hf.elim
theorem max_good {args : List SV} {tys : Array TypeId} {ty : TypeId} (hs : HeapSat W bs E F h w) (hside : (semMax args).side) :
    Good P W bs κ E h (semMax args) ((do pure (.value (← Builtin.max_ tys ty (denL E args).toArray)) : Sem Next).run P w) := by
  revert hside
  unfold semMax
  split
  · rename_i a r
    split
    · rename_i m hm
      intro _
      refine good_value hs rfl rfl ?_
      simpa [Builtin.max_, denL, den, R.ok] using foldI_max E w hm
    · exact fun hf => hf.elim
  · exact fun hf => hf.elim
end
end Go.LE
end
section
namespace Go.LE
open Go.RowKit
section
variable {P : Program} {W : World} {bs : List Nat} {κ : Nat} {E : Nat → Value} {F : Nat → List Nat} {h : Nat → Option Ent} {w : World} {K : Nat → Prop}
theorem HeapSat.move {w' : World} {e e' : Ent} {u : Value} {fp : List Nat} {k q : Nat} (hs : HeapSat W bs E F h w) (hK : KeysIn K h) (hk : h k = some e) (hq : ¬ K q)
    (he : entSat (upd E q u) u fp w' e') (hfp : ∀ b ∈ fp, b ∈ F k ∨ w.heap.size ≤ b) (hlt : ∀ b ∈ fp, b < w'.heap.size) (hkeep : Keeps w (F k) w') :
    HeapSat W bs (upd E q u) (upd F q fp) (upd (upd h k none) q (some e')) w' := by
  have hne : k ≠ q := fun e => hq (e ▸ (hK k _ hk).1)
  have old : ∀ j x, upd h k none j = some x → h j = some x ∧ j ≠ k := fun j x hj => by
    by_cases hjk : j = k
    · subst hjk; rw [upd_same] at hj; cases hj
    · rw [upd_ne _ _ hjk] at hj; exact ⟨hj, hjk⟩
  have blk : ∀ j x, h j = some x → j ≠ k → ∀ b ∈ F j, w'.heap[b]? = w.heap[b]? := fun j x hj hjk b hb =>
    hkeep.block b (hs.lt j x hj b hb) fun hb' => hs.apart j k x e hjk hj hk b hb hb'
  constructor
  · intro j x hj
    by_cases hjq : j = q
    · subst hjq
      simp only [upd_same, Option.some.injEq] at hj ⊢
      subst hj
      exact he
    · rw [upd_ne _ _ hjq] at hj
      obtain ⟨hj, hjk⟩ := old j x hj
      rw [upd_ne _ _ hjq, upd_ne _ _ hjq]
      refine entSat_congr (fun i hi => (upd_ne _ _ (show i ≠ q from fun e => hq (e ▸ (hK j x hj).2 i hi))).symm) (entSat_local (hs.ent j x hj) (blk j x hj hjk))
  · intro j x hj b hb
    by_cases hjq : j = q
    · subst hjq; rw [upd_same] at hb; exact hlt b hb
    · rw [upd_ne _ _ hjq] at hj hb
      obtain ⟨hj, _⟩ := old j x hj
      exact Nat.lt_of_lt_of_le (hs.lt j x hj b hb) hkeep.size
  · intro j x hj b hb
    by_cases hjq : j = q
    · subst hjq; rw [upd_same] at hb
      rcases hfp b hb with h1 | h1
      · exact hs.mine k e hk b h1
      · exact .inl (Nat.le_trans hs.keeps.size h1)
    · rw [upd_ne _ _ hjq] at hj hb
      exact hs.mine j x (old j x hj).1 b hb
  · intro i j x y hij hi hj b hb
    by_cases hiq : i = q
    · subst hiq
      rw [upd_ne _ _ (Ne.symm hij)] at hj ⊢
      obtain ⟨hj, hjk⟩ := old j y hj
      rw [upd_same] at hb
      rcases hfp b hb with h1 | h1
      · exact hs.apart k j e y (Ne.symm hjk) hk hj b h1
      · exact fun hb' => by have := hs.lt j y hj b hb'; omega
    · rw [upd_ne _ _ hiq] at hi hb
      obtain ⟨hi, hik⟩ := old i x hi
      by_cases hjq : j = q
      · subst hjq
        rw [upd_same]
        intro hb'
        rcases hfp b hb' with h1 | h1
        · exact hs.apart i k x e hik hi hk b hb h1
        · have := hs.lt i x hi b hb; omega
      · rw [upd_ne _ _ hjq] at hj ⊢
        exact hs.apart i j x y hij hi (old j y hj).1 b hb
  · exact hs.keeps.trans hkeep fun b hb hlt' => (hs.mine k e hk b hb).resolve_left (by omega)
theorem run_append_told (t ty e : TypeId) (i : TypeInfo) (z : Value) (ht : P.underlying t = some (.slice e)) (hi : P.info? e = some i) (hz : i.zero = some z)
    (hzs : z.cells.size = i.size) (hsz : 0 < i.size) (v : Value) (n : Nat) (xs : List Value) (hown : w.ownsRow 0 e i.size v n xs)
    (a : Addr) (m c : Nat) (news : List Value) (hl : news.length = m * i.size) (hnews : ∀ j u, news[j]? = some u → w.cell? (a.add j) = some u) (h1 : ∀ u ∈ news, u.oneCell' = true)
    (h63 : n + m ≤ maxLen) (hbytes : (n + m) * i.bytes ≤ 140737488355328) (hm : 0 < m) :
    ∃ v' w', (Builtin.append_ #[t, t] ty #[v, .slice (some a) m c]).run P w = .ok v' w' ∧ w'.ownsRow 0 e i.size v' (n + m) (xs ++ news) ∧ Keeps w v.ownBlock.toList w' ∧
      (v'.ownBlock = v.ownBlock ∨ v'.ownBlock = some w.heap.size) ∧ (∀ b ∈ v'.ownBlock.toList, b < w'.heap.size) := by
  have hsmall : n + m ≤ 9223372036854775807 := by simp only [maxLen] at h63; omega
  have hlen : (xs ++ news).length = (n + m) * i.size := by rw [List.length_append, hown.1, hl, Nat.add_mul]
  have grown : ∀ (old : Nat), old < n + m →
      (w.drew.alloc (.cells (xs.toArray ++ news.toArray ++ Builtin.zeroCells z.cells (grownCap w (n + m) old e - (n + m))) e)).ownsRow 0 e i.size
        (.slice (some ⟨w.heap.size, 0, none⟩) (n + m) (grownCap w (n + m) old e)) (n + m) (xs ++ news) ∧
      ∀ bl, Keeps w bl (w.drew.alloc (.cells (xs.toArray ++ news.toArray ++ Builtin.zeroCells z.cells (grownCap w (n + m) old e - (n + m))) e)) := by
    intro old ho
    have hge := grownCap_ge w (n + m) old e
    have hcm : grownCap w (n + m) old e ≤ maxLen := grownCap_le_maxLen w (n + m) old e h63
    refine ⟨⟨hlen, .inr ⟨w.heap.size, _, _, rfl, Nat.zero_le _, heap_alloc_new w.drew _, hge, hcm, ?_, ?_⟩⟩, fun bl => ⟨rfl, rfl, rfl, by simp, fun k hk _ => Below.heap_alloc w.drew _ k hk⟩⟩
    · simp only [Array.size_append, List.size_toArray, size_zeroCells, hzs, hown.1, hl, ← Nat.add_mul]
      congr 1
      omega
    · simp only [Array.toList_append, List.append_assoc]
      rw [← List.append_assoc, ← hlen]
      exact List.take_left
  rcases hown.2 with ⟨rfl, rfl⟩ | ⟨g, cap, cur, rfl, hbg, hg, hnc, hcm, hcs, htake⟩
  · have hx : xs = [] := List.eq_nil_of_length_eq_zero (by simpa using hown.1)
    subst hx
    have hr := run_append_nil (P := P) w t ty e i z ht hi hz a m c news hl hnews (by omega) (by omega) (by have hb := hbytes; simp only [Nat.zero_add] at hb; omega)
    have hgr := grown 0 (by omega)
    simp only [Nat.zero_add, List.nil_append, Array.empty_append] at hgr ⊢
    exact ⟨_, _, hr, hgr.1, hgr.2 _, .inr rfl, by simp [Value.ownBlock]⟩
  · by_cases hroom : n + m ≤ cap
    · have hfit : n * i.size + news.length ≤ cur.size := by rw [hl, hcs, ← Nat.add_mul]; exact Nat.mul_le_mul_right _ hroom
      have hr := run_append_room (P := P) w t ty e i ht hi g n cap cur hg a m c news hl hnews h1 hroom hfit
      refine ⟨_, _, hr, ⟨hlen, .inr ⟨g, cap, _, rfl, hbg, setRow_heap w g cur _ e _ hg, hroom, hcm, ?_, ?_⟩⟩, keeps_setRow w g _, .inl rfl, ?_⟩
      · simp only [List.size_toArray, List.length_append, List.length_take, List.length_drop, Array.length_toList]
        omega
      · rw [htake, ← hlen]
        exact List.take_left
      · simp [Value.ownBlock]
        exact (Array.getElem?_eq_some_iff.1 hg).1
    · have holds : ∀ j u, xs[j]? = some u → w.cell? ((⟨g, 0, none⟩ : Addr).add j) = some u := hown.cells (g := g) rfl
      have hr := run_append_grow (P := P) w t ty e i z ht hi hz ⟨g, 0, none⟩ n cap xs hown.1 holds a m c news hl hnews (by omega) (by omega) (growslice_fits (by omega) hbytes)
      have hgr := grown cap (by omega)
      exact ⟨_, _, hr, hgr.1, hgr.2 _, .inr rfl, by simp [Value.ownBlock]⟩
theorem run_append_room_row (t tx ty e : TypeId) (i : TypeInfo) (ht : P.underlying t = some (.slice e)) (hi : P.info? e = some i)
    (g sLen sCap : Nat) (cur : Array Value) (hg : w.heap[g]? = some (.cells cur e (0, 0))) (x : Value) (m : Nat) (news : List Value) (hs : Src P i.size tx x m news w)
    (hroom : sLen + m ≤ sCap) (hfit : sLen * i.size + news.length ≤ cur.size) :
    (Builtin.append_ #[t, tx] ty #[.slice (some ⟨g, 0, none⟩) sLen sCap, x]).run P w =
      .ok (.slice (some ⟨g, 0, none⟩) (sLen + m) sCap) (w.setRow g (cur.toList.take (sLen * i.size) ++ news ++ cur.toList.drop (sLen * i.size + news.length)).toArray) := by
  have hst := run_storeCells_at P g (sLen * i.size) e news 0 cur w hg (by simpa using hfit) hs.one
  simp only [Nat.add_zero] at hst
  rcases hs.kind with ⟨e', hk⟩ | hk <;> simp [Builtin.append_, run_underlying ht, run_underlying hk, sizeOf, typeInfo, hi, hs.len, hroom, hs.cells, Addr.add_lit, hst]
theorem run_append_src (t tx ty e : TypeId) (i : TypeInfo) (z : Value) (ht : P.underlying t = some (.slice e)) (hi : P.info? e = some i) (hz : i.zero = some z)
    (hzs : z.cells.size = i.size) (v : Value) (n : Nat) (xs : List Value) (hown : w.ownsRow 0 e i.size v n xs)
    (x : Value) (m : Nat) (news : List Value) (hs : Src P i.size tx x m news w)
    (h63 : n + m ≤ maxLen) (hbytes : (n + m) * i.bytes ≤ 140737488355328) :
    ∃ v' w', (Builtin.append_ #[t, tx] ty #[v, x]).run P w = .ok v' w' ∧ w'.ownsRow 0 e i.size v' (n + m) (xs ++ news) ∧ Keeps w v.ownBlock.toList w' ∧
      (v'.ownBlock = v.ownBlock ∨ v'.ownBlock = some w.heap.size) ∧ (∀ b ∈ v'.ownBlock.toList, b < w'.heap.size) := by
  have hsmall : n + m ≤ 9223372036854775807 := by simp only [maxLen] at h63; omega
  have hl := hs.newsLen
  have hlen : (xs ++ news).length = (n + m) * i.size := by rw [List.length_append, hown.1, hl, Nat.add_mul]
  have grown : ∀ (old : Nat), old < n + m →
      (w.drew.alloc (.cells ((xs ++ news).toArray ++ Builtin.zeroCells z.cells (grownCap w (n + m) old e - (n + m))) e)).ownsRow 0 e i.size
        (.slice (some ⟨w.heap.size, 0, none⟩) (n + m) (grownCap w (n + m) old e)) (n + m) (xs ++ news) ∧
      ∀ bl, Keeps w bl (w.drew.alloc (.cells ((xs ++ news).toArray ++ Builtin.zeroCells z.cells (grownCap w (n + m) old e - (n + m))) e)) := by
    intro old ho
    have hge := grownCap_ge w (n + m) old e
    have hcm : grownCap w (n + m) old e ≤ maxLen := grownCap_le_maxLen w (n + m) old e h63
    refine ⟨⟨hlen, .inr ⟨w.heap.size, _, _, rfl, Nat.zero_le _, heap_alloc_new w.drew _, hge, hcm, ?_, ?_⟩⟩, fun bl => ⟨rfl, rfl, rfl, by simp, fun k hk _ => Below.heap_alloc w.drew _ k hk⟩⟩
    · simp only [Array.size_append, List.size_toArray, size_zeroCells, hzs, hlen, ← Nat.add_mul]
      congr 1
      omega
    · rw [Array.toList_append, ← hlen]
      exact List.take_left
  rcases hown.2 with ⟨rfl, rfl⟩ | ⟨g, cap, cur, rfl, hbg, hg, hnc, hcm, hcs, htake⟩
  · have hx : xs = [] := List.eq_nil_of_length_eq_zero (by simpa using hown.1)
    subst hx
    by_cases hm : m = 0
    · subst hm
      have hn : news = [] := List.eq_nil_of_length_eq_zero (by simpa using hl)
      subst hn
      exact ⟨_, _, run_append_nothing w t tx ty e i ht hi none 0 0 (Nat.le_refl _) x hs, hown, Keeps.refl w _, .inl rfl, fun b hb => by cases hb⟩
    · have hr := run_append_grow_src (P := P) w t tx ty e i z ht hi hz none 0 0 [] (run_firstCells_none w.drew i.size 0 0 0) x m news hs (by omega) (by omega) (growslice_fits (by omega) (by simpa using hbytes))
      have hgr := grown 0 (by omega)
      simp only [Nat.zero_add, List.nil_append] at hgr hr ⊢
      exact ⟨_, _, hr, hgr.1, hgr.2 _, .inr rfl, by simp [Value.ownBlock]⟩
  · by_cases hroom : n + m ≤ cap
    · have hfit : n * i.size + news.length ≤ cur.size := by rw [hl, hcs, ← Nat.add_mul]; exact Nat.mul_le_mul_right _ hroom
      have hr := run_append_room_row (P := P) (w := w) t tx ty e i ht hi g n cap cur hg x m news hs hroom hfit
      refine ⟨_, _, hr, ⟨hlen, .inr ⟨g, cap, _, rfl, hbg, setRow_heap w g cur _ e _ hg, hroom, hcm, ?_, ?_⟩⟩, keeps_setRow w g _, .inl rfl, ?_⟩
      · simp only [List.size_toArray, List.length_append, List.length_take, List.length_drop, Array.length_toList]
        omega
      · rw [htake, ← hlen]
        exact List.take_left
      · simp [Value.ownBlock]
        exact (Array.getElem?_eq_some_iff.1 hg).1
    · have holds : ∀ j u, xs[j]? = some u → w.cell? ((⟨g, 0, none⟩ : Addr).add j) = some u := hown.cells (g := g) rfl
      have hr := run_append_grow_src (P := P) w t tx ty e i z ht hi hz (some ⟨g, 0, none⟩) n cap xs (run_firstCells_some w.drew i.size n _ n cap xs hown.1 (by simpa using holds)) x m news hs (by omega) (by omega) (growslice_fits (by omega) hbytes)
      have hgr := grown cap (by omega)
      exact ⟨_, _, hr, hgr.1, hgr.2 _, .inr rfl, by simp [Value.ownBlock]⟩
def rowOf (h : Nat → Option Ent) : SV → Option (List Nat × TypeId × Nat × Nat × List SV)
  | .hd k => match h k with
    | some (.row T s n vs) => some ([k], T, s, n, vs)
    | _ => none
  | _ => none
def semApp (P : Program) (W : World) (bs : List Nat) (κ : Nat) (h : Nat → Option Ent) (tys : List TypeId) : List SV → R
  | [.hd k, .hd j] => match tys, h k, h j with
    | [T, T'], some (.row e sz n vs), some (.row _ sz' m us) => match tby P e, tz P e with
      | some by_, some zs => { side := T' = T ∧ P.underlying T = some (.slice e) ∧ ts P e = some sz ∧ zs.length = sz ∧ 0 < sz ∧ sz' = sz ∧ k ≠ j ∧ 0 < m ∧ n + m ≤ maxLen ∧ (n + m) * by_ ≤ 140737488355328 ∧ us.all oneSV = true, val := .hd (nk κ), upd := [(k, none), (nk κ, some (.row e sz (n + m) (vs ++ us)))], reads := [k, j] }
      | _, _ => .bad
    | _, _, _ => .bad
  | [.v (.slice none 0 0), .hd j] => match tys, h j with
    | [T, T'], some (.row _ sz m us) => match P.underlying T with
      | some (.slice e) => match tby P e, tz P e with
        | some by_, some zs => { side := T' = T ∧ ts P e = some sz ∧ zs.length = sz ∧ 0 < sz ∧ 0 < m ∧ m ≤ maxLen ∧ m * by_ ≤ 140737488355328 ∧ us.all oneSV = true, val := .hd (nk κ), upd := [(nk κ, some (.row e sz m us))], reads := [j] }
        | _, _ => .bad
      | _ => .bad
    | _, _ => .bad
  | [.hd k, .v (.slice ao m _)] => match tys, h k with
    | [T, T'], some (.row e sz n vs) =>
      bif m == 0 then { side := T' = T ∧ P.underlying T = some (.slice e) ∧ ts P e = some sz ∧ m = 0, val := .hd k, reads := [k] }
      else match ao, tby P e, tz P e with
      | some ⟨b, o, none⟩, some by_, some zs => { side := T' = T ∧ P.underlying T = some (.slice e) ∧ ts P e = some sz ∧ zs.length = sz ∧ (b ∉ bs ∧ xthere W b o (m * sz)) ∧ n + m ≤ maxLen ∧ (n + m) * by_ ≤ 140737488355328 ∧ (xcells W b o (m * sz)).all oneSV = true, val := .hd (nk κ), upd := [(k, none), (nk κ, some (.row e sz (n + m) (vs ++ xcells W b o (m * sz))))], reads := [k] }
      | _, _, _ => .bad
    | _, _ => .bad
  | [.hd k, .v (.string s)] => match tys, h k with
    | [T, T'], some (.row e sz n vs) => match tby P e, tz P e with
      | some by_, some zs => { side := P.underlying T' = some .string ∧ P.underlying T = some (.slice e) ∧ ts P e = some sz ∧ zs.length = sz ∧ sz = 1 ∧ n + s.size ≤ maxLen ∧ (n + s.size) * by_ ≤ 140737488355328, val := .hd (nk κ), upd := [(k, none), (nk κ, some (.row e sz (n + s.size) (vs ++ (byteCells s).map .v)))], reads := [k] }
      | _, _ => .bad
    | _, _ => .bad
  | _ => .bad
theorem row_src {j m sz : Nat} {T : TypeId} {us : List SV} (hs : HeapSat W bs E F h w) (hj : h j = some (.row T sz m us)) (hm : 0 < m) (hone : us.all oneSV = true) :
    ∃ (g c : Nat), hv (E j) = .slice (some ⟨g, 0, none⟩) m c ∧ (denL E us).length = m * sz ∧ (∀ i u, (denL E us)[i]? = some u → w.cell? ((⟨g, 0, none⟩ : Addr).add i) = some u) ∧ ∀ u ∈ denL E us, u.oneCell' = true := by
  obtain ⟨⟨hl, hor⟩, _⟩ := hs.ent j _ hj
  rcases hor with ⟨_, h2⟩ | ⟨g, cap, cur, hE, _, hh, _, _, hcs, htake⟩
  · omega
  · refine ⟨g, cap, by rw [hE]; rfl, hl, fun i u hi => ?_, fun u hu => ?_⟩
    · rw [add_lit', Nat.zero_add]
      have hlt := (List.getElem?_eq_some_iff.1 hi).1
      rw [← htake, List.getElem?_take, if_pos (by omega)] at hi
      simp [World.cell?, hh]
      simpa using hi
    · rw [denL_eq_map] at hu
      obtain ⟨y, hy, rfl⟩ := List.mem_map.1 hu
      exact oneSV_den E (List.all_eq_true.1 hone y hy)
theorem xcells_nokeys : ∀ (n o b : Nat), keysL (xcells W b o n) = []
  | 0, _, _ => rfl
  | n + 1, o, b => by simp [xcells, keysL, SV.keys, xcells_nokeys n (o + 1) b]
theorem app_move {k n m : Nat} {e T' TX ty : TypeId} {i : TypeInfo} {z x : Value} {vs us : List SV} {y : SV} (hs : HeapSat W bs E F h w) (hK : KeysIn K h) (hnk : ¬ K (nk κ)) (hkk : h k = some (.row e i.size n vs))
    (hus : ∀ q ∈ keysL us, K q) (hu : P.underlying T' = some (.slice e)) (hi : P.info? e = some i) (hzz : i.zero = some z) (hzs : z.cells.size = i.size) (hy : den E y = x)
    (hsrc : Src P i.size TX x m (denL E us) w) (h63 : n + m ≤ maxLen) (hbytes : (n + m) * i.bytes ≤ 140737488355328) :
    Good P W bs κ E h { side := True, val := .hd (nk κ), upd := [(k, none), (nk κ, some (.row e i.size (n + m) (vs ++ us)))], reads := [k] } ((do pure (.value (← Builtin.append_ [T', TX].toArray ty #[den E (.hd k), den E y])) : Sem Next).run P w) := by
  obtain ⟨hown, hF⟩ := hs.ent k _ hkk
  have hEk : hv (E k) = E k := hv_of (entSat_one (hs.ent k _ hkk))
  obtain ⟨v', w', hrun, hown', hkeep, hblk, hlt⟩ := run_append_src (P := P) (w := w) T' TX ty e i z hu hi hzz hzs _ n _ hown x m _ hsrc h63 hbytes
  have hrs : (do pure (.value (← Builtin.append_ [T', TX].toArray ty #[den E (.hd k), den E y])) : Sem Next).run P w = .ok (.value v') w' := by
    rw [hy]
    simp only [den, hEk, Sem.run_bind]
    simp [hrun]
  rw [hrs]
  simp only [Good, Runs]
  refine ⟨trivial, upd E (nk κ) v', upd F (nk κ) v'.ownBlock.toList, fun q hq => upd_ne _ _ fun e => hq (by subst e; exact nk_div0 κ), ?_, ?_⟩
  · have : hv v' = v' := hv_of (entSat_one (e := .row e i.size (n + m) ((denL E vs ++ denL E us).map .v)) (E := E) (w := w') ⟨by rw [denL_map_v]; exact hown', rfl⟩)
    simp [den, upd_same, this]
  · simp only [updL]
    refine hs.move hK hkk hnk ?_ (fun b hb => ?_) hlt ?_
    · have hd : denL (upd E (nk κ) v') (vs ++ us) = denL E vs ++ denL E us := by
        rw [denL_append]
        congr 1 <;> refine denL_congr _ fun q hq => upd_ne _ _ fun e => hnk (e ▸ ?_)
        · exact (hK k _ hkk).2 q hq
        · exact hus q hq
      exact ⟨by rw [hd]; exact hown', rfl⟩
    · rw [hF]
      rcases hblk with h1 | h1
      · left; rw [← h1]; exact hb
      · right; rw [h1] at hb; simp at hb; omega
    · rw [hF]; exact hkeep
theorem app_good {tys : List TypeId} {ty : TypeId} {x y : SV} (hs : HeapSat W bs E F h w) (hK : KeysIn K h) (hk : ∀ k, k / 8 = κ → ¬ K k) (hside : (semApp P W bs κ h tys [x, y]).side) :
    Good P W bs κ E h (semApp P W bs κ h tys [x, y]) ((do pure (.value (← Builtin.append_ tys.toArray ty #[den E x, den E y])) : Sem Next).run P w) := by
  have hnk := hk _ (nk_div0 κ)
  revert hside
  unfold semApp
  split
  · rename_i k j heq
    simp only [List.cons.injEq, and_true] at heq
    obtain ⟨rfl, rfl⟩ := heq
    split
    · rename_i T T' e sz n vs T2 sz' m us hkk hjj
      split
      · rename_i by_ zs hb hz
        rintro ⟨rfl, hu, hsz, hzl, hpos, rfl, hkj, hm, h63, hbytes, hone⟩
        obtain ⟨i, z, hi, hzz, hzs, hbi, hsi⟩ := info_of hz hb
        have hszi : i.size = sz' := by rw [hsz] at hsi; exact (Option.some.inj hsi).symm
        subst hbi
        obtain ⟨g, c, hv1, hl, hc, h1⟩ := row_src hs hjj hm hone
        obtain ⟨hown, hF⟩ := hs.ent k _ hkk
        have hEk : hv (E k) = E k := hv_of (entSat_one (hs.ent k _ hkk))
        subst hszi
        obtain ⟨v', w', hrun, hown', hkeep, hblk, hlt⟩ := run_append_told (P := P) T' ty e i z hu hi hzz (by rw [← Array.length_toList, hzs, hzl]) hpos _ n _ hown ⟨g, 0, none⟩ m c _ hl hc h1 h63 hbytes hm
        have hrs : (do pure (.value (← Builtin.append_ [T', T'].toArray ty #[den E (.hd k), den E (.hd j)])) : Sem Next).run P w = .ok (.value v') w' := by
          simp only [den, hEk, hv1, Sem.run_bind]
          simp [hrun]
        rw [hrs]
        simp only [Good, Runs]
        refine ⟨trivial, upd E (nk κ) v', upd F (nk κ) v'.ownBlock.toList, fun q hq => upd_ne _ _ fun e => hq (by subst e; exact nk_div0 κ), ?_, ?_⟩
        · have : hv v' = v' := hv_of (entSat_one (e := .row e i.size (n + m) ((denL E vs ++ denL E us).map .v)) (E := E) (w := w') ⟨by rw [denL_map_v]; exact hown', rfl⟩)
          simp [den, upd_same, this]
        · simp only [updL]
          refine hs.move hK hkk hnk ?_ (fun b hb => ?_) hlt ?_
          · have hd : denL (upd E (nk κ) v') (vs ++ us) = denL E vs ++ denL E us := by
              rw [denL_append]
              congr 1 <;> refine denL_congr _ fun q hq => upd_ne _ _ fun e => hnk (e ▸ ?_)
              · exact (hK k _ hkk).2 q hq
              · exact (hK j _ hjj).2 q hq
            exact ⟨by rw [hd]; exact hown', rfl⟩
          · rw [hF]
            rcases hblk with h1 | h1
            · left; rw [← h1]; exact hb
            · right; rw [h1] at hb; simp at hb; omega
          · rw [hF]; exact hkeep
      · exact fun hf => hf.elim
    · exact fun hf => hf.elim
  · rename_i j heq
    simp only [List.cons.injEq, and_true] at heq
    obtain ⟨rfl, rfl⟩ := heq
    split
    · rename_i T T' T2 sz m us hjj
      split
      · rename_i e hu
        split
        · rename_i by_ zs hb hz
          rintro ⟨rfl, hsz, hzl, hpos, hm, h63, hbytes, hone⟩
          obtain ⟨i, z, hi, hzz, hzs, hbi, hsi⟩ := info_of hz hb
          have hszi : i.size = sz := by rw [hsz] at hsi; exact (Option.some.inj hsi).symm
          subst hbi
          obtain ⟨g, c, hv1, hl, hc, h1⟩ := row_src hs hjj hm hone
          subst hszi
          obtain ⟨v', w', hrun, hown', hkeep, hblk, hlt⟩ := run_append_told (P := P) T' ty e i z hu hi hzz (by rw [← Array.length_toList, hzs, hzl]) hpos _ 0 [] (World.ownsRow_nil w 0 e i.size) ⟨g, 0, none⟩ m c _ hl hc h1 (by omega) (by rw [Nat.zero_add]; exact hbytes) hm
          have hrs : (do pure (.value (← Builtin.append_ [T', T'].toArray ty #[den E (.v (.slice none 0 0)), den E (.hd j)])) : Sem Next).run P w = .ok (.value v') w' := by
            simp only [den, hv1, Sem.run_bind]
            simp [hrun]
          rw [hrs]
          simp only [Nat.zero_add, List.nil_append] at hown'
          simp only [Good, Runs]
          refine ⟨trivial, upd E (nk κ) v', upd F (nk κ) v'.ownBlock.toList, fun q hq => upd_ne _ _ fun e => hq (by subst e; exact nk_div0 κ), ?_, ?_⟩
          · have : hv v' = v' := hv_of (entSat_one (e := .row e i.size m ((denL E us).map .v)) (E := E) (w := w') ⟨by rw [denL_map_v]; exact hown', rfl⟩)
            simp [den, upd_same, this]
          · refine hs.new hK hnk ?_ (fun b hb => ?_) hkeep
            · have hd : denL (upd E (nk κ) v') us = denL E us := denL_congr _ fun q hq => upd_ne _ _ fun e => hnk (e ▸ (hK j _ hjj).2 q hq)
              exact ⟨by rw [hd]; exact hown', rfl⟩
            · rcases hblk with h1 | h1
              · rw [h1] at hb; simp [Value.ownBlock] at hb
              · refine ⟨?_, hlt b hb⟩
                rw [h1] at hb; simp at hb; omega
        · exact fun hf => hf.elim
      · exact fun hf => hf.elim
    · exact fun hf => hf.elim
  · rename_i k ao m c heq
    simp only [List.cons.injEq, and_true] at heq
    obtain ⟨rfl, rfl⟩ := heq
    split
    · rename_i T T' e sz n vs hkk
      cases hm0 : (m == 0) with
      | true =>
        rintro ⟨rfl, hu, hsz, rfl⟩
        obtain ⟨i, hi, hsi⟩ := Option.map_eq_some_iff.1 hsz
        obtain ⟨hown, hF⟩ := hs.ent k _ hkk
        have hEk : hv (E k) = E k := hv_of (entSat_one (hs.ent k _ hkk))
        have hsrc : Src P i.size T' (.slice ao 0 c) 0 [] w := by
          cases ao with
          | none => exact Src.ofNil w hu c
          | some a => exact Src.ofSlice w hu a 0 c [] (by simp) (fun j u hj => by cases hj) (fun u hx => by cases hx)
        refine good_value hs rfl rfl ?_
        rcases hown.2 with ⟨h1, _⟩ | ⟨g, cap, cur, h1, _, _, hnc, _⟩
        · have := run_append_nothing w T' T' ty e i hu hi none 0 0 (Nat.le_refl _) _ hsrc
          have e1 : den E (.hd k) = .slice none 0 0 := by simp only [den]; rw [hEk, h1]
          show (Builtin.append_ #[T', T'] ty #[den E (.hd k), .slice ao 0 c]).run P w = .ok (den E (.hd k)) w
          rw [e1]; exact this
        · have := run_append_nothing w T' T' ty e i hu hi (some ⟨g, 0, none⟩) n cap hnc _ hsrc
          have e1 : den E (.hd k) = .slice (some ⟨g, 0, none⟩) n cap := by simp only [den]; rw [hEk, h1]
          show (Builtin.append_ #[T', T'] ty #[den E (.hd k), .slice ao 0 c]).run P w = .ok (den E (.hd k)) w
          rw [e1]; exact this
      | false =>
        simp only [cond_false]
        split
        · rename_i b o by_ zs hb hz
          rintro ⟨rfl, hu, hsz, hzl, ⟨hbn, hthere⟩, h63, hbytes, hone⟩
          obtain ⟨i, z, hi, hzz, hzs, hbi, hsi⟩ := info_of hz hb
          have hszi : i.size = sz := by rw [hsz] at hsi; exact (Option.some.inj hsi).symm
          subst hbi
          subst hszi
          obtain ⟨hd, hsome⟩ := xcells_there (E := E) (m * i.size) o b hthere
          have hxl : ∀ n o, (xcells W b o n).length = n := fun n => by induction n with | zero => intro o; rfl | succ n ih => intro o; simp [xcells, ih]
          have hsrc : Src P i.size T' (.slice (some ⟨b, o, none⟩) m c) m (denL E (xcells W b o (m * i.size))) w := by
            refine Src.ofSlice w hu _ m c _ (by rw [denL_length, hxl]) (fun j u hj => ?_) (fun u hx => ?_)
            · rw [hd] at hj
              have hjl : j < m * i.size := by have := (List.getElem?_eq_some_iff.1 hj).1; simpa using this
              rw [List.getElem?_map, List.getElem?_range hjl] at hj
              simp only [Option.map_some, Option.some.injEq] at hj
              subst hj
              rw [Addr.add_lit]
              exact hs.keeps.cell hbn (hsome j hjl)
            · rw [denL_eq_map] at hx
              obtain ⟨y, hy, rfl⟩ := List.mem_map.1 hx
              exact oneSV_den E (List.all_eq_true.1 hone y hy)
          exact app_move hs hK hnk hkk (fun q hq => by rw [xcells_nokeys] at hq; cases hq) hu hi hzz (by rw [← Array.length_toList, hzs, hzl]) (by simp [den]) hsrc h63 hbytes
        · exact fun hf => hf.elim
    · exact fun hf => hf.elim
  · rename_i k s heq
    simp only [List.cons.injEq, and_true] at heq
    obtain ⟨rfl, rfl⟩ := heq
    split
    · rename_i T T' e sz n vs hkk
      split
      · rename_i by_ zs hb hz
        rintro ⟨hus, hu, hsz, hzl, hs1, h63, hbytes⟩
        obtain ⟨i, z, hi, hzz, hzs, hbi, hsi⟩ := info_of hz hb
        have hszi : i.size = sz := by rw [hsz] at hsi; exact (Option.some.inj hsi).symm
        subst hbi
        subst hszi
        have hsrc : Src P i.size T' (.string s) s.size (denL E ((byteCells s).map .v)) w := by
          rw [denL_map_v, hs1]
          exact Src.ofString w hus s
        exact app_move hs hK hnk hkk (fun q hq => by rw [keysL_map_v] at hq; cases hq) hu hi hzz (by rw [← Array.length_toList, hzs, hzl]) (by simp [den]) hsrc h63 hbytes
      · exact fun hf => hf.elim
    · exact fun hf => hf.elim
  · exact fun hf => hf.elim
end
section
variable {P : Program} {W : World} {bs : List Nat} {κ : Nat} {E : Nat → Value} {F : Nat → List Nat} {h : Nat → Option Ent} {w : World} {K : Nat → Prop}
theorem HeapSat.trade {w' : World} {E' : Nat → Value} {F' : Nat → List Nat} {h' : Nat → Option Ent} (hs : HeapSat W bs E F h w) (hK : KeysIn K h) (ks : List Nat) (N : Nat → Option Ent)
    (hks : ∀ k ∈ ks, ∃ e, h k = some e) (hEK : ∀ j, K j → E' j = E j)
    (hN : ∀ j e, N j = some e → entSat E' (E' j) (F' j) w' e ∧ (∀ b ∈ F' j, (∃ k ∈ ks, b ∈ F k) ∨ w.heap.size ≤ b) ∧ ∀ b ∈ F' j, b < w'.heap.size)
    (hap : ∀ i j e e', i ≠ j → N i = some e → N j = some e' → ∀ b ∈ F' i, b ∉ F' j)
    (hF : ∀ j x, h j = some x → N j = none → F' j = F j)
    (hh : ∀ j, h' j = match N j with | some e => some e | none => if j ∈ ks then none else h j)
    (hkeep : Keeps w (ks.flatMap F) w') : HeapSat W bs E' F' h' w' := by
  have old : ∀ j x, h' j = some x → N j = some x ∨ (N j = none ∧ j ∉ ks ∧ h j = some x) := fun j x hj => by
    rw [hh] at hj
    cases hn : N j with
    | some e => rw [hn] at hj; exact .inl hj
    | none =>
      rw [hn] at hj
      simp only at hj
      split at hj
      · cases hj
      · rename_i hnk; exact .inr ⟨rfl, hnk, hj⟩
  have blk : ∀ j x, h j = some x → j ∉ ks → ∀ b ∈ F j, w'.heap[b]? = w.heap[b]? := fun j x hj hjk b hb =>
    hkeep.block b (hs.lt j x hj b hb) fun hb' => by
      obtain ⟨k, hk, hbk⟩ := List.mem_flatMap.1 hb'
      obtain ⟨e, he⟩ := hks k hk
      exact hs.apart j k x e (fun e' => hjk (e' ▸ hk)) hj he b hb hbk
  constructor
  · intro j x hj
    rcases old j x hj with hn | ⟨hn, hjk, hj'⟩
    · exact (hN j x hn).1
    · rw [hF j x hj' hn, hEK j (hK j x hj').1]
      exact entSat_congr (fun i hi => (hEK i ((hK j x hj').2 i hi)).symm) (entSat_local (hs.ent j x hj') (blk j x hj' hjk))
  · intro j x hj b hb
    rcases old j x hj with hn | ⟨hn, hjk, hj'⟩
    · exact (hN j x hn).2.2 b hb
    · rw [hF j x hj' hn] at hb
      exact Nat.lt_of_lt_of_le (hs.lt j x hj' b hb) hkeep.size
  · intro j x hj b hb
    rcases old j x hj with hn | ⟨hn, hjk, hj'⟩
    · rcases (hN j x hn).2.1 b hb with ⟨k, hk, hbk⟩ | hge
      · obtain ⟨e, he⟩ := hks k hk
        exact hs.mine k e he b hbk
      · exact .inl (Nat.le_trans hs.keeps.size hge)
    · rw [hF j x hj' hn] at hb
      exact hs.mine j x hj' b hb
  · intro i j x y hij hi hj b hb
    rcases old i x hi with hn | ⟨hn, hik, hi'⟩
    · rcases old j y hj with hn2 | ⟨hn2, hjk, hj'⟩
      · exact hap i j x y hij hn hn2 b hb
      · rw [hF j y hj' hn2]
        intro hb'
        rcases (hN i x hn).2.1 b hb with ⟨k, hk, hbk⟩ | hge
        · obtain ⟨e, he⟩ := hks k hk
          exact hs.apart j k y e (fun e' => hjk (e' ▸ hk)) hj' he b hb' hbk
        · have := hs.lt j y hj' b hb'; omega
    · rw [hF i x hi' hn] at hb
      rcases old j y hj with hn2 | ⟨hn2, hjk, hj'⟩
      · intro hb'
        rcases (hN j y hn2).2.1 b hb' with ⟨k, hk, hbk⟩ | hge
        · obtain ⟨e, he⟩ := hks k hk
          exact hs.apart i k x e (fun e' => hik (e' ▸ hk)) hi' he b hb hbk
        · have := hs.lt i x hi' b hb; omega
      · rw [hF j y hj' hn2]
        exact hs.apart i j x y hij hi' hj' b hb
  · refine hs.keeps.trans hkeep fun b hb hlt => ?_
    obtain ⟨k, hk, hbk⟩ := List.mem_flatMap.1 hb
    obtain ⟨e, he⟩ := hks k hk
    exact (hs.mine k e he b hbk).resolve_left (by omega)
end
end Go.LE
end
