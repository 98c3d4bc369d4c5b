/-
 Part 1 of the proof (packed).
-/
import Derived.WalkKit
import Derived.WalkLawsBesides
import Derived.WalkSpells
import Derived.Deep.AppendSrc
import Derived.Deep.Upon
import Derived.Laws.BytesString
import Derived.Orders
set_option linter.unusedSimpArgs false
set_option linter.unusedVariables false
set_option linter.defProp false
namespace Go.LE
section
theorem ab {a b : Prop} (xa : a) (xb : b) : a /\ b := ⟨xa, xb⟩
theorem de {a b c : Prop} (xa : a) (xb : b) (xc : c) : a /\ b /\ c := ⟨xa, xb, xc⟩
theorem eH {a b c d : Prop} (xa : a) (xb : b) (xc : c) (xd : d) : a /\ b /\ c /\ d := ⟨xa, xb, xc, xd⟩
theorem oc {a b c d e : Prop} (xa : a) (xb : b) (xc : c) (xd : d) (xe : e) : a /\ b /\ c /\ d /\ e := ⟨xa, xb, xc, xd, xe⟩
theorem lX {a b c d e f : Prop} (xa : a) (xb : b) (xc : c) (xd : d) (xe : e) (xf : f) : a /\ b /\ c /\ d /\ e /\ f := ⟨xa, xb, xc, xd, xe, xf⟩
theorem yR {a b c d e f g : Prop} (xa : a) (xb : b) (xc : c) (xd : d) (xe : e) (xf : f) (xg : g) : a /\ b /\ c /\ d /\ e /\ f /\ g := ⟨xa, xb, xc, xd, xe, xf, xg⟩
theorem aq {a b c d e f g h : Prop} (xa : a) (xb : b) (xc : c) (xd : d) (xe : e) (xf : f) (xg : g) (xh : h) : a /\ b /\ c /\ d /\ e /\ f /\ g /\ h := ⟨xa, xb, xc, xd, xe, xf, xg, xh⟩
open Go.RowKit
inductive SV where
 | v (x : Value)
 | own (k off : Nat)
 | hd (k : Nat)
 | agg (l : List SV)
 | tup (l : List SV)
 | ifc (t : TypeId) (x : SV)
 | part (k i : Nat)
 | fn (f : Fn) (first cap : List SV)
def base : Value -> Option Addr
 | .pointer (some a) => some a
 | .slice (some a) _ _ => some a
 | _ => none
def cD : Option Addr -> Nat -> Value
 | some a, o => .pointer (some ⟨a.block, a.off + o, none⟩)
 | none, _ => .nilIface
def hv (u : Value) : Value := if u.oneCell' then u else .nilIface
theorem zS (u : Value) : (hv u).oneCell' = true := by
 unfold hv
 split
 ·assumption
 ·rfl
theorem iG {u : Value} (h : u.oneCell' = true) : hv u = u := by simp [hv, h]
theorem oa {u : Value} (h : u.oneCell' = true) : u.cells = #[u] := by cases u <;> first | rfl | (simp [Value.oneCell'] at h)
def C9 : Value -> Nat -> Value
 | .iface _ (.agg cs), i => cs.getD i .nilIface
 | _, _ => .nilIface
mutual
def den (E : Nat -> Value) : SV -> Value
 | .v x => x
 | .own k o => cD (base (E k)) o
 | .hd k => hv (E k)
 | .agg l => .agg (an E l).toArray
 | .tup l => .tuple (an E l).toArray
 | .ifc t x => .iface t (den E x)
 | .part k i => hv (C9 (E k) i)
 | .fn f a c => .func f (an E a).toArray (an E c).toArray
def an (E : Nat -> Value) : List SV -> List Value
 | [] => []
 | x :: r => den E x :: an E r
end
mutual
def SV.keys : SV -> List Nat
 | .v _ => []
 | .own k _ => [k]
 | .hd k => [k]
 | .agg l => ax l
 | .tup l => ax l
 | .ifc _ x => x.keys
 | .part k _ => [k]
 | .fn _ a c => ax a ++ ax c
def ax : List SV -> List Nat
 | [] => []
 | x :: r => x.keys ++ ax r
end
mutual
theorem nL {E E' : Nat -> Value} : ∀ x : SV, (∀ k ∈ x.keys, E k = E' k) -> den E x = den E' x
 | .v _, _ => rfl
 | .own k o, h => by simp only [den]; rw [h k (by simp [SV.keys])]
 | .hd k, h => by simp only [den]; rw [h k (by simp [SV.keys])]
 | .agg l, h => by simp only [den]; rw [bG l (by simpa [SV.keys] using h)]
 | .tup l, h => by simp only [den]; rw [bG l (by simpa [SV.keys] using h)]
 | .ifc t x, h => by simp only [den]; rw [nL x (by simpa [SV.keys] using h)]
 | .part k i, h => by simp only [den]; rw [h k (by simp [SV.keys])]
 | .fn f a c, h => by
  simp only [den]
  rw [bG a (fun k hk => h k (by simp [SV.keys, hk])), bG c (fun k hk => h k (by simp [SV.keys, hk]))]
theorem bG {E E' : Nat -> Value} : ∀ l : List SV, (∀ k ∈ ax l, E k = E' k) -> an E l = an E' l
 | [], _ => rfl
 | x :: r, h => by
  simp only [an]
  rw [nL x (fun k hk => h k (by simp [ax, hk])), bG r (fun k hk => h k (by simp [ax, hk]))]
end
theorem a7 (E : Nat -> Value) : ∀ l, an E l = l.map (den E)
 | [] => rfl
 | x :: r => by simp [an, a7 E r]
theorem bS {k : Nat} : ∀ {l : List SV}, k ∈ ax l ↔ ∃ x ∈ l, k ∈ x.keys
 | [] => by simp [ax]
 | x :: r => by simp [ax, bS (l := r)]
theorem aC (E : Nat -> Value) (l : List SV) : (an E l).length = l.length := by simp [a7]
theorem aB (E : Nat -> Value) (l : List Value) : an E (l.map SV.v) = l := by simp [a7, Function.comp_def, den]
theorem aO (l : List Value) : ax (l.map SV.v) = [] := by
 induction l with
 | nil => rfl
 | cons x r ih => simp [ax, SV.keys, ih]
theorem dq (E : Nat -> Value) (a b : List SV) : an E (a ++ b) = an E a ++ an E b := by simp [a7]
theorem aR (a b : List SV) : ax (a ++ b) = ax a ++ ax b := by
 induction a with
 | nil => rfl
 | cons x r ih => simp [ax, ih]
inductive FV where
 | is (x : SV)
 | cnd (b : Bool) (x : SV)
 | any
def FV.keys : FV -> List Nat
 | .is x => x.keys
 | .cnd b x => bif b then x.keys else []
 | .any => []
def fits (E : Nat -> Value) : FV -> Value -> Prop
 | .is x, u => u = den E x
 | .cnd b x, u => u = bif b then den E x else undef
 | .any, _ => True
theorem EA {E E' : Nat -> Value} {f : FV} {u : Value} (h : ∀ k ∈ f.keys, E k = E' k) (hf : fits E f u) : fits E' f u := by
 cases f with
 | is x => simpa [fits, nL x h] using hf
 | cnd b x =>
  cases b with
  | false => exact hf
  | true => simpa [fits, nL x h] using hf
 | any => trivial
inductive bm where
 | cells (T : TypeId) (vs : List SV)
 | row (T : TypeId) (size n : Nat) (vs : List SV)
 | obj (d : List Value) (R : List Value -> Value -> List Nat -> World -> Prop)
def bm.keys : bm -> List Nat
 | .cells _ vs => ax vs
 | .row _ _ _ vs => ax vs
 | .obj _ _ => []
def bn (E : Nat -> Value) (u : Value) (fp : List Nat) (w : World) : bm -> Prop
 | .cells T vs => ∃ b, u = .pointer (some ⟨b, 0, none⟩) /\ fp = [b] /\ w.heap[b]? = some (.cells (an E vs).toArray T (0, 0))
 | .row T size n vs => w.ownsRow 0 T size u n (an E vs) /\ fp = u.ownBlock.toList
 | .obj d R => (R d u fp w /\ u.oneCell' = true) /\ ∀ w' : World, (∀ b ∈ fp, w'.heap[b]? = w.heap[b]?) -> R d u fp w'
theorem gB {E : Nat -> Value} {u : Value} {fp : List Nat} {w w' : World} {e : bm} (h : bn E u fp w e) (hl : ∀ b ∈ fp, w'.heap[b]? = w.heap[b]?) : bn E u fp w' e := by
 cases e with
 | cells T vs =>
  obtain ⟨b, h1, h2, h3⟩ := h
  exact ⟨b, h1, h2, by rw [hl b (by simp [h2])]; exact h3⟩
 | row T size n vs =>
  obtain ⟨⟨h1, h2⟩, h3⟩ := h
  refine ⟨⟨h1, ?_⟩, h3⟩
  rcases h2 with h2 | ⟨g, cap, cur, hv, hg, hh, r⟩
  ·exact .inl h2
  ·refine .inr ⟨g, cap, cur, hv, hg, ?_, r⟩
   rw [hl g (by rw [h3, hv]; simp [Value.ownBlock])]
   exact hh
 | obj d R =>
  refine ⟨⟨h.2 w' hl, h.1.2⟩, fun w'' hl' => h.2 w'' fun b hb => (hl' b hb).trans (hl b hb)⟩
theorem db {E : Nat -> Value} {u : Value} {fp : List Nat} {w : World} {e : bm} (h : bn E u fp w e) : u.oneCell' = true := by
 cases e with
 | cells T vs => obtain ⟨b, h1, _⟩ := h; rw [h1]; rfl
 | row T size n vs => rcases h.1.2 with ⟨h1, _⟩ | ⟨g, cap, cur, h1, _⟩ <;> rw [h1] <;> rfl
 | obj d R => exact h.1.2
theorem iO {E E' : Nat -> Value} {u : Value} {fp : List Nat} {w : World} {e : bm} (hk : ∀ k ∈ e.keys, E k = E' k) (h : bn E u fp w e) : bn E' u fp w e := by
 cases e with
 | cells T vs => simpa [bn, bG vs hk] using h
 | row T size n vs => simpa [bn, bG vs hk] using h
 | obj d R => exact h
structure ai (W : World) (bs : List Nat) (w : World) : Prop where
 os : w.os = W.os
 tape : w.tape = W.tape
 output : w.output = W.output
 size : W.heap.size <= w.heap.size
 block : ∀ b, b < W.heap.size -> b ∉ bs -> w.heap[b]? = W.heap[b]?
theorem ai.refl (W : World) (bs : List Nat) : ai W bs W := ⟨rfl, rfl, rfl, Nat.le_refl _, fun _ _ _ => rfl⟩
theorem ai.below {W w : World} (h : ai W [] w) : Below W.heap.size W w := ⟨h.os, h.tape, h.output, h.size, fun k hk => h.block k hk (by simp)⟩
theorem ai.PT {W w : World} (h : Below W.heap.size W w) : ai W [] w := ⟨h.os, h.tape, h.output, h.size, fun b hb _ => h.block b hb⟩
theorem ai.mono {W w : World} {bs bs' : List Nat} (h : ai W bs w) (hs : ∀ b ∈ bs, b ∈ bs') : ai W bs' w :=
 ⟨h.os, h.tape, h.output, h.size, fun b hb hn => h.block b hb fun hm => hn (hs b hm)⟩
theorem ai.drop {W w : World} {bs bs' : List Nat} (h : ai W bs' w) (hs : ∀ b ∈ bs', b < W.heap.size -> b ∈ bs) : ai W bs w :=
 ⟨h.os, h.tape, h.output, h.size, fun b hb hn => h.block b hb fun hm => hn (hs b hm hb)⟩
theorem ai.trans {W w w' : World} {bs bs' : List Nat} (h : ai W bs w) (h' : ai w bs' w') (hs : ∀ b ∈ bs', b < W.heap.size -> b ∈ bs) : ai W bs w' :=
 ⟨h'.os.trans h.os, h'.tape.trans h.tape, h'.output.trans h.output, Nat.le_trans h.size h'.size,
  fun b hb hn => (h'.block b (Nat.lt_of_lt_of_le hb h.size) fun hm => hn (hs b hm hb)).trans (h.block b hb hn)⟩
structure al (W : World) (bs : List Nat) (E : Nat -> Value) (F : Nat -> List Nat) (h : Nat -> Option bm) (w : World) : Prop where
 ent : ∀ k e, h k = some e -> bn E (E k) (F k) w e
 lt : ∀ k e, h k = some e -> ∀ b ∈ F k, b < w.heap.size
 mine : ∀ k e, h k = some e -> ∀ b ∈ F k, W.heap.size <= b \/ b ∈ bs
 apart : ∀ k k' e e', k ≠ k' -> h k = some e -> h k' = some e' -> ∀ b ∈ F k, b ∉ F k'
 keeps : ai W bs w
def bg {α : Type} (f : Nat -> α) (k : Nat) (x : α) : Nat -> α := fun j => if j = k then x else f j
theorem ah {α : Type} (f : Nat -> α) (k : Nat) (x : α) : bg f k x k = x := by simp [bg]
theorem ak {α : Type} (f : Nat -> α) {k j : Nat} (x : α) (h : j ≠ k) : bg f k x j = f j := by simp [bg, h]
def aZ {α : Type} (f : Nat -> α) : List (Nat × α) -> Nat -> α
 | [] => f
 | (k, x) :: r => aZ (bg f k x) r
end
section
open Go.RowKit
structure R where
 side : Prop
 val : SV
 bg : List (Nat × Option bm) := []
 pan : Option (List PanicEntry) := none
 pupd : List Nat := []
 reads : List Nat := []
def R.bad : R := { side := False, val := .v undef }
def R.ok (x : SV) : R := { side := True, val := x }
def R.fI (p : Prop) (x : SV) : R := { side := p, val := x }
def R.new (k : Nat) (e : bm) (x : SV) : R := { side := True, val := x, bg := [(k, some e)] }
def dropKeys (h : Nat -> Option bm) (ks : List Nat) : Nat -> Option bm := fun k => if k ∈ ks then none else h k
def nk (κ : Nat) : Nat := 8 * κ
def mb (P : Program) (res : Result Next) (K : Value -> World -> Prop) (KP : List PanicEntry -> World -> Prop) : Prop :=
 match res with
 | .ok (.value v) w' => K v w'
 | .ok .skip w' => K undef w'
 | .ok (.enter f args) w' => Calls P f args w' fun
   | .returned v, w'' => K v w''
   | .panicked c, w'' => KP c w''
   | .outgrown, _ => False
 | .halt (.panic v) w' => KP [{ v, recovered := false }] w'
 | _ => False
theorem mb.mono {P : Program} {res : Result Next} {K K' : Value -> World -> Prop} {KP KP' : List PanicEntry -> World -> Prop} (h : mb P res K KP)
  (hk : ∀ v w, K v w -> K' v w) (hp : ∀ c w, KP c w -> KP' c w) : mb P res K' KP' := by
 unfold mb at *
 split at h
 ·exact hk _ _ h
 ·exact hk _ _ h
 ·exact h.mono fun e w he => by cases e <;> first | exact hk _ _ he | exact hp _ _ he | exact he
 ·exact hp _ _ h
 ·exact h.elim
theorem vy {P : Program} {o : Oper} {a : Act} {w : World} {K : Act -> World -> Prop} {Q : Exit -> Act -> World -> Prop}
  (h : mb P ((execOp a.eval o).run P w) (fun v w' => K (a.put o.dst v) w') (fun c w' => Q (.panic c) a w')) : o.wp P a w K Q := by
 unfold Oper.wp
 unfold mb at h
 split at h
 ·rename_i hr; rw [hr]; exact h
 ·rename_i hr; rw [hr]; exact h
 ·rename_i hr; rw [hr]; exact h.mono fun e w he => by cases e <;> first | exact he | exact he.elim
 ·rename_i hr; rw [hr]; exact h
 ·exact h.elim
def Good (P : Program) (W : World) (bs : List Nat) (κ : Nat) (E : Nat -> Value) (h : Nat -> Option bm) (r : R) (res : Result Next) : Prop :=
 mb P res
  (fun v w' => r.pan = none /\ ∃ E' F', (∀ k, k / 8 ≠ κ -> E' k = E k) /\ v = den E' r.val /\ al W bs E' F' (aZ h r.bg) w')
  (fun c w' => r.pan = some c /\ ∃ F', al W bs E F' (dropKeys h r.pupd) w')
section
variable {P : Program} {W : World} {bs : List Nat} {κ : Nat} {E : Nat -> Value} {F : Nat -> List Nat} {h : Nat -> Option bm} {w : World}
theorem Good.pure {r : R} {v : Value} (hs : al W bs E F h w) (hv : v = den E r.val) (hu : r.bg = []) (hp : r.pan = none) :
  Good P W bs κ E h r (.ok (.value v) w) := by
 simp only [Good, mb]
 exact ⟨hp, E, F, fun _ _ => rfl, hv, by rw [hu]; exact hs⟩
theorem Good.skip {r : R} (hs : al W bs E F h w) (hv : r.val = .v undef) (hu : r.bg = []) (hp : r.pan = none) :
  Good P W bs κ E h r (.ok .skip w) := by
 simp only [Good, mb]
 exact ⟨hp, E, F, fun _ _ => rfl, by rw [hv]; rfl, by rw [hu]; exact hs⟩
theorem al.grow {w' : World} (hs : al W bs E F h w) (hk : ai w [] w') : al W bs E F h w' := by
 refine ⟨fun k e he => gB (hs.ent k e he) fun b hb => hk.block b (hs.lt k e he b hb) (by simp), fun k e he b hb => Nat.lt_of_lt_of_le (hs.lt k e he b hb) hk.size, hs.mine, hs.apart, ?_⟩
 exact hs.keeps.trans hk (by simp)
theorem G3 (κ j : Nat) (hj : j < 8) : (nk κ + j) / 8 = κ := by unfold nk; omega
theorem aW (κ : Nat) : nk κ / 8 = κ := by unfold nk; omega
def bI (K : Nat -> Prop) (h : Nat -> Option bm) : Prop := ∀ k e, h k = some e -> K k /\ ∀ j ∈ e.keys, K j
theorem al.new {w' : World} {e : bm} {u : Value} {fp : List Nat} {K : Nat -> Prop} {k : Nat} (hs : al W bs E F h w) (hK : bI K h) (hk : ¬ K k)
  (he : bn (bg E k u) u fp w' e) (hfp : ∀ b ∈ fp, w.heap.size <= b /\ b < w'.heap.size) (hkeep : ai w [] w') :
  al W bs (bg E k u) (bg F k fp) (bg h k (some e)) w' := by
 have hne : ∀ j x, h j = some x -> j ≠ k := fun j x hj hjk => hk (hjk ▸ (hK j x hj).1)
 have g := hs.grow hkeep
 constructor
 ·intro j x hj
  by_cases hjk : j = k
  ·subst hjk
   simp only [ah, Option.some.injEq] at hj ⊢
   subst hj
   exact he
  ·rw [ak _ _ hjk] at hj
   rw [ak _ _ hjk, ak _ _ hjk]
   exact iO (fun i hi => (ak _ _ (show i ≠ k from fun hik => by subst hik; exact hk ((hK j x hj).2 i hi))).symm) (g.ent j x hj)
 ·intro j x hj b hb
  by_cases hjk : j = k
  ·subst hjk; rw [ah] at hb; exact (hfp b hb).2
  ·rw [ak _ _ hjk] at hj hb; exact g.lt j x hj b hb
 ·intro j x hj b hb
  by_cases hjk : j = k
  ·subst hjk; rw [ah] at hb; exact .inl (Nat.le_trans hs.keeps.size (hfp b hb).1)
  ·rw [ak _ _ hjk] at hj hb; exact g.mine j x hj b hb
 ·intro i j x y hij hi hj b hb
  by_cases hik : i = k
  ·subst hik
   rw [ak _ _ (Ne.symm hij)] at hj ⊢
   rw [ah] at hb
   exact fun hb' => by have h1 := hs.lt j y hj b hb'; have h2 := (hfp b hb).1; omega
  ·rw [ak _ _ hik] at hi hb
   by_cases hjk : j = k
   ·subst hjk
    rw [ah]
    exact fun hb' => by have h1 := hs.lt i x hi b hb; have h2 := (hfp b hb').1; omega
   ·rw [ak _ _ hjk] at hj ⊢
    exact hs.apart i j x y hij hi hj b hb
 ·exact g.keeps
theorem al.WS {w' : World} {e e' : bm} {fp : List Nat} {k : Nat} (hs : al W bs E F h w) (hk : h k = some e)
  (he : bn E (E k) fp w' e') (hfp : ∀ b ∈ fp, b ∈ F k \/ w.heap.size <= b) (hlt : ∀ b ∈ fp, b < w'.heap.size) (hkeep : ai w (F k) w') :
  al W bs E (bg F k fp) (bg h k (some e')) w' := by
 have old : ∀ j x, h j = some x -> j ≠ k -> ∀ b ∈ F j, w'.heap[b]? = w.heap[b]? := fun j x hj hjk b hb =>
  hkeep.block b (hs.lt j x hj b hb) fun hb' => hs.apart j k x e hjk hj hk b hb hb'
 constructor
 ·intro j x hj
  by_cases hjk : j = k
  ·subst hjk
   simp only [ah, Option.some.injEq] at hj ⊢
   subst hj
   exact he
  ·rw [ak _ _ hjk] at hj
   rw [ak _ _ hjk]
   exact gB (hs.ent j x hj) (old j x hj hjk)
 ·intro j x hj b hb
  by_cases hjk : j = k
  ·subst hjk; rw [ah] at hb; exact hlt b hb
  ·rw [ak _ _ hjk] at hj hb; exact Nat.lt_of_lt_of_le (hs.lt j x hj b hb) hkeep.size
 ·intro j x hj b hb
  by_cases hjk : j = k
  ·subst hjk
   rw [ah] at hb
   rcases hfp b hb with hb | hb
   ·exact hs.mine j e hk b hb
   ·exact .inl (Nat.le_trans hs.keeps.size hb)
  ·rw [ak _ _ hjk] at hj hb; exact hs.mine j x hj b hb
 ·intro i j x y hij hi hj b hb
  by_cases hik : i = k
  ·subst hik
   rw [ak _ _ (Ne.symm hij)] at hj ⊢
   rw [ah] at hb
   rcases hfp b hb with hb | hb
   ·exact hs.apart i j e y hij hk hj b hb
   ·exact fun hb' => by have h1 := hs.lt j y hj b hb'; omega
  ·rw [ak _ _ hik] at hi hb
   by_cases hjk : j = k
   ·subst hjk
    rw [ah]
    intro hb'
    rcases hfp b hb' with hb' | hb'
    ·exact hs.apart i j x e hij hi hk b hb hb'
    ·have h1 := hs.lt i x hi b hb; omega
   ·rw [ak _ _ hjk] at hj ⊢
    exact hs.apart i j x y hij hi hj b hb
 ·exact hs.keeps.trans hkeep fun b hb hlt' => (hs.mine k e hk b hb).resolve_left (by omega)
theorem al.drop {h' : Nat -> Option bm} (hs : al W bs E F h w) (hd : ∀ k e, h' k = some e -> h k = some e) : al W bs E F h' w :=
 ⟨fun k e he => hs.ent k e (hd k e he), fun k e he => hs.lt k e (hd k e he), fun k e he => hs.mine k e (hd k e he), fun k k' e e' hne he he' => hs.apart k k' e e' hne (hd k e he) (hd k' e' he'), hs.keeps⟩
end
end
section
open Go.RowKit
def tz (P : Program) (T : TypeId) : Option (List Value) := (P.info? T).bind fun i => i.zero.map fun z => z.cells.toList
def ts (P : Program) (T : TypeId) : Option Nat := (P.info? T).map (·.size)
def oV (P : Program) (T : TypeId) : Option Nat := (P.info? T).map (·.bytes)
def ta (P : Program) (T : TypeId) : Option Bool := (P.underlying T).map fun | .struct _ => true | .array _ _ => true | _ => false
def tf (P : Program) (S : TypeId) (f : Nat) : Option (Nat × Nat × Bool) :=
 match P.underlying S with
 | some (.struct fs) => (fs[f]?).bind fun d => (ts P d.type).bind fun s => (ta P d.type).map fun a => (d.offset, s, a)
 | _ => none
section
variable {P : Program} {W : World} {bs : List Nat} {κ : Nat} {E : Nat -> Value} {F : Nat -> List Nat} {h : Nat -> Option bm} {w : World} {K : Nat -> Prop}
theorem gw {T s : Nat} (ht : ts P T = some s) (w : World) : (sizeOf T).run P w = .ok s w := by
 obtain ⟨i, hi, rfl⟩ := Option.map_eq_some_iff.1 ht
 simp [sizeOf, typeInfo, hi]
theorem zJ {T : TypeId} {a : Bool} (ht : ta P T = some a) (w : World) : (isAgg T).run P w = .ok a w := by
 obtain ⟨d, hd, hda⟩ := Option.map_eq_some_iff.1 ht
 subst hda
 simp only [isAgg, Sem.run_bind, run_underlying hd, Result.andThen_ok]
 cases d <;> simp
theorem AI {T : TypeId} {zs : List Value} (ht : tz P T = some zs) : ∃ z, z.cells.toList = zs /\ ∀ w : World, (zeroValue T).run P w = .ok z w := by
 unfold tz at ht
 cases hi : P.info? T with
 | none => simp [hi] at ht
 | some i =>
  simp only [hi, Option.bind_some] at ht
  cases hz : i.zero with
  | none => simp [hz] at ht
  | some z =>
   simp only [hz, Option.map_some, Option.some.injEq] at ht
   exact ⟨z, ht, fun w => by simp [zeroValue, typeInfo, hi, hz]⟩
def partsOf : SV -> List SV
 | .agg l => l
 | .v x => x.cells.toList.map .v
 | x => [x]
theorem Bi (a : Option Addr) (o : Nat) : (cD a o).cells = #[cD a o] := by cases a <;> rfl
theorem lr (E : Nat -> Value) (x : SV) : an E (partsOf x) = (den E x).cells.toList := by
 cases x with
 | agg l => simp [partsOf, den, Value.cells]
 | v x => simp [partsOf, den, aB]
 | own k o => simp [partsOf, den, an, Bi]
 | hd k => simp [partsOf, den, an, oa (zS _)]
 | tup l => rfl
 | ifc t x => rfl
 | part k i => simp [partsOf, den, an, oa (zS _)]
 | fn f a c => rfl
theorem iP (x : SV) : ax (partsOf x) = x.keys := by
 cases x <;> simp [partsOf, SV.keys, ax, aO]
def cu : SV -> Bool
 | .v x => x.oneCell'
 | .agg _ => false
 | .tup _ => false
 | .own _ _ => true
 | .hd _ => true
 | .ifc _ _ => true
 | .part _ _ => true
 | .fn _ _ _ => true
def gh (P : Program) (κ : Nat) (T : TypeId) : R :=
 match tz P T with
 | some zs => .new (nk κ) (.cells T (zs.map .v)) (.own (nk κ) 0)
 | none => .bad
theorem mH (w : World) (o : Obj) : ai w [] (w.alloc o) := ⟨rfl, rfl, rfl, by simp, fun b hb _ => Below.heap_alloc w o b hb⟩
theorem Tc (E : Nat -> Value) (w : World) (T : TypeId) (vs : List SV) (cs : Array Value) (h : an E vs = cs.toList) :
  bn E (.pointer (some ⟨w.heap.size, 0, none⟩)) [w.heap.size] (w.alloc (.cells cs T)) (.cells T vs) :=
 ⟨_, rfl, rfl, by rw [h]; simpa using heap_alloc_new w (.cells cs T)⟩
theorem xB {T : TypeId} {vs : List SV} {cs : Array Value} {j : Nat} (hj : j < 8) (hs : al W bs E F h w) (hK : bI K h) (hk : ∀ k, k / 8 = κ -> ¬ K k) (hv : ∀ k ∈ ax vs, K k) (hd : an E vs = cs.toList) :
  al W bs (bg E (nk κ + j) (.pointer (some ⟨w.heap.size, 0, none⟩))) (bg F (nk κ + j) [w.heap.size]) (bg h (nk κ + j) (some (.cells T vs))) (w.alloc (.cells cs T)) := by
 have hnk := hk _ (G3 κ j hj)
 refine hs.new hK hnk (Tc _ w T vs cs ?_) (fun b hb => ?_) (mH w _)
 ·rw [<- hd]
  exact bG vs fun i hk' => ak _ _ fun e => hnk (e ▸ hv i hk')
 ·simp at hb; subst hb; simp
theorem yI {j : Nat} (hj : j < 8) (u : Value) : ∀ k, k / 8 ≠ κ -> bg E (nk κ + j) u k = E k := fun _ hk => ak _ _ fun e => hk (e ▸ G3 κ j hj)
theorem Fj {T : TypeId} (hs : al W bs E F h w) (hK : bI K h) (hk : ∀ k, k / 8 = κ -> ¬ K k) (hside : (gh P κ T).side) :
  Good P W bs κ E h (gh P κ T) ((do pure (.value (<- Instr.alloc T true (.tuple #[]))) : Sem Next).run P w) := by
 cases hz : tz P T with
 | none => simp [gh, hz, R.bad] at hside
 | some zs =>
  obtain ⟨z, rfl, hrun⟩ := AI hz
  simp only [gh, hz]
  have : (do pure (.value (<- Instr.alloc T true (.tuple #[]))) : Sem Next).run P w = .ok (.value (.pointer (some ⟨w.heap.size, 0, none⟩))) (w.alloc (.cells z.cells T)) := by
   simp [Instr.alloc, hrun, newVar, newRow]
  rw [this]
  refine ⟨rfl, _, _, yI (j := 0) (by omega) _, ?_, xB (j := 0) (by omega) hs hK hk (by simp [aO]) (by simp [aB])⟩
  simp [R.new, den, ah, base, cD, nk]
def qK (κ : Nat) (T : TypeId) : List SV -> R
 | [x] => .new (nk κ) (.cells T (partsOf x)) (.own (nk κ) 0)
 | _ => .bad
theorem Oi {T : TypeId} {x : SV} (hs : al W bs E F h w) (hK : bI K h) (hk : ∀ k, k / 8 = κ -> ¬ K k) (hx : ∀ k ∈ x.keys, K k) :
  Good P W bs κ E h (qK κ T [x]) ((do pure (.value (<- Instr.box T (den E x))) : Sem Next).run P w) := by
 have : (do pure (.value (<- Instr.box T (den E x))) : Sem Next).run P w = .ok (.value (.pointer (some ⟨w.heap.size, 0, none⟩))) (w.alloc (.cells (den E x).cells T)) := by
  simp [Instr.box, newVar, newRow]
 rw [this]
 refine ⟨rfl, _, _, yI (j := 0) (by omega) _, ?_, xB (j := 0) (by omega) hs hK hk (by rw [iP]; exact hx) (lr E x)⟩
 simp [qK, R.new, den, ah, base, cD, nk]
def b6 : Option bm -> Option (List SV)
 | some (.cells _ vs) => some vs
 | some (.row _ _ _ vs) => some vs
 | _ => none
def bx (W : World) (b : Nat) : Nat -> Nat -> List SV
 | _, 0 => []
 | o, n + 1 => .v ((W.cell? ⟨b, o, none⟩).getD undef) :: bx W b (o + 1) n
def cY (W : World) (b : Nat) : Nat -> Nat -> Prop
 | _, 0 => True
 | o, n + 1 => (W.cell? ⟨b, o, none⟩).isSome = true /\ cY W b (o + 1) n
def di (P : Program) (W : World) (bs : List Nat) (h : Nat -> Option bm) (T : TypeId) : List SV -> R
 | [.own k o] =>
  match ts P T, ta P T, b6 (h k) with
  | some sz, some true, some vs => { side := o + sz <= vs.length /\ 0 < sz, val := .agg ((vs.drop o).take sz), reads := [k] }
  | some _, some false, some vs => { side := o < vs.length, val := vs.getD o (.v undef), reads := [k] }
  | _, _, _ => .bad
 | [.v (.pointer (some ⟨b, o, none⟩))] =>
  match ts P T, ta P T with
  | some sz, some true => { side := b ∉ bs /\ cY W b o sz, val := .agg (bx W b o sz) }
  | some _, some false => { side := b ∉ bs /\ (W.cell? ⟨b, o, none⟩).isSome = true, val := .v ((W.cell? ⟨b, o, none⟩).getD undef) }
  | _, _ => .bad
 | _ => .bad
theorem fE {T sz : Nat} (hs : ts P T = some sz) (ha : ta P T = some true) (a : Addr) (cs : List Value) (hl : cs.length = sz) (h : ∀ j v, cs[j]? = some v -> w.cell? (a.add j) = some v) :
  (loadVar T a).run P w = .ok (.agg cs.toArray) w := by
 subst hl
 simp [loadVar, zJ ha, gw hs, run_loadCells_list w a cs h]
theorem fF {T : TypeId} (ha : ta P T = some false) (a : Addr) (v : Value) (h : w.cell? a = some v) :
  (loadVar T a).run P w = .ok v w := by
 simp [loadVar, zJ ha, h]
theorem eY {k : Nat} {vs : List SV} (hs : al W bs E F h w) (he : b6 (h k) = some vs) (hne : 0 < vs.length) :
  ∃ b, base (E k) = some ⟨b, 0, none⟩ /\ ∀ j, j < vs.length -> w.cell? ⟨b, j, none⟩ = some ((an E vs)[j]?.getD undef) := by
 cases hk : h k with
 | none => simp [hk, b6] at he
 | some e =>
  have hent := hs.ent k e hk
  cases e with
  | obj d R => simp [hk, b6] at he
  | cells T us =>
   simp only [hk, b6, Option.some.injEq] at he
   subst he
   obtain ⟨b, h1, _, h3⟩ := hent
   refine ⟨b, by rw [h1]; rfl, fun j hj => ?_⟩
   have hj' : j < (an E us).length := by rw [aC]; exact hj
   simp [World.cell?, h3, List.getElem?_eq_getElem hj']
  | row T size n us =>
   simp only [hk, b6, Option.some.injEq] at he
   subst he
   obtain ⟨⟨hl, hor⟩, _⟩ := hent
   rcases hor with ⟨h1, h2⟩ | ⟨g, cap, cur, h1, _, hh, _, _, hcs, htake⟩
   ·have : (an E us).length = 0 := by rw [hl, h2]; simp
    rw [aC] at this
    omega
   ·refine ⟨g, by rw [h1]; rfl, fun j hj => ?_⟩
    have hj' : j < (an E us).length := by rw [aC]; exact hj
    have hcur : cur[j]? = (an E us)[j]? := by
     rw [<- htake, List.getElem?_take, if_pos (by omega)]
     simp
    simp [World.cell?, hh, hcur, List.getElem?_eq_getElem hj']
theorem jc : ∀ (n o b : Nat), cY W b o n -> an E (bx W b o n) = (List.range n).map (fun j => (W.cell? ⟨b, o + j, none⟩).getD undef) /\ ∀ j, j < n -> (W.cell? ⟨b, o + j, none⟩).isSome = true
 | 0, _, _, _ => ⟨rfl, fun j hj => by omega⟩
 | n + 1, o, b, h => by
  obtain ⟨h1, h2⟩ := jc n (o + 1) b h.2
  refine ⟨?_, fun j hj => ?_⟩
  ·simp only [bx, an, den, h1, List.range_succ_eq_map, List.map_cons, List.map_map, Nat.add_zero, Function.comp_def]
   congr 1
   apply List.map_congr_left
   intro j _
   simp [Nat.add_assoc, Nat.add_comm 1 j]
  ·cases j with
   | zero => exact h.1
   | succ j => have := h2 j (by omega); rwa [show o + (j + 1) = o + 1 + j by omega]
theorem ai.cell {b o : Nat} (hk : ai W bs w) (hb : b ∉ bs) (hs : (W.cell? ⟨b, o, none⟩).isSome = true) : w.cell? ⟨b, o, none⟩ = some ((W.cell? ⟨b, o, none⟩).getD undef) := by
 obtain ⟨v, hv⟩ := Option.isSome_iff_exists.1 hs
 have hlt := World.block_lt_of_cell? W _ hv
 have : w.cell? ⟨b, o, none⟩ = W.cell? ⟨b, o, none⟩ := World.cell?_of_block (hk.block b hlt hb)
 rw [this, hv]; rfl
theorem nU (E : Nat -> Value) (vs : List SV) (o : Nat) : den E (vs.getD o (.v undef)) = (an E vs)[o]?.getD undef := by
 rw [a7, List.getD_eq_getElem?_getD, List.getElem?_map]
 cases vs[o]? <;> rfl
theorem KB {T : TypeId} {x : SV} (hs : al W bs E F h w) (hside : (di P W bs h T [x]).side) :
  Good P W bs κ E h (di P W bs h T [x]) ((do pure (.value (<- Instr.loadAt T (den E x))) : Sem Next).run P w) := by
 revert hside
 unfold di
 split
 ·rename_i k o heq
  simp only [List.cons.injEq, and_true] at heq
  subst heq
  split
  ·rename_i sz vs hsz hag hvs
   rintro ⟨hlen, hpos⟩
   obtain ⟨b, hb, hcells⟩ := eY hs hvs (by omega)
   have hrun : (loadVar T ⟨b, 0 + o, none⟩).run P w = .ok (.agg (((an E vs).drop o).take sz).toArray) w := by
    refine fE hsz hag _ _ (by simp [aC]; omega) fun j v hj => ?_
    have hjl : j < sz := by
     have := (List.getElem?_eq_some_iff.1 hj).1
     simp at this; omega
    rw [Addr.add_lit, Nat.zero_add, hcells (o + j) (by omega)]
    rw [List.getElem?_take, if_pos hjl, List.getElem?_drop] at hj
    rw [hj]; rfl
   rw [Nat.zero_add] at hrun
   have : (do pure (.value (<- Instr.loadAt T (den E (.own k o)))) : Sem Next).run P w = .ok (.value (.agg (((an E vs).drop o).take sz).toArray)) w := by
    simp only [den, hb, cD, Instr.loadAt, Instr.sureAddr]
    simp [hrun]
   rw [this]
   refine Good.pure hs ?_ rfl rfl
   simp [den, a7, List.map_take, List.map_drop]
  ·rename_i sz vs hsz hag hvs
   intro hlen
   obtain ⟨b, hb, hcells⟩ := eY hs hvs (Nat.zero_lt_of_lt hlen)
   have hrun := fF (w := w) hag ⟨b, 0 + o, none⟩ ((an E vs)[o]?.getD undef) (by rw [Nat.zero_add]; exact hcells o hlen)
   rw [Nat.zero_add] at hrun
   have : (do pure (.value (<- Instr.loadAt T (den E (.own k o)))) : Sem Next).run P w = .ok (.value ((an E vs)[o]?.getD undef)) w := by
    simp only [den, hb, cD, Instr.loadAt, Instr.sureAddr]
    simp [hrun]
   rw [this]
   exact Good.pure hs (nU E vs o).symm rfl rfl
  ·exact fun hf => hf.elim
 ·rename_i b o heq
  simp only [List.cons.injEq, and_true] at heq
  subst heq
  split
  ·rename_i sz hsz hag
   rintro ⟨hb, hthere⟩
   obtain ⟨_, hsome⟩ := jc (E := E) sz o b hthere
   have hrun : (loadVar T ⟨b, o, none⟩).run P w = .ok (.agg (an E (bx W b o sz)).toArray) w := by
    refine fE hsz hag _ _ ?_ fun j v hj => ?_
    ·have : an E (bx W b o sz) = an E (bx W b o sz) := rfl
     have hl : ∀ n o, (bx W b o n).length = n := fun n => by induction n with | zero => intro o; rfl | succ n ih => intro o; simp [bx, ih]
     rw [aC, hl]
    ·have hd : an E (bx W b o sz) = (List.range sz).map (fun j => (W.cell? ⟨b, o + j, none⟩).getD undef) := (jc sz o b hthere).1
     rw [hd] at hj
     have hjl : j < sz := by have := (List.getElem?_eq_some_iff.1 hj).1; simpa using this
     rw [List.getElem?_map, List.getElem?_range hjl] at hj
     simp only [Option.map_some, Option.some.injEq] at hj
     subst hj
     rw [Addr.add_lit]
     exact hs.keeps.cell hb (hsome j hjl)
   have : (do pure (.value (<- Instr.loadAt T (den E (.v (.pointer (some ⟨b, o, none⟩)))))) : Sem Next).run P w = .ok (.value (.agg (an E (bx W b o sz)).toArray)) w := by
    simp only [den, Instr.loadAt, Instr.sureAddr]
    simp [hrun]
   rw [this]
   exact Good.pure hs rfl rfl rfl
  ·rename_i sz hsz hag
   rintro ⟨hb, hsome⟩
   have hrun := fF (w := w) hag ⟨b, o, none⟩ _ (hs.keeps.cell hb hsome)
   have : (do pure (.value (<- Instr.loadAt T (den E (.v (.pointer (some ⟨b, o, none⟩)))))) : Sem Next).run P w = .ok (.value ((W.cell? ⟨b, o, none⟩).getD undef)) w := by
    simp only [den, Instr.loadAt, Instr.sureAddr]
    simp [hrun]
   rw [this]
   exact Good.pure hs rfl rfl rfl
  ·exact fun hf => hf.elim
 ·exact fun hf => hf.elim
end
end
section
open Go.RowKit
section
variable {P : Program} {W : World} {bs : List Nat} {κ : Nat} {E : Nat -> Value} {F : Nat -> List Nat} {h : Nat -> Option bm} {w : World} {K : Nat -> Prop}
def ae (vs : List SV) (o : Nat) (ps : List SV) : List SV := vs.take o ++ ps ++ vs.drop (o + ps.length)
def nf : Option bm -> Nat -> List SV -> Option bm
 | some (.cells T vs), o, ps => some (.cells T (ae vs o ps))
 | some (.row T s n vs), o, ps => some (.row T s n (ae vs o ps))
 | e, _, _ => e
def Yn : Option bm -> Bool
 | some (.cells _ _) => true
 | _ => false
def gf (P : Program) (h : Nat -> Option bm) (T : TypeId) : List SV -> R
 | [.own k o, x] =>
  match ts P T, b6 (h k) with
  | some sz, some vs => { side := (partsOf x).length = sz /\ o + sz <= vs.length /\ (0 < sz \/ Yn (h k) = true) /\ (partsOf x).all cu = true, val := .v undef, bg := [(k, nf (h k) o (partsOf x))], reads := [k] }
  | _, _ => .bad
 | _ => .bad
theorem J1 (a : Option Addr) (o : Nat) : (cD a o).oneCell' = true := by cases a <;> rfl
theorem q9 (E : Nat -> Value) : ∀ {x : SV}, cu x = true -> (den E x).oneCell' = true
 | .v x, hx => hx
 | .agg _, hx => by cases hx
 | .tup _, hx => by cases hx
 | .own k o, _ => J1 _ _
 | .hd k, _ => zS _
 | .ifc _ _, _ => rfl
 | .part _ _, _ => zS _
 | .fn _ _ _, _ => rfl
theorem gW (E : Nat -> Value) (vs ps : List SV) (o : Nat) : an E (ae vs o ps) = (an E vs).take o ++ an E ps ++ (an E vs).drop (o + (an E ps).length) := by
 simp [ae, a7, List.map_take, List.map_drop]
theorem lB (w : World) (g : Nat) (cs : Array Value) : ai w [g] (w.setRow g cs) :=
 ⟨rfl, rfl, rfl, by simp, fun b _ hn => setRow_other w g b cs (by simpa using hn)⟩
theorem EG {T : TypeId} {p x : SV} (hs : al W bs E F h w) (hside : (gf P h T [p, x]).side) :
  Good P W bs κ E h (gf P h T [p, x]) ((do Instr.storeAt T (den E p) (den E x); pure .skip : Sem Next).run P w) := by
 revert hside
 unfold gf
 split
 ·rename_i k o x' heq
  simp only [List.cons.injEq, and_true] at heq
  obtain ⟨rfl, rfl⟩ := heq
  split
  ·rename_i sz vs hsz hvs
   rintro ⟨hpl, hlen, hpos, hone⟩
   have hone' : ∀ v ∈ an E (partsOf x), v.oneCell' = true := by
    intro v hv
    rw [a7] at hv
    obtain ⟨y, hy, rfl⟩ := List.mem_map.1 hv
    exact q9 E (List.all_eq_true.1 hone y hy)
   have hcl : (den E x).cells.toList = an E (partsOf x) := (lr E x).symm
   have hcs : (den E x).cells.size = sz := by rw [<- Array.length_toList, hcl, aC, hpl]
   cases hk : h k with
   | none => simp [hk, b6] at hvs
   | some e =>
    have hent := hs.ent k e hk
    have key : ∃ g cur T', base (E k) = some ⟨g, 0, none⟩ /\ F k = [g] /\ w.heap[g]? = some (.cells cur T' (0, 0)) /\ o + sz <= cur.size /\
      ∀ w' : World, w'.heap[g]? = some (.cells (cur.toList.take o ++ an E (partsOf x) ++ cur.toList.drop (o + sz)).toArray T' (0, 0)) -> ∃ e', nf (h k) o (partsOf x) = some e' /\ bn E (E k) [g] w' e' := by
     cases e with
     | obj d R => simp [hk, b6] at hvs
     | cells T' us =>
      simp only [hk, b6, Option.some.injEq] at hvs
      subst hvs
      obtain ⟨b, h1, h2, h3⟩ := hent
      refine ⟨b, _, _, by rw [h1]; rfl, h2, h3, by simp [aC]; omega, fun w' hw' => ⟨.cells T' (ae us o (partsOf x)), by rw [hk]; rfl, ⟨b, h1, rfl, ?_⟩⟩⟩
      rw [hw', gW]
      simp [aC, hpl]
     | row T' size n us =>
      simp only [hk, b6, Option.some.injEq] at hvs
      subst hvs
      obtain ⟨⟨hl, hor⟩, hf⟩ := hent
      have hpos : 0 < sz := hpos.resolve_right (by rw [hk]; exact Bool.false_ne_true)
      rcases hor with ⟨h1, h2⟩ | ⟨g, cap, cur, h1, hb0, hh, hnc, hcm, hcs', htake⟩
      ·have : (an E us).length = 0 := by rw [hl, h2]; simp
       rw [aC] at this
       omega
      ·have hul : us.length = n * size := by rw [<- hl, aC]
       have hnsz : n * size <= cap * size := Nat.mul_le_mul_right _ hnc
       refine ⟨g, cur, _, by rw [h1]; rfl, by rw [hf, h1]; rfl, hh, by omega, fun w' hw' => ⟨.row T' size n (ae us o (partsOf x)), by rw [hk]; rfl, ⟨⟨?_, .inr ⟨g, cap, _, h1, hb0, hw', hnc, hcm, ?_, ?_⟩⟩, by rw [h1]; rfl⟩⟩⟩
       ·rw [gW]
        simp only [List.length_append, List.length_take, List.length_drop, aC, hpl]
        omega
       ·simp only [List.size_toArray, List.length_append, List.length_take, List.length_drop, aC, hpl, Array.length_toList]
        omega
       ·rw [gW, <- htake]
        simp only [aC, hpl]
        apply List.ext_getElem?
        intro j
        simp only [List.getElem?_take, List.getElem?_append, List.length_append, List.length_take, aC, hpl, List.getElem?_drop, Array.length_toList]
        by_cases hj1 : j < n * size
        ·rw [if_pos hj1]
         repeat' split
         all_goals (first | rfl | omega | (congr 1; omega) | skip)
        ·rw [if_neg hj1]
         repeat' split
         all_goals (first | rfl | omega | skip)
    obtain ⟨g, cur, T', hb, hF, hh, hle, hset⟩ := key
    obtain ⟨e', he', hsat⟩ := hset _ (setRow_heap w g cur _ T' _ hh)
    have hst := run_storeCells_at P g o T' (an E (partsOf x)) 0 cur w hh (by rw [aC, hpl]; omega) hone'
    have : (do Instr.storeAt T (den E (.own k o)) (den E x); pure .skip : Sem Next).run P w = .ok .skip (w.setRow g (cur.toList.take o ++ an E (partsOf x) ++ cur.toList.drop (o + sz)).toArray) := by
     simp only [den, hb, cD, Instr.storeAt, Instr.sureAddr, Nat.zero_add]
     simp only [Nat.add_zero, aC, hpl] at hst
     simp [storeVar, hcs, gw hsz, hcl, hst]
    rw [this]
    rw [hk] at he'
    simp only [Good, mb, aZ, he']
    refine ⟨trivial, E, _, fun _ _ => rfl, rfl, hs.WS hk hsat (fun b hb => by left; rw [hF]; exact hb) (fun b hb => ?_) ?_⟩
    ·simp at hb; subst hb
     rw [size_setRow]
     exact (Array.getElem?_eq_some_iff.1 hh).1
    ·rw [hF]; exact lB w g _
  ·exact fun hf => hf.elim
 ·exact fun hf => hf.elim
end
end
section
open Go.RowKit
section
variable {P : Program} {W : World} {bs : List Nat} {κ : Nat} {E : Nat -> Value} {F : Nat -> List Nat} {h : Nat -> Option bm} {w : World} {K : Nat -> Prop}
theorem aw {r : R} {s : Sem Value} (hs : al W bs E F h w) (hu : r.bg = []) (hp : r.pan = none) (hrun : s.run P w = .ok (den E r.val) w) :
  Good P W bs κ E h r ((do pure (.value (<- s)) : Sem Next).run P w) := by
 have : (do pure (.value (<- s)) : Sem Next).run P w = .ok (.value (den E r.val)) w := by simp [hrun]
 rw [this]
 exact Good.pure hs rfl hu hp
def cf (P : Program) (h : Nat -> Option bm) (S : TypeId) (f : Nat) : List SV -> R
 | [.own k o] => match tf P S f, b6 (h k) with
  | some (off, sz, _), some vs => { side := 0 < sz /\ o < vs.length, val := .own k (o + off), reads := [k] }
  | _, _ => .bad
 | [.v (.pointer (some ⟨b, o, none⟩))] => match tf P S f with
  | some (off, sz, _) => .fI (0 < sz) (.v (.pointer (some ⟨b, o + off, none⟩)))
  | none => .bad
 | _ => .bad
theorem uu {S f off sz : Nat} {ag : Bool} (ht : tf P S f = some (off, sz, ag)) : ∃ (fs : Array Field) (d : Field), P.underlying S = some (.struct fs) /\ fs[f]? = some d /\ ts P d.type = some sz /\ ta P d.type = some ag /\ d.offset = off := by
 unfold tf at ht
 split at ht
 ·rename_i fs hu
  obtain ⟨d, hd, ht⟩ := Option.bind_eq_some_iff.1 ht
  obtain ⟨s, hs, ht⟩ := Option.bind_eq_some_iff.1 ht
  obtain ⟨a, ha, ht⟩ := Option.map_eq_some_iff.1 ht
  simp only [Prod.mk.injEq] at ht
  obtain ⟨h1, h2, h3⟩ := ht
  exact ⟨fs, d, hu, hd, h2 ▸ hs, h3 ▸ ha, h1⟩
 ·cases ht
theorem sn {S f off sz : Nat} {ag : Bool} (ht : tf P S f = some (off, sz, ag)) (hpos : 0 < sz) (b o : Nat) (w : World) :
  (Instr.fieldAt S (.pointer (some ⟨b, o, none⟩)) f).run P w = .ok (.pointer (some ⟨b, o + off, none⟩)) w := by
 obtain ⟨fs, d, hu, hd, hts, hta, ho⟩ := uu ht
 subst ho
 have hne : sz ≠ 0 := by omega
 have hadd : (⟨b, o, none⟩ : Addr).add d.offset = ⟨b, o + d.offset, none⟩ := by unfold Addr.add; split <;> simp_all
 simp [Instr.fieldAt, run_underlying hu, hd, Instr.sureAddr, fieldPlace, gw hts, hne, hadd]
theorem vY {S f : Nat} {x : SV} (hs : al W bs E F h w) (hside : (cf P h S f [x]).side) :
  Good P W bs κ E h (cf P h S f [x]) ((do pure (.value (<- Instr.fieldAt S (den E x) f)) : Sem Next).run P w) := by
 revert hside
 unfold cf
 split
 ·rename_i k o heq
  simp only [List.cons.injEq, and_true] at heq
  subst heq
  split
  ·rename_i off sz ag vs ht hvs
   rintro ⟨hpos, hlt⟩
   obtain ⟨b, hb, _⟩ := eY hs hvs (Nat.zero_lt_of_lt hlt)
   refine aw hs rfl rfl ?_
   simp only [den, hb, cD, Nat.zero_add]
   exact sn ht hpos b o w
  ·exact fun hf => hf.elim
 ·rename_i b o heq
  simp only [List.cons.injEq, and_true] at heq
  subst heq
  split
  ·rename_i off sz ag ht
   intro hpos
   refine aw hs rfl rfl ?_
   simp only [den]
   exact sn ht hpos b o w
  ·exact fun hf => hf.elim
 ·exact fun hf => hf.elim
def eu (ag : Bool) (off sz : Nat) (ps : List SV) : R :=
 match ag with
 | true => .fI (off + sz <= ps.length) (.agg ((ps.drop off).take sz))
 | false => .fI (off < ps.length) (ps.getD off (.v undef))
def fD (P : Program) (S : TypeId) (f : Nat) : List SV -> R
 | [.agg l] => match tf P S f with
  | some (off, sz, ag) => eu ag off sz l
  | none => .bad
 | [.v (.agg cs)] => match tf P S f with
  | some (off, sz, ag) => eu ag off sz (cs.toList.map .v)
  | none => .bad
 | _ => .bad
theorem tP {T sz : Nat} {ag : Bool} (hts : ts P T = some sz) (hta : ta P T = some ag) (l : List SV) (off : Nat) (w : World) (E : Nat -> Value) (hside : (eu ag off sz l).side) :
  (part T (an E l).toArray off).run P w = .ok (den E (eu ag off sz l).val) w := by
 cases ag with
 | true =>
  simp only [eu, R.fI] at hside ⊢
  simp only [part, Sem.run_bind, zJ hta, Result.andThen_ok, if_true, gw hts, Sem.run_pure, den]
  congr 2
  apply Array.ext'
  simp [a7, List.map_take, List.map_drop, Array.toList_extract, List.extract_eq_take_drop]
 | false =>
  simp only [eu, R.fI] at hside ⊢
  have hl : off < (an E l).length := by rw [aC]; exact hside
  rw [nU]
  simp [part, zJ hta, List.getElem?_eq_getElem hl]
theorem cM (ag : Bool) (off sz : Nat) (l : List SV) : (eu ag off sz l).bg = [] /\ (eu ag off sz l).pan = none := by cases ag <;> exact ⟨rfl, rfl⟩
theorem ER {S f : Nat} {x : SV} (hs : al W bs E F h w) (hside : (fD P S f [x]).side) :
  Good P W bs κ E h (fD P S f [x]) ((do pure (.value (<- Instr.field S (den E x) f)) : Sem Next).run P w) := by
 revert hside
 unfold fD
 split
 ·rename_i l heq
  simp only [List.cons.injEq, and_true] at heq
  subst heq
  split
  ·rename_i off sz ag ht
   intro hside
   obtain ⟨fs, d, hu, hd, hts, hta, ho⟩ := uu ht
   refine aw hs (cM _ _ _ _).1 (cM _ _ _ _).2 ?_
   simp only [Instr.field, Sem.run_bind, run_underlying hu, Result.andThen_ok, hd, asAgg, den, Sem.run_pure, ho]
   exact tP hts hta l off w E hside
  ·exact fun hf => hf.elim
 ·rename_i cs heq
  simp only [List.cons.injEq, and_true] at heq
  subst heq
  split
  ·rename_i off sz ag ht
   intro hside
   obtain ⟨fs, d, hu, hd, hts, hta, ho⟩ := uu ht
   refine aw hs (cM _ _ _ _).1 (cM _ _ _ _).2 ?_
   have hr := tP hts hta (cs.toList.map .v) off w E hside
   rw [aB] at hr
   simp only [Instr.field, Sem.run_bind, run_underlying hu, Result.andThen_ok, hd, asAgg, den, Sem.run_pure, ho]
   simpa using hr
  ·exact fun hf => hf.elim
 ·exact fun hf => hf.elim
def dQ (i : Nat) : List SV -> R
 | [.tup l] => .fI (i < l.length) (l.getD i (.v undef))
 | [.v (.tuple vs)] => .fI (i < vs.size) (.v (vs.getD i undef))
 | _ => .bad
theorem yT {i : Nat} {x : SV} (hs : al W bs E F h w) (hside : (dQ i [x]).side) :
  Good P W bs κ E h (dQ i [x]) ((do pure (.value (<- Instr.extract (den E x) i)) : Sem Next).run P w) := by
 revert hside
 unfold dQ
 split
 ·rename_i l heq
  simp only [List.cons.injEq, and_true] at heq
  subst heq
  intro hside
  refine aw hs rfl rfl ?_
  have hl : i < (an E l).length := by rw [aC]; exact hside
  simp only [R.fI]
  rw [nU]
  simp [Instr.extract, den, List.getElem?_eq_getElem hl]
 ·rename_i vs heq
  simp only [List.cons.injEq, and_true] at heq
  subst heq
  intro hside
  refine aw hs rfl rfl ?_
  have hl : i < vs.size := hside
  simp [Instr.extract, den, hl, R.fI]
 ·exact fun hf => hf.elim
def bX (op : BinOp) (k : IntKind) (a b : Int) : Int :=
 let x := BitVec.ofInt k.bits a
 let y := BitVec.ofInt k.bits b
 k.wrap ((match op with | .and => x &&& y | .or => x ||| y | .xor => x ^^^ y | _ => x &&& ~~~y).toNat : Int)
def wD (op : BinOp) (k : IntKind) (a b : Int) : Prop × Value :=
 match op with
 | .add => (True, .int k (k.wrap (a + b)))
 | .sub => (True, .int k (k.wrap (a - b)))
 | .mul => (True, .int k (k.wrap (a * b)))
 | .quo => (b ≠ 0, .int k (k.wrap (a.tdiv b)))
 | .rem => (b ≠ 0, .int k (a.tmod b))
 | .and => (True, .int k (bX .and k a b))
 | .or => (True, .int k (bX .or k a b))
 | .xor => (True, .int k (bX .xor k a b))
 | .andNot => (True, .int k (bX .andNot k a b))
 | .eql => (True, .bool (decide (a = b)))
 | .neq => (True, .bool (!decide (a = b)))
 | .lss => (True, .bool (decide (a < b)))
 | .leq => (True, .bool (decide (a <= b)))
 | .gtr => (True, .bool (decide (b < a)))
 | .geq => (True, .bool (decide (b <= a)))
 | .shl => (False, undef)
 | .shr => (False, undef)
def mD (op : BinOp) (k : IntKind) (a b : Int) : Prop × Value :=
 match op with
 | .shl => (0 <= b, .int k (k.wrap (a * 2 ^ (min b.toNat k.bits))))
 | _ => (0 <= b, .int k (a.fdiv (2 ^ (min b.toNat k.bits))))
def Mw (op : BinOp) (a b : ByteArray) : Prop × Value :=
 match op with
 | .add => (a.size + b.size <= 9223372036854775807, .string (a ++ b))
 | .eql => (True, .bool (decide (a = b)))
 | .neq => (True, .bool (!decide (a = b)))
 | .lss => (True, .bool (Op.bytesLess a.toList b.toList))
 | .leq => (True, .bool (Op.bytesLess a.toList b.toList || decide (a = b)))
 | .gtr => (True, .bool (!(Op.bytesLess a.toList b.toList || decide (a = b))))
 | .geq => (True, .bool (!Op.bytesLess a.toList b.toList))
 | _ => (False, undef)
structure EqSpec (P : Program) (T : TypeId) where
 f : List Value -> List Value -> Option Bool
 ok : ∀ xs ys b (w : World), f xs ys = some b -> (eqGuard .eql T (.tmp 0) (.tmp 0) (.agg xs.toArray) (.agg ys.toArray)).run P w = .ok () w /\ (Op.equal T (.agg xs.toArray) (.agg ys.toArray)).run P w = .ok b w
def mC : SV -> Option (List Value)
 | .v (.agg cs) => some cs.toList
 | .agg l => l.mapM fun | .v x => some x | _ => none
 | _ => none
def aP (P : Program) (eqs : (T : TypeId) -> Option (EqSpec P T)) (op : BinOp) (T : TypeId) : List SV -> R
 | [.v (.int k a), .v (.int k' b)] =>
  match op with
  | .shl => .fI (mD .shl k a b).1 (.v (mD .shl k a b).2)
  | .shr => .fI (mD .shr k a b).1 (.v (mD .shr k a b).2)
  | op => .fI (k = k' /\ (wD op k a b).1) (.v (wD op k a b).2)
 | [.v (.string a), .v (.string b)] => .fI (Mw op a b).1 (.v (Mw op a b).2)
 | [.v (.bool a), .v (.bool b)] =>
  match op with
  | .eql => .fI (P.underlying T = some .bool) (.v (.bool (a == b)))
  | .neq => .fI (P.underlying T = some .bool) (.v (.bool (!(a == b))))
  | _ => .bad
 | [x, y] =>
  match op, mC x, mC y, eqs T with
  | .eql, some xs, some ys, some e => .fI ((e.f xs ys).isSome = true) (.v (.bool ((e.f xs ys).getD false)))
  | .neq, some xs, some ys, some e => .fI ((e.f xs ys).isSome = true) (.v (.bool (!(e.f xs ys).getD false)))
  | _, _, _, _ => .bad
 | _ => .bad
theorem B0 (a b : ByteArray) : (a.toList == b.toList) = decide (a = b) := by
 rw [Bool.eq_iff_iff]
 simp only [beq_iff_eq, decide_eq_true_eq]
 constructor
 ·intro hh
  have : ∀ x : ByteArray, x.toList = x.data.toList := fun x => by exact ByteArray.toList_eq x
  rw [this, this] at hh
  cases a; cases b
  simpa using hh
 ·intro hh; rw [hh]
theorem Rh (op : BinOp) (T : TypeId) (k : IntKind) (a b : Int) (w : World) (h1 : op ≠ .shl) (h2 : op ≠ .shr) (hside : (wD op k a b).1) :
  (binOp op T (.int k a) (.int k b)).run P w = .ok (wD op k a b).2 w := by
 cases op <;> first
  | exact absurd rfl h1
  | exact absurd rfl h2
  | (simp [binOp, wD, Op.intArith]; done)
  | (simp [binOp, wD, Op.intBits, bX]; done)
  | (simp only [wD] at hside; simp [binOp, wD, Op.intDiv, hside]; done)
  | (simp only [binOp, wD, Op.intCmp, ne_eq, not_true_eq_false, if_false]; first | rfl | (simp; done) | (simp only [Sem.run_pure, ite_false]; congr 2; rw [Bool.eq_iff_iff]; simp))
theorem fO (op : BinOp) (T : TypeId) (x y : Operand) (k : IntKind) (a : Int) (b : Value) (w : World) : (eqGuard op T x y (.int k a) b).run P w = .ok () w := by
 unfold eqGuard; cases op <;> simp
theorem dG (op : BinOp) (T : TypeId) (x y : Operand) (a : ByteArray) (b : Value) (w : World) : (eqGuard op T x y (.string a) b).run P w = .ok () w := by
 unfold eqGuard; cases op <;> simp
theorem eS (op : BinOp) (T : TypeId) (x y : Operand) (a : Bool) (b : Value) (w : World) : (eqGuard op T x y (.bool a) b).run P w = .ok () w := by
 unfold eqGuard; cases op <;> simp
theorem NY (op : BinOp) (T : TypeId) (a b : ByteArray) (w : World) (hside : (Mw op a b).1) :
  (binOp op T (.string a) (.string b)).run P w = .ok (Mw op a b).2 w := by
 have he := B0 a b
 cases op <;> first
  | (simp [binOp, Mw, Op.stringOp, he]; done)
  | exact (id hside : False).elim
  | exact run_string_add_sum _ a b hside
theorem rI (op : BinOp) (T : TypeId) (x y x' y' : Operand) (a b : Value) (w : World) (h : (eqGuard .eql T x y a b).run P w = .ok () w) (ha : ∃ cs, a = .agg cs) : (eqGuard op T x' y' a b).run P w = .ok () w := by
 obtain ⟨cs, rfl⟩ := ha
 cases b <;> cases op <;> first | (simp [eqGuard]; done) | (simpa [eqGuard] using h)
theorem jz (E : Nat -> Value) {x : SV} {xs : List Value} (hx : mC x = some xs) : den E x = .agg xs.toArray := by
 unfold mC at hx
 split at hx
 ·simp only [Option.some.injEq] at hx; subst hx; simp [den]
 ·rename_i l
  simp only [den]
  congr 2
  induction l generalizing xs with
  | nil => simp at hx; subst hx; rfl
  | cons y r ih =>
   rw [List.mapM_cons] at hx
   obtain ⟨a, ha, hx⟩ := Option.bind_eq_some_iff.1 hx
   obtain ⟨l', hl', hx⟩ := Option.bind_eq_some_iff.1 hx
   simp at hx; subst hx
   split at ha
   ·simp at ha; subst ha; simp [an, den, ih hl']
   ·cases ha
 ·cases hx
theorem Ob {eqs : (T : TypeId) -> Option (EqSpec P T)} {op : BinOp} {T : TypeId} {o1 o2 : Operand} {x y : SV} (hs : al W bs E F h w) (hside : (aP P eqs op T [x, y]).side) :
  Good P W bs κ E h (aP P eqs op T [x, y]) ((do pure (.value (<- (do eqGuard op T o1 o2 (den E x) (den E y); binOp op T (den E x) (den E y)))) : Sem Next).run P w) := by
 revert hside
 unfold aP
 split
 ·rename_i k a k' b heq
  simp only [List.cons.injEq, and_true] at heq
  obtain ⟨rfl, rfl⟩ := heq
  split
  ·intro hside
   refine aw hs rfl rfl ?_
   have h0 : ¬ b < 0 := by simp only [R.fI, mD] at hside; omega
   simp only [R.fI, den, Sem.run_bind, fO, dG, eS, Result.andThen_ok]
   simp [binOp, Op.shift, h0, mD]
  ·intro hside
   refine aw hs rfl rfl ?_
   have h0 : ¬ b < 0 := by simp only [R.fI, mD] at hside; omega
   simp only [R.fI, den, Sem.run_bind, fO, dG, eS, Result.andThen_ok]
   simp [binOp, Op.shift, h0, mD]
  ·rename_i h1 h2
   rintro ⟨rfl, hside⟩
   refine aw hs rfl rfl ?_
   simp only [R.fI, den, Sem.run_bind, fO, dG, eS, Result.andThen_ok]
   exact Rh op T k a b w (by intro e; exact h1 e) (by intro e; exact h2 e) hside
 ·rename_i a b heq
  simp only [List.cons.injEq, and_true] at heq
  obtain ⟨rfl, rfl⟩ := heq
  intro hside
  refine aw hs rfl rfl ?_
  simp only [R.fI, den, Sem.run_bind, fO, dG, eS, Result.andThen_ok]
  exact NY op T a b w hside
 ·rename_i a b heq
  simp only [List.cons.injEq, and_true] at heq
  obtain ⟨rfl, rfl⟩ := heq
  split
  ·intro hside
   refine aw hs rfl rfl ?_
   simp only [R.fI, den, Sem.run_bind, fO, dG, eS, Result.andThen_ok]
   exact run_eql_bool w T a b hside
  ·intro hside
   refine aw hs rfl rfl ?_
   simp only [R.fI, den, Sem.run_bind, fO, dG, eS, Result.andThen_ok]
   exact run_neq_bool w T a b hside
  ·exact fun hf => hf.elim
 ·rename_i x' y' _ _ _ heq
  simp only [List.cons.injEq, and_true] at heq
  obtain ⟨rfl, rfl⟩ := heq
  split
  ·rename_i xs ys e hx hy he
   intro hside
   obtain ⟨b, hb⟩ := Option.isSome_iff_exists.1 hside
   obtain ⟨h1, h2⟩ := e.ok xs ys b w hb
   refine aw hs rfl rfl ?_
   rw [jz E hx, jz E hy]
   simp only [R.fI, den, Sem.run_bind, rI .eql T _ _ o1 o2 _ _ w h1 ⟨_, rfl⟩, Result.andThen_ok, binOp, h2, hb]
   rfl
  ·rename_i xs ys e hx hy he
   intro hside
   obtain ⟨b, hb⟩ := Option.isSome_iff_exists.1 hside
   obtain ⟨h1, h2⟩ := e.ok xs ys b w hb
   refine aw hs rfl rfl ?_
   rw [jz E hx, jz E hy]
   simp only [R.fI, den, Sem.run_bind, rI .neq T _ _ o1 o2 _ _ w h1 ⟨_, rfl⟩, Result.andThen_ok, binOp, h2, hb]
   rfl
  ·exact fun hf => hf.elim
 ·exact fun hf => hf.elim
def qi (op : UnOp) : List SV -> R
 | [.v (.bool b)] => match op with | .not => .ok (.v (.bool (!b))) | _ => .bad
 | [.v (.int k n)] => match op with
  | .neg => .ok (.v (.int k (k.wrap (0 - n))))
  | .xor => .ok (.v (.int k (bX .xor k (if k.signed then -1 else k.max) n)))
  | _ => .bad
 | _ => .bad
theorem Ur {op : UnOp} {x : SV} (hs : al W bs E F h w) (hside : (qi op [x]).side) :
  Good P W bs κ E h (qi op [x]) ((do pure (.value (<- Op.unary op (den E x))) : Sem Next).run P w) := by
 revert hside
 unfold qi
 split
 ·rename_i b heq
  simp only [List.cons.injEq, and_true] at heq
  subst heq
  split
  ·intro _; exact aw hs rfl rfl (by simp [R.ok, den, Op.unary])
  ·exact fun hf => hf.elim
 ·rename_i k n heq
  simp only [List.cons.injEq, and_true] at heq
  subst heq
  split
  ·intro _; exact aw hs rfl rfl (by simp [R.ok, den, Op.unary, Op.intArith])
  ·intro _; exact aw hs rfl rfl (by simp [R.ok, den, Op.unary, Op.intBits, bX])
  ·exact fun hf => hf.elim
 ·exact fun hf => hf.elim
end
end
section
open Go.RowKit
section
variable {P : Program} {W : World} {bs : List Nat} {κ : Nat} {E : Nat -> Value} {F : Nat -> List Nat} {h : Nat -> Option bm} {w : World} {K : Nat -> Prop}
def dR (P : Program) (src dst : TypeId) : List SV -> R
 | [.v (.int _ n)] => match P.underlying src, P.underlying dst with
  | some _, some (.int k) => .ok (.v (.int k (k.wrap n)))
  | _, _ => .bad
 | [.v (.string s)] => match P.underlying src, P.underlying dst with
  | some .string, some .string => .ok (.v (.string s))
  | _, _ => .bad
 | _ => .bad
theorem Ai {src dst : TypeId} {x : SV} (hs : al W bs E F h w) (hside : (dR P src dst [x]).side) :
  Good P W bs κ E h (dR P src dst [x]) ((do pure (.value (<- convert src dst (den E x))) : Sem Next).run P w) := by
 revert hside
 unfold dR
 split
 ·rename_i k n heq
  simp only [List.cons.injEq, and_true] at heq
  subst heq
  split
  ·rename_i d k' h1 h2
   intro _
   refine aw hs rfl rfl ?_
   simp [R.ok, den, convert, run_underlying h1, run_underlying h2, Conv.intToInt]
  ·exact fun hf => hf.elim
 ·rename_i s heq
  simp only [List.cons.injEq, and_true] at heq
  subst heq
  split
  ·rename_i h1 h2
   intro _
   refine aw hs rfl rfl ?_
   simp [R.ok, den, convert, run_underlying h1, run_underlying h2]
  ·exact fun hf => hf.elim
 ·exact fun hf => hf.elim
def gV : Bool -> Bool -> List SV -> Option (Option Int × Option Int)
 | true, true, [.v (.int _ a), .v (.int _ b)] => some (some a, some b)
 | true, false, [.v (.int _ a)] => some (some a, none)
 | false, true, [.v (.int _ b)] => some (none, some b)
 | false, false, [] => some (none, none)
 | _, _, _ => none
def lk (P : Program) (T : TypeId) (s : ByteArray) (a b : Int) : R :=
 .fI (P.underlying T = some .string /\ 0 <= a /\ a <= b /\ b <= s.size) (.v (.string (s.extract a.toNat b.toNat)))
def kz (P : Program) (T : TypeId) (ao : Option Addr) (n c : Nat) (a b : Int) : R :=
 match P.underlying T with
 | some (.slice e) => match ts P e with
  | some sz => .fI (0 <= a /\ a <= b /\ b <= c) (.v (.slice (if c = a.toNat then ao else ao.map (·.add (a.toNat * sz))) (b.toNat - a.toNat) (c - a.toNat)))
  | none => .bad
 | _ => .bad
def cQ (P : Program) (T : TypeId) (lo hi mx : Bool) : List SV -> R
 | .v (.string s) :: rest => match mx, gV lo hi rest with
  | false, some (a, b) => lk P T s (a.getD 0) (b.getD s.size)
  | _, _ => .bad
 | .v (.slice ao n c) :: rest => match mx, gV lo hi rest with
  | false, some (a, b) => kz P T ao n c (a.getD 0) (b.getD n)
  | _, _ => .bad
 | _ => .bad
def iK (l : List SV) (i : Nat) (E : Nat -> Value) : Option Value := l[i]?.map (den E)
theorem iC (isSlice : Bool) (len cap : Nat) {lo hi : Bool} {rest : List SV} {a b : Option Int} (ha : gV lo hi rest = some (a, b)) (E : Nat -> Value)
  (h0 : 0 <= a.getD 0) (h1 : a.getD 0 <= b.getD len) (h2 : b.getD len <= cap) (w : World) :
  (Instr.sliceBounds isSlice len cap (if lo then iK rest 0 E else none) (if hi then iK rest (if lo then 1 else 0) E else none) none).run P w = .ok ((a.getD 0).toNat, (b.getD len).toNat, cap) w := by
 unfold gV at ha
 split at ha <;> simp only [Option.some.injEq, Prod.mk.injEq, reduceCtorEq] at ha <;> obtain ⟨rfl, rfl⟩ := ha <;>
  simp only [Option.getD_some, Option.getD_none] at h0 h1 h2 ⊢
 ·rename_i k x k' y
  obtain ⟨y, rfl⟩ := Int.eq_ofNat_of_zero_le (show 0 <= y by omega)
  have e1 : (0 <= y /\ y <= (cap : Int)) := ⟨by omega, h2⟩
  have e2 : (0 <= x /\ x <= (y : Int)) := ⟨h0, h1⟩
  have e1' : (y : Int) <= cap := h2
  simp [Instr.sliceBounds, iK, den, Instr.sliceBound, asIntOf, e1', e2, Int.natCast_nonneg]
  try omega
 ·rename_i k x
  have e2 : (0 <= x /\ x <= (len : Int)) := ⟨h0, h1⟩
  simp [Instr.sliceBounds, iK, den, Instr.sliceBound, asIntOf, e2]
 ·rename_i k y
  have e1 : (0 <= y /\ y <= (cap : Int)) := ⟨by omega, h2⟩
  simp [Instr.sliceBounds, iK, den, Instr.sliceBound, asIntOf, e1]
 ·simp [Instr.sliceBounds]
theorem Hn {T : TypeId} {lo hi mx : Bool} {x : SV} {rest : List SV} (hs : al W bs E F h w) (hside : (cQ P T lo hi mx (x :: rest)).side) :
  Good P W bs κ E h (cQ P T lo hi mx (x :: rest)) ((do pure (.value (<- Instr.sliceAt T (den E x) (if lo then iK rest 0 E else none) (if hi then iK rest (if lo then 1 else 0) E else none) none)) : Sem Next).run P w) := by
 revert hside
 unfold cQ
 split
 ·rename_i s rest' heq
  simp only [List.cons.injEq] at heq
  obtain ⟨rfl, rfl⟩ := heq
  split
  ·rename_i a b hab
   rintro ⟨hu, h0, h1, h2⟩
   refine aw hs rfl rfl ?_
   have hb := iC (P := P) false s.size s.size hab E h0 h1 h2 w
   simp only [Instr.sliceAt, Sem.run_bind, run_underlying hu, Result.andThen_ok, den, Instr.slice, Option.isSome_none, Bool.false_eq_true, if_false, hb, lk, R.fI, Sem.run_pure]
  ·exact fun hf => hf.elim
 ·rename_i ao n c rest' heq
  simp only [List.cons.injEq] at heq
  obtain ⟨rfl, rfl⟩ := heq
  split
  ·rename_i a b hab
   unfold kz
   split
   ·rename_i e hu
    split
    ·rename_i sz hsz
     rintro ⟨h0, h1, h2⟩
     refine aw hs rfl rfl ?_
     have hb := iC (P := P) true n c hab E h0 h1 h2 w
     simp only [Instr.sliceAt, Sem.run_bind, run_underlying hu, Result.andThen_ok, den, Instr.slice, hb, gw hsz, R.fI, Sem.run_pure]
    ·exact fun hf => hf.elim
   ·exact fun hf => hf.elim
  ·exact fun hf => hf.elim
 ·exact fun hf => hf.elim
def bt (s : ByteArray) (i : Int) : Int := ((s.data[i.toNat]?.getD 0).toNat : Int)
def eF (P : Program) (T : TypeId) : List SV -> R
 | [.v (.string s), .v (.int _ i)] => .fI (P.underlying T = some .string /\ 0 <= i /\ i < s.size) (.v (.int .u8 (bt s i)))
 | [.agg l, .v (.int _ i)] => match P.underlying T with
  | some (.array n e) => match ts P e, ta P e with
   | some sz, some ag => { eu ag (i.toNat * sz) sz l with side := 0 <= i /\ i < n /\ (eu ag (i.toNat * sz) sz l).side }
   | _, _ => .bad
  | _ => .bad
 | [.v (.agg cs), .v (.int _ i)] => match P.underlying T with
  | some (.array n e) => match ts P e, ta P e with
   | some sz, some ag => { eu ag (i.toNat * sz) sz (cs.toList.map .v) with side := 0 <= i /\ i < n /\ (eu ag (i.toNat * sz) sz (cs.toList.map .v)).side }
   | _, _ => .bad
  | _ => .bad
 | _ => .bad
theorem lY {T e n sz : Nat} {ag : Bool} (hu : P.underlying T = some (.array n e)) (hsz : ts P e = some sz) (hag : ta P e = some ag) (l : List SV) (k : IntKind) (i : Int) (h0 : 0 <= i) (h1 : i < n)
  (hp : (eu ag (i.toNat * sz) sz l).side) (w : World) : (Instr.index T (.agg (an E l).toArray) (.int k i)).run P w = .ok (den E (eu ag (i.toNat * sz) sz l).val) w := by
 have hi : 0 <= i /\ i < (n : Int) := ⟨h0, h1⟩
 simp only [Instr.index, asIntOf, Sem.run_bind, Sem.run_pure, Result.andThen_ok, run_underlying hu, if_pos hi, gw hsz]
 exact tP hsz hag l _ w E hp
theorem Gx {T : TypeId} {x y : SV} (hs : al W bs E F h w) (hside : (eF P T [x, y]).side) :
  Good P W bs κ E h (eF P T [x, y]) ((do pure (.value (<- Instr.index T (den E x) (den E y))) : Sem Next).run P w) := by
 revert hside
 unfold eF
 split
 ·rename_i s k i heq
  simp only [List.cons.injEq, and_true] at heq
  obtain ⟨rfl, rfl⟩ := heq
  rintro ⟨hu, h0, h1⟩
  refine aw hs rfl rfl ?_
  have hlt : i.toNat < s.size := by omega
  have hd : i.toNat < s.data.size := hlt
  have hg : s[i.toNat]? = some (s[i.toNat]'hlt) := by rw [getElem?_pos]
  have hb : s.data[i.toNat]? = some (s[i.toNat]'hlt) := by rw [Array.getElem?_eq_getElem hd]; rfl
  simp only [Instr.index, asIntOf, den, Sem.run_bind, Sem.run_pure, Result.andThen_ok, run_underlying hu, if_pos h0, hg, R.fI, bt, hb, Option.getD_some]
 ·rename_i l k i heq
  simp only [List.cons.injEq, and_true] at heq
  obtain ⟨rfl, rfl⟩ := heq
  split
  ·rename_i n e hu
   split
   ·rename_i sz ag hsz hag
    rintro ⟨h0, h1, hp⟩
    refine aw hs (cM _ _ _ _).1 (cM _ _ _ _).2 ?_
    simp only [den]
    exact lY hu hsz hag l k i h0 h1 hp w
   ·exact fun hf => hf.elim
  ·exact fun hf => hf.elim
 ·rename_i cs k i heq
  simp only [List.cons.injEq, and_true] at heq
  obtain ⟨rfl, rfl⟩ := heq
  split
  ·rename_i n e hu
   split
   ·rename_i sz ag hsz hag
    rintro ⟨h0, h1, hp⟩
    refine aw hs (cM _ _ _ _).1 (cM _ _ _ _).2 ?_
    have := lY (E := E) hu hsz hag (cs.toList.map .v) k i h0 h1 hp w
    rw [aB] at this
    simpa [den] using this
   ·exact fun hf => hf.elim
  ·exact fun hf => hf.elim
 ·exact fun hf => hf.elim
def bo (P : Program) (h : Nat -> Option bm) (T : TypeId) : List SV -> R
 | [.hd k, .v (.int _ i)] => match P.underlying T, h k with
  | some (.slice e), some (.row _ size n _) => { side := ts P e = some size /\ 0 <= i /\ i < n /\ 0 < size, val := .own k (i.toNat * size), reads := [k] }
  | _, _ => .bad
 | [.own k o, .v (.int _ i)] => match P.underlying T, b6 (h k) with
  | some (.array n e), some vs => match ts P e with
   | some sz => { side := 0 <= i /\ i < n /\ 1 < n /\ o < vs.length, val := .own k (o + i.toNat * sz), reads := [k] }
   | none => .bad
  | _, _ => .bad
 | [.v (.slice (some ⟨b, o, none⟩) n _), .v (.int _ i)] => match P.underlying T with
  | some (.slice e) => match ts P e with
   | some sz => .fI (0 <= i /\ i < n) (.v (.pointer (some ⟨b, o + i.toNat * sz, none⟩)))
   | none => .bad
  | _ => .bad
 | [.v (.pointer (some ⟨b, o, none⟩)), .v (.int _ i)] => match P.underlying T with
  | some (.array n e) => match ts P e with
   | some sz => .fI (0 <= i /\ i < n /\ 1 < n) (.v (.pointer (some ⟨b, o + i.toNat * sz, none⟩)))
   | none => .bad
  | _ => .bad
 | _ => .bad
theorem mA (b o n : Nat) : (⟨b, o, none⟩ : Addr).add n = ⟨b, o + n, none⟩ := by unfold Addr.add; split <;> simp_all
theorem uh {T : TypeId} {x y : SV} (hs : al W bs E F h w) (hside : (bo P h T [x, y]).side) :
  Good P W bs κ E h (bo P h T [x, y]) ((do pure (.value (<- Instr.indexAt T (den E x) (den E y))) : Sem Next).run P w) := by
 revert hside
 unfold bo
 split
 ·rename_i k kk i heq
  simp only [List.cons.injEq, and_true] at heq
  obtain ⟨rfl, rfl⟩ := heq
  split
  ·rename_i e T' size n vs hu hk
   rintro ⟨hsz, h0, h1, hpos⟩
   refine aw hs rfl rfl ?_
   obtain ⟨⟨hl, hor⟩, _⟩ := hs.ent k _ hk
   rcases hor with ⟨_, h2⟩ | ⟨g, cap, cur, hE, _, _, _, _, _, _⟩
   ·omega
   ·have hi : 0 <= i /\ i < (n : Int) := ⟨h0, h1⟩
    have hvv : hv (E k) = Value.slice (some ⟨g, 0, none⟩) n cap := by rw [hE]; rfl
    simp only [den, hvv]
    rw [hE]
    simp [Instr.indexAt, asIntOf, run_underlying hu, hi, gw hsz, mA, base, cD]
  ·exact fun hf => hf.elim
 ·rename_i k o kk i heq
  simp only [List.cons.injEq, and_true] at heq
  obtain ⟨rfl, rfl⟩ := heq
  split
  ·rename_i n e vs hu hvs
   split
   ·rename_i sz hsz
    rintro ⟨h0, h1, hn, hlt⟩
    obtain ⟨b, hb, _⟩ := eY hs hvs (Nat.zero_lt_of_lt hlt)
    refine aw hs rfl rfl ?_
    have hi : 0 <= i /\ i < (n : Int) := ⟨h0, h1⟩
    simp [den, hb, cD, Instr.indexAt, asIntOf, run_underlying hu, Instr.sureAddr, hi, gw hsz, mA]
   ·exact fun hf => hf.elim
  ·exact fun hf => hf.elim
 ·rename_i b o n c kk i heq
  simp only [List.cons.injEq, and_true] at heq
  obtain ⟨rfl, rfl⟩ := heq
  split
  ·rename_i e hu
   split
   ·rename_i sz hsz
    rintro ⟨h0, h1⟩
    refine aw hs rfl rfl ?_
    have hi : 0 <= i /\ i < (n : Int) := ⟨h0, h1⟩
    simp [R.fI, den, Instr.indexAt, asIntOf, run_underlying hu, hi, gw hsz, mA]
   ·exact fun hf => hf.elim
  ·exact fun hf => hf.elim
 ·rename_i b o kk i heq
  simp only [List.cons.injEq, and_true] at heq
  obtain ⟨rfl, rfl⟩ := heq
  split
  ·rename_i n e hu
   split
   ·rename_i sz hsz
    rintro ⟨h0, h1, hn⟩
    refine aw hs rfl rfl ?_
    have hi : 0 <= i /\ i < (n : Int) := ⟨h0, h1⟩
    simp [R.fI, den, Instr.indexAt, asIntOf, run_underlying hu, Instr.sureAddr, hi, gw hsz, mA]
   ·exact fun hf => hf.elim
  ·exact fun hf => hf.elim
 ·exact fun hf => hf.elim
end
end
section
open Go.RowKit
section
variable {P : Program} {W : World} {bs : List Nat} {κ : Nat} {E : Nat -> Value} {F : Nat -> List Nat} {h : Nat -> Option bm} {w : World} {K : Nat -> Prop}
def lL (P : Program) (T : TypeId) : List SV -> R
 | [.v x] => .fI (P.concrete T = true) (.v (.iface T x))
 | [x] => match mC x with
  | some vs => .fI (P.concrete T = true) (.v (.iface T (.agg vs.toArray)))
  | none => .fI (P.concrete T = true) (.ifc T x)
 | _ => .bad
theorem QL {T : TypeId} {x : SV} (hs : al W bs E F h w) (hside : (lL P T [x]).side) :
  Good P W bs κ E h (lL P T [x]) ((do pure (.value (<- Instr.makeInterface T (den E x))) : Sem Next).run P w) := by
 revert hside
 unfold lL
 split
 ·rename_i x' heq
  simp only [List.cons.injEq, and_true] at heq
  subst heq
  intro hside
  exact aw hs rfl rfl (run_makeInterface w T _ hside)
 ·rename_i x' _ heq
  simp only [List.cons.injEq, and_true] at heq
  subst heq
  split
  ·rename_i vs hvs
   intro hside
   refine aw hs rfl rfl ?_
   simp only [R.fI, den]
   rw [jz E hvs]
   exact run_makeInterface w T _ hside
  ·intro hside
   exact aw hs rfl rfl (run_makeInterface w T _ hside)
 ·exact fun hf => hf.elim
def da (h : Nat -> Option bm) : List SV -> R
 | [.own k o] => match b6 (h k) with
  | some vs => { side := o < vs.length, val := .own k o, reads := [k] }
  | none => .bad
 | [.v (.pointer (some a))] => .ok (.v (.pointer (some a)))
 | _ => .bad
theorem w9 {x : SV} {o : Oper} {ρ : Operand -> Value} {X : Operand} (hop : o.op = .nilCheck X) (hρ : ρ X = den E x) (hs : al W bs E F h w) (hside : (da h [x]).side) :
  Good P W bs κ E h (da h [x]) ((execOp ρ o).run P w) := by
 revert hside
 unfold da
 split
 ·rename_i k off heq
  simp only [List.cons.injEq, and_true] at heq
  subst heq
  split
  ·rename_i vs hvs
   intro hlt
   obtain ⟨b, hb, _⟩ := eY hs hvs (Nat.zero_lt_of_lt hlt)
   have : (execOp ρ o).run P w = .ok (.value (den E (.own k off))) w := by simp [execOp, hop, hρ, den, hb, cD]
   rw [this]
   exact Good.pure hs rfl rfl rfl
  ·exact fun hf => hf.elim
 ·rename_i a heq
  simp only [List.cons.injEq, and_true] at heq
  subst heq
  intro _
  have : (execOp ρ o).run P w = .ok (.value (.pointer (some a))) w := by simp [execOp, hop, hρ, den]
  rw [this]
  exact Good.pure hs rfl rfl rfl
 ·exact fun hf => hf.elim
def cS (place : Nat -> Option (Nat × Nat)) (cells : List SV) : List (Nat × SV) -> Option (List SV)
 | [] => some cells
 | (i, x) :: r => match place i with
  | some (off, size) => if (partsOf x).length = size /\ off + size <= cells.length then cS place (ae cells off (partsOf x)) r else none
  | none => none
theorem sF (vs ps : List SV) (o : Nat) (h : o + ps.length <= vs.length) : (ae vs o ps).length = vs.length := by
 simp [ae]; omega
theorem J5 (l : List Value) : ∀ (cs : Array Value) (off j : Nat), off + j + l.length <= cs.size ->
  ((l.zipIdx j).foldl (fun cs (x : Value × Nat) => cs.setIfInBounds (off + x.2) x.1) cs) = (cs.toList.take (off + j) ++ l ++ cs.toList.drop (off + j + l.length)).toArray := by
 induction l with
 | nil => intro cs off j _; simp
 | cons x r ih =>
  intro cs off j hl
  simp only [List.zipIdx_cons, List.foldl_cons, List.length_cons] at hl ⊢
  rw [ih _ off (j + 1) (by simp; omega)]
  apply Array.ext'
  simp only [Array.toList_setIfInBounds]
  have e1 : off + (j + 1) = off + j + 1 := by omega
  rw [e1]
  have hlt : off + j < cs.toList.length := by simp; omega
  have hs : cs.toList.set (off + j) x = cs.toList.take (off + j) ++ x :: cs.toList.drop (off + j + 1) := by
   rw [List.set_eq_take_append_cons_drop, if_pos hlt]
  have hlen : (cs.toList.take (off + j)).length = off + j := by rw [List.length_take]; omega
  rw [hs]
  have t1 : List.take (off + j + 1) (cs.toList.take (off + j) ++ x :: cs.toList.drop (off + j + 1)) = cs.toList.take (off + j) ++ [x] := by
   have := List.take_length_add_append (l₁ := cs.toList.take (off + j)) (l₂ := x :: cs.toList.drop (off + j + 1)) 1
   rw [hlen] at this
   rw [this]; rfl
  have t2 : List.drop (off + j + 1 + r.length) (cs.toList.take (off + j) ++ x :: cs.toList.drop (off + j + 1)) = cs.toList.drop (off + j + (r.length + 1)) := by
   have := List.drop_length_add_append (l₁ := cs.toList.take (off + j)) (l₂ := x :: cs.toList.drop (off + j + 1)) (1 + r.length)
   rw [hlen] at this
   rw [show off + j + 1 + r.length = off + j + (1 + r.length) by omega, this, Nat.add_comm 1, List.drop_succ_cons, List.drop_drop]
   congr 1; omega
  rw [t1, t2]
  simp
theorem pf {place : Nat -> Option (Nat × Nat)} (E : Nat -> Value) : ∀ {ps : List (Nat × SV)} {cells out : List SV}, cS place cells ps = some out ->
  Instr.fill place (an E cells).toArray (ps.map fun p => (p.1, den E p.2)) = some (an E out).toArray
 | [], cells, out, hf => by simp [cS] at hf; subst hf; rfl
 | (i, x) :: r, cells, out, hf => by
  unfold cS at hf
  split at hf
  ·rename_i off size hpl
   split at hf
   ·rename_i hc
    have hcl : (den E x).cells.toList = an E (partsOf x) := (lr E x).symm
    have hcs : (den E x).cells.size = size := by rw [<- Array.length_toList, hcl, aC, hc.1]
    have ih := pf E hf
    simp only [List.map_cons, Instr.fill, hpl]
    have hng : ((den E x).cells.size ≠ size || off + (den E x).cells.size > (an E cells).toArray.size) = false := by
     simp [hcs, aC]; omega
    rw [if_neg (by simp [hcs, aC]; omega)]
    have hfo := J5 (den E x).cells.toList (an E cells).toArray off 0 (by rw [Array.length_toList, hcs]; simp [aC]; omega)
    have hz : (Array.foldl (fun (cs : Array Value) (x : Value × Nat) => cs.setIfInBounds (off + x.2) x.1) (an E cells).toArray (den E x).cells.zipIdx) =
      (an E (ae cells off (partsOf x))).toArray := by
     rw [<- Array.foldl_toList, Array.toList_zipIdx, hfo, hcl, gW]
     simp [aC]
    rw [<- ih, <- hz]
   ·cases hf
  ·cases hf
def oW (P : Program) (S : TypeId) : Option (List (Nat × Nat)) :=
 match P.underlying S with
 | some (.struct fs) => fs.toList.mapM fun d => (ts P d.type).map fun s => (d.offset, s)
 | _ => none
def df (P : Program) (T : TypeId) (idx : List Nat) (args : List SV) : R :=
 match tz P T, oW P T, P.underlying T with
 | some zs, some fl, some (.struct _) => match cS (fun i => fl[i]?) (zs.map .v) (idx.zip args) with
  | some cells => .ok (.agg cells)
  | none => .bad
 | some zs, _, some (.array _ e) => match ts P e with
  | some sz => match cS (fun i => some (i * sz, sz)) (zs.map .v) (idx.zip args) with
   | some cells => .ok (.agg cells)
   | none => .bad
  | none => .bad
 | _, _, _ => .bad
def bj (P : Program) (κ : Nat) (T : TypeId) (len : Nat) (idx : List Nat) (args : List SV) : R :=
 match P.underlying T with
 | some (.slice e) => match ts P e, tz P e with
  | some sz, some zs => match cS (fun i => some (i * sz, sz)) ((List.replicate len zs).flatten.map .v) (idx.zip args) with
   | some cells => { side := len * sz <= 16777216 /\ zs.length = sz /\ 0 < sz, val := .hd (nk κ), bg := [(nk κ, some (.row e sz len cells))] }
   | none => .bad
  | _, _ => .bad
 | _ => .bad
theorem n8 {α β : Type} (f : α -> Sem β) (g : α -> Option β) (w : World) (hfg : ∀ a b, g a = some b -> (f a).run P w = .ok b w) :
  ∀ {l : List α} {r : List β}, l.mapM g = some r -> (l.mapM f).run P w = .ok r w
 | [], r, h => by simp at h; subst h; simp
 | a :: l, r, h => by
  rw [List.mapM_cons] at h
  obtain ⟨b, hb, h⟩ := Option.bind_eq_some_iff.1 h
  obtain ⟨bs, hbs, h⟩ := Option.bind_eq_some_iff.1 h
  simp at h; subst h
  rw [List.mapM_cons]
  simp [hfg a b hb, n8 f g w hfg hbs]
theorem CK {α β γ : Type} (f : β -> γ) (l : List (α × β)) : (l.map fun p => (p.1, f p.2)) = (l.map (·.1)).zip ((l.map (·.2)).map f) := by
 induction l with
 | nil => rfl
 | cons x r ih => simp [ih]
theorem nq (E : Nat -> Value) (idx : List Nat) (args : List SV) : ((idx.zip args).map fun p => (p.1, den E p.2)) = idx.zip (an E args) := by
 induction idx generalizing args with
 | nil => rfl
 | cons i r ih => cases args with
  | nil => rfl
  | cons a q => simp [an, ih]
theorem F0 {T : TypeId} {idx : List Nat} {args : List SV} (hs : al W bs E F h w) (hside : (df P T idx args).side) :
  Good P W bs κ E h (df P T idx args) ((do pure (.value (<- Instr.build T (idx.zip (an E args)).toArray)) : Sem Next).run P w) := by
 revert hside
 unfold df
 split
 ·rename_i zs fl fs hz hfl hu
  split
  ·rename_i cells hf
   intro _
   refine aw hs rfl rfl ?_
   obtain ⟨z, rfl, hrun⟩ := AI hz
   unfold oW at hfl
   simp only [hu] at hfl
   have hm := n8 (P := P) (fun d : Field => do pure (d.offset, <- sizeOf d.type)) (fun d => (ts P d.type).map fun s => (d.offset, s)) w (fun d b hb => by
    obtain ⟨s, hs, rfl⟩ := Option.map_eq_some_iff.1 hb
    simp [gw hs]) hfl
   have hfd := pf E hf
   rw [aB, nq] at hfd
   have hm' : (fs.mapM (m := Sem) fun d : Field => do pure (d.offset, <- sizeOf d.type)).run P w = .ok fl.toArray w := by
    rw [Array.mapM_eq_mapM_toList]
    rw [Sem.run_map, hm]
    rfl
   simp only [Instr.build, Sem.run_bind, hrun, Result.andThen_ok, run_underlying hu, hm', R.ok, den]
   have hpl : (fun (x : Nat) => fl.toArray[x]?) = fun i => fl[i]? := by funext i; simp
   rw [hpl]
   simp only [Array.toArray_toList] at hfd
   simp [hfd]
  ·exact fun hf => hf.elim
 ·rename_i zs _ n e hz hu
  split
  ·rename_i sz hsz
   split
   ·rename_i cells hf
    intro _
    refine aw hs rfl rfl ?_
    obtain ⟨z, rfl, hrun⟩ := AI hz
    have hfd := pf E hf
    rw [aB, nq] at hfd
    simp only [Array.toArray_toList] at hfd
    simp only [Instr.build, Sem.run_bind, hrun, Result.andThen_ok, run_underlying hu, gw hsz, R.ok, den]
    simp [hfd]
   ·exact fun hf => hf.elim
  ·exact fun hf => hf.elim
 ·exact fun hf => hf.elim
theorem og {place : Nat -> Option (Nat × Nat)} : ∀ {ps : List (Nat × SV)} {cells out : List SV}, cS place cells ps = some out -> out.length = cells.length
 | [], cells, out, hf => by simp [cS] at hf; rw [hf]
 | (i, x) :: r, cells, out, hf => by
  unfold cS at hf
  split at hf
  ·split at hf
   ·rename_i hc
    rw [og hf, sF _ _ _ (by omega)]
   ·cases hf
  ·cases hf
theorem mX {place : Nat -> Option (Nat × Nat)} {k : Nat} : ∀ {ps : List (Nat × SV)} {cells out : List SV}, cS place cells ps = some out -> k ∈ ax out -> k ∈ ax cells \/ k ∈ ax (ps.map (·.2))
 | [], cells, out, hf, hk => by simp [cS] at hf; subst hf; exact .inl hk
 | (i, x) :: r, cells, out, hf, hk => by
  unfold cS at hf
  split at hf
  ·split at hf
   ·rename_i hc
    rcases mX hf hk with h1 | h1
    ·rw [ae, aR, aR, iP] at h1
     have ht : ∀ n, k ∈ ax (cells.take n) -> k ∈ ax cells := fun n hn => by
      obtain ⟨y, hy, hky⟩ := bS.1 hn
      exact bS.2 ⟨y, List.mem_of_mem_take hy, hky⟩
     have hd : ∀ n, k ∈ ax (cells.drop n) -> k ∈ ax cells := fun n hn => by
      obtain ⟨y, hy, hky⟩ := bS.1 hn
      exact bS.2 ⟨y, List.mem_of_mem_drop hy, hky⟩
     simp only [List.mem_append] at h1
     rcases h1 with (h1 | h1) | h1
     ·exact .inl (ht _ h1)
     ·right; simp [ax, h1]
     ·exact .inl (hd _ h1)
    ·right; simp [ax, h1]
   ·cases hf
  ·cases hf
theorem xx (zs : List Value) (sz len : Nat) (hz : zs.length = sz) (z : Array Value) (hzz : z.toList = zs) : ((Array.range (len * sz)).map (fun i => z[i % z.size]!)).toList = (List.replicate len zs).flatten := by
 subst hz hzz
 induction len with
 | zero => simp
 | succ n ih =>
  rw [List.replicate_succ', List.flatten_append, <- ih]
  simp only [Array.length_toList, Array.toList_map, Array.toList_range]
  rw [Nat.succ_mul, List.range_add, List.map_append]
  congr 1
  simp only [List.flatten_singleton, List.map_map]
  apply List.ext_getElem
  ·simp
  ·intro i h1 h2
   simp only [List.getElem_map, List.getElem_range, Function.comp]
   have hi : i < z.size := by simpa using h1
   rw [Nat.mul_add_mod_self_right, Nat.mod_eq_of_lt hi]
   simp [hi]
theorem sB {T len : Nat} {idx : List Nat} {args : List SV} (hs : al W bs E F h w) (hK : bI K h) (hk : ∀ k, k / 8 = κ -> ¬ K k) (hx : ∀ k ∈ ax args, K k) (hside : (bj P κ T len idx args).side) :
  Good P W bs κ E h (bj P κ T len idx args) ((do pure (.value (<- Instr.buildSlice T len (idx.zip (an E args)).toArray)) : Sem Next).run P w) := by
 revert hside
 unfold bj
 split
 ·rename_i e hu
  split
  ·rename_i sz zs hsz hz
   split
   ·rename_i cells hf
    rintro ⟨hle, hzl, hpos⟩
    obtain ⟨z, hzz, hrun⟩ := AI hz
    have hfd := pf E hf
    rw [aB, nq] at hfd
    have hcl : cells.length = len * sz := by
     rw [og hf]; simp [hzl]
    have hle' : ¬ len * sz > 2 ^ 24 := by omega
    have hrs : (do pure (.value (<- Instr.buildSlice T len (idx.zip (an E args)).toArray)) : Sem Next).run P w =
      .ok (.value (.slice (some ⟨w.heap.size, 0, none⟩) len len)) (w.alloc (.cells (an E cells).toArray e)) := by
     simp only [Instr.buildSlice, Sem.run_bind, run_underlying hu, Result.andThen_ok, gw hsz, if_neg hle']
     by_cases h0 : len * sz = 0
     ·have hl0 : len = 0 := by
       rcases Nat.mul_eq_zero.1 h0 with h | h
       ·exact h
       ·omega
      rw [if_pos h0]
      simp only [Sem.run_bind, Sem.run_pure, Result.andThen_ok]
      have hc1 : (Array.range (len * sz)).map (fun x => (#[] : Array Value)[x % (#[] : Array Value).size]!) = ((List.replicate len zs).flatten).toArray := by subst hl0; simp
      rw [hc1, hfd]
      simp [newRow]
     ·rw [if_neg h0]
      simp only [Sem.run_bind, Sem.run_pure, Result.andThen_ok, hrun]
      have hc1 : (Array.range (len * sz)).map (fun x => z.cells[x % z.cells.size]!) = ((List.replicate len zs).flatten).toArray := by
       apply Array.ext'; have := xx zs sz len hzl z.cells hzz; simpa using this
      rw [hc1, hfd]
      simp [newRow]
    rw [hrs]
    simp only [Good, mb]
    have hnk := hk _ (G3 κ 0 (by omega))
    simp only [Nat.add_zero] at hnk
    have hkc : ∀ k ∈ ax cells, K k := fun k hkk => by
     rcases mX hf hkk with h1 | h1
     ·rw [aO] at h1; cases h1
     ·refine hx k ?_
      obtain ⟨y, hy, hky⟩ := bS.1 h1
      obtain ⟨p, hp, rfl⟩ := List.mem_map.1 hy
      exact bS.2 ⟨p.2, (List.of_mem_zip hp).2, hky⟩
    have hsz' : len <= 16777216 := Nat.le_trans (Nat.le_mul_of_pos_right len hpos) hle
    refine ⟨trivial, bg E (nk κ) (.slice (some ⟨w.heap.size, 0, none⟩) len len), bg F (nk κ) [w.heap.size], fun k hkk => ak _ _ fun e => hkk (by subst e; exact aW κ), ?_, ?_⟩
    ·simp [den, ah, hv, Value.oneCell']
    ·refine hs.new hK hnk ?_ (fun b hb => ?_) (mH w _)
     ·have hd : an (bg E (nk κ) (.slice (some ⟨w.heap.size, 0, none⟩) len len)) cells = an E cells := bG cells fun i hi => ak _ _ fun e => hnk (e ▸ hkc i hi)
      refine ⟨⟨by rw [aC, hcl], .inr ⟨w.heap.size, len, (an E cells).toArray, rfl, Nat.zero_le _, heap_alloc_new w _, Nat.le_refl _, ?_, ?_, ?_⟩⟩, rfl⟩
      ·unfold maxLen; omega
      ·simp [aC, hcl]
      ·rw [hd]
       rw [List.take_of_length_le (by simp [aC, hcl])]
     ·simp at hb; subst hb; simp
   ·exact fun hf => hf.elim
  ·exact fun hf => hf.elim
 ·exact fun hf => hf.elim
def ka (P : Program) (κ : Nat) (T : TypeId) : List SV -> R
 | [.v (.int _ l), .v (.int _ c)] => match P.underlying T with
  | some (.slice e) => match ts P e, tz P e, oV P e with
   | some sz, some zs, some by_ => { side := 0 <= l /\ l <= c /\ (by_ : Int) * c <= 281474976710656 /\ c <= 9223372036854775807 /\ zs.length = sz /\ 0 < sz, val := .hd (nk κ), bg := [(nk κ, some (.row e sz l.toNat ((List.replicate l.toNat zs).flatten.map .v)))] }
   | _, _, _ => .bad
  | _ => .bad
 | _ => .bad
theorem pW {T : TypeId} {zs : List Value} {b : Nat} (hz : tz P T = some zs) (hb : oV P T = some b) : ∃ i z, P.info? T = some i /\ i.zero = some z /\ z.cells.toList = zs /\ i.bytes = b /\ ts P T = some i.size := by
 unfold tz at hz
 unfold oV at hb
 cases hi : P.info? T with
 | none => simp [hi] at hz
 | some i =>
  simp only [hi, Option.bind_some] at hz
  cases hzz : i.zero with
  | none => simp [hzz] at hz
  | some z =>
   simp only [hzz, Option.map_some, Option.some.injEq] at hz
   simp only [hi, Option.map_some, Option.some.injEq] at hb
   exact ⟨i, z, rfl, hzz, hz, hb, by simp [ts, hi]⟩
theorem MU {T : TypeId} {x y : SV} (hs : al W bs E F h w) (hK : bI K h) (hk : ∀ k, k / 8 = κ -> ¬ K k) (hside : (ka P κ T [x, y]).side) :
  Good P W bs κ E h (ka P κ T [x, y]) ((do pure (.value (<- Instr.makeSlice T (den E x) (den E y))) : Sem Next).run P w) := by
 revert hside
 unfold ka
 split
 ·rename_i kl l kc c heq
  simp only [List.cons.injEq, and_true] at heq
  obtain ⟨rfl, rfl⟩ := heq
  split
  ·rename_i e hu
   split
   ·rename_i sz zs by_ hsz hz hb
    rintro ⟨h0, hlc, hby, h63, hzl, hpos⟩
    obtain ⟨i, z, hi, hzz, hzs, hbi, hsi⟩ := pW hz hb
    have hszi : i.size = sz := by rw [hsz] at hsi; exact (Option.some.inj hsi).symm
    have hr := run_make (P := P) w T e i z hu hi hzz kl kc l c h0 hlc (by rw [hbi]; exact hby) h63
    have hrs : (do pure (.value (<- Instr.makeSlice T (den E (.v (.int kl l))) (den E (.v (.int kc c))))) : Sem Next).run P w =
      .ok (.value (.slice (some ⟨w.heap.size, 0, none⟩) l.toNat c.toNat)) (w.alloc (.cells (madeCells z.cells (c.toNat * i.size)) e)) := by
     simp only [den, Sem.run_bind, hr, Result.andThen_ok, Sem.run_pure]
    rw [hrs]
    simp only [Good, mb]
    have hnk := hk _ (aW κ)
    refine ⟨trivial, bg E (nk κ) (.slice (some ⟨w.heap.size, 0, none⟩) l.toNat c.toNat), bg F (nk κ) [w.heap.size], fun k hkk => ak _ _ fun e => hkk (by subst e; exact aW κ), ?_, ?_⟩
    ·simp [den, ah, hv, Value.oneCell']
    ·refine hs.new hK hnk ?_ (fun b hb => ?_) (mH w _)
     ·rw [hszi]
      refine ⟨⟨by rw [aB]; simp [hzl], .inr ⟨w.heap.size, c.toNat, madeCells z.cells (c.toNat * sz), rfl, Nat.zero_le _, heap_alloc_new w _, by omega, by unfold maxLen; omega, size_madeCells _ _, ?_⟩⟩, rfl⟩
      rw [aB]
      have := xx zs sz c.toNat hzl z.cells hzs
      unfold madeCells
      rw [this]
      have hcl : c.toNat = l.toNat + (c.toNat - l.toNat) := by omega
      have hll : ((List.replicate l.toNat zs).flatten).length = l.toNat * sz := by simp [hzl]
      rw [hcl, <- List.replicate_append_replicate, List.flatten_append, <- hll, List.take_left]
     ·simp at hb; subst hb; simp
   ·exact fun hf => hf.elim
  ·exact fun hf => hf.elim
 ·exact fun hf => hf.elim
def gR (P : Program) (h : Nat -> Option bm) (T : TypeId) : List SV -> R
 | [.v (.string s)] => .fI (P.underlying T = some .string) (.v (.int .i64 s.size))
 | [.v (.slice _ n _)] => .fI (∃ e, P.underlying T = some (.slice e)) (.v (.int .i64 n))
 | [.hd k] => match h k with
  | some (.row _ _ n _) => { side := ∃ e, P.underlying T = some (.slice e), val := .v (.int .i64 n), reads := [k] }
  | _ => .bad
 | _ => .bad
theorem Ph {T : TypeId} {tys : Array TypeId} {ty : TypeId} {x : SV} (hs : al W bs E F h w) (ht : tys[0]? = some T) (hside : (gR P h T [x]).side) :
  Good P W bs κ E h (gR P h T [x]) ((do pure (.value (<- Builtin.len_ tys ty #[den E x])) : Sem Next).run P w) := by
 revert hside
 unfold gR
 split
 ·rename_i s heq
  simp only [List.cons.injEq, and_true] at heq
  subst heq
  intro hu
  exact aw hs rfl rfl (by simp [Builtin.len_, ht, run_underlying hu, den, R.fI, goInt])
 ·rename_i a n c heq
  simp only [List.cons.injEq, and_true] at heq
  subst heq
  rintro ⟨e, hu⟩
  exact aw hs rfl rfl (by simp [Builtin.len_, ht, run_underlying hu, den, R.fI, goInt])
 ·rename_i k heq
  simp only [List.cons.injEq, and_true] at heq
  subst heq
  split
  ·rename_i T' size n vs hk
   rintro ⟨e, hu⟩
   obtain ⟨⟨hl, hor⟩, _⟩ := hs.ent k _ hk
   have hE : ∃ ao c, E k = .slice ao n c := by
    rcases hor with ⟨h1, h2⟩ | ⟨g, cap, cur, h1, _⟩
    ·exact ⟨none, 0, by rw [h1, h2]⟩
    ·exact ⟨_, _, h1⟩
   obtain ⟨ao, c, hE⟩ := hE
   refine aw hs rfl rfl ?_
   simp [Builtin.len_, ht, run_underlying hu, den, hE, hv, Value.oneCell', goInt]
  ·exact fun hf => hf.elim
 ·exact fun hf => hf.elim
def foldI (f : Int -> Int -> Int) : Int -> List SV -> Option Int
 | a, [] => some a
 | a, .v (.int .i64 b) :: r => foldI f (f a b) r
 | _, _ => none
def oK : List SV -> R
 | .v (.int .i64 a) :: r => match foldI (fun x y => if y < x then y else x) a r with | some m => .ok (.v (.int .i64 m)) | none => .bad
 | _ => .bad
def mU : List SV -> R
 | .v (.int .i64 a) :: r => match foldI (fun x y => if x < y then y else x) a r with | some m => .ok (.v (.int .i64 m)) | none => .bad
 | _ => .bad
theorem ye (E : Nat -> Value) (w : World) : ∀ {r : List SV} {a m : Int}, foldI (fun x y => if y < x then y else x) a r = some m -> ((an E r).foldlM Builtin.min2 (.int .i64 a)).run P w = .ok (.int .i64 m) w
 | [], a, m, hf => by simp [foldI] at hf; subst hf; simp [an]
 | x :: r, a, m, hf => by
  unfold foldI at hf
  split at hf
  ·rename_i heq; cases heq
  ·rename_i a' b r' heq
   simp only [List.cons.injEq] at heq
   obtain ⟨rfl, rfl⟩ := heq
   simp only [an, den, List.foldlM_cons, Builtin.min2, Sem.run_bind, Sem.run_pure, Result.andThen_ok]
   exact ye E w hf
  ·cases hf
theorem yu (E : Nat -> Value) (w : World) : ∀ {r : List SV} {a m : Int}, foldI (fun x y => if x < y then y else x) a r = some m -> ((an E r).foldlM Builtin.max2 (.int .i64 a)).run P w = .ok (.int .i64 m) w
 | [], a, m, hf => by simp [foldI] at hf; subst hf; simp [an]
 | x :: r, a, m, hf => by
  unfold foldI at hf
  split at hf
  ·rename_i heq; cases heq
  ·rename_i a' b r' heq
   simp only [List.cons.injEq] at heq
   obtain ⟨rfl, rfl⟩ := heq
   simp only [an, den, List.foldlM_cons, Builtin.max2, Sem.run_bind, Sem.run_pure, Result.andThen_ok]
   exact yu E w hf
  ·cases hf
theorem RZ {args : List SV} {tys : Array TypeId} {ty : TypeId} (hs : al W bs E F h w) (hside : (oK args).side) :
  Good P W bs κ E h (oK args) ((do pure (.value (<- Builtin.min_ tys ty (an E args).toArray)) : Sem Next).run P w) := by
 revert hside
 unfold oK
 split
 ·rename_i a r
  split
  ·rename_i m hm
   intro _
   refine aw hs rfl rfl ?_
   simpa [Builtin.min_, an, den, R.ok] using ye E w hm
  ·exact fun hf => hf.elim
 ·exact fun hf => hf.elim
theorem Q2 {args : List SV} {tys : Array TypeId} {ty : TypeId} (hs : al W bs E F h w) (hside : (mU args).side) :
  Good P W bs κ E h (mU args) ((do pure (.value (<- Builtin.max_ tys ty (an E args).toArray)) : Sem Next).run P w) := by
 revert hside
 unfold mU
 split
 ·rename_i a r
  split
  ·rename_i m hm
   intro _
   refine aw hs rfl rfl ?_
   simpa [Builtin.max_, an, den, R.ok] using yu E w hm
  ·exact fun hf => hf.elim
 ·exact fun hf => hf.elim
end
end
section
open Go.RowKit
section
variable {P : Program} {W : World} {bs : List Nat} {κ : Nat} {E : Nat -> Value} {F : Nat -> List Nat} {h : Nat -> Option bm} {w : World} {K : Nat -> Prop}
theorem al.move {w' : World} {e e' : bm} {u : Value} {fp : List Nat} {k q : Nat} (hs : al W bs E F h w) (hK : bI K h) (hk : h k = some e) (hq : ¬ K q)
  (he : bn (bg E q u) u fp w' e') (hfp : ∀ b ∈ fp, b ∈ F k \/ w.heap.size <= b) (hlt : ∀ b ∈ fp, b < w'.heap.size) (hkeep : ai w (F k) w') :
  al W bs (bg E q u) (bg F q fp) (bg (bg h k none) q (some e')) w' := by
 have hne : k ≠ q := fun e => hq (e ▸ (hK k _ hk).1)
 have old : ∀ j x, bg h k none j = some x -> h j = some x /\ j ≠ k := fun j x hj => by
  by_cases hjk : j = k
  ·subst hjk; rw [ah] at hj; cases hj
  ·rw [ak _ _ hjk] at hj; exact ⟨hj, hjk⟩
 have blk : ∀ j x, h j = some x -> j ≠ k -> ∀ b ∈ F j, w'.heap[b]? = w.heap[b]? := fun j x hj hjk b hb =>
  hkeep.block b (hs.lt j x hj b hb) fun hb' => hs.apart j k x e hjk hj hk b hb hb'
 constructor
 ·intro j x hj
  by_cases hjq : j = q
  ·subst hjq
   simp only [ah, Option.some.injEq] at hj ⊢
   subst hj
   exact he
  ·rw [ak _ _ hjq] at hj
   obtain ⟨hj, hjk⟩ := old j x hj
   rw [ak _ _ hjq, ak _ _ hjq]
   refine iO (fun i hi => (ak _ _ (show i ≠ q from fun e => hq (e ▸ (hK j x hj).2 i hi))).symm) (gB (hs.ent j x hj) (blk j x hj hjk))
 ·intro j x hj b hb
  by_cases hjq : j = q
  ·subst hjq; rw [ah] at hb; exact hlt b hb
  ·rw [ak _ _ hjq] at hj hb
   obtain ⟨hj, _⟩ := old j x hj
   exact Nat.lt_of_lt_of_le (hs.lt j x hj b hb) hkeep.size
 ·intro j x hj b hb
  by_cases hjq : j = q
  ·subst hjq; rw [ah] at hb
   rcases hfp b hb with h1 | h1
   ·exact hs.mine k e hk b h1
   ·exact .inl (Nat.le_trans hs.keeps.size h1)
  ·rw [ak _ _ hjq] at hj hb
   exact hs.mine j x (old j x hj).1 b hb
 ·intro i j x y hij hi hj b hb
  by_cases hiq : i = q
  ·subst hiq
   rw [ak _ _ (Ne.symm hij)] at hj ⊢
   obtain ⟨hj, hjk⟩ := old j y hj
   rw [ah] at hb
   rcases hfp b hb with h1 | h1
   ·exact hs.apart k j e y (Ne.symm hjk) hk hj b h1
   ·exact fun hb' => by have := hs.lt j y hj b hb'; omega
  ·rw [ak _ _ hiq] at hi hb
   obtain ⟨hi, hik⟩ := old i x hi
   by_cases hjq : j = q
   ·subst hjq
    rw [ah]
    intro hb'
    rcases hfp b hb' with h1 | h1
    ·exact hs.apart i k x e hik hi hk b hb h1
    ·have := hs.lt i x hi b hb; omega
   ·rw [ak _ _ hjq] at hj ⊢
    exact hs.apart i j x y hij hi (old j y hj).1 b hb
 ·exact hs.keeps.trans hkeep fun b hb hlt' => (hs.mine k e hk b hb).resolve_left (by omega)
theorem lZ (t ty e : TypeId) (i : TypeInfo) (z : Value) (ht : P.underlying t = some (.slice e)) (hi : P.info? e = some i) (hz : i.zero = some z)
  (hzs : z.cells.size = i.size) (hsz : 0 < i.size) (v : Value) (n : Nat) (xs : List Value) (hown : w.ownsRow 0 e i.size v n xs)
  (a : Addr) (m c : Nat) (news : List Value) (hl : news.length = m * i.size) (hnews : ∀ j u, news[j]? = some u -> w.cell? (a.add j) = some u) (h1 : ∀ u ∈ news, u.oneCell' = true)
  (h63 : n + m <= maxLen) (hbytes : (n + m) * i.bytes <= 140737488355328) (hm : 0 < m) :
  ∃ v' w', (Builtin.append_ #[t, t] ty #[v, .slice (some a) m c]).run P w = .ok v' w' /\ w'.ownsRow 0 e i.size v' (n + m) (xs ++ news) /\ ai w v.ownBlock.toList w' /\
   (v'.ownBlock = v.ownBlock \/ v'.ownBlock = some w.heap.size) /\ (∀ b ∈ v'.ownBlock.toList, b < w'.heap.size) := by
 have hsmall : n + m <= 9223372036854775807 := by simp only [maxLen] at h63; omega
 have hlen : (xs ++ news).length = (n + m) * i.size := by rw [List.length_append, hown.1, hl, Nat.add_mul]
 have grown : ∀ (old : Nat), old < n + m ->
   (w.drew.alloc (.cells (xs.toArray ++ news.toArray ++ Builtin.zeroCells z.cells (grownCap w (n + m) old e - (n + m))) e)).ownsRow 0 e i.size
    (.slice (some ⟨w.heap.size, 0, none⟩) (n + m) (grownCap w (n + m) old e)) (n + m) (xs ++ news) /\
   ∀ bl, ai w bl (w.drew.alloc (.cells (xs.toArray ++ news.toArray ++ Builtin.zeroCells z.cells (grownCap w (n + m) old e - (n + m))) e)) := by
  intro old ho
  have hge := grownCap_ge w (n + m) old e
  have hcm : grownCap w (n + m) old e <= maxLen := grownCap_le_maxLen w (n + m) old e h63
  refine ⟨⟨hlen, .inr ⟨w.heap.size, _, _, rfl, Nat.zero_le _, heap_alloc_new w.drew _, hge, hcm, ?_, ?_⟩⟩, fun bl => ⟨rfl, rfl, rfl, by simp, fun k hk _ => Below.heap_alloc w.drew _ k hk⟩⟩
  ·simp only [Array.size_append, List.size_toArray, size_zeroCells, hzs, hown.1, hl, <- Nat.add_mul]
   congr 1
   omega
  ·simp only [Array.toList_append, List.append_assoc]
   rw [<- List.append_assoc, <- hlen]
   exact List.take_left
 rcases hown.2 with ⟨rfl, rfl⟩ | ⟨g, cap, cur, rfl, hbg, hg, hnc, hcm, hcs, htake⟩
 ·have hx : xs = [] := List.eq_nil_of_length_eq_zero (by simpa using hown.1)
  subst hx
  have hr := run_append_nil (P := P) w t ty e i z ht hi hz a m c news hl hnews (by omega) (by omega) (by have hb := hbytes; simp only [Nat.zero_add] at hb; omega)
  have hgr := grown 0 (by omega)
  simp only [Nat.zero_add, List.nil_append, Array.empty_append] at hgr ⊢
  exact ⟨_, _, hr, hgr.1, hgr.2 _, .inr rfl, by simp [Value.ownBlock]⟩
 ·by_cases hroom : n + m <= cap
  ·have hfit : n * i.size + news.length <= cur.size := by rw [hl, hcs, <- Nat.add_mul]; exact Nat.mul_le_mul_right _ hroom
   have hr := run_append_room (P := P) w t ty e i ht hi g n cap cur hg a m c news hl hnews h1 hroom hfit
   refine ⟨_, _, hr, ⟨hlen, .inr ⟨g, cap, _, rfl, hbg, setRow_heap w g cur _ e _ hg, hroom, hcm, ?_, ?_⟩⟩, lB w g _, .inl rfl, ?_⟩
   ·simp only [List.size_toArray, List.length_append, List.length_take, List.length_drop, Array.length_toList]
    omega
   ·rw [htake, <- hlen]
    exact List.take_left
   ·simp [Value.ownBlock]
    exact (Array.getElem?_eq_some_iff.1 hg).1
  ·have holds : ∀ j u, xs[j]? = some u -> w.cell? ((⟨g, 0, none⟩ : Addr).add j) = some u := hown.cells (g := g) rfl
   have hr := run_append_grow (P := P) w t ty e i z ht hi hz ⟨g, 0, none⟩ n cap xs hown.1 holds a m c news hl hnews (by omega) (by omega) (growslice_fits (by omega) hbytes)
   have hgr := grown cap (by omega)
   exact ⟨_, _, hr, hgr.1, hgr.2 _, .inr rfl, by simp [Value.ownBlock]⟩
theorem n7 (t tx ty e : TypeId) (i : TypeInfo) (ht : P.underlying t = some (.slice e)) (hi : P.info? e = some i)
  (g sLen sCap : Nat) (cur : Array Value) (hg : w.heap[g]? = some (.cells cur e (0, 0))) (x : Value) (m : Nat) (news : List Value) (hs : Src P i.size tx x m news w)
  (hroom : sLen + m <= sCap) (hfit : sLen * i.size + news.length <= cur.size) :
  (Builtin.append_ #[t, tx] ty #[.slice (some ⟨g, 0, none⟩) sLen sCap, x]).run P w =
   .ok (.slice (some ⟨g, 0, none⟩) (sLen + m) sCap) (w.setRow g (cur.toList.take (sLen * i.size) ++ news ++ cur.toList.drop (sLen * i.size + news.length)).toArray) := by
 have hst := run_storeCells_at P g (sLen * i.size) e news 0 cur w hg (by simpa using hfit) hs.one
 simp only [Nat.add_zero] at hst
 rcases hs.kind with ⟨e', hk⟩ | hk <;> simp [Builtin.append_, run_underlying ht, run_underlying hk, sizeOf, typeInfo, hi, hs.len, hroom, hs.cells, Addr.add_lit, hst]
theorem ur (t tx ty e : TypeId) (i : TypeInfo) (z : Value) (ht : P.underlying t = some (.slice e)) (hi : P.info? e = some i) (hz : i.zero = some z)
  (hzs : z.cells.size = i.size) (v : Value) (n : Nat) (xs : List Value) (hown : w.ownsRow 0 e i.size v n xs)
  (x : Value) (m : Nat) (news : List Value) (hs : Src P i.size tx x m news w)
  (h63 : n + m <= maxLen) (hbytes : (n + m) * i.bytes <= 140737488355328) :
  ∃ v' w', (Builtin.append_ #[t, tx] ty #[v, x]).run P w = .ok v' w' /\ w'.ownsRow 0 e i.size v' (n + m) (xs ++ news) /\ ai w v.ownBlock.toList w' /\
   (v'.ownBlock = v.ownBlock \/ v'.ownBlock = some w.heap.size) /\ (∀ b ∈ v'.ownBlock.toList, b < w'.heap.size) := by
 have hsmall : n + m <= 9223372036854775807 := by simp only [maxLen] at h63; omega
 have hl := hs.newsLen
 have hlen : (xs ++ news).length = (n + m) * i.size := by rw [List.length_append, hown.1, hl, Nat.add_mul]
 have grown : ∀ (old : Nat), old < n + m ->
   (w.drew.alloc (.cells ((xs ++ news).toArray ++ Builtin.zeroCells z.cells (grownCap w (n + m) old e - (n + m))) e)).ownsRow 0 e i.size
    (.slice (some ⟨w.heap.size, 0, none⟩) (n + m) (grownCap w (n + m) old e)) (n + m) (xs ++ news) /\
   ∀ bl, ai w bl (w.drew.alloc (.cells ((xs ++ news).toArray ++ Builtin.zeroCells z.cells (grownCap w (n + m) old e - (n + m))) e)) := by
  intro old ho
  have hge := grownCap_ge w (n + m) old e
  have hcm : grownCap w (n + m) old e <= maxLen := grownCap_le_maxLen w (n + m) old e h63
  refine ⟨⟨hlen, .inr ⟨w.heap.size, _, _, rfl, Nat.zero_le _, heap_alloc_new w.drew _, hge, hcm, ?_, ?_⟩⟩, fun bl => ⟨rfl, rfl, rfl, by simp, fun k hk _ => Below.heap_alloc w.drew _ k hk⟩⟩
  ·simp only [Array.size_append, List.size_toArray, size_zeroCells, hzs, hlen, <- Nat.add_mul]
   congr 1
   omega
  ·rw [Array.toList_append, <- hlen]
   exact List.take_left
 rcases hown.2 with ⟨rfl, rfl⟩ | ⟨g, cap, cur, rfl, hbg, hg, hnc, hcm, hcs, htake⟩
 ·have hx : xs = [] := List.eq_nil_of_length_eq_zero (by simpa using hown.1)
  subst hx
  by_cases hm : m = 0
  ·subst hm
   have hn : news = [] := List.eq_nil_of_length_eq_zero (by simpa using hl)
   subst hn
   exact ⟨_, _, run_append_nothing w t tx ty e i ht hi none 0 0 (Nat.le_refl _) x hs, hown, ai.refl w _, .inl rfl, fun b hb => by cases hb⟩
  ·have hr := run_append_grow_src (P := P) w t tx ty e i z ht hi hz none 0 0 [] (run_firstCells_none w.drew i.size 0 0 0) x m news hs (by omega) (by omega) (growslice_fits (by omega) (by simpa using hbytes))
   have hgr := grown 0 (by omega)
   simp only [Nat.zero_add, List.nil_append] at hgr hr ⊢
   exact ⟨_, _, hr, hgr.1, hgr.2 _, .inr rfl, by simp [Value.ownBlock]⟩
 ·by_cases hroom : n + m <= cap
  ·have hfit : n * i.size + news.length <= cur.size := by rw [hl, hcs, <- Nat.add_mul]; exact Nat.mul_le_mul_right _ hroom
   have hr := n7 (P := P) (w := w) t tx ty e i ht hi g n cap cur hg x m news hs hroom hfit
   refine ⟨_, _, hr, ⟨hlen, .inr ⟨g, cap, _, rfl, hbg, setRow_heap w g cur _ e _ hg, hroom, hcm, ?_, ?_⟩⟩, lB w g _, .inl rfl, ?_⟩
   ·simp only [List.size_toArray, List.length_append, List.length_take, List.length_drop, Array.length_toList]
    omega
   ·rw [htake, <- hlen]
    exact List.take_left
   ·simp [Value.ownBlock]
    exact (Array.getElem?_eq_some_iff.1 hg).1
  ·have holds : ∀ j u, xs[j]? = some u -> w.cell? ((⟨g, 0, none⟩ : Addr).add j) = some u := hown.cells (g := g) rfl
   have hr := run_append_grow_src (P := P) w t tx ty e i z ht hi hz (some ⟨g, 0, none⟩) n cap xs (run_firstCells_some w.drew i.size n _ n cap xs hown.1 (by simpa using holds)) x m news hs (by omega) (by omega) (growslice_fits (by omega) hbytes)
   have hgr := grown cap (by omega)
   exact ⟨_, _, hr, hgr.1, hgr.2 _, .inr rfl, by simp [Value.ownBlock]⟩
def rowOf (h : Nat -> Option bm) : SV -> Option (List Nat × TypeId × Nat × Nat × List SV)
 | .hd k => match h k with
  | some (.row T s n vs) => some ([k], T, s, n, vs)
  | _ => none
 | _ => none
def et (P : Program) (W : World) (bs : List Nat) (κ : Nat) (h : Nat -> Option bm) (tys : List TypeId) : List SV -> R
 | [.hd k, .hd j] => match tys, h k, h j with
  | [T, T'], some (.row e sz n vs), some (.row _ sz' m us) => match oV P e, tz P e with
   | some by_, some zs => { side := T' = T /\ P.underlying T = some (.slice e) /\ ts P e = some sz /\ zs.length = sz /\ 0 < sz /\ sz' = sz /\ k ≠ j /\ 0 < m /\ n + m <= maxLen /\ (n + m) * by_ <= 140737488355328 /\ us.all cu = true, val := .hd (nk κ), bg := [(k, none), (nk κ, some (.row e sz (n + m) (vs ++ us)))], reads := [k, j] }
   | _, _ => .bad
  | _, _, _ => .bad
 | [.v (.slice none 0 0), .hd j] => match tys, h j with
  | [T, T'], some (.row _ sz m us) => match P.underlying T with
   | some (.slice e) => match oV P e, tz P e with
    | some by_, some zs => { side := T' = T /\ ts P e = some sz /\ zs.length = sz /\ 0 < sz /\ 0 < m /\ m <= maxLen /\ m * by_ <= 140737488355328 /\ us.all cu = true, val := .hd (nk κ), bg := [(nk κ, some (.row e sz m us))], reads := [j] }
    | _, _ => .bad
   | _ => .bad
  | _, _ => .bad
 | [.hd k, .v (.slice ao m _)] => match tys, h k with
  | [T, T'], some (.row e sz n vs) =>
   bif m == 0 then { side := T' = T /\ P.underlying T = some (.slice e) /\ ts P e = some sz /\ m = 0, val := .hd k, reads := [k] }
   else match ao, oV P e, tz P e with
   | some ⟨b, o, none⟩, some by_, some zs => { side := T' = T /\ P.underlying T = some (.slice e) /\ ts P e = some sz /\ zs.length = sz /\ (b ∉ bs /\ cY W b o (m * sz)) /\ n + m <= maxLen /\ (n + m) * by_ <= 140737488355328 /\ (bx W b o (m * sz)).all cu = true, val := .hd (nk κ), bg := [(k, none), (nk κ, some (.row e sz (n + m) (vs ++ bx W b o (m * sz))))], reads := [k] }
   | _, _, _ => .bad
  | _, _ => .bad
 | [.hd k, .v (.string s)] => match tys, h k with
  | [T, T'], some (.row e sz n vs) => match oV P e, tz P e with
   | some by_, some zs => { side := P.underlying T' = some .string /\ P.underlying T = some (.slice e) /\ ts P e = some sz /\ zs.length = sz /\ sz = 1 /\ n + s.size <= maxLen /\ (n + s.size) * by_ <= 140737488355328, val := .hd (nk κ), bg := [(k, none), (nk κ, some (.row e sz (n + s.size) (vs ++ (byteCells s).map .v)))], reads := [k] }
   | _, _ => .bad
  | _, _ => .bad
 | _ => .bad
theorem H2 {j m sz : Nat} {T : TypeId} {us : List SV} (hs : al W bs E F h w) (hj : h j = some (.row T sz m us)) (hm : 0 < m) (hone : us.all cu = true) :
  ∃ (g c : Nat), hv (E j) = .slice (some ⟨g, 0, none⟩) m c /\ (an E us).length = m * sz /\ (∀ i u, (an E us)[i]? = some u -> w.cell? ((⟨g, 0, none⟩ : Addr).add i) = some u) /\ ∀ u ∈ an E us, u.oneCell' = true := by
 obtain ⟨⟨hl, hor⟩, _⟩ := hs.ent j _ hj
 rcases hor with ⟨_, h2⟩ | ⟨g, cap, cur, hE, _, hh, _, _, hcs, htake⟩
 ·omega
 ·refine ⟨g, cap, by rw [hE]; rfl, hl, fun i u hi => ?_, fun u hu => ?_⟩
  ·rw [mA, Nat.zero_add]
   have hlt := (List.getElem?_eq_some_iff.1 hi).1
   rw [<- htake, List.getElem?_take, if_pos (by omega)] at hi
   simp [World.cell?, hh]
   simpa using hi
  ·rw [a7] at hu
   obtain ⟨y, hy, rfl⟩ := List.mem_map.1 hu
   exact q9 E (List.all_eq_true.1 hone y hy)
theorem km : ∀ (n o b : Nat), ax (bx W b o n) = []
 | 0, _, _ => rfl
 | n + 1, o, b => by simp [bx, ax, SV.keys, km n (o + 1) b]
theorem Cx {k n m : Nat} {e T' TX ty : TypeId} {i : TypeInfo} {z x : Value} {vs us : List SV} {y : SV} (hs : al W bs E F h w) (hK : bI K h) (hnk : ¬ K (nk κ)) (hkk : h k = some (.row e i.size n vs))
  (hus : ∀ q ∈ ax us, K q) (hu : P.underlying T' = some (.slice e)) (hi : P.info? e = some i) (hzz : i.zero = some z) (hzs : z.cells.size = i.size) (hy : den E y = x)
  (hsrc : Src P i.size TX x m (an E us) w) (h63 : n + m <= maxLen) (hbytes : (n + m) * i.bytes <= 140737488355328) :
  Good P W bs κ E h { side := True, val := .hd (nk κ), bg := [(k, none), (nk κ, some (.row e i.size (n + m) (vs ++ us)))], reads := [k] } ((do pure (.value (<- Builtin.append_ [T', TX].toArray ty #[den E (.hd k), den E y])) : Sem Next).run P w) := by
 obtain ⟨hown, hF⟩ := hs.ent k _ hkk
 have hEk : hv (E k) = E k := iG (db (hs.ent k _ hkk))
 obtain ⟨v', w', hrun, hown', hkeep, hblk, hlt⟩ := ur (P := P) (w := w) T' TX ty e i z hu hi hzz hzs _ n _ hown x m _ hsrc h63 hbytes
 have hrs : (do pure (.value (<- Builtin.append_ [T', TX].toArray ty #[den E (.hd k), den E y])) : Sem Next).run P w = .ok (.value v') w' := by
  rw [hy]
  simp only [den, hEk, Sem.run_bind]
  simp [hrun]
 rw [hrs]
 simp only [Good, mb]
 refine ⟨trivial, bg E (nk κ) v', bg F (nk κ) v'.ownBlock.toList, fun q hq => ak _ _ fun e => hq (by subst e; exact aW κ), ?_, ?_⟩
 ·have : hv v' = v' := iG (db (e := .row e i.size (n + m) ((an E vs ++ an E us).map .v)) (E := E) (w := w') ⟨by rw [aB]; exact hown', rfl⟩)
  simp [den, ah, this]
 ·simp only [aZ]
  refine hs.move hK hkk hnk ?_ (fun b hb => ?_) hlt ?_
  ·have hd : an (bg E (nk κ) v') (vs ++ us) = an E vs ++ an E us := by
    rw [dq]
    congr 1 <;> refine bG _ fun q hq => ak _ _ fun e => hnk (e ▸ ?_)
    ·exact (hK k _ hkk).2 q hq
    ·exact hus q hq
   exact ⟨by rw [hd]; exact hown', rfl⟩
  ·rw [hF]
   rcases hblk with h1 | h1
   ·left; rw [<- h1]; exact hb
   ·right; rw [h1] at hb; simp at hb; omega
  ·rw [hF]; exact hkeep
theorem NU {tys : List TypeId} {ty : TypeId} {x y : SV} (hs : al W bs E F h w) (hK : bI K h) (hk : ∀ k, k / 8 = κ -> ¬ K k) (hside : (et P W bs κ h tys [x, y]).side) :
  Good P W bs κ E h (et P W bs κ h tys [x, y]) ((do pure (.value (<- Builtin.append_ tys.toArray ty #[den E x, den E y])) : Sem Next).run P w) := by
 have hnk := hk _ (aW κ)
 revert hside
 unfold et
 split
 ·rename_i k j heq
  simp only [List.cons.injEq, and_true] at heq
  obtain ⟨rfl, rfl⟩ := heq
  split
  ·rename_i T T' e sz n vs T2 sz' m us hkk hjj
   split
   ·rename_i by_ zs hb hz
    rintro ⟨rfl, hu, hsz, hzl, hpos, rfl, hkj, hm, h63, hbytes, hone⟩
    obtain ⟨i, z, hi, hzz, hzs, hbi, hsi⟩ := pW hz hb
    have hszi : i.size = sz' := by rw [hsz] at hsi; exact (Option.some.inj hsi).symm
    subst hbi
    obtain ⟨g, c, hv1, hl, hc, h1⟩ := H2 hs hjj hm hone
    obtain ⟨hown, hF⟩ := hs.ent k _ hkk
    have hEk : hv (E k) = E k := iG (db (hs.ent k _ hkk))
    subst hszi
    obtain ⟨v', w', hrun, hown', hkeep, hblk, hlt⟩ := lZ (P := P) T' ty e i z hu hi hzz (by rw [<- Array.length_toList, hzs, hzl]) hpos _ n _ hown ⟨g, 0, none⟩ m c _ hl hc h1 h63 hbytes hm
    have hrs : (do pure (.value (<- Builtin.append_ [T', T'].toArray ty #[den E (.hd k), den E (.hd j)])) : Sem Next).run P w = .ok (.value v') w' := by
     simp only [den, hEk, hv1, Sem.run_bind]
     simp [hrun]
    rw [hrs]
    simp only [Good, mb]
    refine ⟨trivial, bg E (nk κ) v', bg F (nk κ) v'.ownBlock.toList, fun q hq => ak _ _ fun e => hq (by subst e; exact aW κ), ?_, ?_⟩
    ·have : hv v' = v' := iG (db (e := .row e i.size (n + m) ((an E vs ++ an E us).map .v)) (E := E) (w := w') ⟨by rw [aB]; exact hown', rfl⟩)
     simp [den, ah, this]
    ·simp only [aZ]
     refine hs.move hK hkk hnk ?_ (fun b hb => ?_) hlt ?_
     ·have hd : an (bg E (nk κ) v') (vs ++ us) = an E vs ++ an E us := by
       rw [dq]
       congr 1 <;> refine bG _ fun q hq => ak _ _ fun e => hnk (e ▸ ?_)
       ·exact (hK k _ hkk).2 q hq
       ·exact (hK j _ hjj).2 q hq
      exact ⟨by rw [hd]; exact hown', rfl⟩
     ·rw [hF]
      rcases hblk with h1 | h1
      ·left; rw [<- h1]; exact hb
      ·right; rw [h1] at hb; simp at hb; omega
     ·rw [hF]; exact hkeep
   ·exact fun hf => hf.elim
  ·exact fun hf => hf.elim
 ·rename_i j heq
  simp only [List.cons.injEq, and_true] at heq
  obtain ⟨rfl, rfl⟩ := heq
  split
  ·rename_i T T' T2 sz m us hjj
   split
   ·rename_i e hu
    split
    ·rename_i by_ zs hb hz
     rintro ⟨rfl, hsz, hzl, hpos, hm, h63, hbytes, hone⟩
     obtain ⟨i, z, hi, hzz, hzs, hbi, hsi⟩ := pW hz hb
     have hszi : i.size = sz := by rw [hsz] at hsi; exact (Option.some.inj hsi).symm
     subst hbi
     obtain ⟨g, c, hv1, hl, hc, h1⟩ := H2 hs hjj hm hone
     subst hszi
     obtain ⟨v', w', hrun, hown', hkeep, hblk, hlt⟩ := lZ (P := P) T' ty e i z hu hi hzz (by rw [<- Array.length_toList, hzs, hzl]) hpos _ 0 [] (World.ownsRow_nil w 0 e i.size) ⟨g, 0, none⟩ m c _ hl hc h1 (by omega) (by rw [Nat.zero_add]; exact hbytes) hm
     have hrs : (do pure (.value (<- Builtin.append_ [T', T'].toArray ty #[den E (.v (.slice none 0 0)), den E (.hd j)])) : Sem Next).run P w = .ok (.value v') w' := by
      simp only [den, hv1, Sem.run_bind]
      simp [hrun]
     rw [hrs]
     simp only [Nat.zero_add, List.nil_append] at hown'
     simp only [Good, mb]
     refine ⟨trivial, bg E (nk κ) v', bg F (nk κ) v'.ownBlock.toList, fun q hq => ak _ _ fun e => hq (by subst e; exact aW κ), ?_, ?_⟩
     ·have : hv v' = v' := iG (db (e := .row e i.size m ((an E us).map .v)) (E := E) (w := w') ⟨by rw [aB]; exact hown', rfl⟩)
      simp [den, ah, this]
     ·refine hs.new hK hnk ?_ (fun b hb => ?_) hkeep
      ·have hd : an (bg E (nk κ) v') us = an E us := bG _ fun q hq => ak _ _ fun e => hnk (e ▸ (hK j _ hjj).2 q hq)
       exact ⟨by rw [hd]; exact hown', rfl⟩
      ·rcases hblk with h1 | h1
       ·rw [h1] at hb; simp [Value.ownBlock] at hb
       ·refine ⟨?_, hlt b hb⟩
        rw [h1] at hb; simp at hb; omega
    ·exact fun hf => hf.elim
   ·exact fun hf => hf.elim
  ·exact fun hf => hf.elim
 ·rename_i k ao m c heq
  simp only [List.cons.injEq, and_true] at heq
  obtain ⟨rfl, rfl⟩ := heq
  split
  ·rename_i T T' e sz n vs hkk
   cases hm0 : (m == 0) with
   | true =>
    rintro ⟨rfl, hu, hsz, rfl⟩
    obtain ⟨i, hi, hsi⟩ := Option.map_eq_some_iff.1 hsz
    obtain ⟨hown, hF⟩ := hs.ent k _ hkk
    have hEk : hv (E k) = E k := iG (db (hs.ent k _ hkk))
    have hsrc : Src P i.size T' (.slice ao 0 c) 0 [] w := by
     cases ao with
     | none => exact Src.ofNil w hu c
     | some a => exact Src.ofSlice w hu a 0 c [] (by simp) (fun j u hj => by cases hj) (fun u hx => by cases hx)
    refine aw hs rfl rfl ?_
    rcases hown.2 with ⟨h1, _⟩ | ⟨g, cap, cur, h1, _, _, hnc, _⟩
    ·have := run_append_nothing w T' T' ty e i hu hi none 0 0 (Nat.le_refl _) _ hsrc
     have e1 : den E (.hd k) = .slice none 0 0 := by simp only [den]; rw [hEk, h1]
     show (Builtin.append_ #[T', T'] ty #[den E (.hd k), .slice ao 0 c]).run P w = .ok (den E (.hd k)) w
     rw [e1]; exact this
    ·have := run_append_nothing w T' T' ty e i hu hi (some ⟨g, 0, none⟩) n cap hnc _ hsrc
     have e1 : den E (.hd k) = .slice (some ⟨g, 0, none⟩) n cap := by simp only [den]; rw [hEk, h1]
     show (Builtin.append_ #[T', T'] ty #[den E (.hd k), .slice ao 0 c]).run P w = .ok (den E (.hd k)) w
     rw [e1]; exact this
   | false =>
    simp only [cond_false]
    split
    ·rename_i b o by_ zs hb hz
     rintro ⟨rfl, hu, hsz, hzl, ⟨hbn, hthere⟩, h63, hbytes, hone⟩
     obtain ⟨i, z, hi, hzz, hzs, hbi, hsi⟩ := pW hz hb
     have hszi : i.size = sz := by rw [hsz] at hsi; exact (Option.some.inj hsi).symm
     subst hbi
     subst hszi
     obtain ⟨hd, hsome⟩ := jc (E := E) (m * i.size) o b hthere
     have hxl : ∀ n o, (bx W b o n).length = n := fun n => by induction n with | zero => intro o; rfl | succ n ih => intro o; simp [bx, ih]
     have hsrc : Src P i.size T' (.slice (some ⟨b, o, none⟩) m c) m (an E (bx W b o (m * i.size))) w := by
      refine Src.ofSlice w hu _ m c _ (by rw [aC, hxl]) (fun j u hj => ?_) (fun u hx => ?_)
      ·rw [hd] at hj
       have hjl : j < m * i.size := by have := (List.getElem?_eq_some_iff.1 hj).1; simpa using this
       rw [List.getElem?_map, List.getElem?_range hjl] at hj
       simp only [Option.map_some, Option.some.injEq] at hj
       subst hj
       rw [Addr.add_lit]
       exact hs.keeps.cell hbn (hsome j hjl)
      ·rw [a7] at hx
       obtain ⟨y, hy, rfl⟩ := List.mem_map.1 hx
       exact q9 E (List.all_eq_true.1 hone y hy)
     exact Cx hs hK hnk hkk (fun q hq => by rw [km] at hq; cases hq) hu hi hzz (by rw [<- Array.length_toList, hzs, hzl]) (by simp [den]) hsrc h63 hbytes
    ·exact fun hf => hf.elim
  ·exact fun hf => hf.elim
 ·rename_i k s heq
  simp only [List.cons.injEq, and_true] at heq
  obtain ⟨rfl, rfl⟩ := heq
  split
  ·rename_i T T' e sz n vs hkk
   split
   ·rename_i by_ zs hb hz
    rintro ⟨hus, hu, hsz, hzl, hs1, h63, hbytes⟩
    obtain ⟨i, z, hi, hzz, hzs, hbi, hsi⟩ := pW hz hb
    have hszi : i.size = sz := by rw [hsz] at hsi; exact (Option.some.inj hsi).symm
    subst hbi
    subst hszi
    have hsrc : Src P i.size T' (.string s) s.size (an E ((byteCells s).map .v)) w := by
     rw [aB, hs1]
     exact Src.ofString w hus s
    exact Cx hs hK hnk hkk (fun q hq => by rw [aO] at hq; cases hq) hu hi hzz (by rw [<- Array.length_toList, hzs, hzl]) (by simp [den]) hsrc h63 hbytes
   ·exact fun hf => hf.elim
  ·exact fun hf => hf.elim
 ·exact fun hf => hf.elim
end
section
variable {P : Program} {W : World} {bs : List Nat} {κ : Nat} {E : Nat -> Value} {F : Nat -> List Nat} {h : Nat -> Option bm} {w : World} {K : Nat -> Prop}
theorem al.mK {w' : World} {E' : Nat -> Value} {F' : Nat -> List Nat} {h' : Nat -> Option bm} (hs : al W bs E F h w) (hK : bI K h) (ks : List Nat) (N : Nat -> Option bm)
  (hks : ∀ k ∈ ks, ∃ e, h k = some e) (hEK : ∀ j, K j -> E' j = E j)
  (hN : ∀ j e, N j = some e -> bn E' (E' j) (F' j) w' e /\ (∀ b ∈ F' j, (∃ k ∈ ks, b ∈ F k) \/ w.heap.size <= b) /\ ∀ b ∈ F' j, b < w'.heap.size)
  (hap : ∀ i j e e', i ≠ j -> N i = some e -> N j = some e' -> ∀ b ∈ F' i, b ∉ F' j)
  (hF : ∀ j x, h j = some x -> N j = none -> F' j = F j)
  (hh : ∀ j, h' j = match N j with | some e => some e | none => if j ∈ ks then none else h j)
  (hkeep : ai w (ks.flatMap F) w') : al W bs E' F' h' w' := by
 have old : ∀ j x, h' j = some x -> N j = some x \/ (N j = none /\ j ∉ ks /\ h j = some x) := fun j x hj => by
  rw [hh] at hj
  cases hn : N j with
  | some e => rw [hn] at hj; exact .inl hj
  | none =>
   rw [hn] at hj
   simp only at hj
   split at hj
   ·cases hj
   ·rename_i hnk; exact .inr ⟨rfl, hnk, hj⟩
 have blk : ∀ j x, h j = some x -> j ∉ ks -> ∀ b ∈ F j, w'.heap[b]? = w.heap[b]? := fun j x hj hjk b hb =>
  hkeep.block b (hs.lt j x hj b hb) fun hb' => by
   obtain ⟨k, hk, hbk⟩ := List.mem_flatMap.1 hb'
   obtain ⟨e, he⟩ := hks k hk
   exact hs.apart j k x e (fun e' => hjk (e' ▸ hk)) hj he b hb hbk
 constructor
 ·intro j x hj
  rcases old j x hj with hn | ⟨hn, hjk, hj'⟩
  ·exact (hN j x hn).1
  ·rw [hF j x hj' hn, hEK j (hK j x hj').1]
   exact iO (fun i hi => (hEK i ((hK j x hj').2 i hi)).symm) (gB (hs.ent j x hj') (blk j x hj' hjk))
 ·intro j x hj b hb
  rcases old j x hj with hn | ⟨hn, hjk, hj'⟩
  ·exact (hN j x hn).2.2 b hb
  ·rw [hF j x hj' hn] at hb
   exact Nat.lt_of_lt_of_le (hs.lt j x hj' b hb) hkeep.size
 ·intro j x hj b hb
  rcases old j x hj with hn | ⟨hn, hjk, hj'⟩
  ·rcases (hN j x hn).2.1 b hb with ⟨k, hk, hbk⟩ | hge
   ·obtain ⟨e, he⟩ := hks k hk
    exact hs.mine k e he b hbk
   ·exact .inl (Nat.le_trans hs.keeps.size hge)
  ·rw [hF j x hj' hn] at hb
   exact hs.mine j x hj' b hb
 ·intro i j x y hij hi hj b hb
  rcases old i x hi with hn | ⟨hn, hik, hi'⟩
  ·rcases old j y hj with hn2 | ⟨hn2, hjk, hj'⟩
   ·exact hap i j x y hij hn hn2 b hb
   ·rw [hF j y hj' hn2]
    intro hb'
    rcases (hN i x hn).2.1 b hb with ⟨k, hk, hbk⟩ | hge
    ·obtain ⟨e, he⟩ := hks k hk
     exact hs.apart j k y e (fun e' => hjk (e' ▸ hk)) hj' he b hb' hbk
    ·have := hs.lt j y hj' b hb'; omega
  ·rw [hF i x hi' hn] at hb
   rcases old j y hj with hn2 | ⟨hn2, hjk, hj'⟩
   ·intro hb'
    rcases (hN j y hn2).2.1 b hb' with ⟨k, hk, hbk⟩ | hge
    ·obtain ⟨e, he⟩ := hks k hk
     exact hs.apart i k x e (fun e' => hik (e' ▸ hk)) hi' he b hb hbk
    ·have := hs.lt i x hi' b hb; omega
   ·rw [hF j y hj' hn2]
    exact hs.apart i j x y hij hi' hj' b hb
 ·refine hs.keeps.trans hkeep fun b hb hlt => ?_
  obtain ⟨k, hk, hbk⟩ := List.mem_flatMap.1 hb
  obtain ⟨e, he⟩ := hks k hk
  exact (hs.mine k e he b hbk).resolve_left (by omega)
end
end
section
open Go.RowKit
def aH (K : Nat -> Prop) (κ : Nat) (r : R) : Prop :=
 (∀ k ∈ r.val.keys, K k \/ k / 8 = κ) /\ ∀ p ∈ r.bg, (K p.1 \/ p.1 / 8 = κ) /\ ∀ e, p.2 = some e -> ∀ k ∈ e.keys, K k \/ k / 8 = κ
theorem aH.plain {K : Nat -> Prop} {κ : Nat} {r : R} (h : ∀ k ∈ r.val.keys, K k) (hu : r.bg = []) : aH K κ r :=
 ⟨fun k hk => .inl (h k hk), by rw [hu]; simp⟩
structure Spec (P : Program) (f : FuncId) where
 ev : World -> List Nat -> Nat -> (Nat -> Option bm) -> List SV -> R
 good : ∀ (W : World) (bs : List Nat) (κ : Nat) (E : Nat -> Value) (F : Nat -> List Nat) (h : Nat -> Option bm) (w : World) (K : Nat -> Prop) (args : List SV),
  al W bs E F h w -> bI K h -> (∀ k, k / 8 = κ -> ¬ K k) -> (∀ k ∈ ax args, K k) -> (ev W bs κ h args).side ->
  Good P W bs κ E h (ev W bs κ h args) ((callFunc f (an E args).toArray).run P w)
 keys : ∀ (W : World) (bs : List Nat) (κ : Nat) (h : Nat -> Option bm) (K : Nat -> Prop) (args : List SV), bI K h -> (∀ k ∈ ax args, K k) -> (ev W bs κ h args).side -> aH K κ (ev W bs κ h args)
 loc : ∀ (W : World) (bs : List Nat) (κ : Nat) (h h' : Nat -> Option bm) (args : List SV), (ev W bs κ h args).side -> (∀ k ∈ (ev W bs κ h args).reads, h' k = h k) -> ev W bs κ h' args = ev W bs κ h args
structure MethSpec (P : Program) (t : TypeId) (name : String) where
 f : FuncId
 ok : ∀ v w, (method (P.types.size + Made.depth) t v name).run P w = .ok (f, v) w
structure Env (P : Program) where
 sp : (f : FuncId) -> Option (Spec P f)
 eqs : (T : TypeId) -> Option (EqSpec P T)
 mt : (t : TypeId) -> (name : String) -> Option (MethSpec P t name)
section
variable {P : Program} {W : World} {bs : List Nat} {κ : Nat} {E : Nat -> Value} {F : Nat -> List Nat} {h : Nat -> Option bm} {w : World} {K : Nat -> Prop} (Γ : Env P)
def lS (W : World) (bs : List Nat) (κ : Nat) (h : Nat -> Option bm) (f : FuncId) (args : List SV) : R :=
 match Γ.sp f with
 | some s => s.ev W bs κ h args
 | none => .bad
def iX (W : World) (bs : List Nat) (κ : Nat) (h : Nat -> Option bm) : List SV -> R
 | .fn (.func f) first cap :: rest => lS Γ W bs κ h f (first ++ rest ++ cap)
 | .v (.func (.func f) first cap) :: rest => lS Γ W bs κ h f (first.toList.map .v ++ rest ++ cap.toList.map .v)
 | _ => .bad
def gS (W : World) (bs : List Nat) (κ : Nat) (h : Nat -> Option bm) (name : String) : List SV -> R
 | .ifc t x :: rest => match Γ.mt t name with
  | some m => lS Γ W bs κ h m.f (x :: rest)
  | none => .bad
 | .v (.iface t x) :: rest => match Γ.mt t name with
  | some m => lS Γ W bs κ h m.f (.v x :: rest)
  | none => .bad
 | _ => .bad
def isIface (P : Program) (T : TypeId) : Option Bool := (P.underlying T).map fun | .interface _ => true | _ => false
theorem so {T : TypeId} (ht : isIface P T = some false) : ∃ d, P.underlying T = some d /\ ∀ ms, d ≠ .interface ms := by
 obtain ⟨d, hd, hda⟩ := Option.map_eq_some_iff.1 ht
 exact ⟨d, hd, fun ms e => by subst e; simp at hda⟩
def iH (P : Program) (T : TypeId) : Option Bool := (P.underlying T).map fun | .pointer _ => true | _ => false
theorem fY {T : TypeId} (ht : isIface P T = some true) : ∃ ms, P.underlying T = some (.interface ms) := by
 obtain ⟨d, hd, hda⟩ := Option.map_eq_some_iff.1 ht
 cases d <;> simp at hda
 exact ⟨_, hd⟩
theorem jw {T : TypeId} (ht : iH P T = some true) : ∃ e, P.underlying T = some (.pointer e) := by
 obtain ⟨d, hd, hda⟩ := Option.map_eq_some_iff.1 ht
 cases d <;> simp at hda
 exact ⟨_, hd⟩
def ia : Operand -> Bool
 | .const _ => true
 | _ => false
def dj (op : BinOp) (p : Prop) (b : Bool) (rd : List Nat) : R := match op with
 | .eql => { side := p, val := .v (.bool b), reads := rd }
 | .neq => { side := p, val := .v (.bool (!b)), reads := rd }
 | _ => .bad
def bE (P : Program) (eqs : (T : TypeId) -> Option (EqSpec P T)) (h : Nat -> Option bm) (op : BinOp) (T : TypeId) (X Y : Operand) : List SV -> R
 | [.v .nilIface, .v .nilIface] => dj op (isIface P T = some true /\ (ia X || ia Y) = true) true []
 | [.v .nilIface, .v (.iface _ _)] => dj op (isIface P T = some true) false []
 | [.v (.iface _ _), .v .nilIface] => dj op (isIface P T = some true) false []
 | [.v .nilIface, .ifc _ _] => dj op (isIface P T = some true) false []
 | [.ifc _ _, .v .nilIface] => dj op (isIface P T = some true) false []
 | [.v (.pointer none), .v (.pointer none)] => dj op (iH P T = some true) true []
 | [.v (.pointer none), .v (.pointer (some _))] => dj op (iH P T = some true) false []
 | [.v (.pointer (some _)), .v (.pointer none)] => dj op (iH P T = some true) false []
 | [.own k o, .v (.pointer none)] => match b6 (h k) with
  | some vs => dj op (iH P T = some true /\ o < vs.length) false [k]
  | none => .bad
 | [.v (.pointer none), .own k o] => match b6 (h k) with
  | some vs => dj op (iH P T = some true /\ o < vs.length) false [k]
  | none => .bad
 | l => aP P eqs op T l
theorem ee {T : TypeId} {a b : Value} {r : Bool} {op : BinOp} {X Y : Operand} (w : World) (hop : op = .eql \/ op = .neq)
  (hg : (eqGuard op T X Y a b).run P w = .ok () w) (he : (Op.equal T a b).run P w = .ok r w) (h1 : ∀ k n, a ≠ .int k n) (h2 : ∀ k n, a ≠ .float k n) (h3 : ∀ k n m, a ≠ .complex k n m) (h4 : ∀ s, a ≠ .string s) :
  ((do eqGuard op T X Y a b; binOp op T a b) : Sem Value).run P w = .ok (.bool (if op = .eql then r else !r)) w := by
 rw [Sem.run_bind, hg]
 simp only [Result.andThen_ok]
 rcases hop with rfl | rfl
 ·cases a <;> first | exact absurd rfl (h1 _ _) | exact absurd rfl (h2 _ _) | exact absurd rfl (h3 _ _ _) | exact absurd rfl (h4 _) | (simp [binOp, he])
 ·cases a <;> first | exact absurd rfl (h1 _ _) | exact absurd rfl (h2 _ _) | exact absurd rfl (h3 _ _ _) | exact absurd rfl (h4 _) | (simp [binOp, he])
theorem du {op : BinOp} {T : TypeId} {p : Prop} {b : Bool} {rd : List Nat} {X Y : Operand} {x y : Value} (hs : al W bs E F h w) (hside : (dj op p b rd).side)
  (hr : p -> ∀ op, op = .eql \/ op = .neq -> ((do eqGuard op T X Y x y; binOp op T x y) : Sem Value).run P w = .ok (.bool (if op = .eql then b else !b)) w) :
  Good P W bs κ E h (dj op p b rd) ((do pure (.value (<- (do eqGuard op T X Y x y; binOp op T x y))) : Sem Next).run P w) := by
 cases op <;> first
  | exact hside.elim
  | (refine aw hs rfl rfl ?_
     have := hr hside .eql (.inl rfl)
     simpa [dj, den] using this)
  | (refine aw hs rfl rfl ?_
     have := hr hside .neq (.inr rfl)
     simpa [dj, den] using this)
theorem wP {op : BinOp} {T : TypeId} {X Y : Operand} {w : World} (h : (ia X || ia Y) = true) : (eqGuard op T X Y .nilIface .nilIface).run P w = .ok () w := by
 cases X <;> cases Y <;> first | (cases h; done) | (cases op <;> simp [eqGuard])
theorem cx {op : BinOp} {T : TypeId} {X Y : Operand} {w : World} {a b : Value} (h1 : ¬ (a = .nilIface /\ b = .nilIface)) (h2 : ∀ x, a ≠ .agg x) : (eqGuard op T X Y a b).run P w = .ok () w := by
 unfold eqGuard
 cases (!(op matches .eql | .neq)) with
 | true => rfl
 | false =>
  simp only [Bool.false_eq_true, if_false]
  split
  ·exact absurd ⟨rfl, rfl⟩ h1
  ·exact absurd rfl (h2 _)
  ·rfl
section
variable {T : TypeId} (w : World)
theorem hH {ms : Array (String × TypeId)} (hm : P.underlying T = some (.interface ms)) : (Op.equal T .nilIface .nilIface).run P w = .ok true w := by
 have : ∀ d, (Op.equalIn (d + 1) T .nilIface .nilIface).run P w = .ok true w := fun d => by simp [Op.equalIn, run_underlying hm]
 exact this 9999
theorem ic {ms : Array (String × TypeId)} {t : TypeId} {x : Value} (hm : P.underlying T = some (.interface ms)) : (Op.equal T .nilIface (.iface t x)).run P w = .ok false w := by
 have : ∀ d, (Op.equalIn (d + 1) T .nilIface (.iface t x)).run P w = .ok false w := fun d => by simp [Op.equalIn, run_underlying hm]
 exact this 9999
theorem ij {ms : Array (String × TypeId)} {t : TypeId} {x : Value} (hm : P.underlying T = some (.interface ms)) : (Op.equal T (.iface t x) .nilIface).run P w = .ok false w := by
 have : ∀ d, (Op.equalIn (d + 1) T (.iface t x) .nilIface).run P w = .ok false w := fun d => by simp [Op.equalIn, run_underlying hm]
 exact this 9999
theorem fB {e : TypeId} {b : Option Addr} (hm : P.underlying T = some (.pointer e)) : (Op.equal T (.pointer none) (.pointer b)).run P w = .ok b.isNone w := by
 have : ∀ d, (Op.equalIn (d + 1) T (.pointer none) (.pointer b)).run P w = .ok b.isNone w := fun d => by simp [Op.equalIn, run_underlying hm]
 exact this 9999
theorem fq {e : TypeId} {a : Addr} (hm : P.underlying T = some (.pointer e)) : (Op.equal T (.pointer (some a)) (.pointer none)).run P w = .ok false w := by
 have : ∀ d, (Op.equalIn (d + 1) T (.pointer (some a)) (.pointer none)).run P w = .ok false w := fun d => by simp [Op.equalIn, run_underlying hm]
 exact this 9999
end
theorem Lq {eqs : (T : TypeId) -> Option (EqSpec P T)} {op : BinOp} {T : TypeId} {X Y : Operand} {x y : SV} (hs : al W bs E F h w) (hside : (bE P eqs h op T X Y [x, y]).side) :
  Good P W bs κ E h (bE P eqs h op T X Y [x, y]) ((do pure (.value (<- (do eqGuard op T X Y (den E x) (den E y); binOp op T (den E x) (den E y)))) : Sem Next).run P w) := by
 revert hside
 unfold bE
 split
 ·rename_i heq
  simp only [List.cons.injEq, and_true] at heq
  obtain ⟨rfl, rfl⟩ := heq
  refine fun hside => du hs hside fun hp op hop => ee w hop (wP hp.2) ?_ (by simp [den]) (by simp [den]) (by simp [den]) (by simp [den])
  obtain ⟨ms, hm⟩ := fY hp.1
  first | exact hH w hm | exact ic w hm | exact ij w hm | exact fB w hm | exact fq w hm
 ·rename_i heq
  simp only [List.cons.injEq, and_true] at heq
  obtain ⟨rfl, rfl⟩ := heq
  refine fun hside => du hs hside fun hp op hop => ee w hop (cx (by simp [den]) (by simp [den])) ?_ (by simp [den]) (by simp [den]) (by simp [den]) (by simp [den])
  obtain ⟨ms, hm⟩ := fY hp
  first | exact hH w hm | exact ic w hm | exact ij w hm | exact fB w hm | exact fq w hm
 ·rename_i heq
  simp only [List.cons.injEq, and_true] at heq
  obtain ⟨rfl, rfl⟩ := heq
  refine fun hside => du hs hside fun hp op hop => ee w hop (cx (by simp [den]) (by simp [den])) ?_ (by simp [den]) (by simp [den]) (by simp [den]) (by simp [den])
  obtain ⟨ms, hm⟩ := fY hp
  first | exact hH w hm | exact ic w hm | exact ij w hm | exact fB w hm | exact fq w hm
 ·rename_i heq
  simp only [List.cons.injEq, and_true] at heq
  obtain ⟨rfl, rfl⟩ := heq
  refine fun hside => du hs hside fun hp op hop => ee w hop (cx (by simp [den]) (by simp [den])) ?_ (by simp [den]) (by simp [den]) (by simp [den]) (by simp [den])
  obtain ⟨ms, hm⟩ := fY hp
  first | exact hH w hm | exact ic w hm | exact ij w hm | exact fB w hm | exact fq w hm
 ·rename_i heq
  simp only [List.cons.injEq, and_true] at heq
  obtain ⟨rfl, rfl⟩ := heq
  refine fun hside => du hs hside fun hp op hop => ee w hop (cx (by simp [den]) (by simp [den])) ?_ (by simp [den]) (by simp [den]) (by simp [den]) (by simp [den])
  obtain ⟨ms, hm⟩ := fY hp
  first | exact hH w hm | exact ic w hm | exact ij w hm | exact fB w hm | exact fq w hm
 ·rename_i heq
  simp only [List.cons.injEq, and_true] at heq
  obtain ⟨rfl, rfl⟩ := heq
  refine fun hside => du hs hside fun hp op hop => ee w hop (cx (by simp [den]) (by simp [den])) ?_ (by simp [den]) (by simp [den]) (by simp [den]) (by simp [den])
  obtain ⟨ms, hm⟩ := jw hp
  first | exact hH w hm | exact ic w hm | exact ij w hm | exact fB w hm | exact fq w hm
 ·rename_i heq
  simp only [List.cons.injEq, and_true] at heq
  obtain ⟨rfl, rfl⟩ := heq
  refine fun hside => du hs hside fun hp op hop => ee w hop (cx (by simp [den]) (by simp [den])) ?_ (by simp [den]) (by simp [den]) (by simp [den]) (by simp [den])
  obtain ⟨ms, hm⟩ := jw hp
  first | exact hH w hm | exact ic w hm | exact ij w hm | exact fB w hm | exact fq w hm
 ·rename_i heq
  simp only [List.cons.injEq, and_true] at heq
  obtain ⟨rfl, rfl⟩ := heq
  refine fun hside => du hs hside fun hp op hop => ee w hop (cx (by simp [den]) (by simp [den])) ?_ (by simp [den]) (by simp [den]) (by simp [den]) (by simp [den])
  obtain ⟨ms, hm⟩ := jw hp
  first | exact hH w hm | exact ic w hm | exact ij w hm | exact fB w hm | exact fq w hm
 ·rename_i k off heq
  simp only [List.cons.injEq, and_true] at heq
  obtain ⟨rfl, rfl⟩ := heq
  split
  ·rename_i vs hvs
   refine fun hside => du hs hside fun hp op hop => ?_
   obtain ⟨b, hb, _⟩ := eY hs hvs (Nat.zero_lt_of_lt hp.2)
   obtain ⟨ms, hm⟩ := jw hp.1
   refine ee w hop (cx (by simp [den]) (by simp [den, hb, cD])) ?_ (by simp [den, hb, cD]) (by simp [den, hb, cD]) (by simp [den, hb, cD]) (by simp [den, hb, cD])
   simp only [den, hb, cD]
   first | exact fB w hm | exact fq w hm
  ·exact fun hf => hf.elim
 ·rename_i k off heq
  simp only [List.cons.injEq, and_true] at heq
  obtain ⟨rfl, rfl⟩ := heq
  split
  ·rename_i vs hvs
   refine fun hside => du hs hside fun hp op hop => ?_
   obtain ⟨b, hb, _⟩ := eY hs hvs (Nat.zero_lt_of_lt hp.2)
   obtain ⟨ms, hm⟩ := jw hp.1
   refine ee w hop (cx (by simp [den]) (by simp [den])) ?_ (by simp [den]) (by simp [den]) (by simp [den]) (by simp [den])
   simp only [den, hb, cD]
   first | exact fB w hm | exact fq w hm
  ·exact fun hf => hf.elim
 ·exact fun hside => Ob hs hside
def rn (κ k : Nat) (b : Int) (e s n : Nat) (vs : List SV) : Option Nat -> R
 | some s' => { side := s' = s /\ 0 <= b /\ b.toNat <= n, val := .hd (nk κ), bg := [(k, none), (nk κ, some (.row e s b.toNat (vs.take (b.toNat * s))))], reads := [k] }
 | none => .bad
def yd (P : Program) (κ k : Nat) (b : Int) : Option TypeDesc -> Option bm -> R
 | some (.slice e), some (.row e' s n vs) => rn κ k b e' s n vs (ts P e)
 | _, _ => .bad
def Tm (P : Program) (κ : Nat) (h : Nat -> Option bm) (T : TypeId) (k : Nat) : Bool -> Bool -> List SV -> R
 | false, true, [.v (.int _ b)] => yd P κ k b (P.underlying T) (h k)
 | _, _, _ => .bad
def TB (x : R) : Bool -> R
 | true => .bad
 | false => x
def dZ (P : Program) (κ : Nat) (h : Nat -> Option bm) (T : TypeId) (lo hi mx : Bool) : List SV -> R
 | .hd k :: r => TB (Tm P κ h T k lo hi r) mx
 | l => cQ P T lo hi mx l
theorem BN {T : TypeId} {lo hi mx : Bool} {x : SV} {rest : List SV} (hs : al W bs E F h w) (hK : bI K h) (hkk : ∀ k, k / 8 = κ -> ¬ K k) (hside : (dZ P κ h T lo hi mx (x :: rest)).side) :
  Good P W bs κ E h (dZ P κ h T lo hi mx (x :: rest)) ((do pure (.value (<- Instr.sliceAt T (den E x) (if lo then iK rest 0 E else none) (if hi then iK rest (if lo then 1 else 0) E else none) none)) : Sem Next).run P w) := by
 revert hside
 unfold dZ
 split
 ·rename_i k r heq
  obtain ⟨rfl, rfl⟩ := List.cons.inj heq
  cases mx with
  | true => exact fun hf => hf.elim
  | false =>
  unfold TB Tm
  simp only
  split
  ·rename_i ik b
   unfold yd
   split
   ·rename_i e e' s n vs hu hk
    unfold rn
    split
    ·rename_i s' hsz
     rintro ⟨rfl, h0, h1⟩
     obtain ⟨⟨hl, hor⟩, hF⟩ := hs.ent k _ hk
     have hKk : K k := (hK k _ hk).1
     have hne : k ≠ nk κ := fun e => hkk k (by rw [e]; exact aW κ) hKk
     have hvl : vs.length = n * s' := by rw [<- aC E, hl]
     have hle : b.toNat * s' <= n * s' := Nat.mul_le_mul_right _ h1
     have key : ∀ (ao : Option Addr) (cap : Nat), E k = .slice ao n cap -> n <= cap ->
       (w.ownsRow 0 e' s' (.slice ao b.toNat cap) b.toNat (an E (vs.take (b.toNat * s')))) -> (Value.slice ao b.toNat cap).ownBlock = (E k).ownBlock ->
       Good P W bs κ E h ({ side := s' = s' /\ 0 <= b /\ b.toNat <= n, val := .hd (nk κ), bg := [(k, none), (nk κ, some (.row e' s' b.toNat (vs.take (b.toNat * s'))))], reads := [k] } : R) ((do pure (.value (<- Instr.sliceAt T (den E (.hd k)) none (iK [.v (.int ik b)] 0 E) none)) : Sem Next).run P w) := by
      intro ao cap hE hnc hown hob
      have hv : den E (.hd k) = .slice ao n cap := by simp [den, hE, hv, Value.oneCell']
      have hbc : b <= (cap : Int) := by
       have e1 : (b.toNat : Int) = b := Int.toNat_of_nonneg h0
       rw [<- e1]
       exact Int.ofNat_le.2 (Nat.le_trans h1 hnc)
      have hb := iC (P := P) (lo := false) (hi := true) (rest := [.v (.int ik b)]) (a := none) (b := some b) true n cap rfl E (by simp) (by simpa using h0) (by simpa using hbc) w
      have hA : (if cap = 0 then ao else ao.map (·.add (0 * s'))) = ao := by
       split
       ·rfl
       ·cases ao with
        | none => rfl
        | some a => simp [Addr.add]
      simp only [Bool.false_eq_true, if_false, if_true] at hb
      rw [hv]
      simp only [Instr.sliceAt, Sem.run_bind, run_underlying hu, Result.andThen_ok, Instr.slice, hb, gw hsz, Sem.run_pure]
      simp only [Option.getD_none, Option.getD_some, show ((0 : Int).toNat) = 0 from rfl, Nat.sub_zero, hA, Good, mb]
      refine ⟨trivial, bg E (nk κ) (.slice ao b.toNat cap), bg F (nk κ) (F k), fun j hj => ak _ _ fun e => hj (by rw [e]; exact aW κ), ?_, ?_⟩
      ·simp [den, ah, LE.hv, Value.oneCell']
      ·refine hs.mK hK [k] (bg (fun _ => none) (nk κ) (some (.row e' s' b.toNat (vs.take (b.toNat * s'))))) (fun j hj => ?_) (fun j hj => ak _ _ fun e => hkk j (by rw [e]; exact aW κ) hj) (fun j e he => ?_) (fun i j e e' hij hi hj c hc => ?_) (fun j x hx hj => ?_) (fun j => ?_) (ai.refl w _)
       ·simp at hj; subst hj; exact ⟨_, hk⟩
       ·by_cases hj : j = nk κ
        ·subst hj
         rw [ah] at he
         obtain rfl := Option.some.inj he
         rw [ah, ah]
         refine ⟨⟨?_, by rw [hF, hob]⟩, fun c hc => .inl ⟨k, by simp, hc⟩, fun c hc => hs.lt k _ hk c hc⟩
         have : an (bg E (nk κ) (.slice ao b.toNat cap)) (vs.take (b.toNat * s')) = an E (vs.take (b.toNat * s')) := bG _ fun i hi => ak _ _ fun e => by
          have hiv : i ∈ ax vs := by
           obtain ⟨y, hy, hiy⟩ := bS.1 hi
           exact bS.2 ⟨y, List.mem_of_mem_take hy, hiy⟩
          exact hkk i (by rw [e]; exact aW κ) ((hK k _ hk).2 i hiv)
         rw [this]
         exact hown
        ·rw [ak _ _ hj] at he; cases he
       ·by_cases hi' : i = nk κ
        ·by_cases hj' : j = nk κ
         ·exact absurd (hi'.trans hj'.symm) hij
         ·rw [ak _ _ hj'] at hj; cases hj
        ·rw [ak _ _ hi'] at hi; cases hi
       ·by_cases hj' : j = nk κ
        ·rw [hj', ah] at hj; cases hj
        ·exact ak _ _ hj'
       ·simp only [aZ]
        by_cases hj' : j = nk κ
        ·subst hj'; rw [ah, ah]
        ·rw [ak _ _ hj', ak _ _ hj']
         by_cases hjk : j = k
         ·subst hjk; simp [ah]
         ·rw [ak _ _ hjk]; simp [hjk]
     have hlen : (an E (vs.take (b.toNat * s'))).length = b.toNat * s' := by
      rw [aC, List.length_take]; omega
     rcases hor with ⟨hEk, hn⟩ | ⟨g, cap, cur, hEk, hb0, hh, hnc, hcm, hcs, htk⟩
     ·subst hn
      have hb0 : b.toNat = 0 := by omega
      refine key none 0 hEk (Nat.le_refl _) ⟨hlen, .inl ⟨by rw [hb0], hb0⟩⟩ ?_
      rw [hEk]; rfl
     ·refine key _ cap hEk hnc ⟨hlen, .inr ⟨g, cap, cur, rfl, hb0, hh, by omega, hcm, hcs, ?_⟩⟩ ?_
      ·have : (cur.toList.take (n * s')).take (b.toNat * s') = an E (vs.take (b.toNat * s')) := by
        rw [htk, a7, a7, List.map_take]
       rw [<- this, List.take_take, Nat.min_eq_left hle]
      ·rw [hEk]; rfl
    ·exact fun hf => hf.elim
   ·exact fun hf => hf.elim
  ·exact fun hf => hf.elim
 ·exact fun hside => Hn hs hside
def jD : List SV -> Option (List Int)
 | [] => some []
 | .v (.int .u8 n) :: r => (jD r).map (n :: ·)
 | _ => none
def eX (ns : List Int) : ByteArray := ⟨(ns.map fun n => UInt8.ofNat n.toNat).toArray⟩
def WL (P : Program) (k n : Nat) : Option TypeDesc -> Option TypeDesc -> Option (List Int) -> R
 | some (.slice e), some .string, some ns => { side := P.underlying e = some (.int .u8) /\ ns.length = n, val := .v (.string (eX ns)), reads := [k] }
 | _, _, _ => .bad
def WM (P : Program) (src dst : TypeId) (k : Nat) : Option bm -> R
 | some (.row _ 1 n vs) => WL P k n (P.underlying src) (P.underlying dst) (jD vs)
 | _ => .bad
def fy (P : Program) (h : Nat -> Option bm) (src dst : TypeId) : List SV -> R
 | [.hd k] => WM P src dst k (h k)
 | l => dR P src dst l
theorem vG (E : Nat -> Value) : ∀ {vs : List SV} {ns : List Int}, jD vs = some ns -> an E vs = ns.map (Value.int .u8)
 | [], ns, h => by simp [jD] at h; subst h; rfl
 | x :: r, ns, h => by
  unfold jD at h
  split at h
  ·rename_i heq; cases heq
  ·rename_i n r' heq
   obtain ⟨rfl, rfl⟩ := List.cons.inj heq
   obtain ⟨m, hm, rfl⟩ := Option.map_eq_some_iff.1 h
   simp [an, den, vG E hm]
  ·cases h
theorem sM (ns : List Int) : ∀ s : ByteArray, ns.foldl (fun r n => r.push (UInt8.ofNat n.toNat)) s = ⟨s.data ++ (ns.map fun n => UInt8.ofNat n.toNat).toArray⟩ := by
 induction ns with
 | nil => intro s; simp
 | cons n r ih => intro s; rw [List.foldl_cons, ih]; simp [ByteArray.push]
theorem GY {src dst : TypeId} {x : SV} (hs : al W bs E F h w) (hside : (fy P h src dst [x]).side) :
  Good P W bs κ E h (fy P h src dst [x]) ((do pure (.value (<- convert src dst (den E x))) : Sem Next).run P w) := by
 revert hside
 unfold fy
 split
 ·rename_i k heq
  simp only [List.cons.injEq, and_true] at heq
  subst heq
  cases hk : h k with
  | none => exact fun hf => hf.elim
  | some e =>
   unfold WM
   split
   ·rename_i T n vs heq
    obtain rfl := Option.some.inj heq
    unfold WL
    split
    ·rename_i e ns h1 h2 h3
     rintro ⟨h4, h5⟩
     refine aw hs rfl rfl ?_
     have hent := hs.ent k _ hk
     obtain ⟨⟨hl, hor⟩, _⟩ := hent
     have hd := vG E h3
     rw [hd] at hl hor
     have fin : eX ns = ns.foldl (fun r n => r.push (UInt8.ofNat n.toNat)) ByteArray.empty := by
      rw [sM]; simp [eX, ByteArray.empty, ByteArray.emptyWithCapacity]; rfl
     rcases hor with ⟨hu, hn⟩ | ⟨g, cap, cur, hu, _, hh, hnc, _, hcs, htake⟩
     ·have : ns = [] := by
       cases ns with
       | nil => rfl
       | cons _ _ => simp at h5; omega
      subst this
      have hv : den E (.hd k) = .slice none 0 0 := by simp [den, hu, hv, Value.oneCell']
      rw [hv, run_convert_bytes_string w src dst _ none 0 0 h1 h4 h2]
      simp [Conv.bytesToString, den, eX, ByteArray.empty, ByteArray.emptyWithCapacity]
      rfl
     ·have hv : den E (.hd k) = .slice (some ⟨g, 0, none⟩) n cap := by simp [den, hu, hv, Value.oneCell']
      rw [hv, run_convert_bytes_string w src dst _ _ n cap h1 h4 h2]
      have hlc : (loadCells ⟨g, 0, none⟩ n).run P w = .ok (ns.map (Value.int .u8)).toArray w := by
       have := run_loadCells_list (P := P) w ⟨g, 0, none⟩ (ns.map (Value.int .u8)) (fun j v hj => by
        rw [Addr.add_lit, Nat.zero_add]
        have hjl : j < ns.length := by
         have := (List.getElem?_eq_some_iff.1 hj).1
         simpa using this
        rw [<- htake, List.getElem?_take, if_pos (by omega)] at hj
        simp only [World.cell?, hh]
        simpa using hj)
       simpa [h5] using this
      rw [run_bytesToString w _ n cap ns hlc, fin]
      rfl
    ·exact fun hf => hf.elim
   ·exact fun hf => hf.elim
 ·exact fun hside => Ai hs hside
def zv (P : Program) (T : TypeId) : Option Value := (P.info? T).bind (·.zero)
theorem Jg {T : TypeId} {z : Value} (ht : zv P T = some z) (w : World) : (zeroValue T).run P w = .ok z w := by
 unfold zv at ht
 cases hi : P.info? T with
 | none => simp [hi] at ht
 | some i =>
  simp only [hi, Option.bind_some] at ht
  simp [zeroValue, typeInfo, hi, ht]
def ed (P : Program) (T : TypeId) (ok : Bool) : List SV -> R
 | [.ifc t x] => match isIface P T, zv P T with
  | some false, some z =>
   match ok with
   | true => .ok (if t = T then .tup [x, .v (.bool true)] else .tup [.v z, .v (.bool false)])
   | false => .fI (t = T) x
  | _, _ => .bad
 | [.v (.iface t x)] => match isIface P T, zv P T with
  | some false, some z =>
   match ok with
   | true => .ok (if t = T then .tup [.v x, .v (.bool true)] else .tup [.v z, .v (.bool false)])
   | false => .fI (t = T) (.v x)
  | _, _ => .bad
 | [.v .nilIface] => match isIface P T, zv P T with
  | some false, some z =>
   match ok with
   | true => .ok (.tup [.v z, .v (.bool false)])
   | false => .bad
  | _, _ => .bad
 | _ => .bad
def jS : List SV -> R
 | [.v (.iface t x)] => { side := True, val := .v undef, pan := some [{ v := .iface t x, recovered := false }] }
 | _ => .bad
def dB (W : World) (bs : List Nat) (κ : Nat) (h : Nat -> Option bm) : Op -> List SV -> R
 | .move _, [x] => .ok x
 | .assign _, [x] => .ok x
 | .alloc T, [] => gh P κ T
 | .box T _, args => qK κ T args
 | .build T ps, args => df P T (ps.toList.map (·.1)) args
 | .buildSlice T n ps, args => bj P κ T n (ps.toList.map (·.1)) args
 | .load T _, args => di P W bs h T args
 | .store T _ _, args => gf P h T args
 | .nilCheck _, args => da h args
 | .binOp op T X Y _, args => bE P Γ.eqs h op T X Y args
 | .unOp op _ _, args => qi op args
 | .convert s d _, args => fy P h s d args
 | .makeInterface T _, args => lL P T args
 | .makeFunc fn first _, args => .ok (.fn fn (args.take first.size) (args.drop first.size))
 | .makeSlice T _ _, args => ka P κ T args
 | .slice T _ lo hi mx, args => dZ P κ h T lo.isSome hi.isSome mx.isSome args
 | .fieldAddr S _ f, args => cf P h S f args
 | .field S _ f, args => fD P S f args
 | .indexAddr T _ _, args => bo P h T args
 | .index T _ _, args => eF P T args
 | .extract _ i, args => dQ i args
 | .typeAssert _ _ T ok, args => ed P T ok args
 | .panic _, args => jS args
 | .call { callee := .builtin .len, args := _, argTypes := tys }, args => match tys.toList with
  | [T] => gR P h T args
  | _ => .bad
 | .call { callee := .builtin .append, args := _, argTypes := tys }, args => et P W bs κ h tys.toList args
 | .call { callee := .builtin .min, args := _, argTypes := _ }, args => oK args
 | .call { callee := .builtin .max, args := _, argTypes := _ }, args => mU args
 | .call { callee := .value _, args := _, argTypes := _ }, args => iX Γ W bs κ h args
 | .call { callee := .invoke _ name, args := _, argTypes := _ }, args => gS Γ W bs κ h name args
 | _, _ => .bad
theorem nx {f : FuncId} {args : List SV} (hs : al W bs E F h w) (hK : bI K h) (hk : ∀ k, k / 8 = κ -> ¬ K k) (hx : ∀ k ∈ ax args, K k) (hside : (lS Γ W bs κ h f args).side) :
  Good P W bs κ E h (lS Γ W bs κ h f args) ((callFunc f (an E args).toArray).run P w) := by
 revert hside
 unfold lS
 split
 ·rename_i s hsp
  intro hside
  exact s.good W bs κ E F h w K args hs hK hk hx hside
 ·exact fun hf => hf.elim
theorem Aq {o : Oper} {ρ : Operand -> Value} {fo : Operand} {as_ : Array Operand} {tys : Array TypeId} {args : List SV} (hop : o.op = .call { callee := .value fo, args := as_, argTypes := tys })
  (hρ : (fo :: as_.toList).map ρ = an E args) (hs : al W bs E F h w) (hK : bI K h) (hk : ∀ k, k / 8 = κ -> ¬ K k) (hx : ∀ k ∈ ax args, K k) (hside : (iX Γ W bs κ h args).side) :
  Good P W bs κ E h (iX Γ W bs κ h args) ((execOp ρ o).run P w) := by
 revert hside
 unfold iX
 split
 ·rename_i f first cap rest
  intro hside
  simp only [an, List.map_cons, List.cons.injEq] at hρ
  obtain ⟨h1, h2⟩ := hρ
  have harr : as_.map ρ = (an E rest).toArray := by apply Array.ext'; simpa using h2
  have hx' : ∀ k ∈ ax (first ++ rest ++ cap), K k := fun k hk => hx k (by
   simp only [aR, List.mem_append] at hk
   simp only [ax, SV.keys, List.mem_append]
   rcases hk with (hk | hk) | hk
   ·exact .inl (.inl hk)
   ·exact .inr hk
   ·exact .inl (.inr hk))
  have := nx Γ (f := f) hs hK hk hx' hside
  rw [dq, dq] at this
  simp only [execOp, hop, resolve, h1, den, Deferred.ofValue, Sem.run_bind, Sem.run_pure, Result.andThen_ok, invoke, harr]
  simpa using this
 ·rename_i f first cap rest
  intro hside
  simp only [an, List.map_cons, List.cons.injEq] at hρ
  obtain ⟨h1, h2⟩ := hρ
  have harr : as_.map ρ = (an E rest).toArray := by apply Array.ext'; simpa using h2
  have hx' : ∀ k ∈ ax (first.toList.map .v ++ rest ++ cap.toList.map .v), K k := fun k hk => hx k (by
   simp only [aR, List.mem_append, aO] at hk
   simp only [ax, SV.keys, List.mem_append]
   rcases hk with (hk | hk) | hk
   ·cases hk
   ·exact .inr hk
   ·cases hk)
  have := nx Γ (f := f) hs hK hk hx' hside
  rw [dq, dq, aB, aB] at this
  have e2 : (first.toList ++ an E rest ++ cap.toList).toArray = first ++ (an E rest).toArray ++ cap := by apply Array.ext'; simp
  rw [e2] at this
  simp only [execOp, hop, resolve, h1, den, Deferred.ofValue, Sem.run_bind, Sem.run_pure, Result.andThen_ok, invoke, harr]
  exact this
 ·exact fun hf => hf.elim
theorem uK {o : Oper} {ρ : Operand -> Value} {ro : Operand} {name : String} {as_ : Array Operand} {tys : Array TypeId} {args : List SV} (hop : o.op = .call { callee := .invoke ro name, args := as_, argTypes := tys })
  (hρ : (ro :: as_.toList).map ρ = an E args) (hs : al W bs E F h w) (hK : bI K h) (hk : ∀ k, k / 8 = κ -> ¬ K k) (hx : ∀ k ∈ ax args, K k) (hside : (gS Γ W bs κ h name args).side) :
  Good P W bs κ E h (gS Γ W bs κ h name args) ((execOp ρ o).run P w) := by
 revert hside
 unfold gS
 split
 ·rename_i t x rest
  split
  ·rename_i m hm
   intro hside
   simp only [an, List.map_cons, List.cons.injEq] at hρ
   obtain ⟨h1, h2⟩ := hρ
   have harr : as_.map ρ = (an E rest).toArray := by apply Array.ext'; simpa using h2
   have := nx Γ (f := m.f) (args := x :: rest) hs hK hk (by simpa [ax, SV.keys] using hx) hside
   simp only [an] at this
   simp only [execOp, hop, resolve, h1, den, Sem.run_bind, Sem.run_pure, Result.andThen_ok, invoke, harr, callMethod]
   simp [m.ok, callMethod]
   simpa using this
  ·exact fun hf => hf.elim
 ·rename_i t x rest
  split
  ·rename_i m hm
   intro hside
   simp only [an, List.map_cons, List.cons.injEq] at hρ
   obtain ⟨h1, h2⟩ := hρ
   have harr : as_.map ρ = (an E rest).toArray := by apply Array.ext'; simpa using h2
   have := nx Γ (f := m.f) (args := .v x :: rest) hs hK hk (by simpa [ax, SV.keys] using hx) hside
   simp only [an] at this
   simp only [execOp, hop, resolve, h1, den, Sem.run_bind, Sem.run_pure, Result.andThen_ok, invoke, harr]
   simp [m.ok, callMethod]
   simpa [den] using this
  ·exact fun hf => hf.elim
 ·exact fun hf => hf.elim
theorem eT {T xT t : TypeId} {y z : Value} {ok : Bool} (hif : isIface P T = some false) (hz : zv P T = some z) (hok : ok = true \/ t = T) (w : World) :
  (Instr.typeAssert (.iface t y) xT T ok).run P w = .ok (if t = T then (if ok then .tuple #[y, .bool true] else y) else .tuple #[z, .bool false]) w := by
 obtain ⟨d, hd, hdi⟩ := so hif
 have hz' := Jg hz
 by_cases ht : t = T
 ·subst ht
  simp only [Instr.typeAssert, Sem.run_bind, run_underlying hd, Result.andThen_ok]
  cases d <;> first | exact absurd rfl (hdi _) | simp
 ·have hk : ok = true := hok.resolve_right ht
  subst hk
  simp only [Instr.typeAssert, Sem.run_bind, run_underlying hd, Result.andThen_ok]
  cases d <;> first | exact absurd rfl (hdi _) | simp [ht, hz']
theorem uO {T xT : TypeId} {z : Value} (hif : isIface P T = some false) (hz : zv P T = some z) (w : World) :
  (Instr.typeAssert .nilIface xT T true).run P w = .ok (.tuple #[z, .bool false]) w := by
 obtain ⟨d, hd, hdi⟩ := so hif
 have hz' := Jg hz
 simp only [Instr.typeAssert, Sem.run_bind, run_underlying hd, Result.andThen_ok]
 cases d <;> first | exact absurd rfl (hdi _) | simp [hz']
theorem DJ {xT T : TypeId} {ok : Bool} {x : SV} (hs : al W bs E F h w) (hside : (ed P T ok [x]).side) :
  Good P W bs κ E h (ed P T ok [x]) ((do pure (.value (<- Instr.typeAssert (den E x) xT T ok)) : Sem Next).run P w) := by
 revert hside
 unfold ed
 split
 ·rename_i t y heq
  simp only [List.cons.injEq, and_true] at heq
  subst heq
  split
  ·rename_i z hif hz
   split
   ·intro _
    refine aw hs rfl rfl ?_
    simp only [R.ok, den]
    rw [eT hif hz (.inl rfl)]
    by_cases ht : t = T <;> simp [ht, den, an]
   ·intro ht
    refine aw hs rfl rfl ?_
    have ht' : t = T := ht
    simp only [R.fI, den]
    rw [eT hif hz (.inr ht')]
    simp [ht']
  ·exact fun hf => hf.elim
 ·rename_i t y heq
  simp only [List.cons.injEq, and_true] at heq
  subst heq
  split
  ·rename_i z hif hz
   split
   ·intro _
    refine aw hs rfl rfl ?_
    simp only [R.ok, den]
    rw [eT hif hz (.inl rfl)]
    by_cases ht : t = T <;> simp [ht, den, an]
   ·intro ht
    refine aw hs rfl rfl ?_
    have ht' : t = T := ht
    simp only [R.fI, den]
    rw [eT hif hz (.inr ht')]
    simp [ht']
  ·exact fun hf => hf.elim
 ·rename_i heq
  simp only [List.cons.injEq, and_true] at heq
  subst heq
  split
  ·rename_i z hif hz
   split
   ·intro _
    refine aw hs rfl rfl ?_
    simp only [R.ok, den]
    rw [uO hif hz]
    simp [an, den]
   ·exact fun hf => hf.elim
  ·exact fun hf => hf.elim
 ·exact fun hf => hf.elim
theorem GF {x : SV} (hs : al W bs E F h w) (hside : (jS [x]).side) :
  Good P W bs κ E h (jS [x]) ((do pure (.value (<- Instr.panic (den E x))) : Sem Next).run P w) := by
 revert hside
 unfold jS
 split
 ·rename_i t y heq
  simp only [List.cons.injEq, and_true] at heq
  subst heq
  intro _
  have : (do pure (.value (<- Instr.panic (den E (.v (.iface t y))))) : Sem Next).run P w = .halt (.panic (.iface t y)) w := by simp [den, Instr.panic]
  rw [this]
  exact ⟨rfl, F, hs.drop fun k e he => by simpa [dropKeys] using he⟩
 ·exact fun hf => hf.elim
theorem LQ (E : Nat -> Value) (l : List SV) (n : Nat) : an E (l.take n) = (an E l).take n := by simp [a7, List.map_take]
theorem Ln (E : Nat -> Value) (l : List SV) (n : Nat) : an E (l.drop n) = (an E l).drop n := by simp [a7, List.map_drop]
theorem yB (ps : List (Nat × Operand)) (ρ : Operand -> Value) : ps.map (fun p => (p.1, ρ p.2)) = (ps.map (·.1)).zip ((ps.map (·.2)).map ρ) := CK ρ ps
theorem PU (o : Oper) (ρ : Operand -> Value) (args : List SV) (hρ : o.op.operands.toList.map ρ = an E args) (hs : al W bs E F h w) (hK : bI K h) (hk : ∀ k, k / 8 = κ -> ¬ K k) (hx : ∀ k ∈ ax args, K k)
  (hside : (dB Γ W bs κ h o.op args).side) : Good P W bs κ E h (dB Γ W bs κ h o.op args) ((execOp ρ o).run P w) := by
 have one : ∀ {x : SV} {X : Operand}, o.op.operands.toList = [X] -> args = [x] -> ρ X = den E x := fun {x X} h1 h2 => by
  rw [h1, h2] at hρ; simpa [an] using hρ
 have len1 : ∀ {X : Operand}, o.op.operands.toList = [X] -> ∃ x, args = [x] := fun {X} h1 => by
  have := congrArg List.length hρ
  rw [h1, aC] at this
  exact List.length_eq_one_iff.1 (by simpa using this.symm)
 have len2 : ∀ {X Y : Operand}, o.op.operands.toList = [X, Y] -> ∃ x y, args = [x, y] /\ ρ X = den E x /\ ρ Y = den E y := fun {X Y} h1 => by
  rw [h1] at hρ
  match args, hρ with
  | [x, y], hρ => simp [an] at hρ; exact ⟨x, y, rfl, hρ.1, hρ.2⟩
  | [], hρ => simp [an] at hρ
  | [x], hρ => simp [an] at hρ
  | x :: y :: z :: r, hρ => simp [an] at hρ
 generalize hop : o.op = op at *
 cases op with
 | move X =>
  obtain ⟨x, rfl⟩ := len1 (X := X) rfl
  simp only [dB] at hside ⊢
  have : (execOp ρ o).run P w = .ok (.value (den E x)) w := by simp [execOp, hop, one (X := X) rfl rfl]
  rw [this]; exact Good.pure hs rfl rfl rfl
 | assign X =>
  obtain ⟨x, rfl⟩ := len1 (X := X) rfl
  simp only [dB] at hside ⊢
  have : (execOp ρ o).run P w = .ok (.value (den E x)) w := by simp [execOp, hop, one (X := X) rfl rfl]
  rw [this]; exact Good.pure hs rfl rfl rfl
 | alloc T =>
  have ha : args = [] := by
   have := congrArg List.length hρ
   rw [aC] at this
   exact List.eq_nil_of_length_eq_zero (by simpa [Op.operands] using this.symm)
  subst ha
  simp only [dB] at hside ⊢
  have := Fj (E := E) hs hK hk hside
  simpa only [execOp, hop] using this
 | box T X =>
  obtain ⟨x, rfl⟩ := len1 (X := X) rfl
  simp only [dB] at hside ⊢
  have := Oi (P := P) (T := T) hs hK hk (fun k hk => hx k (by simpa [ax] using hk))
  simpa only [execOp, hop, one (X := X) rfl rfl] using this
 | build T ps =>
  simp only [dB] at hside ⊢
  have := F0 (E := E) (κ := κ) hs hside
  have e : ps.map (fun (i, x) => (i, ρ x)) = ((ps.toList.map (·.1)).zip (an E args)).toArray := by
   rw [<- hρ]
   apply Array.ext'
   simpa [Op.operands] using yB ps.toList ρ
  simp only [execOp, hop, e]
  exact this
 | buildSlice T n ps =>
  simp only [dB] at hside ⊢
  have := sB (E := E) hs hK hk hx hside
  have e : ps.map (fun (i, x) => (i, ρ x)) = ((ps.toList.map (·.1)).zip (an E args)).toArray := by
   rw [<- hρ]
   apply Array.ext'
   simpa [Op.operands] using yB ps.toList ρ
  simp only [execOp, hop, e]
  exact this
 | load T X =>
  obtain ⟨x, rfl⟩ := len1 (X := X) rfl
  simp only [dB] at hside ⊢
  have := KB (P := P) (κ := κ) hs hside
  simpa only [execOp, hop, one (X := X) rfl rfl] using this
 | store T X Y =>
  obtain ⟨x, y, rfl, h1, h2⟩ := len2 (X := X) (Y := Y) rfl
  simp only [dB] at hside ⊢
  have := EG (P := P) (W := W) (bs := bs) (F := F) (κ := κ) (E := E) hs hside
  simpa only [execOp, hop, h1, h2] using this
 | nilCheck X =>
  obtain ⟨x, rfl⟩ := len1 (X := X) rfl
  simp only [dB] at hside ⊢
  exact w9 hop (one (X := X) rfl rfl) hs hside
 | binOp op T X Y T2 =>
  obtain ⟨x, y, rfl, h1, h2⟩ := len2 (X := X) (Y := Y) rfl
  simp only [dB] at hside ⊢
  have := Lq (E := E) (κ := κ) (X := X) (Y := Y) hs hside
  simpa only [execOp, hop, h1, h2] using this
 | unOp op T X =>
  obtain ⟨x, rfl⟩ := len1 (X := X) rfl
  simp only [dB] at hside ⊢
  have := Ur (P := P) (E := E) (κ := κ) hs hside
  simpa only [execOp, hop, one (X := X) rfl rfl] using this
 | convert s d X =>
  obtain ⟨x, rfl⟩ := len1 (X := X) rfl
  simp only [dB] at hside ⊢
  have := GY (P := P) (E := E) (κ := κ) hs hside
  simpa only [execOp, hop, one (X := X) rfl rfl] using this
 | makeInterface T X =>
  obtain ⟨x, rfl⟩ := len1 (X := X) rfl
  simp only [dB] at hside ⊢
  have := QL (P := P) (E := E) (κ := κ) hs hside
  simpa only [execOp, hop, one (X := X) rfl rfl] using this
 | makeFunc fn first cap =>
  simp only [dB] at hside ⊢
  have h1 : first.map ρ = (an E (args.take first.size)).toArray := by
   rw [LQ, <- hρ]
   apply Array.ext'
   simp [Op.operands]
  have h2 : cap.map ρ = (an E (args.drop first.size)).toArray := by
   rw [Ln, <- hρ]
   apply Array.ext'
   simp [Op.operands]
  have : (execOp ρ o).run P w = .ok (.value (den E (.fn fn (args.take first.size) (args.drop first.size)))) w := by
   simp [execOp, hop, h1, h2, den, Instr.makeFunc]
  rw [this]; exact Good.pure hs rfl rfl rfl
 | makeSlice T X Y =>
  obtain ⟨x, y, rfl, h1, h2⟩ := len2 (X := X) (Y := Y) rfl
  simp only [dB] at hside ⊢
  have := MU (E := E) hs hK hk hside
  simpa only [execOp, hop, h1, h2] using this
 | slice T X lo hi mx =>
  simp only [dB] at hside ⊢
  cases mx with
  | some m =>
   exfalso
   revert hside
   unfold dZ
   split
   ·exact fun hf => hf.elim
   unfold cQ
   split
   ·split
    ·rename_i e _; simp at e
    ·exact fun hf => hf.elim
   ·split
    ·rename_i e _; simp at e
    ·exact fun hf => hf.elim
   ·exact fun hf => hf.elim
  | none =>
   match args, hρ, hside with
   | [], hρ, hside => simp [Op.operands, an] at hρ
   | x :: rest, hρ, hside =>
    have hg := BN (P := P) (E := E) (κ := κ) hs hK hk hside
    have h1 : ρ X = den E x := by simp [Op.operands, an] at hρ; exact hρ.1
    have h2 : ((lo.toList ++ hi.toList).map ρ) = an E rest := by
     simp [Op.operands, an] at hρ
     simpa using hρ.2
    have e1 : lo.map ρ = (if lo.isSome then iK rest 0 E else none) := by
     cases lo with
     | none => rfl
     | some a =>
      simp only [Option.isSome_some, if_true, iK]
      cases rest with
      | nil => simp [an] at h2
      | cons r rs => simp [an] at h2; simp [h2.1]
    have e2 : hi.map ρ = (if hi.isSome then iK rest (if lo.isSome then 1 else 0) E else none) := by
     cases hi with
     | none => rfl
     | some a =>
      simp only [Option.isSome_some, if_true, iK]
      cases lo with
      | none =>
       cases rest with
       | nil => simp [an] at h2
       | cons r rs => simp [an] at h2; simp [h2.1]
      | some b =>
       match rest, h2 with
       | [], h2 => simp [an] at h2
       | [r], h2 => simp [an] at h2
       | r :: r' :: rs, h2 => simp [an] at h2; simp [h2.2.1]
    have e3 : execOp ρ o = (do pure (.value (<- Instr.sliceAt T (den E x) (if lo.isSome then iK rest 0 E else none) (if hi.isSome then iK rest (if lo.isSome then 1 else 0) E else none) none)) : Sem Next) := by
     simp only [execOp, hop, h1, e1, e2, Option.map_none]
    rw [e3]
    exact hg
 | fieldAddr S X f =>
  obtain ⟨x, rfl⟩ := len1 (X := X) rfl
  simp only [dB] at hside ⊢
  have := vY (P := P) (E := E) (κ := κ) hs hside
  simpa only [execOp, hop, one (X := X) rfl rfl] using this
 | field S X f =>
  obtain ⟨x, rfl⟩ := len1 (X := X) rfl
  simp only [dB] at hside ⊢
  have := ER (P := P) (E := E) (κ := κ) hs hside
  simpa only [execOp, hop, one (X := X) rfl rfl] using this
 | indexAddr T X Y =>
  obtain ⟨x, y, rfl, h1, h2⟩ := len2 (X := X) (Y := Y) rfl
  simp only [dB] at hside ⊢
  have := uh (P := P) (E := E) (κ := κ) hs hside
  simpa only [execOp, hop, h1, h2] using this
 | index T X Y =>
  obtain ⟨x, y, rfl, h1, h2⟩ := len2 (X := X) (Y := Y) rfl
  simp only [dB] at hside ⊢
  have := Gx (P := P) (E := E) (κ := κ) hs hside
  simpa only [execOp, hop, h1, h2] using this
 | extract X i =>
  obtain ⟨x, rfl⟩ := len1 (X := X) rfl
  simp only [dB] at hside ⊢
  have := yT (P := P) (E := E) (κ := κ) hs hside
  simpa only [execOp, hop, one (X := X) rfl rfl] using this
 | typeAssert X xT T ok =>
  obtain ⟨x, rfl⟩ := len1 (X := X) rfl
  simp only [dB] at hside ⊢
  have := DJ (P := P) (E := E) (κ := κ) (xT := xT) hs hside
  simpa only [execOp, hop, one (X := X) rfl rfl] using this
 | panic X =>
  obtain ⟨x, rfl⟩ := len1 (X := X) rfl
  simp only [dB] at hside ⊢
  have := GF (P := P) (E := E) (κ := κ) hs hside
  simpa only [execOp, hop, one (X := X) rfl rfl] using this
 | call c =>
  obtain ⟨callee, as_, tys⟩ := c
  have hce : ∀ b : Builtin, callee = .builtin b -> as_.map ρ = (an E args).toArray := fun b hb => by
   subst hb
   rw [<- hρ]
   apply Array.ext'
   simp [Op.operands, Call.operands]
  cases callee with
  | value fo =>
   simp only [dB] at hside ⊢
   refine Aq Γ hop ?_ hs hK hk hx hside
   rw [<- hρ]
   simp [Op.operands, Call.operands]
  | invoke ro name =>
   simp only [dB] at hside ⊢
   refine uK Γ hop ?_ hs hK hk hx hside
   rw [<- hρ]
   simp [Op.operands, Call.operands]
  | builtin b =>
   have harr := hce b rfl
   cases b <;> simp only [dB] at hside ⊢ <;> first | exact hside.elim | skip
   case append =>
    match args, hside, hρ with
    | [x, y], hside, hρ =>
     have := NU (P := P) (E := E) (tys := tys.toList) (ty := o.type) hs hK hk hside
     simp only [an] at harr
     simp only [execOp, hop, resolve, invoke, builtin, Sem.run_bind, Sem.run_pure, Result.andThen_ok, harr]
     simpa using this
    | [], hside, hρ => simp [et, R.bad] at hside
    | [x], hside, hρ => simp [et, R.bad] at hside
    | x :: y :: z :: r, hside, hρ => simp [et, R.bad] at hside
   case len =>
    revert hside
    split
    ·rename_i T hT
     intro hside
     match args, hside, hρ with
     | [x], hside, hρ =>
      have ht : tys[0]? = some T := by rw [<- Array.getElem?_toList, hT]; rfl
      have := Ph (P := P) (E := E) (κ := κ) (ty := o.type) hs ht hside
      simp only [an] at harr
      simp only [execOp, hop, resolve, invoke, builtin, Sem.run_bind, Sem.run_pure, Result.andThen_ok, harr]
      simpa using this
     | [], hside, hρ => simp [gR, R.bad] at hside
     | x :: y :: r, hside, hρ => cases x <;> simp [gR, R.bad] at hside
    ·exact fun hf => hf.elim
   case min =>
    have := RZ (P := P) (E := E) (κ := κ) (tys := tys) (ty := o.type) hs hside
    simp only [execOp, hop, resolve, invoke, builtin, Sem.run_bind, Sem.run_pure, Result.andThen_ok, harr]
    simpa using this
   case max =>
    have := Q2 (P := P) (E := E) (κ := κ) (tys := tys) (ty := o.type) hs hside
    simp only [execOp, hop, resolve, invoke, builtin, Sem.run_bind, Sem.run_pure, Result.andThen_ok, harr]
    simpa using this
 | _ => simp only [dB] at hside; exact hside.elim
end
end
section
open Go.RowKit
section
variable {P : Program} {W : World} {bs : List Nat} {κ : Nat} {h : Nat -> Option bm} {K : Nat -> Prop} (Γ : Env P)
theorem lN {k n : Nat} {l : List SV} (hk : k ∈ ax (l.take n)) : k ∈ ax l := by
 obtain ⟨y, hy, hky⟩ := bS.1 hk
 exact bS.2 ⟨y, List.mem_of_mem_take hy, hky⟩
theorem lE {k n : Nat} {l : List SV} (hk : k ∈ ax (l.drop n)) : k ∈ ax l := by
 obtain ⟨y, hy, hky⟩ := bS.1 hk
 exact bS.2 ⟨y, List.mem_of_mem_drop hy, hky⟩
theorem qX {k n : Nat} {l : List SV} {x : Value} (hk : k ∈ (l.getD n (.v x)).keys) : k ∈ ax l := by
 rw [List.getD_eq_getElem?_getD] at hk
 cases hl : l[n]? with
 | none => rw [hl] at hk; cases hk
 | some y => rw [hl] at hk; exact bS.2 ⟨y, List.mem_of_getElem? hl, hk⟩
theorem ot {k o : Nat} {vs ps : List SV} (hk : k ∈ ax (ae vs o ps)) : k ∈ ax vs \/ k ∈ ax ps := by
 rw [ae, aR, aR] at hk
 simp only [List.mem_append] at hk
 rcases hk with (hk | hk) | hk
 ·exact .inl (lN hk)
 ·exact .inr hk
 ·exact .inl (lE hk)
theorem oF {k : Nat} {vs : List SV} (hK : bI K h) (hv : b6 (h k) = some vs) : K k /\ ∀ j ∈ ax vs, K j := by
 cases hk : h k with
 | none => simp [hk, b6] at hv
 | some e =>
  have := hK k e hk
  cases e with
  | obj d R => simp [hk, b6] at hv
  | cells T us => simp [hk, b6] at hv; subst hv; exact this
  | row T s n us => simp [hk, b6] at hv; subst hv; exact this
theorem se (W : World) (b : Nat) : ∀ o n, ax (bx W b o n) = []
 | _, 0 => rfl
 | o, n + 1 => by simp [bx, ax, SV.keys, se W b (o + 1) n]
theorem kg {ag : Bool} {off sz k : Nat} {l : List SV} (hk : k ∈ (eu ag off sz l).val.keys) : k ∈ ax l := by
 cases ag with
 | true => exact lE (lN hk)
 | false => exact qX hk
theorem Qz {k : Nat} {idx : List Nat} {args : List SV} (hk : k ∈ ax ((idx.zip args).map (·.2))) : k ∈ ax args := by
 obtain ⟨y, hy, hky⟩ := bS.1 hk
 obtain ⟨p, hp, rfl⟩ := List.mem_map.1 hy
 exact bS.2 ⟨p.2, (List.of_mem_zip hp).2, hky⟩
theorem OW (op : Op) (args : List SV) (hK : bI K h) (hx : ∀ k ∈ ax args, K k) (hside : (dB Γ W bs κ h op args).side) : aH K κ (dB Γ W bs κ h op args) := by
 have nil : ∀ {x : Value}, ∀ k ∈ (SV.v x).keys, K k := fun k hk => by cases hk
 have hF : ∀ f as_, (∀ k ∈ ax as_, K k) -> (lS Γ W bs κ h f as_).side -> aH K κ (lS Γ W bs κ h f as_) := fun f as_ hxx hs => by
  revert hs
  unfold lS
  split
  ·rename_i s _; exact fun hs => s.keys W bs κ h K as_ hK hxx hs
  ·exact fun hf => hf.elim
 have key : ∀ (as_ : List SV) (place : Nat -> Option (Nat × Nat)) (zs : List Value) (idx : List Nat) (cells : List SV), (∀ k ∈ ax as_, K k) -> cS place (zs.map .v) (idx.zip as_) = some cells -> ∀ k ∈ ax cells, K k := fun as_ place zs idx cells hxx hf k hk => by
  rcases mX hf hk with h1 | h1
  ·rw [aO] at h1; cases h1
  ·exact hxx k (Qz h1)
 unfold dB at *
 split at hside
 ·exact aH.plain (fun k hk => hx k (by simpa [ax, R.ok] using hk)) rfl
 ·exact aH.plain (fun k hk => hx k (by simpa [ax, R.ok] using hk)) rfl
 ·revert hside
  unfold gh
  split
  ·intro _
   refine ⟨fun k hk => .inr ?_, fun p hp => ?_⟩
   ·simp [R.new, SV.keys] at hk; subst hk; exact aW κ
   ·simp [R.new] at hp; subst hp
    refine ⟨.inr (aW κ), fun e he k hk => ?_⟩
    simp at he; subst he; simp [bm.keys, aO] at hk
  ·exact fun hf => hf.elim
 ·revert hside
  unfold qK
  split
  ·rename_i x
   intro _
   refine ⟨fun k hk => .inr ?_, fun p hp => ?_⟩
   ·simp [R.new, SV.keys] at hk; subst hk; exact aW κ
   ·simp [R.new] at hp; subst hp
    refine ⟨.inr (aW κ), fun e he k hk => .inl (hx k ?_)⟩
    simp at he; subst he
    simp only [bm.keys, iP] at hk
    simpa [ax] using hk
  ·exact fun hf => hf.elim
 ·revert hside
  unfold df
  split
  ·split
   ·rename_i cells hf; exact fun _ => aH.plain (fun k hk => key _ _ _ _ _ hx hf k (by simpa [R.ok, SV.keys] using hk)) rfl
   ·exact fun hf => hf.elim
  ·split
   ·split
    ·rename_i cells hf; exact fun _ => aH.plain (fun k hk => key _ _ _ _ _ hx hf k (by simpa [R.ok, SV.keys] using hk)) rfl
    ·exact fun hf => hf.elim
   ·exact fun hf => hf.elim
  ·exact fun hf => hf.elim
 ·revert hside
  unfold bj
  split
  ·split
   ·split
    ·rename_i cells hf
     intro _
     refine ⟨fun k hk => .inr ?_, fun p hp => ?_⟩
     ·simp [SV.keys] at hk; subst hk; exact aW κ
     ·simp at hp; subst hp
      refine ⟨.inr (aW κ), fun e he k hk => .inl ?_⟩
      obtain rfl := Option.some.inj he
      exact key _ _ _ _ _ hx hf k hk
    ·exact fun hf => hf.elim
   ·exact fun hf => hf.elim
  ·exact fun hf => hf.elim
 ·revert hside
  unfold di
  split
  ·split
   ·rename_i hvs; exact fun _ => aH.plain (fun k hk => (oF hK hvs).2 k (lE (lN (by simpa [SV.keys] using hk)))) rfl
   ·rename_i hvs; exact fun _ => aH.plain (fun k hk => (oF hK hvs).2 k (qX hk)) rfl
   ·exact fun hf => hf.elim
  ·split
   ·exact fun _ => aH.plain (fun k hk => by simp [SV.keys, se] at hk) rfl
   ·exact fun _ => aH.plain nil rfl
   ·exact fun hf => hf.elim
  ·exact fun hf => hf.elim
 ·revert hside
  unfold gf
  split
  ·rename_i k o x
   split
   ·rename_i sz vs hsz hvs
    intro _
    obtain ⟨hk1, hk2⟩ := oF hK hvs
    refine ⟨fun k hk => (by cases hk), fun p hp => ?_⟩
    simp at hp; subst hp
    refine ⟨.inl hk1, fun e he j hj => .inl ?_⟩
    have hxk : ∀ j ∈ ax (partsOf x), K j := fun j hj => hx j (by rw [iP] at hj; simp [ax, hj])
    cases hh : h k with
    | none => simp [hh, b6] at hvs
    | some en =>
     cases en with
     | obj d R => simp [hh, b6] at hvs
     | cells T us =>
      simp [hh, nf] at he; subst he
      simp [hh, b6] at hvs; subst hvs
      rcases ot hj with h1 | h1
      ·exact hk2 j h1
      ·exact hxk j h1
     | row T s n us =>
      simp [hh, nf] at he; subst he
      simp [hh, b6] at hvs; subst hvs
      rcases ot hj with h1 | h1
      ·exact hk2 j h1
      ·exact hxk j h1
   ·exact fun hf => hf.elim
  ·exact fun hf => hf.elim
 ·revert hside
  unfold da
  split
  ·split
   ·exact fun _ => aH.plain (by simpa [ax] using hx) rfl
   ·exact fun hf => hf.elim
  ·exact fun _ => aH.plain nil rfl
  ·exact fun hf => hf.elim
 ·revert hside
  have er : ∀ {op : BinOp} {p : Prop} {b : Bool} {rd : List Nat}, (dj op p b rd).side -> aH K κ (dj op p b rd) := fun {op p b rd} hh => by
   cases op <;> first | exact hh.elim | exact aH.plain nil rfl
  unfold bE
  split
  ·exact er
  ·exact er
  ·exact er
  ·exact er
  ·exact er
  ·exact er
  ·exact er
  ·exact er
  ·split
   ·exact er
   ·exact fun hf => hf.elim
  ·split
   ·exact er
   ·exact fun hf => hf.elim
  unfold aP
  split
  ·split <;> exact fun _ => aH.plain nil rfl
  ·exact fun _ => aH.plain nil rfl
  ·split <;> first | exact fun _ => aH.plain nil rfl | exact fun hf => hf.elim
  ·split <;> first | exact fun _ => aH.plain nil rfl | exact fun hf => hf.elim
  ·exact fun hf => hf.elim
 ·revert hside
  unfold qi
  split
  ·split <;> first | exact fun _ => aH.plain nil rfl | exact fun hf => hf.elim
  ·split <;> first | exact fun _ => aH.plain nil rfl | exact fun hf => hf.elim
  ·exact fun hf => hf.elim
 ·revert hside
  unfold fy
  split
  ·rename_i k
   unfold WM
   split
   ·unfold WL
    split
    ·exact fun _ => aH.plain nil rfl
    ·exact fun hf => hf.elim
   ·exact fun hf => hf.elim
  unfold dR
  split
  ·split <;> first | exact fun _ => aH.plain nil rfl | exact fun hf => hf.elim
  ·split <;> first | exact fun _ => aH.plain nil rfl | exact fun hf => hf.elim
  ·exact fun hf => hf.elim
 ·revert hside
  unfold lL
  split
  ·exact fun _ => aH.plain nil rfl
  ·split
   ·exact fun _ => aH.plain nil rfl
   ·exact fun _ => aH.plain (by simpa [ax, R.fI, SV.keys] using hx) rfl
  ·exact fun hf => hf.elim
 ·rename_i first cap args
  refine aH.plain (fun k hk => hx k ?_) rfl
  simp only [R.ok, SV.keys, List.mem_append] at hk
  rcases hk with hk | hk
  ·exact lN hk
  ·exact lE hk
 ·revert hside
  unfold ka
  split
  ·split
   ·split
    ·intro _
     refine ⟨fun k hk => .inr ?_, fun p hp => ?_⟩
     ·simp [SV.keys] at hk; subst hk; exact aW κ
     ·simp only [List.mem_singleton] at hp; subst hp
      refine ⟨.inr (aW κ), fun e he k hk => ?_⟩
      obtain rfl := Option.some.inj he
      rw [bm.keys, aO] at hk
      cases hk
    ·exact fun hf => hf.elim
   ·exact fun hf => hf.elim
  ·exact fun hf => hf.elim
 ·revert hside
  unfold dZ
  split
  ·rename_i mx args k r
   cases hmx : mx.isSome with
   | true => exact fun hf => hf.elim
   | false =>
   unfold TB Tm
   simp only
   split
   ·unfold yd
    split
    ·rename_i e e' s n vs hu hkk
     unfold rn
     split
     ·intro _
      refine ⟨fun j hj => .inr (by simp only [SV.keys, List.mem_singleton] at hj; rw [hj]; exact aW κ), fun q hq => ?_⟩
      simp only [List.mem_cons, List.not_mem_nil, or_false] at hq
      rcases hq with rfl | rfl
      ·exact ⟨.inl (hK k _ hkk).1, fun e he => by cases he⟩
      ·refine ⟨.inr (aW κ), fun e he j hj => .inl ?_⟩
       obtain rfl := Option.some.inj he
       obtain ⟨y, hy, hiy⟩ := bS.1 hj
       exact (hK k _ hkk).2 j (bS.2 ⟨y, List.mem_of_mem_take hy, hiy⟩)
     ·exact fun hf => hf.elim
    ·exact fun hf => hf.elim
   ·exact fun hf => hf.elim
  unfold cQ
  split
  ·split
   ·exact fun _ => aH.plain nil rfl
   ·exact fun hf => hf.elim
  ·split
   ·unfold kz
    split
    ·split
     ·exact fun _ => aH.plain nil rfl
     ·exact fun hf => hf.elim
    ·exact fun hf => hf.elim
   ·exact fun hf => hf.elim
  ·exact fun hf => hf.elim
 ·revert hside
  unfold cf
  split
  ·split
   ·exact fun _ => aH.plain (fun k hk => hx k (by simpa [ax, SV.keys] using hk)) rfl
   ·exact fun hf => hf.elim
  ·split
   ·exact fun _ => aH.plain nil rfl
   ·exact fun hf => hf.elim
  ·exact fun hf => hf.elim
 ·revert hside
  unfold fD
  split
  ·split
   ·exact fun _ => aH.plain (fun k hk => hx k (by simpa [ax, SV.keys] using kg hk)) (cM _ _ _ _).1
   ·exact fun hf => hf.elim
  ·split
   ·exact fun _ => aH.plain (fun k hk => by have := kg hk; rw [aO] at this; cases this) (cM _ _ _ _).1
   ·exact fun hf => hf.elim
  ·exact fun hf => hf.elim
 ·revert hside
  unfold bo
  split
  ·split
   ·exact fun _ => aH.plain (fun k hk => hx k (by simpa [ax, SV.keys] using hk)) rfl
   ·exact fun hf => hf.elim
  ·split
   ·split
    ·exact fun _ => aH.plain (fun k hk => hx k (by simp [SV.keys] at hk; simp [ax, SV.keys, hk])) rfl
    ·exact fun hf => hf.elim
   ·exact fun hf => hf.elim
  ·split
   ·split
    ·exact fun _ => aH.plain nil rfl
    ·exact fun hf => hf.elim
   ·exact fun hf => hf.elim
  ·split
   ·split
    ·exact fun _ => aH.plain nil rfl
    ·exact fun hf => hf.elim
   ·exact fun hf => hf.elim
  ·exact fun hf => hf.elim
 ·revert hside
  unfold eF
  split
  ·exact fun _ => aH.plain nil rfl
  ·split
   ·split
    ·exact fun _ => aH.plain (fun k hk => hx k (by simpa [ax, SV.keys] using kg hk)) (cM _ _ _ _).1
    ·exact fun hf => hf.elim
   ·exact fun hf => hf.elim
  ·split
   ·split
    ·exact fun _ => aH.plain (fun k hk => by have := kg hk; rw [aO] at this; cases this) (cM _ _ _ _).1
    ·exact fun hf => hf.elim
   ·exact fun hf => hf.elim
  ·exact fun hf => hf.elim
 ·revert hside
  unfold dQ
  split
  ·exact fun _ => aH.plain (fun k hk => hx k (by simpa [ax, SV.keys] using qX hk)) rfl
  ·exact fun _ => aH.plain nil rfl
  ·exact fun hf => hf.elim
 ·revert hside
  unfold ed
  split
  ·rename_i t x
   split
   ·split
    ·intro _
     refine aH.plain (fun k hk => hx k ?_) rfl
     simp only [R.ok] at hk
     split at hk <;> simp [SV.keys, ax] at hk ⊢
     exact hk
    ·exact fun _ => aH.plain (fun k hk => hx k (by simpa [ax, SV.keys, R.fI] using hk)) rfl
   ·exact fun hf => hf.elim
  ·split
   ·split
    ·intro _
     refine aH.plain (fun k hk => ?_) rfl
     simp only [R.ok] at hk
     split at hk <;> simp [SV.keys, ax] at hk
    ·exact fun _ => aH.plain nil rfl
   ·exact fun hf => hf.elim
  ·split
   ·split
    ·exact fun _ => aH.plain (fun k hk => by simp [R.ok, SV.keys, ax] at hk) rfl
    ·exact fun hf => hf.elim
   ·exact fun hf => hf.elim
  ·exact fun hf => hf.elim
 ·revert hside
  unfold jS
  split
  ·exact fun _ => aH.plain nil rfl
  ·exact fun hf => hf.elim
 ·split at hside
  ·revert hside
   unfold gR
   split
   ·exact fun _ => aH.plain nil rfl
   ·exact fun _ => aH.plain nil rfl
   ·split
    ·exact fun _ => aH.plain nil rfl
    ·exact fun hf => hf.elim
   ·exact fun hf => hf.elim
  ·exact hside.elim
 ·revert hside
  unfold et
  split
  ·rename_i k j
   split
   ·rename_i hk hj
    split
    ·intro _
     refine ⟨fun q hq => .inr ?_, fun p hp => ?_⟩
     ·simp [SV.keys] at hq; subst hq; exact aW κ
     ·simp at hp
      rcases hp with rfl | rfl
      ·exact ⟨.inl (hK _ _ hk).1, fun e he => by cases he⟩
      ·refine ⟨.inr (aW κ), fun e he q hq => .inl ?_⟩
       simp at he; subst he
       simp only [bm.keys, aR, List.mem_append] at hq
       rcases hq with hq | hq
       ·exact (hK _ _ hk).2 q hq
       ·exact (hK _ _ hj).2 q hq
    ·exact fun hf => hf.elim
   ·exact fun hf => hf.elim
  ·split
   ·rename_i hj
    split
    ·split
     ·intro _
      refine ⟨fun q hq => .inr ?_, fun p hp => ?_⟩
      ·simp [SV.keys] at hq; subst hq; exact aW κ
      ·simp at hp
       subst hp
       refine ⟨.inr (aW κ), fun e he q hq => .inl ?_⟩
       simp at he; subst he
       exact (hK _ _ hj).2 q hq
     ·exact fun hf => hf.elim
    ·exact fun hf => hf.elim
   ·exact fun hf => hf.elim
  ·rename_i k ao m c
   split
   ·rename_i hk
    cases hm0 : (m == 0) with
    | true =>
     simp only [cond_true]
     exact fun _ => aH.plain (fun q hq => hx q (by simp [SV.keys] at hq; simp [ax, SV.keys, hq])) rfl
    | false =>
     simp only [cond_false]
     split
     ·intro _
      refine ⟨fun q hq => .inr ?_, fun p hp => ?_⟩
      ·simp [SV.keys] at hq; subst hq; exact aW κ
      ·simp at hp
       rcases hp with rfl | rfl
       ·exact ⟨.inl (hK _ _ hk).1, fun e he => by cases he⟩
       ·refine ⟨.inr (aW κ), fun e he q hq => .inl ?_⟩
        simp at he; subst he
        simp only [bm.keys, aR, List.mem_append, km] at hq
        rcases hq with hq | hq
        ·exact (hK _ _ hk).2 q hq
        ·cases hq
     ·exact fun hf => hf.elim
   ·exact fun hf => hf.elim
  ·split
   ·rename_i hk
    split
    ·intro _
     refine ⟨fun q hq => .inr ?_, fun p hp => ?_⟩
     ·simp [SV.keys] at hq; subst hq; exact aW κ
     ·simp at hp
      rcases hp with rfl | rfl
      ·exact ⟨.inl (hK _ _ hk).1, fun e he => by cases he⟩
      ·refine ⟨.inr (aW κ), fun e he q hq => .inl ?_⟩
       simp at he; subst he
       simp only [bm.keys, aR, List.mem_append, aO] at hq
       rcases hq with hq | hq
       ·exact (hK _ _ hk).2 q hq
       ·cases hq
    ·exact fun hf => hf.elim
   ·exact fun hf => hf.elim
  ·exact fun hf => hf.elim
 ·revert hside
  unfold oK
  split
  ·split <;> first | exact fun _ => aH.plain nil rfl | exact fun hf => hf.elim
  ·exact fun hf => hf.elim
 ·revert hside
  unfold mU
  split
  ·split <;> first | exact fun _ => aH.plain nil rfl | exact fun hf => hf.elim
  ·exact fun hf => hf.elim
 ·revert hside
  unfold iX
  split
  ·refine fun hs => hF _ _ (fun k hk => hx k ?_) hs
   simp only [aR, List.mem_append] at hk
   simp only [ax, SV.keys, List.mem_append]
   rcases hk with (hk | hk) | hk
   ·exact .inl (.inl hk)
   ·exact .inr hk
   ·exact .inl (.inr hk)
  ·refine fun hs => hF _ _ (fun k hk => hx k ?_) hs
   simp only [aR, List.mem_append, aO] at hk
   simp only [ax, SV.keys, List.mem_append]
   rcases hk with (hk | hk) | hk
   ·cases hk
   ·exact .inr hk
   ·cases hk
  ·exact fun hf => hf.elim
 ·revert hside
  unfold gS
  split
  ·split
   ·exact fun hs => hF _ _ (by simpa [ax, SV.keys] using hx) hs
   ·exact fun hf => hf.elim
  ·split
   ·exact fun hs => hF _ _ (by simpa [ax, SV.keys] using hx) hs
   ·exact fun hf => hf.elim
  ·exact fun hf => hf.elim
 ·exact hside.elim
theorem SB (op : Op) (args : List SV) (h' : Nat -> Option bm) (hside : (dB Γ W bs κ h op args).side) (hr : ∀ k ∈ (dB Γ W bs κ h op args).reads, h' k = h k) :
  dB Γ W bs κ h' op args = dB Γ W bs κ h op args := by
 have hF : ∀ f as_, (lS Γ W bs κ h f as_).side -> (∀ k ∈ (lS Γ W bs κ h f as_).reads, h' k = h k) -> lS Γ W bs κ h' f as_ = lS Γ W bs κ h f as_ := fun f as_ => by
  unfold lS
  split
  ·rename_i s _; exact fun hs hr => s.loc W bs κ h h' as_ hs hr
  ·exact fun hf => hf.elim
 revert hside hr
 unfold dB
 split
 case h_7 =>
  unfold di
  split
  ·rename_i k o
   split
   ·rename_i h1 h2 h3
    intro _ hr
    have := hr k (by simp)
    rw [this, h1, h2, h3]
   ·rename_i h1 h2 h3
    intro _ hr
    have := hr k (by simp)
    rw [this, h1, h2, h3]
   ·exact fun hf => hf.elim
  ·exact fun _ _ => rfl
  ·exact fun hf => hf.elim
 case h_16 _ T _ lo hi mx =>
  unfold dZ
  split
  ·rename_i k r
   cases mx.isSome with
   | true => exact fun hf => hf.elim
   | false =>
   unfold TB Tm
   simp only
   split
   ·rename_i ik b
    cases hk : h k with
    | none =>
     cases P.underlying T with
     | none => exact fun hf => hf.elim
     | some d => cases d <;> exact fun hf => hf.elim
    | some e =>
     intro hs hr
     have : h' k = h k := by
      refine hr k ?_
      revert hs
      unfold yd
      split
      ·unfold rn
       split
       ·exact fun _ => by simp
       ·exact fun hf => hf.elim
      ·exact fun hf => hf.elim
     rw [this, hk]
   ·exact fun hf => hf.elim
  ·exact fun _ _ => rfl
 case h_12 =>
  unfold fy
  split
  ·rename_i k
   cases hk : h k with
   | none => exact fun hf => hf.elim
   | some e =>
    cases hk' : (some e : Option bm) with
    | none => cases hk'
    | some e' =>
     obtain rfl := Option.some.inj hk'
     intro hs hr
     have : h' k = h k := by
      refine hr k ?_
      revert hs
      unfold WM
      split
      ·unfold WL
       split
       ·exact fun _ => by simp
       ·exact fun hf => hf.elim
      ·exact fun hf => hf.elim
     rw [this, hk]
  ·exact fun _ _ => rfl
 case h_10 op T X Y T2 args =>
  unfold bE
  have rd : ∀ {op : BinOp} {p : Prop} {b : Bool} {k : Nat}, (dj op p b [k]).side -> (dj op p b [k]).reads = [k] := fun {op p b k} hh => by
   cases op <;> first | exact hh.elim | rfl
  split
  ·exact fun _ _ => rfl
  ·exact fun _ _ => rfl
  ·exact fun _ _ => rfl
  ·exact fun _ _ => rfl
  ·exact fun _ _ => rfl
  ·exact fun _ _ => rfl
  ·exact fun _ _ => rfl
  ·exact fun _ _ => rfl
  ·split
   ·rename_i h3
    intro hs hr
    rw [rd hs] at hr
    rw [hr _ (List.mem_singleton.2 rfl), h3]
   ·exact fun hf => hf.elim
  ·split
   ·rename_i h3
    intro hs hr
    rw [rd hs] at hr
    rw [hr _ (List.mem_singleton.2 rfl), h3]
   ·exact fun hf => hf.elim
  ·exact fun _ _ => rfl
 case h_8 =>
  unfold gf
  split
  ·rename_i k o x
   split
   ·rename_i h1 h2
    intro _ hr
    have := hr k (by simp)
    rw [this, h1, h2]
   ·exact fun hf => hf.elim
  ·exact fun hf => hf.elim
 case h_9 =>
  unfold da
  split
  ·rename_i k o
   split
   ·rename_i h1
    intro _ hr
    have := hr k (by simp)
    rw [this, h1]
   ·exact fun hf => hf.elim
  ·exact fun _ _ => rfl
  ·exact fun hf => hf.elim
 case h_17 =>
  unfold cf
  split
  ·rename_i k o
   split
   ·rename_i h1 h2
    intro _ hr
    have := hr k (by simp)
    rw [this, h1, h2]
   ·exact fun hf => hf.elim
  ·exact fun _ _ => rfl
  ·exact fun hf => hf.elim
 case h_19 =>
  unfold bo
  split
  ·rename_i k _ _
   split
   ·rename_i h1 h2
    intro _ hr
    have := hr k (by simp)
    rw [this, h1, h2]
   ·exact fun hf => hf.elim
  ·rename_i k _ _ _
   split
   ·rename_i h1 h2
    split
    ·rename_i h3
     intro _ hr
     have := hr k (by simp)
     rw [this, h1, h2]
     simp only [h3]
    ·exact fun hf => hf.elim
   ·exact fun hf => hf.elim
  ·exact fun _ _ => rfl
  ·exact fun _ _ => rfl
  ·exact fun hf => hf.elim
 case h_24 =>
  split
  ·unfold gR
   split
   ·exact fun _ _ => rfl
   ·exact fun _ _ => rfl
   ·rename_i k
    split
    ·rename_i h1
     intro _ hr
     have := hr k (by simp)
     rw [this, h1]
    ·exact fun hf => hf.elim
   ·exact fun hf => hf.elim
  ·exact fun hf => hf.elim
 case h_25 =>
  unfold et
  split
  ·rename_i k j
   split
   ·rename_i h1 h2 h3
    split
    ·rename_i h4 h5
     intro _ hr
     have e1 := hr k (by simp)
     have e2 := hr j (by simp)
     rw [e1, e2]
     simp only [h1, h2, h3, h4, h5]
    ·exact fun hf => hf.elim
   ·exact fun hf => hf.elim
  ·rename_i j
   split
   ·rename_i h1 h2
    split
    ·rename_i h3
     split
     ·rename_i h4 h5
      intro _ hr
      have e2 := hr j (by simp)
      rw [e2]
      simp only [h1, h2, h3, h4, h5]
     ·exact fun hf => hf.elim
    ·exact fun hf => hf.elim
   ·exact fun hf => hf.elim
  ·rename_i k ao m _
   split
   ·rename_i h1 h2
    cases hm0 : (m == 0) with
    | true =>
     intro _ hr
     have e1 := hr k (by simp)
     rw [e1]
     simp only [h1, h2, cond_true]
    | false =>
     simp only [cond_false]
     split
     ·rename_i h4 h5
      intro _ hr
      have e1 := hr k (by simp)
      rw [e1]
      simp only [h1, h2, h4, h5, cond_false]
     ·exact fun hf => hf.elim
   ·exact fun hf => hf.elim
  ·rename_i k _
   split
   ·rename_i h1 h2
    split
    ·rename_i h4 h5
     intro _ hr
     have e1 := hr k (by simp)
     rw [e1]
     simp only [h1, h2, h4, h5]
    ·exact fun hf => hf.elim
   ·exact fun hf => hf.elim
  ·exact fun hf => hf.elim
 case h_28 =>
  unfold iX
  split
  ·exact hF _ _
  ·exact hF _ _
  ·exact fun hf => hf.elim
 case h_29 =>
  unfold gS
  split
  ·split
   ·exact hF _ _
   ·exact fun hf => hf.elim
  ·split
   ·exact hF _ _
   ·exact fun hf => hf.elim
  ·exact fun hf => hf.elim
 all_goals exact fun _ _ => rfl
end
end
section
open Go.RowKit
abbrev Fr := Nat -> FV
abbrev Hp := Nat -> Option bm
def lq (φ : Fr) (w : Bool) : Operand -> Prop × SV
 | .tmp t => match φ t with
  | .is x => (True, x)
  | .cnd b x => (w = true -> b = true, x)
  | .any => (w = false, .v undef)
 | .const v => (True, .v v)
 | .global g => (True, .v (.pointer (some ⟨g, 0, none⟩)))
 | .func f => (True, .v (.func (.func f) #[] #[]))
def mh (φ : Fr) (w : Bool) : List Operand -> Prop × List SV
 | [] => (True, [])
 | o :: r => ((lq φ w o).1 /\ (mh φ w r).1, (lq φ w o).2 :: (mh φ w r).2)
def gI (φ : Fr) (ops : Array Oper) : Option (Nat × Bool) -> Prop × Bool
 | none => (True, true)
 | some (j, want) => match (ops[j]?).bind (·.dst) with
  | some d => match φ d with
   | .is (.v (.bool b)) => (True, b == want)
   | .cnd c (.v (.bool b)) => (True, c && (b == want))
   | _ => (False, false)
  | none => (False, false)
def pZ (unguarded : Bool) (w : Bool) (x : SV) : FV := match unguarded, w with
 | true, _ => .is x
 | false, w => .cnd w x
def rL (c : Bool) : SV -> SV -> SV
 | .v (.bool a), .v (.bool b) => .v (.bool (bif c then a else b))
 | .v a, .v b => .v (bif c then a else b)
 | x, y => bif c then x else y
structure S where
 side : Prop
 fv : FV
 bg : List (Nat × Option bm)
 pan : Option (List PanicEntry)
 pupd : List Nat
 reads : List Nat
 uk : List Nat
def b8 {α : Type} (u : List (Nat × α)) : List Nat := u.map (·.1)
def step {P : Program} (Γ : Env P) (W : World) (bs : List Nat) (nt : Nat) (ops : Array Oper) (κ : Nat) (φ : Fr) (h : Hp) (o : Oper) : S :=
 let g := gI φ ops o.guard
 match o.op with
 | .pick c a b =>
  let ec := lq φ g.2 c
  match ec.2 with
  | .v (.bool cb) =>
   let ea := lq φ (g.2 && cb) a
   let eb := lq φ (g.2 && !cb) b
   { side := g.1 /\ ec.1 /\ (cb = true -> ea.1) /\ (cb = false -> eb.1) /\ (∀ d, o.dst = some d -> d < nt), fv := pZ o.guard.isNone g.2 (rL cb ea.2 eb.2), bg := [], pan := none, pupd := [], reads := [], uk := [] }
  | _ => { side := False, fv := .any, bg := [], pan := none, pupd := [], reads := [], uk := [] }
 | op =>
  let e := mh φ g.2 op.operands.toList
  let r := dB Γ W bs κ h op e.2
  { side := g.1 /\ e.1 /\ (g.2 = true -> r.side) /\ (∀ d, o.dst = some d -> d < nt), fv := pZ o.guard.isNone g.2 r.val, bg := bif g.2 then r.bg else [], pan := bif g.2 then r.pan else none, pupd := r.pupd, reads := r.reads, uk := b8 r.bg }
def nX (φ : Fr) (d : Option Nat) (x : FV) : Fr := match d with
 | some d => bg φ d x
 | none => φ
section
variable {P : Program} {W : World} {bs : List Nat} {κ : Nat} {E : Nat -> Value} {F : Nat -> List Nat} {h : Hp} {w : World} {K : Nat -> Prop} (Γ : Env P)
def gm (E : Nat -> Value) (φ : Fr) (a : Act) : Prop := ∀ t, fits E (φ t) (a.tmps.getD t undef)
theorem pb {φ : Fr} {a : Act} {x : Operand} {g : Bool} (hf : gm E φ a) (hg : g = true) (h1 : (lq φ g x).1) : a.eval x = den E (lq φ g x).2 := by
 subst hg
 cases x with
 | tmp t =>
  have := hf t
  simp only [lq] at h1 ⊢
  simp only [Act.eval]
  revert h1 this
  cases φ t with
  | is y => intro h1 _; exact h1
  | cnd b y => intro h1 h2; simp only [fits, h2 trivial, cond_true] at h1; exact h1
  | any => intro _ hf; cases hf
 | const v => rfl
 | global g => rfl
 | func f => simp [lq, Act.eval, den, an]
theorem Jq {φ : Fr} {a : Act} {g : Bool} (hf : gm E φ a) (hg : g = true) : ∀ {l : List Operand}, (mh φ g l).1 -> l.map a.eval = an E (mh φ g l).2
 | [], _ => rfl
 | x :: r, h => by simp only [mh] at h ⊢; simp only [List.map_cons, an, pb hf hg h.1, Jq hf hg h.2]
theorem AU {φ : Fr} {a : Act} {ops : Array Oper} {o : Oper} (hf : gm E φ a) (h1 : (gI φ ops o.guard).1) : Region.wanted o (yielded ops a.tmps) = (gI φ ops o.guard).2 := by
 unfold Region.wanted
 cases hg : o.guard with
 | none => rfl
 | some p =>
  obtain ⟨j, want⟩ := p
  rw [hg] at h1
  simp only [gI] at h1 ⊢
  unfold yielded
  revert h1
  cases hd : (ops[j]?).bind (·.dst) with
  | none => exact fun hf => hf.elim
  | some d =>
   simp only [Option.bind_some]
   have hfd := hf d
   rw [Array.getD_eq_getD_getElem?] at hfd
   split
   ·rename_i b hb
    rw [hb] at hfd
    simp only [fits, den] at hfd
    intro _
    cases ht : a.tmps[d]? with
    | none => rw [ht] at hfd; cases hfd
    | some v => rw [ht] at hfd; simp only [Option.getD_some] at hfd; subst hfd; cases b <;> cases want <;> rfl
   ·rename_i c b hb
    rw [hb] at hfd
    simp only [fits, den] at hfd
    intro _
    cases c with
    | true =>
     simp only [cond_true] at hfd
     cases ht : a.tmps[d]? with
     | none => rw [ht] at hfd; cases hfd
     | some v => rw [ht] at hfd; simp only [Option.getD_some] at hfd; subst hfd; cases b <;> cases want <;> rfl
    | false =>
     simp only [cond_false] at hfd
     cases ht : a.tmps[d]? with
     | none => rfl
     | some v => rw [ht] at hfd; simp only [Option.getD_some] at hfd; subst hfd; rfl
   ·exact fun hf => hf.elim
theorem gm.put {φ : Fr} {a : Act} {d : Option Nat} {x : FV} {v : Value} (hf : gm E φ a) (hd : ∀ i, d = some i -> i < a.tmps.size) (hx : fits E x v) : gm E (nX φ d x) (a.put d v) := by
 cases d with
 | none => exact hf
 | some i =>
  intro t
  have hi := hd i rfl
  simp only [nX, Act.put]
  by_cases ht : t = i
  ·subst ht
   rw [ah, Array.getD_eq_getD_getElem?, Array.getElem?_setIfInBounds_self_of_lt hi]
   exact hx
  ·rw [ak _ _ ht, Array.getD_eq_getD_getElem?, Array.getElem?_setIfInBounds_ne (Ne.symm ht), <- Array.getD_eq_getD_getElem?]
   exact hf t
theorem gm.congr {E' : Nat -> Value} {φ : Fr} {a : Act} (hf : gm E φ a) (hk : ∀ t, ∀ k ∈ (φ t).keys, E k = E' k) : gm E' φ a := fun t => EA (hk t) (hf t)
theorem nS {ug g : Bool} {x : SV} {v : Value} (hu : ug = true -> g = true) (hv : v = bif g then den E x else undef) : fits E (pZ ug g x) v := by
 cases ug <;> cases g <;> simp [pZ, fits] at * <;> exact hv
theorem rz {ug g : Bool} {x : SV} {k : Nat} (hu : ug = true -> g = true) (hk : k ∈ (pZ ug g x).keys) : g = true /\ k ∈ x.keys := by
 cases ug <;> cases g <;> simp [pZ, FV.keys] at * <;> exact hk
def kj (K : Nat -> Prop) (φ : Fr) : Prop := ∀ t, ∀ k ∈ (φ t).keys, K k
theorem tt {φ : Fr} {g : Bool} {x : Operand} {k : Nat} (hF : kj K φ) (hg : g = true) (h1 : (lq φ g x).1) (hk : k ∈ (lq φ g x).2.keys) : K k := by
 subst hg
 cases x with
 | tmp t =>
  have := hF t k
  simp only [lq] at hk h1
  revert hk this h1
  cases φ t with
  | is y => exact fun th hk _ => th hk
  | cnd b y => exact fun th hk hb => th (by simp only [FV.keys, hb trivial]; exact hk)
  | any => exact fun _ hk _ => by cases hk
 | const v => cases hk
 | global g => cases hk
 | func f => simp [lq, SV.keys, ax] at hk
theorem vB {φ : Fr} {g : Bool} {k : Nat} (hF : kj K φ) (hg : g = true) : ∀ {l : List Operand}, (mh φ g l).1 -> k ∈ ax (mh φ g l).2 -> K k
 | [], _, hk => by cases hk
 | x :: r, h1, hk => by
  simp only [mh, ax, List.mem_append] at hk h1
  rcases hk with hk | hk
  ·exact tt hF hg h1.1 hk
  ·exact vB hF hg h1.2 hk
theorem KR (E : Nat -> Value) (c : Bool) (x y : SV) : den E (rL c x y) = bif c then den E x else den E y := by
 unfold rL
 split <;> cases c <;> rfl
theorem FH {c : Bool} {x y : SV} {k : Nat} (hk : k ∈ (rL c x y).keys) : (c = true /\ k ∈ x.keys) \/ (c = false /\ k ∈ y.keys) := by
 unfold rL at hk
 split at hk
 ·cases hk
 ·cases hk
 ·cases c
  ·exact .inr ⟨rfl, hk⟩
  ·exact .inl ⟨rfl, hk⟩
theorem TZ {nt : Nat} {ops : Array Oper} {φ : Fr} {o : Oper} {a : Act} {i : Nat} (hi : ops[i]? = some o) (hF : gm E φ a) (hs : al W bs E F h w) (hnt : a.tmps.size = nt) (hKF : kj K φ) (hK : bI K h) (hk : ∀ k, k / 8 = κ -> ¬ K k)
  (hside : (step Γ W bs nt ops κ φ h o).side) {Q : Exit -> Act -> World -> Prop} {next : Act -> World -> Prop}
  (hnext : (step Γ W bs nt ops κ φ h o).pan = none -> ∀ a' w' E' F', (∀ k, k / 8 ≠ κ -> E' k = E k) -> gm E' (nX φ o.dst (step Γ W bs nt ops κ φ h o).fv) a' -> al W bs E' F' (aZ h (step Γ W bs nt ops κ φ h o).bg) w' -> a'.tmps.size = nt -> a'.defers = a.defers -> next a' w')
  (hpan : ∀ c, (step Γ W bs nt ops κ φ h o).pan = some c -> ∀ w' F', al W bs E F' (dropKeys h (step Γ W bs nt ops κ φ h o).pupd) w' -> Q (.panic c) a w') :
  wpOp P ops Q i next a w := by
 have putsize : ∀ v, (a.put o.dst v).tmps.size = a.tmps.size /\ (a.put o.dst v).defers = a.defers := fun v => by cases o.dst <;> simp [Act.put]
 unfold wpOp
 simp only [hi]
 by_cases hpk : ∃ c x y, o.op = .pick c x y
 ·obtain ⟨c, x, y, hop⟩ := hpk
  simp only [step, hop] at hside hnext hpan
  revert hside hnext hpan
  split
  ·rename_i cb hcb
   rintro ⟨hg, hc, ha, hb, hd⟩ hnext hpan
   have hwant := AU hF hg
   rw [hwant]
   cases hgv : (gI φ ops o.guard).2 with
   | false =>
    simp only [Bool.false_eq_true, if_false]
    refine hnext rfl (a.put o.dst undef) w E F (fun _ _ => rfl) (hF.put (fun i hi => hnt ▸ hd i hi) (nS (fun h => ?_) (by rw [hgv]; rfl))) hs (by rw [(putsize _).1, hnt]) (putsize _).2
    cases hgd : o.guard with
    | none => rw [hgd] at hgv; cases hgv
    | some p => rw [hgd] at h; cases h
   | true =>
    simp only [if_true]
    left
    refine vy ?_
    rw [hgv] at hc hcb
    have hcv : a.eval c = .bool cb := by rw [pb hF rfl hc, hcb]; rfl
    have hval : (execOp a.eval o).run P w = .ok (.value (if cb then a.eval x else a.eval y)) w := by
     simp [execOp, hop, hcv, asBool]
    rw [hval]
    simp only [mb]
    refine hnext rfl _ w E F (fun _ _ => rfl) (hF.put (fun i hi => hnt ▸ hd i hi) (nS (fun _ => by rw [hgv]) ?_)) hs (by rw [(putsize _).1, hnt]) (putsize _).2
    rw [hgv, cond_true, KR]
    cases cb with
    | true => rw [hgv] at ha; simp only [if_true, cond_true, Bool.and_self]; exact pb hF rfl (ha rfl)
    | false => rw [hgv] at hb; simp only [Bool.false_eq_true, if_false, cond_false, Bool.not_false, Bool.and_self]; exact pb hF rfl (hb rfl)
  ·exact fun hf => hf.elim
 ·have hst : step Γ W bs nt ops κ φ h o = { side := (gI φ ops o.guard).1 /\ (mh φ (gI φ ops o.guard).2 o.op.operands.toList).1 /\ ((gI φ ops o.guard).2 = true -> (dB Γ W bs κ h o.op (mh φ (gI φ ops o.guard).2 o.op.operands.toList).2).side) /\ (∀ d, o.dst = some d -> d < nt), fv := pZ o.guard.isNone (gI φ ops o.guard).2 (dB Γ W bs κ h o.op (mh φ (gI φ ops o.guard).2 o.op.operands.toList).2).val, bg := bif (gI φ ops o.guard).2 then (dB Γ W bs κ h o.op (mh φ (gI φ ops o.guard).2 o.op.operands.toList).2).bg else [], pan := bif (gI φ ops o.guard).2 then (dB Γ W bs κ h o.op (mh φ (gI φ ops o.guard).2 o.op.operands.toList).2).pan else none, pupd := (dB Γ W bs κ h o.op (mh φ (gI φ ops o.guard).2 o.op.operands.toList).2).pupd, reads := (dB Γ W bs κ h o.op (mh φ (gI φ ops o.guard).2 o.op.operands.toList).2).reads, uk := b8 (dB Γ W bs κ h o.op (mh φ (gI φ ops o.guard).2 o.op.operands.toList).2).bg } := by
   unfold step
   split
   ·rename_i c x y hop
    exact absurd ⟨c, x, y, hop⟩ hpk
   ·rfl
  rw [hst] at hside hnext hpan
  obtain ⟨hg, he, hr, hd⟩ := hside
  have hwant := AU hF hg
  rw [hwant]
  cases hgv : (gI φ ops o.guard).2 with
  | false =>
   simp only [Bool.false_eq_true, if_false]
   simp only [hgv, cond_false] at hnext
   refine hnext trivial (a.put o.dst undef) w E F (fun _ _ => rfl) (hF.put (fun i hi => hnt ▸ hd i hi) (nS (fun h => ?_) rfl)) hs (by rw [(putsize _).1, hnt]) (putsize _).2
   cases hgd : o.guard with
   | none => rw [hgd] at hgv; cases hgv
   | some p => rw [hgd] at h; cases h
  | true =>
   simp only [if_true]
   left
   refine vy ?_
   simp only [hgv, cond_true] at hnext hpan hr he
   have hgood := PU Γ o a.eval _ (Jq hF rfl he) hs hK hk (fun k hk => vB hKF rfl he hk) (hr trivial)
   refine mb.mono hgood (fun v w' hv => ?_) (fun c w' hc => ?_)
   ·obtain ⟨hp, E', F', hE, hv, hs'⟩ := hv
    refine hnext hp (a.put o.dst v) w' E' F' hE ((hF.congr fun t k hkk => (hE k fun e => hk k e (hKF t k hkk)).symm).put (fun i hi => hnt ▸ hd i hi) (nS (fun _ => rfl) hv)) hs' (by rw [(putsize _).1, hnt]) (putsize _).2
   ·obtain ⟨hp, F', hs'⟩ := hc
    exact hpan c hp w' F' hs'
end
end
section
open Go.RowKit
theorem Rd {α : Type} (f : Nat -> α) {i j : Nat} (x y : α) (h : i ≠ j) : bg (bg f i x) j y = bg (bg f j y) i x := by
 funext k
 simp only [bg]
 split <;> split <;> first | rfl | (exfalso; omega)
theorem Cs {α : Type} (f : Nat -> α) {i : Nat} (x : α) : ∀ {v : List (Nat × α)}, i ∉ b8 v -> aZ (bg f i x) v = bg (aZ f v) i x
 | [], _ => rfl
 | (j, y) :: r, h => by
  simp only [b8, List.map_cons, List.mem_cons, not_or] at h
  simp only [aZ]
  rw [Rd f x y h.1]
  exact Cs (bg f j y) x (by simpa [b8] using h.2)
theorem yM {α : Type} (f : Nat -> α) : ∀ {u v : List (Nat × α)}, (∀ k ∈ b8 u, k ∉ b8 v) -> aZ (aZ f u) v = aZ (aZ f v) u
 | [], v, _ => rfl
 | (i, x) :: r, v, h => by
  simp only [aZ]
  rw [yM (bg f i x) (fun k hk => h k (by simp [b8] at hk ⊢; exact .inr hk)), Cs f x (h i (by simp [b8]))]
theorem mu {α : Type} (f : Nat -> α) {k : Nat} : ∀ {u : List (Nat × α)}, k ∉ b8 u -> aZ f u k = f k
 | [], _ => rfl
 | (i, x) :: r, h => by
  simp only [b8, List.map_cons, List.mem_cons, not_or] at h
  simp only [aZ]
  rw [mu _ (by simpa [b8] using h.2), ak _ _ h.1]
def bc {α : Type} : List (List (Nat × α)) -> Nat -> (Nat -> Bool) -> (Nat -> α) -> (Nat -> α)
 | [], _, _, f => f
 | u :: r, i, S, f => bc r (i + 1) S (if S i then aZ f u else f)
theorem kL {α : Type} {k : Nat} : ∀ {l : List (List (Nat × α))} {n : Nat} {S S' : Nat -> Bool} {f f' : Nat -> α}, f k = f' k -> (∀ i u, l[i]? = some u -> k ∈ b8 u -> S (n + i) = S' (n + i)) -> bc l n S f k = bc l n S' f' k
 | [], _, _, _, _, _, hf, _ => hf
 | u :: r, n, S, S', f, f', hf, h => by
  simp only [bc]
  refine kL (l := r) ?_ (fun i v hi hk => ?_)
  ·by_cases hk : k ∈ b8 u
   ·have h0 := h 0 u rfl hk
    simp only [Nat.add_zero] at h0
    rw [h0]
    split
    ·have : ∀ (g g' : Nat -> α) (u : List (Nat × α)), g k = g' k -> aZ g u k = aZ g' u k := by
      intro g g' u
      induction u generalizing g g' with
      | nil => exact fun h => h
      | cons p q ih => intro hg; simp only [aZ]; exact ih _ _ (by simp only [bg]; split <;> first | rfl | exact hg)
     exact this _ _ _ hf
    ·exact hf
   ·have e1 : (if S n then aZ f u else f) k = f k := by split; exact mu f hk; rfl
    have e2 : (if S' n then aZ f' u else f') k = f' k := by split; exact mu f' hk; rfl
    rw [e1, e2, hf]
  ·have := h (i + 1) v (by simpa using hi) hk
   rwa [show n + (i + 1) = n + 1 + i by omega] at this
theorem yb {α : Type} {u : List (Nat × α)} : ∀ {l : List (List (Nat × α))} {n : Nat} {S : Nat -> Bool} {f : Nat -> α}, (∀ i v, l[i]? = some v -> S (n + i) = true -> ∀ k ∈ b8 u, k ∉ b8 v) -> bc l n S (aZ f u) = aZ (bc l n S f) u
 | [], _, _, _, _ => rfl
 | v :: r, n, S, f, h => by
  simp only [bc]
  have e : (if S n then aZ (aZ f u) v else aZ f u) = aZ (if S n then aZ f v else f) u := by
   split
   ·rename_i hS; exact yM f (h 0 v rfl (by simpa using hS))
   ·rfl
  rw [e]
  exact yb (l := r) fun i v' hi hS => h (i + 1) v' (by simpa using hi) (by rwa [show n + (i + 1) = n + 1 + i by omega])
theorem Ch {α : Type} : ∀ {l : List (List (Nat × α))} {n : Nat} {S S' : Nat -> Bool} {f : Nat -> α}, (∀ i, n <= i -> S i = S' i) -> bc l n S f = bc l n S' f
 | [], _, _, _, _, _ => rfl
 | u :: r, n, S, S', f, h => by
  simp only [bc, h n (Nat.le_refl n)]
  exact Ch fun i hi => h i (by omega)
theorem oH {α : Type} {u : List (Nat × α)} {j : Nat} : ∀ {l : List (List (Nat × α))} {n : Nat} {S S' : Nat -> Bool} {f : Nat -> α}, n <= j -> l[j - n]? = some u -> S j = false -> S' j = true -> (∀ i, i ≠ j -> S' i = S i) ->
  (∀ i v, j < i -> l[i - n]? = some v -> S i = true -> ∀ k ∈ b8 u, k ∉ b8 v) -> bc l n S' f = aZ (bc l n S f) u
 | [], n, S, S', f, _, hu, _, _, _, _ => by simp at hu
 | v :: r, n, S, S', f, hn, hu, hS, hS', hne, h => by
  simp only [bc]
  by_cases hj : n = j
  ·subst hj
   simp only [Nat.sub_self, List.getElem?_cons_zero, Option.some.injEq] at hu
   subst hu
   simp only [hS', hS, if_true, Bool.false_eq_true, if_false]
   rw [Ch (S := S') (S' := S) fun i hi => hne i (by omega)]
   refine yb fun i v' hi hSi => h (n + 1 + i) v' (by omega) ?_ hSi
   rw [show n + 1 + i - n = i + 1 by omega]
   simpa using hi
  ·rw [hne n hj]
   refine oH (by omega) ?_ hS hS' hne fun i v' hji hi hSi => h i v' hji ?_ hSi
   ·rw [show j - n = (j - (n + 1)) + 1 by omega] at hu
    simpa using hu
   ·rw [show i - n = (i - (n + 1)) + 1 by omega]
    simpa using hi
inductive Reach (ops : Array Oper) : Nat -> Nat -> Prop where
 | edge {i j : Nat} {o : Oper} {e : Edge} (ho : ops[j]? = some o) (he : e ∈ o.after) (hb : Region.binds .any e = true) (hi : e.on = i) : Reach ops i j
 | trans {i m j : Nat} : Reach ops i m -> Reach ops m j -> Reach ops i j
theorem yj {α β : Type} (p : β -> Prop) (f : β -> α -> β) : ∀ (l : List α) (b : β), p b -> (∀ b a, a ∈ l -> p b -> p (f b a)) -> p (l.foldl f b)
 | [], b, hb, _ => hb
 | a :: l, b, hb, h => yj p f l (f b a) (h b a (by simp) hb) fun b' a' ha' => h b' a' (by simp [ha'])
theorem kG (ops : Array Oper) : ∀ (l : List Oper) (k : Nat) (acc : Array Nat), acc.size = k -> (∀ j, l[j]? = ops[k + j]?) -> (∀ i j, (acc.getD j 0).testBit i = true -> Reach ops i j) ->
  ∀ i j, ((l.foldl (fun acc (o : Oper) => acc.push (o.after.foldl (fun s e => if Region.binds .any e then s ||| 2 ^ e.on ||| acc.getD e.on 0 else s) 0)) acc).getD j 0).testBit i = true -> Reach ops i j
 | [], k, acc, _, _, hacc => hacc
 | o :: l, k, acc, hsz, hl, hacc => by
  simp only [List.foldl_cons]
  refine kG ops l (k + 1) _ (by simp [hsz]) (fun j => by have := hl (j + 1); simp only [List.getElem?_cons_succ] at this; rw [this]; congr 1; omega) ?_
  intro i j hij
  have ho : ops[k]? = some o := by simpa using (hl 0).symm
  by_cases hjk : j = k
  ·subst hjk
   rw [Array.getD_eq_getD_getElem?, <- hsz, Array.getElem?_push_size] at hij
   simp only [Option.getD_some] at hij
   rw [<- Array.foldl_toList] at hij
   have hinv := yj (fun s : Nat => ∀ i, s.testBit i = true -> Reach ops i j) (fun s e => if Region.binds .any e then s ||| 2 ^ e.on ||| acc.getD e.on 0 else s) o.after.toList 0 (by simp) (by
    intro s e he hs i hi
    split at hi
    ·rename_i hb
     simp only [Nat.testBit_or, Bool.or_eq_true] at hi
     have hedge : Reach ops e.on j := .edge ho (by simpa using he) hb rfl
     rcases hi with (hi | hi) | hi
     ·exact hs i hi
     ·rw [Nat.testBit_two_pow] at hi
      simp at hi
      subst hi
      exact hedge
     ·exact .trans (hacc i e.on hi) hedge
    ·exact hs i hi)
   exact hinv i hij
  ·rw [Array.getD_eq_getD_getElem?, Array.getElem?_push] at hij
   rw [if_neg (by omega), <- Array.getD_eq_getD_getElem?] at hij
   exact hacc i j hij
theorem oX (ops : Array Oper) (i j : Nat) (h : ((Region.before ops).getD j 0).testBit i = true) : Reach ops i j := by
 unfold Region.before at h
 rw [<- Array.foldl_toList] at h
 exact kG ops ops.toList 0 #[] rfl (fun j => by simp) (by simp) i j h
theorem qe {ops : Array Oper} {S : Nat -> Bool} (hS : ∀ j o, ops[j]? = some o -> S j = true -> ∀ e ∈ o.after, Region.binds .any e = true -> S e.on = true) {i j : Nat} (h : Reach ops i j) : S j = true -> S i = true := by
 induction h with
 | edge ho he hb hi => intro hj; subst hi; exact hS _ _ ho hj _ he hb
 | trans _ _ ih1 ih2 => exact fun hj => ih1 (ih2 hj)
end
section
open Go.RowKit
section
variable {P : Program} {W : World} {bs : List Nat} {nt : Nat} {ops : Array Oper} {K : Nat -> Prop} {κ : Nat} {φ φ' : Fr} {h h' : Hp} (Γ : Env P)
theorem dN {o : Oper} (hop : ∀ c x y, o.op ≠ .pick c x y) : step Γ W bs nt ops κ φ h o = { side := (gI φ ops o.guard).1 /\ (mh φ (gI φ ops o.guard).2 o.op.operands.toList).1 /\ ((gI φ ops o.guard).2 = true -> (dB Γ W bs κ h o.op (mh φ (gI φ ops o.guard).2 o.op.operands.toList).2).side) /\ (∀ d, o.dst = some d -> d < nt), fv := pZ o.guard.isNone (gI φ ops o.guard).2 (dB Γ W bs κ h o.op (mh φ (gI φ ops o.guard).2 o.op.operands.toList).2).val, bg := bif (gI φ ops o.guard).2 then (dB Γ W bs κ h o.op (mh φ (gI φ ops o.guard).2 o.op.operands.toList).2).bg else [], pan := bif (gI φ ops o.guard).2 then (dB Γ W bs κ h o.op (mh φ (gI φ ops o.guard).2 o.op.operands.toList).2).pan else none, pupd := (dB Γ W bs κ h o.op (mh φ (gI φ ops o.guard).2 o.op.operands.toList).2).pupd, reads := (dB Γ W bs κ h o.op (mh φ (gI φ ops o.guard).2 o.op.operands.toList).2).reads, uk := b8 (dB Γ W bs κ h o.op (mh φ (gI φ ops o.guard).2 o.op.operands.toList).2).bg } := by
 unfold step
 split
 ·rename_i c x y he
  exact absurd he (hop c x y)
 ·rfl
theorem guard_true {o : Oper} (hn : o.guard.isNone = true) : (gI φ ops o.guard).2 = true := by
 cases hg : o.guard with
 | none => rfl
 | some p => rw [hg] at hn; cases hn
theorem xA {o : Oper} (hs : (step Γ W bs nt ops κ φ h o).side) : (gI φ ops o.guard).1 /\ ∀ d, o.dst = some d -> d < nt := by
 by_cases hp : ∃ c x y, o.op = .pick c x y
 ·obtain ⟨c, x, y, hop⟩ := hp
  simp only [step, hop] at hs
  revert hs
  split
  ·exact fun hs => ⟨hs.1, hs.2.2.2.2⟩
  ·exact fun hs => hs.elim
 ·rw [dN Γ fun c x y e => hp ⟨c, x, y, e⟩] at hs
  exact ⟨hs.1, hs.2.2.2⟩
theorem Lp {o : Oper} (hKF : kj K φ) (hK : bI K h) (hs : (step Γ W bs nt ops κ φ h o).side) :
  (∀ k ∈ (step Γ W bs nt ops κ φ h o).fv.keys, K k \/ k / 8 = κ) /\ ∀ p ∈ (step Γ W bs nt ops κ φ h o).bg, (K p.1 \/ p.1 / 8 = κ) /\ ∀ e, p.2 = some e -> ∀ k ∈ e.keys, K k \/ k / 8 = κ := by
 by_cases hp : ∃ c x y, o.op = .pick c x y
 ·obtain ⟨c, x, y, hop⟩ := hp
  simp only [step, hop] at hs ⊢
  revert hs
  split
  ·rename_i cb hcb
   rintro ⟨hg, hc, ha, hb, hd⟩
   refine ⟨fun k hk => .inl ?_, by simp⟩
   obtain ⟨hgt, hk⟩ := rz (fun hn => guard_true hn) hk
   rw [hgt] at ha hb hk
   rcases FH hk with ⟨hcb', hk⟩ | ⟨hcb', hk⟩
   ·subst hcb'; exact tt hKF rfl (ha rfl) hk
   ·subst hcb'; exact tt hKF rfl (hb rfl) hk
  ·exact fun hs => hs.elim
 ·rw [dN Γ fun c x y e => hp ⟨c, x, y, e⟩] at hs ⊢
  obtain ⟨hg, he, hr, hd⟩ := hs
  simp only
  cases hgv : (gI φ ops o.guard).2 with
  | false =>
   refine ⟨fun k hk => ?_, by simp⟩
   have := rz (fun hn => by rw [guard_true hn] at hgv; cases hgv) hk
   cases this.1
  | true =>
   rw [hgv] at he hr
   have hok := OW Γ o.op _ hK (fun k hk => vB hKF rfl he hk) (hr rfl)
   refine ⟨fun k hk => hok.1 k (rz (fun _ => rfl) hk).2, fun p hp => hok.2 p (by simpa using hp)⟩
theorem xX {g : Bool} {x : Operand} (hx : ∀ t, x = .tmp t -> φ' t = φ t) : lq φ' g x = lq φ g x := by
 cases x with
 | tmp t => simp only [lq, hx t rfl]
 | const v => rfl
 | global g => rfl
 | func f => rfl
theorem yL {g : Bool} : ∀ {l : List Operand}, (∀ t, Operand.tmp t ∈ l -> φ' t = φ t) -> mh φ' g l = mh φ g l
 | [], _ => rfl
 | x :: r, hx => by
  have e1 : lq φ' g x = lq φ g x := xX fun t e => hx t (by simp [e])
  have e2 : mh φ' g r = mh φ g r := yL (l := r) fun t e => hx t (by simp [e])
  simp only [mh, e1, e2]
theorem Ly {g : Option (Nat × Bool)} (hx : ∀ j w d, g = some (j, w) -> (ops[j]?).bind (·.dst) = some d -> φ' d = φ d) : gI φ' ops g = gI φ ops g := by
 cases g with
 | none => rfl
 | some p =>
  simp only [gI]
  cases hd : (ops[p.1]?).bind (·.dst) with
  | none => rfl
  | some d => simp only [hx p.1 p.2 d rfl hd]
theorem EF {o : Oper} (hφ : ∀ t ∈ o.looksAt ops, φ' t = φ t) (hs : (step Γ W bs nt ops κ φ h o).side) (hh : ∀ k ∈ (step Γ W bs nt ops κ φ h o).reads, h' k = h k) :
  gI φ' ops o.guard = gI φ ops o.guard /\ ((gI φ ops o.guard).2 = true -> step Γ W bs nt ops κ φ' h' o = step Γ W bs nt ops κ φ h o) := by
 have e1 : gI φ' ops o.guard = gI φ ops o.guard := Ly fun j w d hg hd => hφ d (List.mem_append_right _ (by simp [hg, hd]))
 have e2 : ∀ g, mh φ' g o.op.operands.toList = mh φ g o.op.operands.toList := fun g => yL fun t ht => hφ t (List.mem_append_left _ (List.mem_filterMap.2 ⟨_, ht, rfl⟩))
 refine ⟨e1, fun hgt => ?_⟩
 by_cases hp : ∃ c x y, o.op = .pick c x y
 ·obtain ⟨c, x, y, hop⟩ := hp
  have e3 : ∀ g z, z ∈ [c, x, y] -> lq φ' g z = lq φ g z := fun g z hz => xX fun t ht => hφ t (List.mem_append_left _ (List.mem_filterMap.2 ⟨z, by rw [hop]; simpa [Op.operands] using hz, by rw [ht]⟩))
  simp only [step, hop, e1, e3 _ c (by simp), e3 _ x (by simp), e3 _ y (by simp)]
 ·have hn : ∀ c x y, o.op ≠ .pick c x y := fun c x y e => hp ⟨c, x, y, e⟩
  rw [dN Γ hn] at hs hh ⊢
  rw [dN Γ hn]
  simp only [e1, e2] at *
  rw [SB Γ o.op _ h' (hs.2.2.1 hgt) hh]
def p8 (o : Oper) (s : S) : List (Nat × FV) := match o.dst with
 | some d => [(d, s.fv)]
 | none => []
theorem nE (φ : Fr) (o : Oper) (s : S) : nX φ o.dst s.fv = aZ φ (p8 o s) := by
 unfold nX p8
 cases o.dst <;> rfl
theorem nI {o : Oper} {s : S} {t : Nat} : t ∈ b8 (p8 o s) ↔ o.dst = some t := by
 unfold p8
 cases o.dst <;> simp [b8, eq_comm]
def tr (Γ : Env P) (W : World) (bs : List Nat) (nt : Nat) (ops : Array Oper) : List Oper -> Nat -> Fr -> Hp -> List (Oper × S)
 | [], _, _, _ => []
 | o :: r, κ, φ, h => (o, step Γ W bs nt ops κ φ h o) :: tr Γ W bs nt ops r (κ + 1) (nX φ o.dst (step Γ W bs nt ops κ φ h o).fv) (aZ h (step Γ W bs nt ops κ φ h o).bg)
def qs (T : List (Oper × S)) : List (List (Nat × FV)) := T.map fun p => p8 p.1 p.2
def sI (T : List (Oper × S)) : List (List (Nat × Option bm)) := T.map fun p => p.2.bg
theorem mF {α : Type} : ∀ {l : List (List (Nat × α))} {n : Nat} {S : Nat -> Bool} {f : Nat -> α}, (∀ i, i < l.length -> S (n + i) = false) -> bc l n S f = f
 | [], _, _, _, _ => rfl
 | u :: r, n, S, f, h => by
  have h0 := h 0 (by simp)
  simp only [Nat.add_zero] at h0
  simp only [bc, h0, Bool.false_eq_true, if_false]
  exact mF fun i hi => by have := h (i + 1) (by simp; omega); rwa [show n + (i + 1) = n + 1 + i by omega] at this
theorem lD : ∀ (l : List Oper) (κ m : Nat) (φ : Fr) (h : Hp) (i : Nat) (o : Oper) (s : S), (tr Γ W bs nt ops l κ φ h)[i]? = some (o, s) ->
  l[i]? = some o /\ s = step Γ W bs nt ops (κ + i) (bc (qs (tr Γ W bs nt ops l κ φ h)) m (fun j => decide (j < m + i)) φ) (bc (sI (tr Γ W bs nt ops l κ φ h)) m (fun j => decide (j < m + i)) h) o
 | [], _, _, _, _, _, _, _, hT => by simp [tr] at hT
 | x :: r, κ, m, φ, h, 0, o, s, hT => by
  simp only [tr, List.getElem?_cons_zero, Option.some.injEq, Prod.mk.injEq] at hT
  obtain ⟨rfl, rfl⟩ := hT
  refine ⟨rfl, ?_⟩
  rw [mF (fun i _ => by simp), mF (fun i _ => by simp)]
  rfl
 | x :: r, κ, m, φ, h, i + 1, o, s, hT => by
  simp only [tr, List.getElem?_cons_succ] at hT
  obtain ⟨h1, h2⟩ := lD r (κ + 1) (m + 1) _ _ i o s hT
  refine ⟨by simpa using h1, ?_⟩
  rw [h2]
  simp only [tr, qs, sI, List.map_cons, bc, show m < m + (i + 1) by omega, decide_true, if_true, <- nE]
  rw [show κ + 1 + i = κ + (i + 1) by omega]
  congr 2 <;> (funext j; simp only [decide_eq_decide]; omega)
theorem ox : ∀ (l : List Oper) (κ : Nat) (φ : Fr) (h : Hp), (tr Γ W bs nt ops l κ φ h).length = l.length
 | [], _, _, _ => rfl
 | x :: r, κ, φ, h => by simp [tr, ox r]
theorem FO {l : List Oper} {κ : Nat} {φ : Fr} {h : Hp} {i : Nat} {o : Oper} (ho : l[i]? = some o) : ∃ s, (tr Γ W bs nt ops l κ φ h)[i]? = some (o, s) := by
 have hi : i < (tr Γ W bs nt ops l κ φ h).length := by rw [ox]; exact (List.getElem?_eq_some_iff.1 ho).1
 obtain ⟨o', s, hp⟩ : ∃ o' s, (tr Γ W bs nt ops l κ φ h)[i] = (o', s) := ⟨_, _, rfl⟩
 have hT : (tr Γ W bs nt ops l κ φ h)[i]? = some (o', s) := by rw [List.getElem?_eq_getElem hi, hp]
 have := (lD Γ l κ 0 φ h i o' s hT).1
 rw [ho] at this
 cases this
 exact ⟨s, hT⟩
def Sd (ops : Array Oper) (i j : Nat) : Bool := if i < j then ((Region.before ops).getD j 0).testBit i else ((Region.before ops).getD i 0).testBit j
def Yk (ops : Array Oper) (i j : Nat) : Prop := (i < j -> Reach ops i j) /\ (j < i -> Reach ops j i)
theorem yq {i j : Nat} (h : Sd ops i j = true) : Yk ops i j := by
 unfold Sd at h
 split at h
 ·rename_i hij; exact ⟨fun _ => oX ops i j h, fun hji => by omega⟩
 ·exact ⟨fun hij => by omega, fun _ => oX ops j i h⟩
structure Draws (ops : Array Oper) (T : List (Oper × S)) : Prop where
 edge : ∀ j o, ops[j]? = some o -> ∀ e ∈ o.after, Region.binds .any e = true -> e.on < j
 slot : ∀ i j oi oj t, i ≠ j -> ops[i]? = some oi -> ops[j]? = some oj -> oj.dst = some t -> t ∈ oi.looksAt ops \/ oi.dst = some t -> Yk ops i j
 heap : ∀ i j oi oj si sj k, i ≠ j -> T[i]? = some (oi, si) -> T[j]? = some (oj, sj) -> k ∈ b8 sj.bg -> k ∈ si.reads \/ k ∈ b8 si.bg -> Yk ops i j
end
end
section
open Go.RowKit
structure Aux where
 defers : List Deferred
 pins : List (Nat × Value)
def Pn (ds : Aux) (E : Nat -> Value) : Prop := ∀ p ∈ ds.pins, E p.1 = p.2
structure St where
 n : Nat
 φ : Fr
 h : Hp
structure Sat (W : World) (bs : List Nat) (nt : Nat) (ds : Aux) (σ : St) (a : Act) (w : World) : Prop where
 ex : ∃ E F, gm E σ.φ a /\ al W bs E F σ.h w /\ Pn ds E
 size : a.tmps.size = nt
 defers : a.defers = ds.defers
 pk : ∀ p ∈ ds.pins, p.1 / 8 < σ.n
 fk : kj (· / 8 < σ.n) σ.φ
 hk : bI (· / 8 < σ.n) σ.h
theorem kM {α : Type} (f : Nat -> α) {k : Nat} : ∀ {u : List (Nat × α)}, (∃ x, (k, x) ∈ u /\ aZ f u k = x) \/ (k ∉ b8 u /\ aZ f u k = f k) := by
 intro u
 induction u generalizing f with
 | nil => exact .inr ⟨by simp [b8], rfl⟩
 | cons p r ih =>
  obtain ⟨i, x⟩ := p
  simp only [aZ]
  rcases ih (bg f i x) with ⟨y, h1, h2⟩ | ⟨h1, h2⟩
  ·exact .inl ⟨y, by simp [h1], h2⟩
  ·by_cases hk : k = i
   ·subst hk
    exact .inl ⟨x, by simp, by rw [h2, ah]⟩
   ·refine .inr ⟨?_, by rw [h2, ak _ _ hk]⟩
    simp only [b8, List.map_cons, List.mem_cons, not_or] at h1 ⊢
    exact ⟨hk, by simpa [b8] using h1⟩
def qt (ops : Array Oper) (φ : Fr) : Fr := fun t => if ops.toList.any (fun o => o.dst == some t) then .any else φ t
section
variable {P : Program} {W : World} {bs : List Nat} {nt : Nat} {ds : Aux} {ops : Array Oper} (Γ : Env P)
theorem Ko {κ : Nat} {φ : Fr} {h : Hp} {o : Oper} (hg : (gI φ ops o.guard).2 = false) (hs : (step Γ W bs nt ops κ φ h o).side) :
  (∃ x, (step Γ W bs nt ops κ φ h o).fv = .cnd false x) /\ (step Γ W bs nt ops κ φ h o).bg = [] /\ (step Γ W bs nt ops κ φ h o).pan = none := by
 have hn : o.guard.isNone = false := by
  cases hgn : o.guard.isNone with
  | false => rfl
  | true => rw [guard_true hgn] at hg; cases hg
 by_cases hp : ∃ c x y, o.op = .pick c x y
 ·obtain ⟨c, x, y, hop⟩ := hp
  simp only [step, hop] at hs ⊢
  revert hs
  split
  ·intro _; rw [hg, hn]; exact ⟨⟨_, rfl⟩, rfl, rfl⟩
  ·exact fun hs => hs.elim
 ·rw [dN Γ fun c x y e => hp ⟨c, x, y, e⟩] at hs ⊢
  simp only [hg, hn]
  exact ⟨⟨_, rfl⟩, rfl, rfl⟩
def KS (n : Nat) (S : Nat -> Bool) (k : Nat) : Prop := k / 8 < n \/ ∃ j, S j = true /\ k / 8 = n + j
structure Inv (W : World) (bs : List Nat) (nt : Nat) (ds : Aux) (T : List (Oper × S)) (σ : St) (S : Nat -> Bool) (a : Act) (w : World) : Prop where
 ex : ∃ E F, gm E (bc (qs T) 0 S σ.φ) a /\ al W bs E F (bc (sI T) 0 S σ.h) w /\ Pn ds E
 size : a.tmps.size = nt
 defers : a.defers = ds.defers
 fk : kj (KS σ.n S) (bc (qs T) 0 S σ.φ)
 hk : bI (KS σ.n S) (bc (sI T) 0 S σ.h)
def oA (T : List (Oper × S)) : List Nat := T.flatMap fun p => p.2.uk ++ p.2.pupd
theorem Ij {κ : Nat} {φ : Fr} {h : Hp} {o : Oper} {k : Nat} (hk : k ∈ b8 (step Γ W bs nt ops κ φ h o).bg) : k ∈ (step Γ W bs nt ops κ φ h o).uk := by
 by_cases hp : ∃ c x y, o.op = .pick c x y
 ·obtain ⟨c, x, y, hop⟩ := hp
  simp only [step, hop] at hk ⊢
  split at hk <;> exact hk
 ·rw [dN Γ fun c x y e => hp ⟨c, x, y, e⟩] at hk ⊢
  simp only at hk ⊢
  revert hk
  cases (gI φ ops o.guard).2 with
  | true => exact fun hk => hk
  | false => exact fun hk => by cases hk
theorem Ie {α : Type} {k : Nat} : ∀ {l : List (List (Nat × α))} {n : Nat} {S : Nat -> Bool} {f : Nat -> α}, (∀ u ∈ l, k ∉ b8 u) -> bc l n S f k = f k
 | [], _, _, _, _ => rfl
 | u :: r, n, S, f, h => by
  simp only [bc]
  rw [Ie fun v hv => h v (by simp [hv])]
  split
  ·exact mu f (h u (by simp))
  ·rfl
theorem Bq {α : Type} {k : Nat} : ∀ {l : List (List (Nat × α))} {n : Nat} {S : Nat -> Bool} {f : Nat -> α}, (∀ j u, l[j]? = some u -> S (n + j) = true -> k ∉ b8 u) -> bc l n S f k = f k
 | [], _, _, _, _ => rfl
 | u :: r, n, S, f, h => by
  simp only [bc]
  rw [Bq fun j v hv hs => h (j + 1) v (by simpa using hv) (by rwa [show n + (j + 1) = n + 1 + j by omega])]
  split
  ·rename_i hs; exact mu f (h 0 u rfl (by simpa using hs))
  ·rfl
theorem one {σ : St} {Q : Exit -> Act -> World -> Prop} {next : Act -> World -> Prop} {i : Nat} {o : Oper} {s : S} {S S' : Nat -> Bool} {a : Act} {w : World} {L : List Nat}
  (hL : ∀ j p, (tr Γ W bs nt ops ops.toList σ.n σ.φ σ.h)[j]? = some p -> (S j = true \/ j = i) -> ∀ k ∈ p.2.uk ++ p.2.pupd, k ∈ L)
  (hT : (tr Γ W bs nt ops ops.toList σ.n σ.φ σ.h)[i]? = some (o, s)) (hSi : S i = false) (hS'i : S' i = true) (hne : ∀ j, j ≠ i -> S' j = S j)
  (agr : ∀ t ∈ o.looksAt ops, bc (qs (tr Γ W bs nt ops ops.toList σ.n σ.φ σ.h)) 0 S σ.φ t = bc (qs (tr Γ W bs nt ops ops.toList σ.n σ.φ σ.h)) 0 (fun j => decide (j < 0 + i)) σ.φ t)
  (agh : ∀ k ∈ s.reads, bc (sI (tr Γ W bs nt ops ops.toList σ.n σ.φ σ.h)) 0 S σ.h k = bc (sI (tr Γ W bs nt ops ops.toList σ.n σ.φ σ.h)) 0 (fun j => decide (j < 0 + i)) σ.h k)
  (insf : ∀ j v, i < j -> (qs (tr Γ W bs nt ops ops.toList σ.n σ.φ σ.h))[j]? = some v -> S j = true -> ∀ k ∈ b8 (p8 o s), k ∉ b8 v)
  (insh : ∀ j v, i < j -> (sI (tr Γ W bs nt ops ops.toList σ.n σ.φ σ.h))[j]? = some v -> S j = true -> ∀ k ∈ b8 s.bg, k ∉ b8 v)
  (I : Inv W bs nt ds (tr Γ W bs nt ops ops.toList σ.n σ.φ σ.h) σ S a w) (hside : s.side)
  (hnext : s.pan = none -> ∀ a' w', Inv W bs nt ds (tr Γ W bs nt ops ops.toList σ.n σ.φ σ.h) σ S' a' w' -> next a' w')
  (hpan : ∀ c, s.pan = some c -> ∀ a' w', Sat W bs nt ds ⟨σ.n, qt ops σ.φ, dropKeys σ.h L⟩ a' w' -> Q (.panic c) a' w')
  (hσf : kj (· / 8 < σ.n) σ.φ) (hσh : bI (· / 8 < σ.n) σ.h) (hσp : ∀ p ∈ ds.pins, p.1 / 8 < σ.n) :
  wpOp P ops Q i next a w := by
 obtain ⟨ho, hs⟩ := lD Γ ops.toList σ.n 0 σ.φ σ.h i o s hT
 rw [Array.getElem?_toList] at ho
 have hfu : (qs (tr Γ W bs nt ops ops.toList σ.n σ.φ σ.h))[i]? = some (p8 o s) := by simp [qs, hT]
 have hhu : (sI (tr Γ W bs nt ops ops.toList σ.n σ.φ σ.h))[i]? = some s.bg := by simp [sI, hT]
 have ef : bc (qs (tr Γ W bs nt ops ops.toList σ.n σ.φ σ.h)) 0 S' σ.φ = aZ (bc (qs (tr Γ W bs nt ops ops.toList σ.n σ.φ σ.h)) 0 S σ.φ) (p8 o s) :=
  oH (Nat.zero_le i) hfu hSi hS'i hne insf
 have eh : bc (sI (tr Γ W bs nt ops ops.toList σ.n σ.φ σ.h)) 0 S' σ.h = aZ (bc (sI (tr Γ W bs nt ops ops.toList σ.n σ.φ σ.h)) 0 S σ.h) s.bg :=
  oH (Nat.zero_le i) hhu hSi hS'i hne insh
 obtain ⟨⟨E, F, hf, hh, hpn⟩, hsz, hdf, hfk, hhk⟩ := I
 have hsub : ∀ k, KS σ.n S k -> KS σ.n S' k := fun k hk => hk.imp id fun ⟨j, hj, e⟩ => ⟨j, by
  by_cases hji : j = i
  ·subst hji; rw [hSi] at hj; cases hj
  ·rw [hne j hji]; exact hj, e⟩
 have hown : ∀ k, k / 8 = σ.n + i -> KS σ.n S' k := fun k hk => .inr ⟨i, hS'i, hk⟩
 have hfresh : ∀ k, k / 8 = σ.n + i -> ¬ KS σ.n S k := fun k hk hK => by
  rcases hK with hK | ⟨j, hj, e⟩
  ·omega
  ·have : j = i := by omega
   subst this; rw [hSi] at hj; cases hj
 have hkeys : (gI (bc (qs (tr Γ W bs nt ops ops.toList σ.n σ.φ σ.h)) 0 S σ.φ) ops o.guard).2 = true -> step Γ W bs nt ops (σ.n + i) (bc (qs (tr Γ W bs nt ops ops.toList σ.n σ.φ σ.h)) 0 S σ.φ) (bc (sI (tr Γ W bs nt ops ops.toList σ.n σ.φ σ.h)) 0 S σ.h) o = s ->
   kj (KS σ.n S') (aZ (bc (qs (tr Γ W bs nt ops ops.toList σ.n σ.φ σ.h)) 0 S σ.φ) (p8 o s)) /\ bI (KS σ.n S') (aZ (bc (sI (tr Γ W bs nt ops ops.toList σ.n σ.φ σ.h)) 0 S σ.h) s.bg) := by
  intro _ he
  have hk := Lp Γ (W := W) (bs := bs) (nt := nt) (ops := ops) (κ := σ.n + i) (o := o) hfk hhk (by rw [he]; exact hside)
  rw [he] at hk
  have conv : ∀ k, KS σ.n S k \/ k / 8 = σ.n + i -> KS σ.n S' k := fun k hk => hk.elim (hsub k) (hown k)
  constructor
  ·intro t k hkt
   rcases kM (bc (qs (tr Γ W bs nt ops ops.toList σ.n σ.φ σ.h)) 0 S σ.φ) (k := t) (u := p8 o s) with ⟨x, hx, hx'⟩ | ⟨_, hx'⟩
   ·rw [hx'] at hkt
    have : x = s.fv := by
     unfold p8 at hx
     cases hd : o.dst <;> simp [hd] at hx
     exact hx.2
    subst this
    exact conv k (hk.1 k hkt)
   ·rw [hx'] at hkt
    exact hsub k (hfk t k hkt)
  ·intro k e hke
   rcases kM (bc (sI (tr Γ W bs nt ops ops.toList σ.n σ.φ σ.h)) 0 S σ.h) (k := k) (u := s.bg) with ⟨x, hx, hx'⟩ | ⟨_, hx'⟩
   ·rw [hx'] at hke
    have := hk.2 _ hx
    exact ⟨conv k this.1, fun j hj => conv j (this.2 e hke j hj)⟩
   ·rw [hx'] at hke
    exact ⟨hsub k (hhk k e hke).1, fun j hj => hsub j ((hhk k e hke).2 j hj)⟩
 have hag := EF Γ (W := W) (bs := bs) (nt := nt) (ops := ops) (κ := σ.n + i) (o := o) (φ' := bc (qs (tr Γ W bs nt ops ops.toList σ.n σ.φ σ.h)) 0 S σ.φ) (h' := bc (sI (tr Γ W bs nt ops ops.toList σ.n σ.φ σ.h)) 0 S σ.h) agr (by rw [<- hs]; exact hside) (by rw [<- hs]; exact agh)
 rw [<- hs] at hag
 cases hgv : (gI (bc (qs (tr Γ W bs nt ops ops.toList σ.n σ.φ σ.h)) 0 S σ.φ) ops o.guard).2 with
 | true =>
  have he := hag.2 (by rw [<- hag.1]; exact hgv)
  have hk' := hkeys hgv he
  refine TZ Γ ho hf hh hsz hfk hhk hfresh (by rw [he]; exact hside) (fun hp a' w' E' F' hE hf' hh' hsz' hd' => hnext (by rw [he] at hp; exact hp) a' w' ?_) (fun c hc w' F' hh' => hpan c (by rw [he] at hc; exact hc) a w' ?_)
  ·rw [he] at hf' hh'
   rw [nE] at hf'
   exact ⟨⟨E', F', by rw [ef]; exact hf', by rw [eh]; exact hh', fun p hp => (hE p.1 (by have := hσp p hp; omega)).trans (hpn p hp)⟩, hsz', hd'.trans hdf, by rw [ef]; exact hk'.1, by rw [eh]; exact hk'.2⟩
  ·rw [he] at hh'
   have hTm : (o, s) ∈ tr Γ W bs nt ops ops.toList σ.n σ.φ σ.h := List.mem_of_getElem? hT
   refine ⟨⟨E, F', ?_, hh'.drop ?_, hpn⟩, hsz, hdf, hσp, ?_, ?_⟩
   ·intro t
    simp only [qt]
    split
    ·trivial
    ·rename_i hnt
     have := hf t
     rwa [Ie] at this
     intro u hu
     simp only [qs, List.mem_map] at hu
     obtain ⟨p, hp, rfl⟩ := hu
     rw [nI]
     intro hd
     obtain ⟨jj, hjj⟩ := List.getElem?_of_mem hp
     have := (lD Γ ops.toList σ.n 0 σ.φ σ.h jj p.1 p.2 hjj).1
     exact hnt (List.any_eq_true.2 ⟨p.1, List.mem_of_getElem? this, by simp [hd]⟩)
   ·intro k e hke
    simp only [dropKeys] at hke ⊢
    split at hke
    ·cases hke
    ·rename_i hnk
     rw [if_neg fun hm => hnk (hL i _ hT (.inr rfl) k (List.mem_append_right _ hm)), Bq]
     ·exact hke
     ·intro jj u hu hSj hm
      rw [Nat.zero_add] at hSj
      simp only [sI, List.getElem?_map, Option.map_eq_some_iff] at hu
      obtain ⟨p, hjj, rfl⟩ := hu
      have := (lD Γ ops.toList σ.n 0 σ.φ σ.h jj p.1 p.2 hjj).2
      refine hnk (hL jj p hjj (.inl hSj) k (List.mem_append_left _ ?_))
      rw [this] at hm ⊢
      exact Ij Γ hm
   ·intro t k hk
    simp only [qt] at hk
    split at hk
    ·cases hk
    ·exact hσf t k hk
   ·intro k e hke
    simp only [dropKeys] at hke
    split at hke
    ·cases hke
    ·exact hσh k e hke
 | false =>
  have hgs : (gI (bc (qs (tr Γ W bs nt ops ops.toList σ.n σ.φ σ.h)) 0 S σ.φ) ops o.guard).1 := by
   rw [hag.1]
   rw [hs] at hside
   exact (xA Γ hside).1
  have hgv' := hgv
  rw [hag.1] at hgv'
  have hidle := Ko Γ (W := W) (bs := bs) (nt := nt) (ops := ops) (κ := σ.n + i) (o := o) (h := bc (sI (tr Γ W bs nt ops ops.toList σ.n σ.φ σ.h)) 0 (fun j => decide (j < 0 + i)) σ.h) hgv' (by rw [<- hs]; exact hside)
  rw [<- hs] at hidle
  obtain ⟨⟨x, hx⟩, hu, hpn0⟩ := hidle
  have hw : Region.wanted o (yielded ops a.tmps) = false := by rw [AU hf hgs, hgv]
  unfold wpOp
  simp only [ho, hw, Bool.false_eq_true, if_false]
  have hdst : ∀ d, o.dst = some d -> d < a.tmps.size := fun d hd => by
   rw [hsz]
   rw [hs] at hside
   exact (xA Γ hside).2 d hd
  refine hnext hpn0 _ _ ⟨⟨E, F, ?_, ?_, hpn⟩, ?_, ?_, ?_, ?_⟩
  ·rw [ef, <- nE]
   exact hf.put hdst (by rw [hx]; rfl)
  ·rw [eh, hu]; exact hh
  ·rw [<- hsz]; cases o.dst <;> simp [Act.put]
  ·rw [<- hdf]; cases o.dst <;> simp [Act.put]
  ·rw [ef]
   intro t k hkt
   rcases kM (bc (qs (tr Γ W bs nt ops ops.toList σ.n σ.φ σ.h)) 0 S σ.φ) (k := t) (u := p8 o s) with ⟨y, hy, hy'⟩ | ⟨_, hy'⟩
   ·rw [hy'] at hkt
    have : y = s.fv := by
     unfold p8 at hy
     cases hd : o.dst <;> simp [hd] at hy
     exact hy.2
    subst this
    rw [hx] at hkt
    cases hkt
   ·rw [hy'] at hkt
    exact hsub k (hfk t k hkt)
  ·rw [eh, hu]
   intro k e hke
   exact ⟨hsub k (hhk k e hke).1, fun j hj => hsub j ((hhk k e hke).2 j hj)⟩
end
end
section
open Go.RowKit
structure RG where
 side : Prop
 n : Nat
 φ : Fr
 h : Hp
 pans : List (Option (List PanicEntry))
 lost : List Nat
 fx : List (List Nat × List Nat)
section
variable {P : Program} {W : World} {bs : List Nat} {nt : Nat} {ds : Aux} {ops : Array Oper} (Γ : Env P)
def Ck (s : S) (g : RG) : RG := ⟨s.side /\ g.side, g.n, g.φ, g.h, s.pan :: g.pans, s.uk ++ s.pupd ++ g.lost, (s.uk, s.reads) :: g.fx⟩
def mi (Γ : Env P) (W : World) (bs : List Nat) (nt : Nat) (ops : Array Oper) : List Oper -> Nat -> Fr -> Hp -> RG
 | [], κ, φ, h => ⟨True, κ, φ, h, [], [], []⟩
 | o :: r, κ, φ, h => Ck (step Γ W bs nt ops κ φ h o) (mi Γ W bs nt ops r (κ + 1) (nX φ o.dst (step Γ W bs nt ops κ φ h o).fv) (aZ h (step Γ W bs nt ops κ φ h o).bg))
theorem zf : ∀ (l : List Oper) (κ m : Nat) (φ : Fr) (h : Hp),
  (mi Γ W bs nt ops l κ φ h).φ = bc (qs (tr Γ W bs nt ops l κ φ h)) m (fun _ => true) φ /\
  (mi Γ W bs nt ops l κ φ h).h = bc (sI (tr Γ W bs nt ops l κ φ h)) m (fun _ => true) h /\
  (mi Γ W bs nt ops l κ φ h).pans = (tr Γ W bs nt ops l κ φ h).map (·.2.pan) /\
  (mi Γ W bs nt ops l κ φ h).lost = oA (tr Γ W bs nt ops l κ φ h) /\
  (mi Γ W bs nt ops l κ φ h).fx = (tr Γ W bs nt ops l κ φ h).map (fun p => (p.2.uk, p.2.reads)) /\
  ((mi Γ W bs nt ops l κ φ h).side -> ∀ p ∈ tr Γ W bs nt ops l κ φ h, p.2.side) /\ (mi Γ W bs nt ops l κ φ h).n = κ + l.length
 | [], _, _, _, _ => ⟨rfl, rfl, rfl, rfl, rfl, by simp [tr], rfl⟩
 | o :: r, κ, m, φ, h => by
  obtain ⟨h1, h2, h3, h4, h5, h6, h7⟩ := zf r (κ + 1) (m + 1) (nX φ o.dst (step Γ W bs nt ops κ φ h o).fv) (aZ h (step Γ W bs nt ops κ φ h o).bg)
  simp only [mi, Ck, tr, qs, sI, oA, List.map_cons, bc, if_true, List.flatMap_cons, List.mem_cons] at *
  refine ⟨by rw [h1, nE], by rw [h2], by rw [h3], by rw [h4], by rw [h5], ?_, by rw [h7, List.length_cons]; omega⟩
  rintro ⟨hs, hr⟩ p (rfl | hp)
  ·exact hs
  ·exact h6 hr p hp
def ma (ops : Array Oper) : Bool :=
 (List.range ops.size).all fun j => match ops[j]? with
  | none => true
  | some oj => (oj.after.all fun e => !Region.binds .any e || decide (e.on < j)) && match oj.dst with
   | none => true
   | some t => (List.range ops.size).all fun i => i == j || match ops[i]? with
    | none => true
    | some oi => !((oi.looksAt ops).contains t || oi.dst == some t) || Sd ops i j
def l8 (ops : Array Oper) (fx : List (List Nat × List Nat)) : Bool :=
 (List.range fx.length).all fun j => match fx[j]? with
  | none => true
  | some pj => pj.1.isEmpty || (List.range fx.length).all fun i => i == j || match fx[i]? with
   | none => true
   | some pi => (pj.1.all fun k => !(pi.2.contains k || pi.1.contains k)) || Sd ops i j
theorem On {σ : St} (h1 : ma ops = true) (h2 : l8 ops (mi Γ W bs nt ops ops.toList σ.n σ.φ σ.h).fx = true) : Draws ops (tr Γ W bs nt ops ops.toList σ.n σ.φ σ.h) := by
 have lt : ∀ {α : Type} {l : Array α} {i : Nat} {x : α}, l[i]? = some x -> i < l.size := fun hx => (Array.getElem?_eq_some_iff.1 hx).1
 unfold ma at h1
 rw [List.all_eq_true] at h1
 constructor
 ·intro j o ho e he hb
  have := h1 j (List.mem_range.2 (lt ho))
  rw [ho] at this
  simp only [Bool.and_eq_true] at this
  have := Array.all_eq_true.1 this.1
  obtain ⟨i, hi, hie⟩ := Array.mem_iff_getElem.1 he
  have := this i hi
  rw [hie, hb] at this
  simpa using this
 ·intro i j oi oj t hij hi hj hd hc
  have := h1 j (List.mem_range.2 (lt hj))
  rw [hj] at this
  simp only [Bool.and_eq_true, hd, List.all_eq_true] at this
  have := this.2 i (List.mem_range.2 (lt hi))
  rw [hi] at this
  have hij' : (i == j) = false := by simpa using hij
  simp only [hij', Bool.false_or] at this
  have hc' : ((oi.looksAt ops).contains t || oi.dst == some t) = true := by
   rcases hc with hc | hc
   ·simp [hc]
   ·simp [hc]
  rw [hc'] at this
  exact yq (by simpa using this)
 ·intro i j oi oj si sj k hij hi hj hk hc
  rw [(zf Γ ops.toList σ.n 0 σ.φ σ.h).2.2.2.2.1] at h2
  unfold l8 at h2
  rw [List.all_eq_true] at h2
  have llt : ∀ {l : List (Oper × S)} {i : Nat} {x : Oper × S}, l[i]? = some x -> i < (l.map (fun p => (p.2.uk, p.2.reads))).length := fun hx => by simpa using (List.getElem?_eq_some_iff.1 hx).1
  have huk : ∀ (i : Nat) (o : Oper) (s : S), (tr Γ W bs nt ops ops.toList σ.n σ.φ σ.h)[i]? = some (o, s) -> ∀ k ∈ b8 s.bg, k ∈ s.uk := fun i o s hT k hk => by
   have := (lD Γ ops.toList σ.n 0 σ.φ σ.h i o s hT).2
   rw [this] at hk ⊢
   exact Ij Γ hk
  have := h2 j (List.mem_range.2 (llt hj))
  simp only [List.getElem?_map, hj, Option.map_some, Bool.or_eq_true, List.all_eq_true] at this
  rcases this with this | this
  ·have hk' := huk j oj sj hj k hk
   rw [List.isEmpty_iff] at this
   rw [this] at hk'
   cases hk'
  ·have := this i (List.mem_range.2 (llt hi))
   simp only [hi, Option.map_some] at this
   have hij' : (i == j) = false := by simpa using hij
   rw [hij'] at this
   simp only [Bool.false_eq_true, false_or, Bool.or_eq_true, List.all_eq_true] at this
   rcases this with this | this
   ·have := this k (huk j oj sj hj k hk)
    rcases hc with hc | hc
    ·simp [hc] at this
    ·simp [huk i oi si hi k hc] at this
   ·exact yq this
theorem JQ {σ : St} {S : Nat -> Bool} {a : Act} {w : World} (I : Inv W bs nt ds (tr Γ W bs nt ops ops.toList σ.n σ.φ σ.h) σ S a w) (hS : ∀ i, i < ops.size -> S i = true) (hS' : ∀ i, S i = true -> i < ops.size) (hσp : ∀ p ∈ ds.pins, p.1 / 8 < σ.n) :
  Sat W bs nt ds ⟨σ.n + ops.size, (mi Γ W bs nt ops ops.toList σ.n σ.φ σ.h).φ, (mi Γ W bs nt ops ops.toList σ.n σ.φ σ.h).h⟩ a w := by
 obtain ⟨e1, e2, _⟩ := zf Γ ops.toList σ.n 0 σ.φ σ.h (W := W) (bs := bs) (nt := nt) (ops := ops)
 have ef : bc (qs (tr Γ W bs nt ops ops.toList σ.n σ.φ σ.h)) 0 S σ.φ = bc (qs (tr Γ W bs nt ops ops.toList σ.n σ.φ σ.h)) 0 (fun _ => true) σ.φ := funext fun t => kL rfl fun i u hi _ => by
  have := (List.getElem?_eq_some_iff.1 hi).1
  simp only [qs, List.length_map, ox, Array.length_toList] at this
  rw [Nat.zero_add]; exact hS i this
 have eh : bc (sI (tr Γ W bs nt ops ops.toList σ.n σ.φ σ.h)) 0 S σ.h = bc (sI (tr Γ W bs nt ops ops.toList σ.n σ.φ σ.h)) 0 (fun _ => true) σ.h := funext fun t => kL rfl fun i u hi _ => by
  have := (List.getElem?_eq_some_iff.1 hi).1
  simp only [sI, List.length_map, ox, Array.length_toList] at this
  rw [Nat.zero_add]; exact hS i this
 obtain ⟨hex, hsz, hdf, hfk, hhk⟩ := I
 rw [ef] at hfk hex
 rw [eh] at hhk hex
 have conv : ∀ k, KS σ.n S k -> k / 8 < σ.n + ops.size := fun k hk => by
  rcases hk with hk | ⟨j, hj, e⟩
  ·omega
  ·have := hS' j hj; omega
 refine ⟨by rw [e1, e2]; exact hex, hsz, hdf, fun p hp => Nat.lt_of_lt_of_le (hσp p hp) (Nat.le_add_right _ _), ?_, ?_⟩
 ·rw [e1]; exact fun t k hk => conv k (hfk t k hk)
 ·rw [e2]; exact fun k e hk => ⟨conv k (hhk k e hk).1, fun j hj => conv j ((hhk k e hk).2 j hj)⟩
theorem qT {σ : St} {a : Act} {w : World} (hsat : Sat W bs nt ds σ a w) {V : Nat -> Bool} (hS : ∀ i, V i = false) (T : List (Oper × S)) : Inv W bs nt ds T σ V a w := by
 obtain ⟨hex, hsz, hdf, _, hfk, hhk⟩ := hsat
 have ef : bc (qs T) 0 V σ.φ = σ.φ := mF fun i _ => hS _
 have eh : bc (sI T) 0 V σ.h = σ.h := mF fun i _ => hS _
 refine ⟨by rw [ef, eh]; exact hex, hsz, hdf, ?_, ?_⟩
 ·rw [ef]; exact fun t k hk => .inl (hfk t k hk)
 ·rw [eh]; exact fun k e hk => ⟨.inl (hhk k e hk).1, fun j hj => .inl ((hhk k e hk).2 j hj)⟩
theorem uN {σ : St} {Q : Exit -> Act -> World -> Prop} (hσf : kj (· / 8 < σ.n) σ.φ) (hσh : bI (· / 8 < σ.n) σ.h) (hσp : ∀ p ∈ ds.pins, p.1 / 8 < σ.n)
  (hside : ∀ p ∈ tr Γ W bs nt ops ops.toList σ.n σ.φ σ.h, p.2.side)
  (hQ : (∀ p ∈ tr Γ W bs nt ops ops.toList σ.n σ.φ σ.h, p.2.pan = none) -> ∀ a' w', Sat W bs nt ds ⟨σ.n + ops.size, (mi Γ W bs nt ops ops.toList σ.n σ.φ σ.h).φ, (mi Γ W bs nt ops ops.toList σ.n σ.φ σ.h).h⟩ a' w' -> Q .normal a' w')
  (hP : ∀ p ∈ tr Γ W bs nt ops ops.toList σ.n σ.φ σ.h, ∀ c, p.2.pan = some c -> ∀ a' w', Sat W bs nt ds ⟨σ.n, qt ops σ.φ, dropKeys σ.h (oA (tr Γ W bs nt ops ops.toList σ.n σ.φ σ.h))⟩ a' w' -> Q (.panic c) a' w') :
  ∀ (m i : Nat), i + m = ops.size -> (∀ j o s, j < i -> (tr Γ W bs nt ops ops.toList σ.n σ.φ σ.h)[j]? = some (o, s) -> s.pan = none) -> ∀ a w, Inv W bs nt ds (tr Γ W bs nt ops ops.toList σ.n σ.φ σ.h) σ (fun j => decide (j < i)) a w -> wpOps P ops Q (List.range' i m) a w
 | 0, i, hi, hpr, a, w, I => hQ (fun p hp => by
   obtain ⟨j, hj⟩ := List.getElem?_of_mem hp
   have hlt := (List.getElem?_eq_some_iff.1 hj).1
   rw [ox, Array.length_toList] at hlt
   exact hpr j p.1 p.2 (by omega) hj) a w (JQ Γ I (fun j hj => by simp; omega) (fun j hj => by simp at hj; omega) hσp)
 | m + 1, i, hi, hpr, a, w, I => by
  rw [List.range'_succ, wpOps_cons]
  have hlt : i < ops.toList.length := by simp; omega
  obtain ⟨s, hT⟩ := FO Γ (W := W) (bs := bs) (nt := nt) (ops := ops) (κ := σ.n) (φ := σ.φ) (h := σ.h) (List.getElem?_eq_getElem hlt)
  have hz : ∀ j, decide (j < 0 + i) = decide (j < i) := fun j => by simp
  refine one Γ (L := oA (tr Γ W bs nt ops ops.toList σ.n σ.φ σ.h)) (fun j p hp _ k hk => List.mem_flatMap.2 ⟨p, List.mem_of_getElem? hp, hk⟩) hT (S' := fun j => decide (j < i + 1)) (by simp) (by simp) (fun j hj => by simp; omega) (fun t _ => by simp only [hz]) (fun t _ => by simp only [hz]) (fun j v hj _ hs => by simp at hs; omega) (fun j v hj _ hs => by simp at hs; omega) I (hside _ (List.mem_of_getElem? hT)) (fun hpn => uN hσf hσh hσp hside hQ hP m (i + 1) (by omega) (fun j o s' hj hs' => by
   by_cases hji : j = i
   ·subst hji; rw [hT] at hs'; cases hs'; exact hpn
   ·exact hpr j o s' (by omega) hs')) (fun c hc a' w' => hP _ (List.mem_of_getElem? hT) c hc a' w') hσf hσh hσp
theorem F6 {σ : St} {Q : Exit -> Act -> World -> Prop} (hσf : kj (· / 8 < σ.n) σ.φ) (hσh : bI (· / 8 < σ.n) σ.h) (hσp : ∀ p ∈ ds.pins, p.1 / 8 < σ.n)
  (hd : Draws ops (tr Γ W bs nt ops ops.toList σ.n σ.φ σ.h))
  (hside : ∀ p ∈ tr Γ W bs nt ops ops.toList σ.n σ.φ σ.h, p.2.side)
  (hQ : (∀ p ∈ tr Γ W bs nt ops ops.toList σ.n σ.φ σ.h, p.2.pan = none) -> ∀ a' w', Sat W bs nt ds ⟨σ.n + ops.size, (mi Γ W bs nt ops ops.toList σ.n σ.φ σ.h).φ, (mi Γ W bs nt ops ops.toList σ.n σ.φ σ.h).h⟩ a' w' -> Q .normal a' w')
  (hP : ∀ p ∈ tr Γ W bs nt ops ops.toList σ.n σ.φ σ.h, ∀ c, p.2.pan = some c -> ∀ a' w', Sat W bs nt ds ⟨σ.n, qt ops σ.φ, dropKeys σ.h (oA (tr Γ W bs nt ops ops.toList σ.n σ.φ σ.h))⟩ a' w' -> Q (.panic c) a' w') :
  ∀ (fuel : Nat) (listed : Array Bool) (a : Act) (w : World), listed.size = ops.size -> listed.toList.count false <= fuel ->
   (∀ j o, ops[j]? = some o -> listed.getD j false = true -> ∀ e ∈ o.after, Region.binds .any e = true -> listed.getD e.on false = true) ->
   (∀ j o s, listed.getD j false = true -> (tr Γ W bs nt ops ops.toList σ.n σ.φ σ.h)[j]? = some (o, s) -> s.pan = none) ->
   Inv W bs nt ds (tr Γ W bs nt ops ops.toList σ.n σ.φ σ.h) σ (fun j => listed.getD j false) a w -> wpAny P .any ops Q fuel listed a w := by
 have gd : ∀ (l : Array Bool) i, i < l.size -> l.getD i true = l.getD i false := fun l i hi => by simp [Array.getD_eq_getD_getElem?, Array.getElem?_eq_getElem hi]
 have done : ∀ (listed : Array Bool) (a : Act) (w : World), listed.size = ops.size -> Region.ready .any ops listed = [] ->
   (∀ j o s, listed.getD j false = true -> (tr Γ W bs nt ops ops.toList σ.n σ.φ σ.h)[j]? = some (o, s) -> s.pan = none) ->
   Inv W bs nt ds (tr Γ W bs nt ops ops.toList σ.n σ.φ σ.h) σ (fun j => listed.getD j false) a w -> Q .normal a w := by
  intro listed a w hsz hr hpr I
  have all : ∀ i, i < ops.size -> listed.getD i false = true := by
   intro i
   induction i using Nat.strongRecOn with
   | _ i ih =>
    intro hi
    cases hl : listed.getD i false with
    | true => rfl
    | false =>
     exfalso
     have : i ∈ Region.ready .any ops listed := by
      refine List.mem_filter.2 ⟨List.mem_range.2 hi, ?_⟩
      rw [gd _ _ (by omega), hl]
      simp only [Bool.not_false, Bool.true_and, Array.getElem?_eq_getElem hi, Option.map_some, Option.getD_some]
      rw [Array.all_eq_true]
      intro j hj
      cases hb : Region.binds .any (ops[i].after[j]) with
      | false => rfl
      | true =>
       have hlt := hd.edge i ops[i] (Array.getElem?_eq_getElem hi) (ops[i].after[j]) (Array.getElem_mem hj) hb
       simpa using ih _ hlt (by omega)
     rw [hr] at this
     cases this
  refine hQ (fun p hp => ?_) a w (JQ Γ I all (fun i hi => ?_) hσp)
  ·obtain ⟨j, hj⟩ := List.getElem?_of_mem hp
   have hlt := (List.getElem?_eq_some_iff.1 hj).1
   rw [ox, Array.length_toList] at hlt
   exact hpr j p.1 p.2 (all j hlt) hj
  by_cases hlt : i < listed.size
  ·omega
  ·simp [Array.getD_eq_getD_getElem?, Array.getElem?_eq_none (Nat.le_of_not_lt hlt)] at hi
 intro fuel
 induction fuel with
 | zero =>
  intro listed a w hsz hc hcl hpr I
  have hr : Region.ready .any ops listed = [] := by
   refine List.filter_eq_nil_iff.2 fun i hi => ?_
   have hi' : i < listed.size := by rw [hsz]; exact List.mem_range.1 hi
   have : listed.getD i true = true := by
    rw [Array.getD_eq_getD_getElem?, Array.getElem?_eq_getElem hi']
    simp only [Option.getD_some]
    have h0 := List.count_eq_zero.1 (Nat.le_zero.1 hc)
    cases hv : listed[i] with
    | true => rfl
    | false => exact absurd (by rw [<- hv]; simp) h0
   simp [this]
  exact ⟨hr, done listed a w hsz hr hpr I⟩
 | succ fuel ih =>
  intro listed a w hsz hc hcl hpr I
  refine ⟨fun hr => done listed a w hsz hr hpr I, fun i hi => ?_⟩
  obtain ⟨hi, hready⟩ := List.mem_filter.1 hi
  have hi := List.mem_range.1 hi
  have ho : ops[i]? = some ops[i] := Array.getElem?_eq_getElem hi
  have hil : i < listed.size := by omega
  rw [gd _ _ hil] at hready
  simp only [ho, Option.map_some, Option.getD_some, Bool.and_eq_true, Bool.not_eq_true'] at hready
  obtain ⟨hli, hpre⟩ := hready
  rw [Array.all_eq_true] at hpre
  obtain ⟨s, hT⟩ := FO Γ (W := W) (bs := bs) (nt := nt) (ops := ops) (κ := σ.n) (φ := σ.φ) (h := σ.h) (l := ops.toList) (i := i) (o := ops[i]) (by rw [Array.getElem?_toList]; exact ho)
  have hset : ∀ j, (listed.setIfInBounds i true).getD j false = if j = i then true else listed.getD j false := fun j => by
   simp only [Array.getD_eq_getD_getElem?, Array.getElem?_setIfInBounds]
   by_cases hji : i = j
   ·subst hji; simp [hil]
   ·rw [if_neg hji, if_neg (Ne.symm hji)]
  have hcl' : ∀ j o, ops[j]? = some o -> (listed.setIfInBounds i true).getD j false = true -> ∀ e ∈ o.after, Region.binds .any e = true -> (listed.setIfInBounds i true).getD e.on false = true := by
   intro j o hj hl e he hb
   rw [hset] at hl ⊢
   split
   ·rfl
   ·split at hl
    ·rename_i hji
     subst hji
     rw [ho] at hj
     cases hj
     obtain ⟨m, hm, hme⟩ := Array.mem_iff_getElem.1 he
     have := hpre m hm
     rw [hme, hb] at this
     simpa using this
    ·exact hcl j o hj hl e he hb
  have rb : ∀ j, Reach ops j i -> j ≠ i -> listed.getD j false = true := fun j hr hji => by
   have := qe (S := fun j => (listed.setIfInBounds i true).getD j false) hcl' hr (by simp only [hset, if_pos])
   simp only [hset, if_neg hji] at this
   exact this
  have ra : ∀ j, Reach ops i j -> listed.getD j false = false := fun j hr => by
   cases hl : listed.getD j false with
   | false => rfl
   | true =>
    have := qe (S := fun j => listed.getD j false) hcl hr hl
    simp only [hli] at this
    cases this
  have agree : ∀ j, j ≠ i -> Yk ops i j -> listed.getD j false = decide (j < 0 + i) := fun j hji hc => by
   rw [Nat.zero_add]
   by_cases hlt : j < i
   ·rw [rb j (hc.2 hlt) hji]; simp [hlt]
   ·rw [ra j (hc.1 (by omega))]; simp [hlt]
  have self : listed.getD i false = decide (i < 0 + i) := by rw [hli]; simp
  have inT : ∀ (j : Nat) (v : List (Nat × FV)), (qs (tr Γ W bs nt ops ops.toList σ.n σ.φ σ.h))[j]? = some v -> ∃ (o : Oper) (s : S), (tr Γ W bs nt ops ops.toList σ.n σ.φ σ.h)[j]? = some (o, s) /\ ops[j]? = some o /\ v = p8 o s := fun j v hv => by
   simp only [qs, List.getElem?_map, Option.map_eq_some_iff] at hv
   obtain ⟨⟨o, s⟩, h1, h2⟩ := hv
   have := (lD Γ ops.toList σ.n 0 σ.φ σ.h j o s h1).1
   rw [Array.getElem?_toList] at this
   exact ⟨o, s, h1, this, h2.symm⟩
  have inH : ∀ (j : Nat) (v : List (Nat × Option bm)), (sI (tr Γ W bs nt ops ops.toList σ.n σ.φ σ.h))[j]? = some v -> ∃ (o : Oper) (s : S), (tr Γ W bs nt ops ops.toList σ.n σ.φ σ.h)[j]? = some (o, s) /\ v = s.bg := fun j v hv => by
   simp only [sI, List.getElem?_map, Option.map_eq_some_iff] at hv
   obtain ⟨⟨o, s⟩, h1, h2⟩ := hv
   exact ⟨o, s, h1, h2.symm⟩
  refine one Γ (L := oA (tr Γ W bs nt ops ops.toList σ.n σ.φ σ.h)) (fun j p hp _ k hk => List.mem_flatMap.2 ⟨p, List.mem_of_getElem? hp, hk⟩) hT (S := fun j => listed.getD j false) (S' := fun j => (listed.setIfInBounds i true).getD j false) hli (by simp only [hset, if_pos]) (fun j hj => by simp only [hset, if_neg hj]) (fun t ht => ?_) (fun k hk => ?_) (fun j v hij hv hs k hk hk' => ?_) (fun j v hij hv hs k hk hk' => ?_) I (hside _ (List.mem_of_getElem? hT)) (fun hpn a' w' I' => ?_) (fun c hc a' w' => hP _ (List.mem_of_getElem? hT) c hc a' w') hσf hσh hσp
  ·refine kL rfl fun j u hj hju => ?_
   obtain ⟨o', s', _, hj', rfl⟩ := inT j u hj
   rw [Nat.zero_add]
   by_cases hji : j = i
   ·subst hji; exact self
   ·exact agree j hji (hd.slot i j _ o' t (Ne.symm hji) ho hj' (nI.1 hju) (.inl ht))
  ·refine kL rfl fun j u hj hju => ?_
   obtain ⟨o', s', hj', rfl⟩ := inH j u hj
   rw [Nat.zero_add]
   by_cases hji : j = i
   ·subst hji; exact self
   ·exact agree j hji (hd.heap i j _ o' _ s' k (Ne.symm hji) hT hj' hju (.inl hk))
  ·obtain ⟨o', s', _, hj', rfl⟩ := inT j v hv
   have := ra j ((hd.slot i j _ o' k (by omega) ho hj' (nI.1 hk') (.inr (nI.1 hk))).1 hij)
   rw [this] at hs
   cases hs
  ·obtain ⟨o', s', hj', rfl⟩ := inH j v hv
   have := ra j ((hd.heap i j _ o' _ s' k (by omega) hT hj' hk' (.inr hk)).1 hij)
   rw [this] at hs
   cases hs
  ·refine ih _ a' w' (by simpa using hsz) ?_ hcl' (fun j o' s' hj hs' => ?_) I'
   rotate_left
   ·by_cases hji : j = i
    ·subst hji; rw [hT] at hs'; cases hs'; exact hpn
    ·rw [hset, if_neg hji] at hj; exact hpr j o' s' hj hs'
   rw [Array.toList_setIfInBounds, List.count_set (by simpa using hil)]
   have e1 : listed.toList[i]'(by simpa using hil) = false := by
    rw [Array.getD_eq_getD_getElem?, Array.getElem?_eq_getElem hil] at hli
    simpa using hli
   rw [e1]
   have hpos : 0 < listed.toList.count false := List.count_pos_iff.2 (e1 ▸ List.getElem_mem _)
   simp only [beq_self_eq_true, if_true, show (true == false) = false from rfl, Bool.false_eq_true, if_false]
   omega
theorem L0 {id : Nat} {d : Bool} {σ : St} {Q : Exit -> Act -> World -> Prop} {a : Act} {w : World} (hm : P.follows .mixedOrders = true) (hsat : Sat W bs nt ds σ a w)
  {g : RG} (hg : mi Γ W bs nt ops ops.toList σ.n σ.φ σ.h = g) (hside : g.side) (hd : d = true -> ma ops = true /\ l8 ops g.fx = true)
  (hQ : (∀ x ∈ g.pans, x = none) -> ∀ a' w', Sat W bs nt ds ⟨g.n, g.φ, g.h⟩ a' w' -> Q .normal a' w')
  (hP : ∀ c, some c ∈ g.pans -> ∀ a' w', Sat W bs nt ds ⟨σ.n, qt ops σ.φ, dropKeys σ.h g.lost⟩ a' w' -> Q (.panic c) a' w') :
  (Code.region id ops d).wp P Q a w := by
 subst hg
 obtain ⟨_, _, h3, h4, _, h6, h7⟩ := zf Γ ops.toList σ.n 0 σ.φ σ.h (W := W) (bs := bs) (nt := nt) (ops := ops)
 rw [Array.length_toList] at h7
 rw [h7] at hQ
 have hP' : ∀ p ∈ tr Γ W bs nt ops ops.toList σ.n σ.φ σ.h, ∀ c, p.2.pan = some c -> ∀ a' w', Sat W bs nt ds ⟨σ.n, qt ops σ.φ, dropKeys σ.h (oA (tr Γ W bs nt ops ops.toList σ.n σ.φ σ.h))⟩ a' w' -> Q (.panic c) a' w' := by
  intro p hp c hc
  rw [<- h4]
  exact hP c (by rw [h3]; exact List.mem_map.2 ⟨p, hp, hc⟩)
 have hQ' := fun (hall : ∀ p ∈ tr Γ W bs nt ops ops.toList σ.n σ.φ σ.h, p.2.pan = none) => hQ (by
  rw [h3]
  intro x hx
  obtain ⟨p, hp, rfl⟩ := List.mem_map.1 hx
  exact hall p hp)
 cases d with
 | false =>
  refine wp_region ?_
  rw [List.range_eq_range']
  exact uN Γ hsat.fk hsat.hk hsat.pk (h6 hside) hQ' hP' ops.size 0 (by omega) (fun j o s hj => by omega) a w (qT hsat (by simp) _)
 | true =>
  refine wp_region_any hm ?_
  have hsat' : Sat W bs nt ds σ a { w with drawn := w.drawn + 1 } := by
   obtain ⟨⟨E, F, hf, hh, hp⟩, h1, h2, h3, h4, h5⟩ := hsat
   exact ⟨⟨E, F, hf, hh.grow ⟨rfl, rfl, rfl, Nat.le_refl _, fun _ _ _ => rfl⟩, hp⟩, h1, h2, h3, h4, h5⟩
  have hz : ∀ i, (Array.replicate ops.size false).getD i false = false := fun i => by
   simp only [Array.getD_eq_getD_getElem?, Array.getElem?_replicate]
   split <;> rfl
  refine F6 Γ hsat.fk hsat.hk hsat.pk (On Γ (hd rfl).1 (hd rfl).2) (h6 hside) hQ' hP' ops.size _ a _ (by simp) (by simp [List.count_replicate]) (fun j o _ hj => by rw [hz] at hj; cases hj) (fun j o s hj => by rw [hz] at hj; cases hj) (qT hsat' hz _)
structure RP where
 side : Prop
 pan : Option (List PanicEntry)
 lost : List Nat
def BX (s : S) (g : RP) : RP := ⟨s.side /\ g.side, g.pan, s.uk ++ s.pupd ++ g.lost⟩
def uF (Γ : Env P) (W : World) (bs : List Nat) (nt : Nat) (ops : Array Oper) : List Oper -> Nat -> Fr -> Hp -> RP
 | [], _, _, _ => ⟨True, none, []⟩
 | o :: r, κ, φ, h => match (step Γ W bs nt ops κ φ h o).pan with
  | some c => ⟨(step Γ W bs nt ops κ φ h o).side, some c, (step Γ W bs nt ops κ φ h o).uk ++ (step Γ W bs nt ops κ φ h o).pupd⟩
  | none => BX (step Γ W bs nt ops κ φ h o) (uF Γ W bs nt ops r (κ + 1) (nX φ o.dst (step Γ W bs nt ops κ φ h o).fv) (aZ h (step Γ W bs nt ops κ φ h o).bg))
theorem IA {c : List PanicEntry} : ∀ (l : List Oper) (κ : Nat) (φ : Fr) (h : Hp), (uF Γ W bs nt ops l κ φ h).pan = some c -> (uF Γ W bs nt ops l κ φ h).side ->
  ∃ (i : Nat) (p : Oper × S), (tr Γ W bs nt ops l κ φ h)[i]? = some p /\ p.2.pan = some c /\ (∀ (j : Nat) (q : Oper × S), j <= i -> (tr Γ W bs nt ops l κ φ h)[j]? = some q -> q.2.side) /\ (∀ (j : Nat) (q : Oper × S), j < i -> (tr Γ W bs nt ops l κ φ h)[j]? = some q -> q.2.pan = none) /\
   ∀ (j : Nat) (q : Oper × S), j <= i -> (tr Γ W bs nt ops l κ φ h)[j]? = some q -> ∀ k ∈ q.2.uk ++ q.2.pupd, k ∈ (uF Γ W bs nt ops l κ φ h).lost
 | [], _, _, _, hp, _ => by cases hp
 | o :: r, κ, φ, h, hp, hs => by
  have ih := IA (c := c) r (κ + 1) (nX φ o.dst (step Γ W bs nt ops κ φ h o).fv) (aZ h (step Γ W bs nt ops κ φ h o).bg)
  unfold uF at hp hs ⊢
  simp only [tr]
  cases hpn : (step Γ W bs nt ops κ φ h o).pan with
  | some c' =>
   rw [hpn] at hp hs
   simp only [Option.some.injEq] at hp hs
   subst hp
   refine ⟨0, _, rfl, hpn, fun j q hj hq => ?_, fun j q hj hq => by omega, fun j q hj hq k hk => ?_⟩
   ·obtain rfl : j = 0 := by omega
    simp at hq; subst hq; exact hs
   ·obtain rfl : j = 0 := by omega
    simp at hq; subst hq; exact hk
  | none =>
   rw [hpn] at hp hs
   simp only [BX] at hp hs ⊢
   obtain ⟨i, p, h1, h2, h3, h4, h5⟩ := ih hp hs.2
   refine ⟨i + 1, p, by simpa using h1, h2, fun j q hj hq => ?_, fun j q hj hq => ?_, fun j q hj hq k hk => ?_⟩
   ·cases j with
    | zero => simp at hq; subst hq; exact hs.1
    | succ j => exact h3 j q (by omega) (by simpa using hq)
   ·cases j with
    | zero => simp at hq; subst hq; exact hpn
    | succ j => exact h4 j q (by omega) (by simpa using hq)
   ·cases j with
    | zero => simp at hq; subst hq; exact List.mem_append_left _ hk
    | succ j => exact List.mem_append_right _ (h5 j q (by omega) (by simpa using hq) k hk)
theorem Es {id : Nat} {σ : St} {Q : Exit -> Act -> World -> Prop} {a : Act} {w : World} (hsat : Sat W bs nt ds σ a w) {side : Prop} {c : List PanicEntry} {lost : List Nat}
  (hg : uF Γ W bs nt ops ops.toList σ.n σ.φ σ.h = ⟨side, some c, lost⟩) (hside : side)
  (hP : ∀ a' w', Sat W bs nt ds ⟨σ.n, qt ops σ.φ, dropKeys σ.h lost⟩ a' w' -> Q (.panic c) a' w') : (Code.region id ops false).wp P Q a w := by
 obtain ⟨i, p, h1, h2, h3, h4, h5⟩ := IA Γ (c := c) ops.toList σ.n σ.φ σ.h (by rw [hg]) (by rw [hg]; exact hside)
 rw [hg] at h5
 simp only at h5
 have hilt : i < ops.size := by
  have := (List.getElem?_eq_some_iff.1 h1).1
  rwa [ox, Array.length_toList] at this
 have key : ∀ m i', i' + m = ops.size -> i' <= i -> ∀ a w, Inv W bs nt ds (tr Γ W bs nt ops ops.toList σ.n σ.φ σ.h) σ (fun j => decide (j < i')) a w -> wpOps P ops Q (List.range' i' m) a w := by
  intro m
  induction m with
  | zero => intro i' h1 h2; omega
  | succ m ih =>
   intro i' hi hle a w I
   rw [List.range'_succ, wpOps_cons]
   have hlt : i' < ops.toList.length := by simp; omega
   obtain ⟨s, hT⟩ := FO Γ (W := W) (bs := bs) (nt := nt) (ops := ops) (κ := σ.n) (φ := σ.φ) (h := σ.h) (List.getElem?_eq_getElem hlt)
   have hz : ∀ j, decide (j < 0 + i') = decide (j < i') := fun j => by simp
   refine one Γ (L := lost) (fun j q hq hj k hk => h5 j q (hj.elim (fun hj => by have := of_decide_eq_true hj; omega) (fun hj => by omega)) hq k hk) hT (S' := fun j => decide (j < i' + 1)) (by simp) (by simp) (fun j hj => by simp; omega) (fun t _ => by simp only [hz]) (fun t _ => by simp only [hz]) (fun j v hj _ hs => by simp at hs; omega) (fun j v hj _ hs => by simp at hs; omega) I (h3 i' _ hle hT) (fun hpn => ?_) (fun c' hc a' w' hs' => ?_) hsat.fk hsat.hk hsat.pk
   ·by_cases hii : i' = i
    ·subst hii
     rw [h1] at hT
     simp only [Option.some.injEq] at hT
     subst hT
     rw [h2] at hpn
     cases hpn
    ·exact ih (i' + 1) (by omega) (by omega)
   ·by_cases hii : i' = i
    ·subst hii
     rw [h1] at hT
     simp only [Option.some.injEq] at hT
     subst hT
     rw [h2] at hc
     simp only [Option.some.injEq] at hc
     subst hc
     exact hP a' w' hs'
    ·have := h4 i' _ (by omega) hT
     rw [this] at hc
     cases hc
 refine wp_region ?_
 rw [List.range_eq_range']
 exact key ops.size 0 (by omega) (by omega) a w (qT hsat (by simp) _)
end
end
end Go.LE
