/-
  LE, the engine, part 1: symbolic values, frames, own memory; what it is for a state of the machine to fit them.
-/
import Derived.WalkKit
namespace Go.LE
open Go.RowKit

/-- A symbolic value: a value; a pointer into the k-th own thing; the handle of the k-th own thing; parts of such; the i-th of the cells that the k-th handle bundles. -/
inductive SV where
  | v (x : Value)
  | own (k off : Nat)
  | hd (k : Nat)
  | agg (l : List SV)
  | tup (l : List SV)
  | ifc (t : TypeId) (x : SV)
  | part (k i : Nat)
  | fn (f : Fn) (first cap : List SV)

/-- Where a pointer or a slice begins. -/
def base : Value → Option Addr
  | .pointer (some a) => some a
  | .slice (some a) _ _ => some a
  | _ => none

def ptrAt : Option Addr → Nat → Value
  | some a, o => .pointer (some ⟨a.block, a.off + o, none⟩)
  | none, _ => .nilIface

/-- A handle is the value of one cell. -/
def hv (u : Value) : Value := if u.oneCell' then u else .nilIface
theorem hv_one (u : Value) : (hv u).oneCell' = true := by
  unfold hv
  split
  · assumption
  · rfl
theorem hv_of {u : Value} (h : u.oneCell' = true) : hv u = u := by simp [hv, h]
theorem cells_of_one' {u : Value} (h : u.oneCell' = true) : u.cells = #[u] := by cases u <;> first | rfl | (simp [Value.oneCell'] at h)

/-- A cell of many that are known under one handle. -/
def partV : Value → Nat → Value
  | .iface _ (.agg cs), i => cs.getD i .nilIface
  | _, _ => .nilIface

mutual
def den (E : Nat → Value) : SV → Value
  | .v x => x
  | .own k o => ptrAt (base (E k)) o
  | .hd k => hv (E k)
  | .agg l => .agg (denL E l).toArray
  | .tup l => .tuple (denL E l).toArray
  | .ifc t x => .iface t (den E x)
  | .part k i => hv (partV (E k) i)
  | .fn f a c => .func f (denL E a).toArray (denL E c).toArray
def denL (E : Nat → Value) : List SV → List Value
  | [] => []
  | x :: r => den E x :: denL E r
end

mutual
def SV.keys : SV → List Nat
  | .v _ => []
  | .own k _ => [k]
  | .hd k => [k]
  | .agg l => keysL l
  | .tup l => keysL l
  | .ifc _ x => x.keys
  | .part k _ => [k]
  | .fn _ a c => keysL a ++ keysL c
def keysL : List SV → List Nat
  | [] => []
  | x :: r => x.keys ++ keysL r
end

mutual
theorem den_congr {E E' : Nat → Value} : ∀ x : SV, (∀ k ∈ x.keys, E k = E' k) → den E x = den E' x
  | .v _, _ => rfl
  | .own k o, h => by simp only [den]; rw [h k (by simp [SV.keys])]
  | .hd k, h => by simp only [den]; rw [h k (by simp [SV.keys])]
  | .agg l, h => by simp only [den]; rw [denL_congr l (by simpa [SV.keys] using h)]
  | .tup l, h => by simp only [den]; rw [denL_congr l (by simpa [SV.keys] using h)]
  | .ifc t x, h => by simp only [den]; rw [den_congr x (by simpa [SV.keys] using h)]
  | .part k i, h => by simp only [den]; rw [h k (by simp [SV.keys])]
  | .fn f a c, h => by
    simp only [den]
    rw [denL_congr a (fun k hk => h k (by simp [SV.keys, hk])), denL_congr c (fun k hk => h k (by simp [SV.keys, hk]))]
theorem denL_congr {E E' : Nat → Value} : ∀ l : List SV, (∀ k ∈ keysL l, E k = E' k) → denL E l = denL E' l
  | [], _ => rfl
  | x :: r, h => by
    simp only [denL]
    rw [den_congr x (fun k hk => h k (by simp [keysL, hk])), denL_congr r (fun k hk => h k (by simp [keysL, hk]))]
end

theorem denL_eq_map (E : Nat → Value) : ∀ l, denL E l = l.map (den E)
  | [] => rfl
  | x :: r => by simp [denL, denL_eq_map E r]
theorem keysL_mem {k : Nat} : ∀ {l : List SV}, k ∈ keysL l ↔ ∃ x ∈ l, k ∈ x.keys
  | [] => by simp [keysL]
  | x :: r => by simp [keysL, keysL_mem (l := r)]
theorem denL_length (E : Nat → Value) (l : List SV) : (denL E l).length = l.length := by simp [denL_eq_map]
theorem denL_map_v (E : Nat → Value) (l : List Value) : denL E (l.map SV.v) = l := by simp [denL_eq_map, Function.comp_def, den]
theorem keysL_map_v (l : List Value) : keysL (l.map SV.v) = [] := by
  induction l with
  | nil => rfl
  | cons x r ih => simp [keysL, SV.keys, ih]
theorem denL_append (E : Nat → Value) (a b : List SV) : denL E (a ++ b) = denL E a ++ denL E b := by simp [denL_eq_map]
theorem keysL_append (a b : List SV) : keysL (a ++ b) = keysL a ++ keysL b := by
  induction a with
  | nil => rfl
  | cons x r ih => simp [keysL, ih]

/-- What a slot of the frame is known to hold: just this; this, where b holds, and nothing of any use else; nothing is known. -/
inductive FV where
  | is (x : SV)
  | cnd (b : Bool) (x : SV)
  | any

def FV.keys : FV → List Nat
  | .is x => x.keys
  | .cnd b x => bif b then x.keys else []
  | .any => []

def fits (E : Nat → Value) : FV → Value → Prop
  | .is x, u => u = den E x
  | .cnd b x, u => u = bif b then den E x else undef
  | .any, _ => True

theorem fits_congr {E E' : Nat → Value} {f : FV} {u : Value} (h : ∀ k ∈ f.keys, E k = E' k) (hf : fits E f u) : fits E' f u := by
  cases f with
  | is x => simpa [fits, den_congr x h] using hf
  | cnd b x =>
    cases b with
    | false => exact hf
    | true => simpa [fits, den_congr x h] using hf
  | any => trivial

/-- Own things in memory. -/
inductive Ent where
  /-- a whole block of these cells -/
  | cells (T : TypeId) (vs : List SV)
  /-- a slice of n elements of 'size' cells each, alone on its block, which may have more room -/
  | row (T : TypeId) (size n : Nat) (vs : List SV)
  /-- whatever else, told by a predicate of its handle, the blocks it lies in, and the world -/
  | obj (d : List Value) (R : List Value → Value → List Nat → World → Prop)

def Ent.keys : Ent → List Nat
  | .cells _ vs => keysL vs
  | .row _ _ _ vs => keysL vs
  | .obj _ _ => []

/-- One own thing stands in memory: its handle, its blocks. -/
def entSat (E : Nat → Value) (u : Value) (fp : List Nat) (w : World) : Ent → Prop
  | .cells T vs => ∃ b, u = .pointer (some ⟨b, 0, none⟩) ∧ fp = [b] ∧ w.heap[b]? = some (.cells (denL E vs).toArray T (0, 0))
  | .row T size n vs => w.ownsRow 0 T size u n (denL E vs) ∧ fp = u.ownBlock.toList
  | .obj d R => (R d u fp w ∧ u.oneCell' = true) ∧ ∀ w' : World, (∀ b ∈ fp, w'.heap[b]? = w.heap[b]?) → R d u fp w'

theorem entSat_local {E : Nat → Value} {u : Value} {fp : List Nat} {w w' : World} {e : Ent} (h : entSat E u fp w e) (hl : ∀ b ∈ fp, w'.heap[b]? = w.heap[b]?) : entSat E u fp w' e := by
  cases e with
  | cells T vs =>
    obtain ⟨b, h1, h2, h3⟩ := h
    exact ⟨b, h1, h2, by rw [hl b (by simp [h2])]; exact h3⟩
  | row T size n vs =>
    obtain ⟨⟨h1, h2⟩, h3⟩ := h
    refine ⟨⟨h1, ?_⟩, h3⟩
    rcases h2 with h2 | ⟨g, cap, cur, hv, hg, hh, r⟩
    · exact .inl h2
    · refine .inr ⟨g, cap, cur, hv, hg, ?_, r⟩
      rw [hl g (by rw [h3, hv]; simp [Value.ownBlock])]
      exact hh
  | obj d R =>
    refine ⟨⟨h.2 w' hl, h.1.2⟩, fun w'' hl' => h.2 w'' fun b hb => (hl' b hb).trans (hl b hb)⟩

theorem entSat_one {E : Nat → Value} {u : Value} {fp : List Nat} {w : World} {e : Ent} (h : entSat E u fp w e) : u.oneCell' = true := by
  cases e with
  | cells T vs => obtain ⟨b, h1, _⟩ := h; rw [h1]; rfl
  | row T size n vs => rcases h.1.2 with ⟨h1, _⟩ | ⟨g, cap, cur, h1, _⟩ <;> rw [h1] <;> rfl
  | obj d R => exact h.1.2

theorem entSat_congr {E E' : Nat → Value} {u : Value} {fp : List Nat} {w : World} {e : Ent} (hk : ∀ k ∈ e.keys, E k = E' k) (h : entSat E u fp w e) : entSat E' u fp w e := by
  cases e with
  | cells T vs => simpa [entSat, denL_congr vs hk] using h
  | row T size n vs => simpa [entSat, denL_congr vs hk] using h
  | obj d R => exact h

/-- From W on nothing has turned in the blocks that were there, but for those of bs. -/
structure Keeps (W : World) (bs : List Nat) (w : World) : Prop where
  os : w.os = W.os
  tape : w.tape = W.tape
  output : w.output = W.output
  size : W.heap.size ≤ w.heap.size
  block : ∀ b, b < W.heap.size → b ∉ bs → w.heap[b]? = W.heap[b]?

theorem Keeps.refl (W : World) (bs : List Nat) : Keeps W bs W := ⟨rfl, rfl, rfl, Nat.le_refl _, fun _ _ _ => rfl⟩
theorem Keeps.below {W w : World} (h : Keeps W [] w) : Below W.heap.size W w := ⟨h.os, h.tape, h.output, h.size, fun k hk => h.block k hk (by simp)⟩
theorem Keeps.of_below {W w : World} (h : Below W.heap.size W w) : Keeps W [] w := ⟨h.os, h.tape, h.output, h.size, fun b hb _ => h.block b hb⟩
theorem Keeps.mono {W w : World} {bs bs' : List Nat} (h : Keeps W bs w) (hs : ∀ b ∈ bs, b ∈ bs') : Keeps W bs' w :=
  ⟨h.os, h.tape, h.output, h.size, fun b hb hn => h.block b hb fun hm => hn (hs b hm)⟩
theorem Keeps.drop {W w : World} {bs bs' : List Nat} (h : Keeps W bs' w) (hs : ∀ b ∈ bs', b < W.heap.size → b ∈ bs) : Keeps W bs w :=
  ⟨h.os, h.tape, h.output, h.size, fun b hb hn => h.block b hb fun hm => hn (hs b hm hb)⟩
theorem Keeps.trans {W w w' : World} {bs bs' : List Nat} (h : Keeps W bs w) (h' : Keeps w bs' w') (hs : ∀ b ∈ bs', b < W.heap.size → b ∈ bs) : Keeps W bs w' :=
  ⟨h'.os.trans h.os, h'.tape.trans h.tape, h'.output.trans h.output, Nat.le_trans h.size h'.size,
   fun b hb hn => (h'.block b (Nat.lt_of_lt_of_le hb h.size) fun hm => hn (hs b hm hb)).trans (h.block b hb hn)⟩

/-- The symbolic memory fits the world: E the handles, F the blocks. -/
structure HeapSat (W : World) (bs : List Nat) (E : Nat → Value) (F : Nat → List Nat) (h : Nat → Option Ent) (w : World) : Prop where
  ent : ∀ k e, h k = some e → entSat E (E k) (F k) w e
  lt : ∀ k e, h k = some e → ∀ b ∈ F k, b < w.heap.size
  mine : ∀ k e, h k = some e → ∀ b ∈ F k, W.heap.size ≤ b ∨ b ∈ bs
  apart : ∀ k k' e e', k ≠ k' → h k = some e → h k' = some e' → ∀ b ∈ F k, b ∉ F k'
  keeps : Keeps W bs w

/-- A value for key k. -/
def upd {α : Type} (f : Nat → α) (k : Nat) (x : α) : Nat → α := fun j => if j = k then x else f j
theorem upd_same {α : Type} (f : Nat → α) (k : Nat) (x : α) : upd f k x k = x := by simp [upd]
theorem upd_ne {α : Type} (f : Nat → α) {k j : Nat} (x : α) (h : j ≠ k) : upd f k x j = f j := by simp [upd, h]

def updL {α : Type} (f : Nat → α) : List (Nat × α) → Nat → α
  | [] => f
  | (k, x) :: r => updL (upd f k x) r

end Go.LE
