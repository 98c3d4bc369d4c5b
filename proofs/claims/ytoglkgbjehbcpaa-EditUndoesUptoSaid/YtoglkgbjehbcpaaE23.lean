/-
  LE, the engine, part 23: slices that come in.
-/
import Derived.Test.YtoglkgbjehbcpaaE22
namespace Go.LE
open Go.RowKit
set_option linter.unusedSimpArgs false
set_option linter.unusedVariables false

/-- from address ao on these values stand in memory -/
def SlIs (w : World) (ao : Option Addr) (vs : List Value) : Prop :=
  vs = [] ∨ ∃ b o, ao = some ⟨b, o, none⟩ ∧ ∀ j (h : j < vs.length), w.cell? ⟨b, o + j, none⟩ = some vs[j]

def avIs (W : World) (bs : List Nat) (sz n : Nat) (vs : List Value) : AV → Prop
  | .row _ s m us => s = sz ∧ m = n ∧ us = vs
  | .val (.slice ao m _) => m = n ∧ vs.length = n * sz ∧ (vs = [] ∨ ∃ b o, ao = some ⟨b, o, none⟩ ∧ b ∉ bs ∧ ∀ j (h : j < vs.length), W.cell? ⟨b, o + j, none⟩ = some vs[j])
  | _ => False

def rdC (W : World) (b o n : Nat) : List Value := (List.range n).map fun j => (W.cell? ⟨b, o + j, none⟩).getD undef
def avVals (W : World) (sz : Nat) : AV → List Value
  | .row _ _ _ us => us
  | .val (.slice (some ⟨b, o, none⟩) m _) => rdC W b o (m * sz)
  | _ => []

theorem avVals_eq {W : World} {bs : List Nat} {sz n : Nat} {vs : List Value} {a : AV} (h : avIs W bs sz n vs a) : avVals W sz a = vs := by
  cases a with
  | row T s m us => exact h.2.2
  | val v =>
    cases v with
    | slice ao m c =>
      obtain ⟨rfl, hl, h⟩ := h
      rcases h with rfl | ⟨b, o, rfl, _, hc⟩
      · have hz : m * sz = 0 := by simpa using hl.symm
        cases ao with
        | none => rfl
        | some a =>
          obtain ⟨b, o, sp⟩ := a
          cases sp with
          | none => simp [avVals, rdC, hz]
          | some x => rfl
      · simp only [avVals, rdC]
        apply List.ext_getElem?
        intro j
        rw [List.getElem?_map]
        by_cases hj : j < m * sz
        · rw [List.getElem?_range hj, List.getElem?_eq_getElem (by omega)]
          simp [hc j (by omega)]
        · rw [List.getElem?_eq_none (by simp; omega), List.getElem?_eq_none (by omega)]
          rfl
    | _ => exact h.elim

theorem avIs_sl {W w : World} {bs : List Nat} {sz n : Nat} {vs : List Value} {a : AV} {u : Value} (hk : Keeps W bs w) (hu : avSat w u a) (h : avIs W bs sz n vs a) : ∃ ao c, u = .slice ao n c ∧ SlIs w ao vs := by
  cases a with
  | row T s m us =>
    obtain ⟨rfl, rfl, rfl⟩ := h
    obtain ⟨hl, h⟩ := hu
    rcases h with ⟨rfl, rfl⟩ | ⟨g, cap, cur, rfl, _, hh, _, _, hsz, htk⟩
    · exact ⟨none, 0, rfl, .inl (by simpa using hl)⟩
    · refine ⟨some ⟨g, 0, none⟩, cap, rfl, .inr ⟨g, 0, rfl, fun j hj => ?_⟩⟩
      rw [Nat.zero_add]
      have hj' : j < m * s := by omega
      have : us[j]? = cur[j]? := by rw [← htk, List.getElem?_take, if_pos hj']; simp
      simp only [World.cell?, hh]
      rw [← this, List.getElem?_eq_getElem hj]
      rfl
  | val v =>
    cases v with
    | slice ao m c =>
      obtain ⟨rfl, hl, h⟩ := h
      cases hu
      refine ⟨ao, c, rfl, ?_⟩
      rcases h with h | ⟨b, o, rfl, hb, hc⟩
      · exact .inl h
      · refine .inr ⟨b, o, rfl, fun j hj => ?_⟩
        have := hc j hj
        rw [hk.cell hb (by rw [this]; rfl), this]
        rfl
    | _ => exact h.elim

/-- An own thing lost: its blocks may be written. -/
theorem HeapSat.lose {W : World} {bs : List Nat} {E : Nat → Value} {F : Nat → List Nat} {h : Nat → Option Ent} {w w' : World} {k : Nat} {e : Ent} (hs : HeapSat W bs E F h w) (hk : h k = some e) (hkeep : Keeps w (F k) w') :
    HeapSat W bs E F (upd h k none) w' := by
  have old : ∀ j x, upd h k none j = some x → h j = some x ∧ j ≠ k := fun j x hj => by
    by_cases hjk : j = k
    · subst hjk; rw [upd_same] at hj; cases hj
    · rw [upd_ne _ _ hjk] at hj; exact ⟨hj, hjk⟩
  refine ⟨fun j x hj => ?_, fun j x hj b hb => Nat.lt_of_lt_of_le (hs.lt j x (old j x hj).1 b hb) hkeep.size, fun j x hj => hs.mine j x (old j x hj).1, fun i j x y hij hi hj => hs.apart i j x y hij (old i x hi).1 (old j y hj).1, ?_⟩
  · obtain ⟨hj, hne⟩ := old j x hj
    exact entSat_local (hs.ent j x hj) fun b hb => hkeep.block b (hs.lt j x hj b hb) fun hb' => hs.apart j k x e hne hj hk b hb hb'
  · exact hs.keeps.trans hkeep fun b hb hlt => (hs.mine k e hk b hb).resolve_left (by omega)

/-- An own thing told otherwise. -/
theorem Le.conv {W : World} {bs : List Nat} {nt : Nat} {ds : Aux} {σ : St} {k : Nat} {e e' : Ent} (hk : σ.h k = some e) (he : ∀ E u fp w, entSat E u fp w e → entSat E u fp w e') (hkeys : ∀ j ∈ e'.keys, j ∈ e.keys) :
    Le W bs nt ds σ ⟨σ.n, σ.φ, upd σ.h k (some e')⟩ := by
  rintro a w ⟨⟨E, F, hφ, hs, hp⟩, h1, h2, h3, h4, h5⟩
  have old : ∀ j x, upd σ.h k (some e') j = some x → ∃ y, σ.h j = some y ∧ ((j = k ∧ x = e') ∨ x = y) := fun j x hj => by
    by_cases hjk : j = k
    · subst hjk; rw [upd_same] at hj; cases hj; exact ⟨e, hk, .inl ⟨rfl, rfl⟩⟩
    · rw [upd_ne _ _ hjk] at hj; exact ⟨x, hj, .inr rfl⟩
  refine ⟨⟨E, F, hφ, ⟨fun j x hj => ?_, fun j x hj => ?_, fun j x hj => ?_, fun i j x y hij hi hj => ?_, hs.keeps⟩, hp⟩, h1, h2, h3, h4, fun j x hj => ?_⟩
  · obtain ⟨y, hy, h⟩ := old j x hj
    rcases h with ⟨rfl, rfl⟩ | rfl
    · rw [hk] at hy; cases hy
      exact he _ _ _ _ (hs.ent j e hk)
    · exact hs.ent j x hy
  · obtain ⟨y, hy, _⟩ := old j x hj; exact hs.lt j y hy
  · obtain ⟨y, hy, _⟩ := old j x hj; exact hs.mine j y hy
  · obtain ⟨x', hx', _⟩ := old i x hi
    obtain ⟨y', hy', _⟩ := old j y hj
    exact hs.apart i j x' y' hij hx' hy'
  · obtain ⟨y, hy, h⟩ := old j x hj
    rcases h with ⟨rfl, rfl⟩ | rfl
    · rw [hk] at hy; cases hy
      exact ⟨(h5 j e hk).1, fun i hi => (h5 j e hk).2 i (hkeys i hi)⟩
    · exact h5 j x hy
end Go.LE
