/-
  WriteString and String as callees of a walk.
-/
import Derived.Test.YtoglkgbjehbcpaaS2
namespace Go.Proofs.Ytoglkgbjehbcpaa
open Go.RowKit Go.LE
set_option linter.unusedSimpArgs false
set_option linter.unusedVariables false

/-- a builder in own memory: fresh, or written -/
def bldD : Option Ent → Option (ByteArray × Prop)
  | some (.obj [.string s] R) => some (s, R = BldR)
  | some (.cells T [.v (.pointer none), .v (.slice none 0 0)]) => some (⟨#[]⟩, T = 53)
  | _ => none

theorem bldD_sat {E : Nat → Value} {u : Value} {fp : List Nat} {w : World} {e : Ent} {s : ByteArray} {p : Prop} (h : bldD (some e) = some (s, p)) (hp : p) (he : entSat E u fp w e) : BldR [.string s] u fp w := by
  unfold bldD at h
  split at h
  · rename_i s' R heq
    cases h; cases heq
    subst hp
    exact he.1.1
  · rename_i T heq
    cases h; cases heq
    subst hp
    obtain ⟨b, rfl, rfl, hh⟩ := he
    exact ⟨_, b, .slice none 0 0, .pointer none, rfl, rfl, rfl, hh, World.ownsRow_nil w 0 5 1, by simp [Value.ownBlock], .inl rfl⟩
  · cases h

def wsK (k : Nat) (t : ByteArray) : Option (ByteArray × Prop) → R
  | some (s, p) => ⟨p ∧ s.size + t.size ≤ 140737488355328, .tup [.v (.int .i64 t.size), .v .nilIface], [(k, some (.obj [.string (s ++ t)] BldR))], none, [], [k]⟩
  | none => .bad
def wsEv (h : Hp) : List SV → R
  | [.own k 0, .v (.string t)] => wsK k t (bldD (h k))
  | _ => .bad
theorem wsEv_own (h : Hp) (k : Nat) (t : ByteArray) : wsEv h [.own k 0, .v (.string t)] = wsK k t (bldD (h k)) := rfl
theorem wsK_some (k : Nat) (t s : ByteArray) (p : Prop) : wsK k t (some (s, p)) = ⟨p ∧ s.size + t.size ≤ 140737488355328, .tup [.v (.int .i64 t.size), .v .nilIface], [(k, some (.obj [.string (s ++ t)] BldR))], none, [], [k]⟩ := rfl
theorem bldD_obj (s : ByteArray) (R : List Value → Value → List Nat → World → Prop) : bldD (some (.obj [.string s] R)) = some (s, R = BldR) := rfl
theorem bldD_cells (T : TypeId) : bldD (some (.cells T [.v (.pointer none), .v (.slice none 0 0)])) = some (⟨#[]⟩, T = 53) := rfl

theorem den_own0 {E : Nat → Value} {k : Nat} {w : World} {fp : List Nat} {d : List Value} (h : BldR d (E k) fp w) : den E (.own k 0) = E k := by
  obtain ⟨_, b, _, _, _, hu, _⟩ := h
  simp [den, hu, base, ptrAt]

theorem wsEv_inv {h : Hp} {args : List SV} (hs : (wsEv h args).side) : ∃ k t s p, args = [.own k 0, .v (.string t)] ∧ bldD (h k) = some (s, p) ∧ p ∧ s.size + t.size ≤ 140737488355328 := by
  unfold wsEv at hs
  split at hs
  · rename_i k t
    cases hb : bldD (h k) with
    | none => rw [hb] at hs; exact hs.elim
    | some q =>
      obtain ⟨s, p⟩ := q
      rw [hb] at hs
      exact ⟨k, t, s, p, rfl, hb, hs.1, hs.2⟩
  · exact hs.elim

def wsSpec : LE.Spec Try.prog 19 where
  ev := fun _ _ _ h args => wsEv h args
  calls := Try.call19
  good := by
    intro W bs κ E F h w K args hs hK hk hx hside
    obtain ⟨k, t, s, p, rfl, hb, hp, hlen⟩ := wsEv_inv hside
    rw [wsEv_own, hb, wsK_some]
    cases hkk : h k with
    | none => rw [hkk] at hb; cases hb
    | some e =>
      rw [hkk] at hb
      have hB := bldD_sat hb hp (hs.ent k e hkk)
      have hargs : (denL E [.own k 0, .v (.string t)]).toArray = #[E k, .string t] := by
        show #[den E (.own k 0), .string t] = _
        rw [den_own0 hB]
      rw [hargs]
      refine good_borrow (e' := .obj [.string (s ++ t)] BldR) hs hkk ((writeString_any (E k) (F k) s t w hB hlen).mono fun en w' he => ?_) rfl rfl
      obtain ⟨fp', rfl, h1, h2, h3, h4⟩ := he
      refine ⟨_, fp', rfl, ⟨⟨h1, ?_⟩, fun w'' hl => h1.local hl⟩, h2, h3, h4, ?_⟩
      · obtain ⟨_, b, _, _, _, hu, _⟩ := h1
        rw [hu]; rfl
      · simp [den, denL]
  keys := by
    intro W bs κ h K args hK hx hside
    obtain ⟨k, t, s, p, rfl, hb, hp, hlen⟩ := wsEv_inv hside
    rw [wsEv_own, hb, wsK_some]
    refine ⟨fun j hj => by simp [SV.keys, keysL] at hj, fun q hq => ?_⟩
    simp only [List.mem_singleton] at hq
    subst hq
    exact ⟨.inl (hx k (by simp [keysL, SV.keys])), fun e he j hj => by simp at he; subst he; cases hj⟩
  loc := by
    intro W bs κ h h' args hside hr
    obtain ⟨k, t, s, p, rfl, hb, hp, hlen⟩ := wsEv_inv hside
    rw [wsEv_own, hb, wsK_some] at hr
    rw [wsEv_own, wsEv_own, hr k (by simp)]

def stK (k : Nat) : Option (ByteArray × Prop) → R
  | some (s, p) => ⟨p, .v (.string s), [(k, none)], none, [], [k]⟩
  | none => .bad
def stEv (h : Hp) : List SV → R
  | [.own k 0] => stK k (bldD (h k))
  | _ => .bad
theorem stEv_own (h : Hp) (k : Nat) : stEv h [.own k 0] = stK k (bldD (h k)) := rfl
theorem stK_some (k : Nat) (s : ByteArray) (p : Prop) : stK k (some (s, p)) = ⟨p, .v (.string s), [(k, none)], none, [], [k]⟩ := rfl
theorem stEv_inv {h : Hp} {args : List SV} (hs : (stEv h args).side) : ∃ k s p, args = [.own k 0] ∧ bldD (h k) = some (s, p) ∧ p := by
  unfold stEv at hs
  split at hs
  · rename_i k
    cases hb : bldD (h k) with
    | none => rw [hb] at hs; exact hs.elim
    | some q =>
      obtain ⟨s, p⟩ := q
      rw [hb] at hs
      exact ⟨k, s, p, rfl, hb, hs⟩
  · exact hs.elim
def stSpec : LE.Spec Try.prog 21 where
  ev := fun _ _ _ h args => stEv h args
  calls := Try.call21
  good := by
    intro W bs κ E F h w K args hs hK hk hx hside
    obtain ⟨k, s, p, rfl, hb, hp⟩ := stEv_inv hside
    rw [stEv_own, hb, stK_some]
    cases hkk : h k with
    | none => rw [hkk] at hb; cases hb
    | some e =>
      rw [hkk] at hb
      have hB := bldD_sat hb hp (hs.ent k e hkk)
      have hargs : (denL E [.own k 0]).toArray = #[E k] := by simp only [denL, den_own0 hB]
      rw [hargs]
      refine (string_any (E k) (F k) s w hB).mono fun en w' he => ?_
      obtain ⟨rfl, hkeep⟩ := he
      exact ⟨rfl, E, F, fun _ _ => rfl, rfl, hs.lose hkk hkeep⟩
  keys := by
    intro W bs κ h K args hK hx hside
    obtain ⟨k, s, p, rfl, hb, hp⟩ := stEv_inv hside
    rw [stEv_own, hb, stK_some]
    refine ⟨fun j hj => by simp [SV.keys] at hj, fun q hq => ?_⟩
    simp only [List.mem_singleton] at hq
    subst hq
    exact ⟨.inl (hx k (by simp [keysL, SV.keys])), fun e he => by cases he⟩
  loc := by
    intro W bs κ h h' args hside hr
    obtain ⟨k, s, p, rfl, hb, hp⟩ := stEv_inv hside
    rw [stEv_own, hb, stK_some] at hr
    rw [stEv_own, stEv_own, hr k (by simp)]
end Go.Proofs.Ytoglkgbjehbcpaa
