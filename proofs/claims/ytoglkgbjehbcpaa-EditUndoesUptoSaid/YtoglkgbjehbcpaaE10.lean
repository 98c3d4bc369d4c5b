/-
  LE, the engine, part 10: which keys an operation's result speaks of; what it looked at.
-/
import Derived.Test.YtoglkgbjehbcpaaE9
namespace Go.LE
open Go.RowKit
set_option linter.unusedSimpArgs false
set_option linter.unusedVariables false

section
variable {P : Program} {W : World} {bs : List Nat} {κ : Nat} {h : Nat → Option Ent} {K : Nat → Prop} (Γ : Env P)

theorem keysL_take {k n : Nat} {l : List SV} (hk : k ∈ keysL (l.take n)) : k ∈ keysL l := by
  obtain ⟨y, hy, hky⟩ := keysL_mem.1 hk
  exact keysL_mem.2 ⟨y, List.mem_of_mem_take hy, hky⟩
theorem keysL_drop {k n : Nat} {l : List SV} (hk : k ∈ keysL (l.drop n)) : k ∈ keysL l := by
  obtain ⟨y, hy, hky⟩ := keysL_mem.1 hk
  exact keysL_mem.2 ⟨y, List.mem_of_mem_drop hy, hky⟩
theorem keys_getD {k n : Nat} {l : List SV} {x : Value} (hk : k ∈ (l.getD n (.v x)).keys) : k ∈ keysL l := by
  rw [List.getD_eq_getElem?_getD] at hk
  cases hl : l[n]? with
  | none => rw [hl] at hk; cases hk
  | some y => rw [hl] at hk; exact keysL_mem.2 ⟨y, List.mem_of_getElem? hl, hk⟩
theorem keys_setRange {k o : Nat} {vs ps : List SV} (hk : k ∈ keysL (setRange vs o ps)) : k ∈ keysL vs ∨ k ∈ keysL ps := by
  rw [setRange, keysL_append, keysL_append] at hk
  simp only [List.mem_append] at hk
  rcases hk with (hk | hk) | hk
  · exact .inl (keysL_take hk)
  · exact .inr hk
  · exact .inl (keysL_drop hk)
theorem entVs_keys {k : Nat} {vs : List SV} (hK : KeysIn K h) (hv : entVs (h k) = some vs) : K k ∧ ∀ j ∈ keysL vs, K j := by
  cases hk : h k with
  | none => simp [hk, entVs] at hv
  | some e =>
    have := hK k e hk
    cases e with
    | obj d R => simp [hk, entVs] at hv
    | cells T us => simp [hk, entVs] at hv; subst hv; exact this
    | row T s n us => simp [hk, entVs] at hv; subst hv; exact this
theorem xcells_keys (W : World) (b : Nat) : ∀ o n, keysL (xcells W b o n) = []
  | _, 0 => rfl
  | o, n + 1 => by simp [xcells, keysL, SV.keys, xcells_keys W b (o + 1) n]
theorem partSV_keys {ag : Bool} {off sz k : Nat} {l : List SV} (hk : k ∈ (partSV ag off sz l).val.keys) : k ∈ keysL l := by
  cases ag with
  | true => exact keysL_drop (keysL_take hk)
  | false => exact keys_getD hk
theorem zip_keys {k : Nat} {idx : List Nat} {args : List SV} (hk : k ∈ keysL ((idx.zip args).map (·.2))) : k ∈ keysL args := by
  obtain ⟨y, hy, hky⟩ := keysL_mem.1 hk
  obtain ⟨p, hp, rfl⟩ := List.mem_map.1 hy
  exact keysL_mem.2 ⟨p.2, (List.of_mem_zip hp).2, hky⟩

theorem sem_keys (op : Op) (args : List SV) (hK : KeysIn K h) (hx : ∀ k ∈ keysL args, K k) (hside : (sem Γ W bs κ h op args).side) : KeysOk K κ (sem Γ W bs κ h op args) := by
  have nil : ∀ {x : Value}, ∀ k ∈ (SV.v x).keys, K k := fun k hk => by cases hk
  have hF : ∀ f as_, (∀ k ∈ keysL as_, K k) → (semF Γ W bs κ h f as_).side → KeysOk K κ (semF Γ W bs κ h f as_) := fun f as_ hxx hs => by
    revert hs
    unfold semF
    split
    · rename_i s _; exact fun hs => s.keys W bs κ h K as_ hK hxx hs
    · exact fun hf => hf.elim
  have key : ∀ (as_ : List SV) (place : Nat → Option (Nat × Nat)) (zs : List Value) (idx : List Nat) (cells : List SV), (∀ k ∈ keysL as_, K k) → fillSV place (zs.map .v) (idx.zip as_) = some cells → ∀ k ∈ keysL cells, K k := fun as_ place zs idx cells hxx hf k hk => by
    rcases fillSV_keys hf hk with h1 | h1
    · rw [keysL_map_v] at h1; cases h1
    · exact hxx k (zip_keys h1)
  unfold sem at *
  split at hside
  · exact KeysOk.plain (fun k hk => hx k (by simpa [keysL, R.ok] using hk)) rfl
  · exact KeysOk.plain (fun k hk => hx k (by simpa [keysL, R.ok] using hk)) rfl
  · revert hside
    unfold semAlloc
    split
    · intro _
      refine ⟨fun k hk => .inr ?_, fun p hp => ?_⟩
      · simp [R.new, SV.keys] at hk; subst hk; exact nk_div0 κ
      · simp [R.new] at hp; subst hp
        refine ⟨.inr (nk_div0 κ), fun e he k hk => ?_⟩
        simp at he; subst he; simp [Ent.keys, keysL_map_v] at hk
    · exact fun hf => hf.elim
  · revert hside
    unfold semBox
    split
    · rename_i x
      intro _
      refine ⟨fun k hk => .inr ?_, fun p hp => ?_⟩
      · simp [R.new, SV.keys] at hk; subst hk; exact nk_div0 κ
      · simp [R.new] at hp; subst hp
        refine ⟨.inr (nk_div0 κ), fun e he k hk => .inl (hx k ?_)⟩
        simp at he; subst he
        simp only [Ent.keys, keys_partsOf] at hk
        simpa [keysL] using hk
    · exact fun hf => hf.elim
  · revert hside
    unfold semBuild
    split
    · split
      · rename_i cells hf; exact fun _ => KeysOk.plain (fun k hk => key _ _ _ _ _ hx hf k (by simpa [R.ok, SV.keys] using hk)) rfl
      · exact fun hf => hf.elim
    · split
      · split
        · rename_i cells hf; exact fun _ => KeysOk.plain (fun k hk => key _ _ _ _ _ hx hf k (by simpa [R.ok, SV.keys] using hk)) rfl
        · exact fun hf => hf.elim
      · exact fun hf => hf.elim
    · exact fun hf => hf.elim
  · revert hside
    unfold semBuildSlice
    split
    · split
      · split
        · rename_i cells hf
          intro _
          refine ⟨fun k hk => .inr ?_, fun p hp => ?_⟩
          · simp [SV.keys] at hk; subst hk; exact nk_div0 κ
          · simp at hp; subst hp
            refine ⟨.inr (nk_div0 κ), fun e he k hk => .inl ?_⟩
            obtain rfl := Option.some.inj he
            exact key _ _ _ _ _ hx hf k hk
        · exact fun hf => hf.elim
      · exact fun hf => hf.elim
    · exact fun hf => hf.elim
  · revert hside
    unfold semLoad
    split
    · split
      · rename_i hvs; exact fun _ => KeysOk.plain (fun k hk => (entVs_keys hK hvs).2 k (keysL_drop (keysL_take (by simpa [SV.keys] using hk)))) rfl
      · rename_i hvs; exact fun _ => KeysOk.plain (fun k hk => (entVs_keys hK hvs).2 k (keys_getD hk)) rfl
      · exact fun hf => hf.elim
    · split
      · exact fun _ => KeysOk.plain (fun k hk => by simp [SV.keys, xcells_keys] at hk) rfl
      · exact fun _ => KeysOk.plain nil rfl
      · exact fun hf => hf.elim
    · exact fun hf => hf.elim
  · revert hside
    unfold semStore
    split
    · rename_i k o x
      split
      · rename_i sz vs hsz hvs
        intro _
        obtain ⟨hk1, hk2⟩ := entVs_keys hK hvs
        refine ⟨fun k hk => (by cases hk), fun p hp => ?_⟩
        simp at hp; subst hp
        refine ⟨.inl hk1, fun e he j hj => .inl ?_⟩
        have hxk : ∀ j ∈ keysL (partsOf x), K j := fun j hj => hx j (by rw [keys_partsOf] at hj; simp [keysL, hj])
        cases hh : h k with
        | none => simp [hh, entVs] at hvs
        | some en =>
          cases en with
          | obj d R => simp [hh, entVs] at hvs
          | cells T us =>
            simp [hh, setEnt] at he; subst he
            simp [hh, entVs] at hvs; subst hvs
            rcases keys_setRange hj with h1 | h1
            · exact hk2 j h1
            · exact hxk j h1
          | row T s n us =>
            simp [hh, setEnt] at he; subst he
            simp [hh, entVs] at hvs; subst hvs
            rcases keys_setRange hj with h1 | h1
            · exact hk2 j h1
            · exact hxk j h1
      · exact fun hf => hf.elim
    · exact fun hf => hf.elim
  · revert hside
    unfold semNilCheck
    split
    · split
      · exact fun _ => KeysOk.plain (by simpa [keysL] using hx) rfl
      · exact fun hf => hf.elim
    · exact fun _ => KeysOk.plain nil rfl
    · exact fun hf => hf.elim
  · revert hside
    unfold semBin
    split
    · split <;> exact fun _ => KeysOk.plain nil rfl
    · exact fun _ => KeysOk.plain nil rfl
    · split <;> first | exact fun _ => KeysOk.plain nil rfl | exact fun hf => hf.elim
    · split <;> first | exact fun _ => KeysOk.plain nil rfl | exact fun hf => hf.elim
    · exact fun hf => hf.elim
  · revert hside
    unfold semUn
    split
    · split <;> first | exact fun _ => KeysOk.plain nil rfl | exact fun hf => hf.elim
    · split <;> first | exact fun _ => KeysOk.plain nil rfl | exact fun hf => hf.elim
    · exact fun hf => hf.elim
  · revert hside
    unfold semConvert
    split
    · split <;> first | exact fun _ => KeysOk.plain nil rfl | exact fun hf => hf.elim
    · split <;> first | exact fun _ => KeysOk.plain nil rfl | exact fun hf => hf.elim
    · exact fun hf => hf.elim
  · revert hside
    unfold semMkI
    split
    · exact fun _ => KeysOk.plain nil rfl
    · exact fun _ => KeysOk.plain (by simpa [keysL, R.req, SV.keys] using hx) rfl
    · exact fun hf => hf.elim
  · rename_i first cap args
    refine KeysOk.plain (fun k hk => hx k ?_) rfl
    simp only [R.ok, SV.keys, List.mem_append] at hk
    rcases hk with hk | hk
    · exact keysL_take hk
    · exact keysL_drop hk
  · revert hside
    unfold semMake
    split
    · split
      · split
        · intro _
          refine ⟨fun k hk => .inr ?_, fun p hp => ?_⟩
          · simp [SV.keys] at hk; subst hk; exact nk_div0 κ
          · simp only [List.mem_singleton] at hp; subst hp
            refine ⟨.inr (nk_div0 κ), fun e he k hk => ?_⟩
            obtain rfl := Option.some.inj he
            rw [Ent.keys, keysL_map_v] at hk
            cases hk
        · exact fun hf => hf.elim
      · exact fun hf => hf.elim
    · exact fun hf => hf.elim
  · revert hside
    unfold semSlice
    split
    · split
      · exact fun _ => KeysOk.plain nil rfl
      · exact fun hf => hf.elim
    · split
      · unfold semSliceX
        split
        · split
          · exact fun _ => KeysOk.plain nil rfl
          · exact fun hf => hf.elim
        · exact fun hf => hf.elim
      · exact fun hf => hf.elim
    · exact fun hf => hf.elim
  · revert hside
    unfold semFieldAddr
    split
    · split
      · exact fun _ => KeysOk.plain (fun k hk => hx k (by simpa [keysL, SV.keys] using hk)) rfl
      · exact fun hf => hf.elim
    · split
      · exact fun _ => KeysOk.plain nil rfl
      · exact fun hf => hf.elim
    · exact fun hf => hf.elim
  · revert hside
    unfold semField
    split
    · split
      · exact fun _ => KeysOk.plain (fun k hk => hx k (by simpa [keysL, SV.keys] using partSV_keys hk)) (partSV_upd _ _ _ _).1
      · exact fun hf => hf.elim
    · split
      · exact fun _ => KeysOk.plain (fun k hk => by have := partSV_keys hk; rw [keysL_map_v] at this; cases this) (partSV_upd _ _ _ _).1
      · exact fun hf => hf.elim
    · exact fun hf => hf.elim
  · revert hside
    unfold semIndexAddr
    split
    · split
      · exact fun _ => KeysOk.plain (fun k hk => hx k (by simpa [keysL, SV.keys] using hk)) rfl
      · exact fun hf => hf.elim
    · split
      · split
        · exact fun _ => KeysOk.plain (fun k hk => hx k (by simp [SV.keys] at hk; simp [keysL, SV.keys, hk])) rfl
        · exact fun hf => hf.elim
      · exact fun hf => hf.elim
    · split
      · split
        · exact fun _ => KeysOk.plain nil rfl
        · exact fun hf => hf.elim
      · exact fun hf => hf.elim
    · exact fun hf => hf.elim
  · revert hside
    unfold semIndex
    split
    · exact fun _ => KeysOk.plain nil rfl
    · split
      · split
        · exact fun _ => KeysOk.plain (fun k hk => hx k (by simpa [keysL, SV.keys] using partSV_keys hk)) (partSV_upd _ _ _ _).1
        · exact fun hf => hf.elim
      · exact fun hf => hf.elim
    · split
      · split
        · exact fun _ => KeysOk.plain (fun k hk => by have := partSV_keys hk; rw [keysL_map_v] at this; cases this) (partSV_upd _ _ _ _).1
        · exact fun hf => hf.elim
      · exact fun hf => hf.elim
    · exact fun hf => hf.elim
  · revert hside
    unfold semExtract
    split
    · exact fun _ => KeysOk.plain (fun k hk => hx k (by simpa [keysL, SV.keys] using keys_getD hk)) rfl
    · exact fun _ => KeysOk.plain nil rfl
    · exact fun hf => hf.elim
  · revert hside
    unfold semAssert
    split
    · rename_i t x
      split
      · split
        · intro _
          refine KeysOk.plain (fun k hk => hx k ?_) rfl
          simp only [R.ok] at hk
          split at hk <;> simp [SV.keys, keysL] at hk ⊢
          exact hk
        · exact fun _ => KeysOk.plain (fun k hk => hx k (by simpa [keysL, SV.keys, R.req] using hk)) rfl
      · exact fun hf => hf.elim
    · split
      · split
        · intro _
          refine KeysOk.plain (fun k hk => ?_) rfl
          simp only [R.ok] at hk
          split at hk <;> simp [SV.keys, keysL] at hk
        · exact fun _ => KeysOk.plain nil rfl
      · exact fun hf => hf.elim
    · split
      · split
        · exact fun _ => KeysOk.plain (fun k hk => by simp [R.ok, SV.keys, keysL] at hk) rfl
        · exact fun hf => hf.elim
      · exact fun hf => hf.elim
    · exact fun hf => hf.elim
  · revert hside
    unfold semPanic
    split
    · exact fun _ => KeysOk.plain nil rfl
    · exact fun hf => hf.elim
  · split at hside
    · revert hside
      unfold semLen
      split
      · exact fun _ => KeysOk.plain nil rfl
      · exact fun _ => KeysOk.plain nil rfl
      · split
        · exact fun _ => KeysOk.plain nil rfl
        · exact fun hf => hf.elim
      · exact fun hf => hf.elim
    · exact hside.elim
  · revert hside
    unfold semApp
    split
    · rename_i k j
      split
      · rename_i hk hj
        split
        · intro _
          refine ⟨fun q hq => .inr ?_, fun p hp => ?_⟩
          · simp [SV.keys] at hq; subst hq; exact nk_div0 κ
          · simp at hp
            rcases hp with rfl | rfl
            · exact ⟨.inl (hK _ _ hk).1, fun e he => by cases he⟩
            · refine ⟨.inr (nk_div0 κ), fun e he q hq => .inl ?_⟩
              simp at he; subst he
              simp only [Ent.keys, keysL_append, List.mem_append] at hq
              rcases hq with hq | hq
              · exact (hK _ _ hk).2 q hq
              · exact (hK _ _ hj).2 q hq
        · exact fun hf => hf.elim
      · exact fun hf => hf.elim
    · split
      · rename_i hj
        split
        · split
          · intro _
            refine ⟨fun q hq => .inr ?_, fun p hp => ?_⟩
            · simp [SV.keys] at hq; subst hq; exact nk_div0 κ
            · simp at hp
              subst hp
              refine ⟨.inr (nk_div0 κ), fun e he q hq => .inl ?_⟩
              simp at he; subst he
              exact (hK _ _ hj).2 q hq
          · exact fun hf => hf.elim
        · exact fun hf => hf.elim
      · exact fun hf => hf.elim
    · exact fun hf => hf.elim
  · revert hside
    unfold semMin
    split
    · split <;> first | exact fun _ => KeysOk.plain nil rfl | exact fun hf => hf.elim
    · exact fun hf => hf.elim
  · revert hside
    unfold semMax
    split
    · split <;> first | exact fun _ => KeysOk.plain nil rfl | exact fun hf => hf.elim
    · exact fun hf => hf.elim
  · revert hside
    unfold semCall
    split
    · refine fun hs => hF _ _ (fun k hk => hx k ?_) hs
      simp only [keysL_append, List.mem_append] at hk
      simp only [keysL, SV.keys, List.mem_append]
      rcases hk with (hk | hk) | hk
      · exact .inl (.inl hk)
      · exact .inr hk
      · exact .inl (.inr hk)
    · refine fun hs => hF _ _ (fun k hk => hx k ?_) hs
      simp only [keysL_append, List.mem_append, keysL_map_v] at hk
      simp only [keysL, SV.keys, List.mem_append]
      rcases hk with (hk | hk) | hk
      · cases hk
      · exact .inr hk
      · cases hk
    · exact fun hf => hf.elim
  · revert hside
    unfold semInvoke
    split
    · split
      · exact fun hs => hF _ _ (by simpa [keysL, SV.keys] using hx) hs
      · exact fun hf => hf.elim
    · split
      · exact fun hs => hF _ _ (by simpa [keysL, SV.keys] using hx) hs
      · exact fun hf => hf.elim
    · exact fun hf => hf.elim
  · exact hside.elim

theorem sem_loc (op : Op) (args : List SV) (h' : Nat → Option Ent) (hside : (sem Γ W bs κ h op args).side) (hr : ∀ k ∈ (sem Γ W bs κ h op args).reads, h' k = h k) :
    sem Γ W bs κ h' op args = sem Γ W bs κ h op args := by
  have hF : ∀ f as_, (semF Γ W bs κ h f as_).side → (∀ k ∈ (semF Γ W bs κ h f as_).reads, h' k = h k) → semF Γ W bs κ h' f as_ = semF Γ W bs κ h f as_ := fun f as_ => by
    unfold semF
    split
    · rename_i s _; exact fun hs hr => s.loc W bs κ h h' as_ hs hr
    · exact fun hf => hf.elim
  revert hside hr
  unfold sem
  split
  case h_7 =>
    unfold semLoad
    split
    · rename_i k o
      split
      · rename_i h1 h2 h3
        intro _ hr
        have := hr k (by simp)
        rw [this, h1, h2, h3]
      · rename_i h1 h2 h3
        intro _ hr
        have := hr k (by simp)
        rw [this, h1, h2, h3]
      · exact fun hf => hf.elim
    · exact fun _ _ => rfl
    · exact fun hf => hf.elim
  case h_8 =>
    unfold semStore
    split
    · rename_i k o x
      split
      · rename_i h1 h2
        intro _ hr
        have := hr k (by simp)
        rw [this, h1, h2]
      · exact fun hf => hf.elim
    · exact fun hf => hf.elim
  case h_9 =>
    unfold semNilCheck
    split
    · rename_i k o
      split
      · rename_i h1
        intro _ hr
        have := hr k (by simp)
        rw [this, h1]
      · exact fun hf => hf.elim
    · exact fun _ _ => rfl
    · exact fun hf => hf.elim
  case h_17 =>
    unfold semFieldAddr
    split
    · rename_i k o
      split
      · rename_i h1 h2
        intro _ hr
        have := hr k (by simp)
        rw [this, h1, h2]
      · exact fun hf => hf.elim
    · exact fun _ _ => rfl
    · exact fun hf => hf.elim
  case h_19 =>
    unfold semIndexAddr
    split
    · rename_i k _ _
      split
      · rename_i h1 h2
        intro _ hr
        have := hr k (by simp)
        rw [this, h1, h2]
      · exact fun hf => hf.elim
    · rename_i k _ _ _
      split
      · rename_i h1 h2
        split
        · rename_i h3
          intro _ hr
          have := hr k (by simp)
          rw [this, h1, h2]
          simp only [h3]
        · exact fun hf => hf.elim
      · exact fun hf => hf.elim
    · exact fun _ _ => rfl
    · exact fun hf => hf.elim
  case h_24 =>
    split
    · unfold semLen
      split
      · exact fun _ _ => rfl
      · exact fun _ _ => rfl
      · rename_i k
        split
        · rename_i h1
          intro _ hr
          have := hr k (by simp)
          rw [this, h1]
        · exact fun hf => hf.elim
      · exact fun hf => hf.elim
    · exact fun hf => hf.elim
  case h_25 =>
    unfold semApp
    split
    · rename_i k j
      split
      · rename_i h1 h2 h3
        split
        · rename_i h4 h5
          intro _ hr
          have e1 := hr k (by simp)
          have e2 := hr j (by simp)
          rw [e1, e2]
          simp only [h1, h2, h3, h4, h5]
        · exact fun hf => hf.elim
      · exact fun hf => hf.elim
    · rename_i j
      split
      · rename_i h1 h2
        split
        · rename_i h3
          split
          · rename_i h4 h5
            intro _ hr
            have e2 := hr j (by simp)
            rw [e2]
            simp only [h1, h2, h3, h4, h5]
          · exact fun hf => hf.elim
        · exact fun hf => hf.elim
      · exact fun hf => hf.elim
    · exact fun hf => hf.elim
  case h_28 =>
    unfold semCall
    split
    · exact hF _ _
    · exact hF _ _
    · exact fun hf => hf.elim
  case h_29 =>
    unfold semInvoke
    split
    · split
      · exact hF _ _
      · exact fun hf => hf.elim
    · split
      · exact hF _ _
      · exact fun hf => hf.elim
    · exact fun hf => hf.elim
  all_goals exact fun _ _ => rfl
end
end Go.LE
