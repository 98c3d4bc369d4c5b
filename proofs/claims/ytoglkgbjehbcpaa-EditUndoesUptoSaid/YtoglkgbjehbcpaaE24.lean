/-
  LE, the engine, part 24: facts of memory that stands; a walk that goes on from another base; callees that give back more than one handle.
-/
import Derived.Test.YtoglkgbjehbcpaaE23
namespace Go.LE
open Go.RowKit
set_option linter.unusedSimpArgs false
set_option linter.unusedVariables false

/-- What stands in W in the blocks of S stands in W', too, in blocks of S'. -/
def Sees (W : World) (S : Nat → Prop) (W' : World) (S' : Nat → Prop) : Prop := ∀ b, b < W.heap.size → S b → W'.heap[b]? = W.heap[b]? ∧ S' b
theorem Sees.refl (W : World) (S : Nat → Prop) : Sees W S W S := fun _ _ h => ⟨rfl, h⟩
theorem Sees.trans {W W' W'' : World} {S S' S'' : Nat → Prop} (h : Sees W S W' S') (h' : Sees W' S' W'' S'') (hsz : W.heap.size ≤ W'.heap.size) : Sees W S W'' S'' := fun b hb hs => by
  obtain ⟨h1, h2⟩ := h b hb hs
  obtain ⟨h3, h4⟩ := h' b (by omega) h2
  exact ⟨h3.trans h1, h4⟩
/-- all but these -/
def Out (bs : List Nat) : Nat → Prop := fun b => b ∉ bs
theorem Ext.sees {W W' : World} {bs bs' : List Nat} (h : Ext W bs W' bs') : Sees W (Out bs) W' (Out bs') := fun b hb hs =>
  ⟨h.keeps.block b hb hs, fun hb' => (h.sub b hb').elim (fun h1 => by omega) hs⟩
theorem Keeps.sees {W w : World} {bs : List Nat} (h : Keeps W bs w) : Sees W (Out bs) w (Out bs) := fun b hb hs => ⟨h.block b hb hs, hs⟩

/-- A cell that stands. -/
def XC (W : World) (S : Nat → Prop) (b o : Nat) (v : Value) : Prop := S b ∧ W.cell? ⟨b, o, none⟩ = some v
theorem XC.mono {W W' : World} {S S' : Nat → Prop} {b o : Nat} {v : Value} (h : XC W S b o v) (hs : Sees W S W' S') : XC W' S' b o v := by
  have hlt := World.block_lt_of_cell? W _ h.2
  obtain ⟨h1, h2⟩ := hs b hlt h.1
  exact ⟨h2, by rw [← h.2]; exact World.cell?_of_block h1⟩

/-- Cells that stand from an address on. -/
def SlX (W : World) (S : Nat → Prop) (ao : Option Addr) (vs : List Value) : Prop := vs = [] ∨ ∃ b o, ao = some ⟨b, o, none⟩ ∧ ∀ j (h : j < vs.length), XC W S b (o + j) vs[j]
theorem SlX.mono {W W' : World} {S S' : Nat → Prop} {ao : Option Addr} {vs : List Value} (h : SlX W S ao vs) (hs : Sees W S W' S') : SlX W' S' ao vs := by
  rcases h with h | ⟨b, o, h1, h2⟩
  · exact .inl h
  · exact .inr ⟨b, o, h1, fun j hj => (h2 j hj).mono hs⟩
theorem SlX.is {W : World} {S : Nat → Prop} {ao : Option Addr} {vs : List Value} (h : SlX W S ao vs) : SlIs W ao vs := by
  rcases h with h | ⟨b, o, h1, h2⟩
  · exact .inl h
  · exact .inr ⟨b, o, h1, fun j hj => (h2 j hj).2⟩
theorem SlX.of_is {W : World} {ao : Option Addr} {vs : List Value} (h : SlIs W ao vs) : SlX W (fun _ => True) ao vs := by
  rcases h with h | ⟨b, o, h1, h2⟩
  · exact .inl h
  · exact .inr ⟨b, o, h1, fun j hj => ⟨trivial, h2 j hj⟩⟩
theorem SlX.out {W : World} {ao : Option Addr} {vs : List Value} {S S' : Nat → Prop} (h : SlX W S ao vs) (hs : ∀ b, S b → S' b) : SlX W S' ao vs := h.mono fun b _ hb => ⟨rfl, hs b hb⟩
/-- as an argument of a callee -/
theorem SlX.av {W : World} {bs : List Nat} {ao : Option Addr} {vs : List Value} {sz n c : Nat} (h : SlX W (Out bs) ao vs) (hl : vs.length = n * sz) : avIs W bs sz n vs (.val (.slice ao n c)) := by
  refine ⟨rfl, hl, ?_⟩
  rcases h with h | ⟨b, o, h1, h2⟩
  · exact .inl h
  · by_cases hv : vs = []
    · exact .inl hv
    · refine .inr ⟨b, o, h1, (h2 0 (List.length_pos_iff.2 hv)).1, fun j hj => (h2 j hj).2⟩
/-- the first n of them -/
theorem SlX.take {W : World} {S : Nat → Prop} {ao : Option Addr} {vs ws : List Value} (h : SlX W S ao (vs ++ ws)) : SlX W S ao vs := by
  rcases h with h | ⟨b, o, h1, h2⟩
  · exact .inl (by simp at h; exact h.1)
  · refine .inr ⟨b, o, h1, fun j hj => ?_⟩
    have := h2 j (by simp; omega)
    rwa [List.getElem_append_left hj] at this

/-! ### From another base -/
def fvEq (E : Nat → Value) : FV → FV → Prop
  | .is x, .is y => den E x = den E y
  | .cnd b x, .cnd c y => b = c ∧ (b = true → den E x = den E y)
  | .cnd b x, .is y => b = true ∧ den E x = den E y
  | _, .any => True
  | _, _ => False
def frEq (E : Nat → Value) (φ : Fr) : List (Nat × FV) → Prop
  | [] => True
  | (t, x) :: r => fvEq E (φ t) x ∧ frEq E φ r
theorem fvEq_fits {E : Nat → Value} {x y : FV} {u : Value} (h : fvEq E x y) (hf : fits E x u) : fits E y u := by
  cases x <;> cases y <;> simp only [fvEq] at h <;> first | exact h.elim | trivial | skip
  · simp only [fits] at hf ⊢; rw [hf, h]
  · obtain ⟨rfl, h⟩ := h; simp only [fits, cond_true] at hf ⊢; rw [hf, h]
  · rename_i b x c y
    obtain ⟨rfl, h⟩ := h
    cases b with
    | false => exact hf
    | true => simp only [fits, cond_true] at hf ⊢; rw [hf, h rfl]
theorem frEq_mem {E : Nat → Value} {φ : Fr} : ∀ {L : List (Nat × FV)}, frEq E φ L → ∀ p ∈ L, fvEq E (φ p.1) p.2
  | _ :: _, h, p, hp => by
    rcases List.mem_cons.1 hp with rfl | hp
    · exact h.1
    · exact frEq_mem h.2 p hp
def entEq (E : Nat → Value) : Option Ent → Ent → Prop
  | some (.cells T vs), .cells T' vs' => T = T' ∧ denL E vs = denL E vs'
  | some (.row T s n vs), .row T' s' n' vs' => T = T' ∧ s = s' ∧ n = n' ∧ denL E vs = denL E vs'
  | some (.obj d R), .obj d' R' => d = d' ∧ R = R'
  | _, _ => False
def hpEq (E : Nat → Value) (h : Hp) : List (Nat × Ent) → Prop
  | [] => True
  | (k, e) :: r => entEq E (h k) e ∧ hpEq E h r
theorem hpEq_mem {E : Nat → Value} {h : Hp} : ∀ {H : List (Nat × Ent)}, hpEq E h H → ∀ p ∈ H, entEq E (h p.1) p.2
  | _ :: _, h, p, hp => by
    rcases List.mem_cons.1 hp with rfl | hp
    · exact h.1
    · exact hpEq_mem h.2 p hp
theorem entEq_sat {E : Nat → Value} {u : Value} {fp : List Nat} {w : World} {h : Hp} {k : Nat} {e : Ent} (he : entEq E (h k) e) : ∃ e0, h k = some e0 ∧ (entSat E u fp w e0 → entSat E u fp w e) := by
  cases hk : h k with
  | none => rw [hk] at he; cases e <;> exact he.elim
  | some e0 =>
    rw [hk] at he
    refine ⟨e0, rfl, fun hs => ?_⟩
    cases e0 <;> cases e <;> simp only [entEq] at he <;> first | exact he.elim | skip
    · obtain ⟨rfl, h2⟩ := he; simp only [entSat, ← h2]; exact hs
    · obtain ⟨rfl, rfl, rfl, h2⟩ := he; simp only [entSat, ← h2]; exact hs
    · obtain ⟨rfl, rfl⟩ := he; exact hs

/-- The listed own things go on as such; all else stands from now on. -/
theorem Wp.freeze {P : Program} {W : World} {bs : List Nat} {nt : Nat} {ds : Aux} {c : Code} {Q : Post} {σ : St} (n' : Nat) (ks : List Nat) (L : (Nat → Value) → List (Nat × FV)) (H : (Nat → Value) → List (Nat × Ent))
    (hks : ∀ E, (H E).map (·.1) = ks) (hkb : ∀ E, keysB n' (L E) (H E)) (hf : ∀ E, frEq E σ.φ (L E)) (hh : ∀ E, hpEq E σ.h (H E)) (hpn : ∀ p ∈ ds.pins, p.1 / 8 < n')
    (h : ∀ W' bs' E F, Ext W bs W' bs' → HeapSat W bs E F σ.h W' → (∀ k ∈ ks, ∀ b ∈ F k, b ∈ bs') → (∀ k e, σ.h k = some e → k ∉ ks → ∀ b ∈ F k, b ∉ bs') → Wp P W' bs' nt ds c Q ⟨n', frL (L E), hpL (H E)⟩) : Wp P W bs nt ds c Q σ := by
  rintro a w ⟨⟨E, F, hφ, hs, hp⟩, hsz, hdf, _, _, _⟩
  have own : ∀ k ∈ ks, ∃ e, σ.h k = some e := fun k hk => by
    rw [← hks E] at hk
    obtain ⟨p, hp, rfl⟩ := List.mem_map.1 hk
    obtain ⟨e0, h1, _⟩ := entEq_sat (u := undef) (fp := []) (w := w) (hpEq_mem (hh E) p hp)
    exact ⟨e0, h1⟩
  have hx : Ext W bs w (ks.flatMap F) := ⟨hs.keeps, fun b hb => by
    obtain ⟨k, hk, hbk⟩ := List.mem_flatMap.1 hb
    obtain ⟨e, he⟩ := own k hk
    exact hs.mine k e he b hbk⟩
  refine wp_mono (h w (ks.flatMap F) E F hx hs (fun k hk b hb => List.mem_flatMap.2 ⟨k, hk, hb⟩) (fun k e hke hk b hb hb' => ?_) a w ?_) fun e' a' w' hh' => post_back hx hh'
  · obtain ⟨j, hj, hbj⟩ := List.mem_flatMap.1 hb'
    obtain ⟨e2, he2⟩ := own j hj
    exact hs.apart k j e e2 (fun hkj => hk (hkj ▸ hj)) hke he2 b hb hbj
  · have at' : ∀ k e, hpL (H E) k = some e → k ∈ ks ∧ ∃ e0, σ.h k = some e0 ∧ entSat E (E k) (F k) w e := fun k e he => by
      have hm := hpL_cases he
      obtain ⟨e0, h1, h2⟩ := entEq_sat (u := E k) (fp := F k) (w := w) (hpEq_mem (hh E) _ hm)
      exact ⟨by rw [← hks E]; exact List.mem_map.2 ⟨_, hm, rfl⟩, e0, h1, h2 (hs.ent k e0 h1)⟩
    refine ⟨⟨E, F, fun t => ?_, ⟨fun k e he => (at' k e he).2.choose_spec.2, fun k e he b hb => ?_, fun k e he b hb => .inr (List.mem_flatMap.2 ⟨k, (at' k e he).1, hb⟩), fun k k' e e' hne he he' b hb => ?_, Keeps.refl w _⟩, hp⟩, hsz, hdf, hpn, fun t k hk' => ?_, fun k e he => ?_⟩
    · rcases frL_cases (L := L E) t with h | ⟨p, hp, rfl, h⟩
      · simp only [h]; trivial
      · simp only [h]; exact fvEq_fits (frEq_mem (hf E) p hp) (hφ p.1)
    · obtain ⟨_, e0, h1, _⟩ := at' k e he; exact hs.lt k e0 h1 b hb
    · obtain ⟨_, e0, h1, _⟩ := at' k e he
      obtain ⟨_, e1, h2, _⟩ := at' k' e' he'
      exact hs.apart k k' e0 e1 hne h1 h2 b hb
    · rcases frL_cases (L := L E) t with h | ⟨p, hp, _, h⟩
      · simp only [h] at hk'; cases hk'
      · simp only [h] at hk'; exact (hkb E).1 p hp k hk'
    · exact (hkb E).2 _ (hpL_cases he)

/-- A CUT: whatever way the first part took, the rest starts from one state. -/
theorem wp_cut {P : Program} {W : World} {bs : List Nat} {nt : Nat} {ds : Aux} {Q : Post} {σ : St} {x y : Code} (σ' : St) (h1 : Wp P W bs nt ds x (Th (fun W' bs' σ1 => Le W' bs' nt ds σ1 σ') Q) σ) (h2 : Wp P W bs nt ds y Q σ') :
    Wp P W bs nt ds (.seq x y) Q σ := fun a w hs =>
  wp_seq (wp_mono (h1 a w hs) fun e a' w' ⟨W', bs', σ1, he, hq, hs'⟩ => by
    cases e with
    | normal => exact h2 a' w' (Sat.back he (hq a' w' hs'))
    | _ => exact ⟨W', bs', σ1, he, hq, hs'⟩)

/-- blocks that are new since W (or were lent), and own no more -/
def New (W : World) (bs bs' : List Nat) : Nat → Prop := fun b => b ∉ bs' ∧ (W.heap.size ≤ b ∨ b ∈ bs)
theorem New.out {W : World} {bs bs' : List Nat} {b : Nat} (h : New W bs bs' b) : Out bs' b := h.1

/-- What a row that goes on no more leaves. -/
theorem row_new {W W' : World} {bs bs' : List Nat} {E : Nat → Value} {F : Nat → List Nat} {h : Hp} {k : Nat} {T : TypeId} {s n : Nat} {vs : List SV} (hs : HeapSat W bs E F h W') (hk : h k = some (.row T s n vs)) (hb : ∀ b ∈ F k, b ∉ bs') :
    ∃ ao c, E k = .slice ao n c ∧ SlX W' (New W bs bs') ao (denL E vs) ∧ n ≤ c := by
  obtain ⟨⟨hl, h⟩, hF⟩ := hs.ent k _ hk
  rcases h with ⟨h1, rfl⟩ | ⟨g, cap, cur, h1, _, hh, hnc, _, hsz, htk⟩
  · exact ⟨none, 0, h1, .inl (by simpa using hl), Nat.le_refl _⟩
  · have hg : g ∈ F k := by rw [hF, h1]; simp [Value.ownBlock]
    refine ⟨some ⟨g, 0, none⟩, cap, h1, .inr ⟨g, 0, rfl, fun j hj => ⟨⟨hb g hg, hs.mine k _ hk g hg⟩, ?_⟩⟩, hnc⟩
    rw [Nat.zero_add]
    have hj' : j < n * s := by omega
    have : (denL E vs)[j]? = cur[j]? := by rw [← htk, List.getElem?_take, if_pos hj']; simp
    simp only [World.cell?, hh]
    rw [← this, List.getElem?_eq_getElem hj]
    rfl
theorem row_stands {W W' : World} {bs bs' : List Nat} {E : Nat → Value} {F : Nat → List Nat} {h : Hp} {k : Nat} {T : TypeId} {s n : Nat} {vs : List SV} (hs : HeapSat W bs E F h W') (hk : h k = some (.row T s n vs)) (hb : ∀ b ∈ F k, b ∉ bs') :
    ∃ ao c, E k = .slice ao n c ∧ SlX W' (Out bs') ao (denL E vs) ∧ n ≤ c := by
  obtain ⟨ao, c, h1, h2, h3⟩ := row_new hs hk hb
  exact ⟨ao, c, h1, h2.out fun _ => New.out, h3⟩
theorem SlX.grow {W W' : World} {bs' : List Nat} {ao : Option Addr} {vs : List Value} {S : Nat → Prop} (h : SlX W' (New W [] bs') ao vs) : SlX W' (fun b => (b < W.heap.size → S b) ∧ b ∉ bs') ao vs :=
  h.out fun b hb => ⟨fun hlt => absurd (hb.2.resolve_right (by simp)) (Nat.not_le.2 hlt), hb.1⟩
/-- .. a variable .. -/
theorem cells_new {W W' : World} {bs bs' : List Nat} {E : Nat → Value} {F : Nat → List Nat} {h : Hp} {k : Nat} {T : TypeId} {vs : List SV} (hs : HeapSat W bs E F h W') (hk : h k = some (.cells T vs)) (hb : ∀ b ∈ F k, b ∉ bs') :
    ∃ b, E k = .pointer (some ⟨b, 0, none⟩) ∧ New W bs bs' b ∧ ∀ j (hj : j < (denL E vs).length), W'.cell? ⟨b, j, none⟩ = some (denL E vs)[j] := by
  obtain ⟨b, h1, hF, hh⟩ := hs.ent k _ hk
  refine ⟨b, h1, ⟨hb b (by rw [hF]; simp), hs.mine k _ hk b (by rw [hF]; simp)⟩, fun j hj => ?_⟩
  simp only [World.cell?, hh]
  simp [List.getElem?_eq_getElem hj]

/-! ### Callees that give back values of which something is told -/
def bundle (cs : List Value) : Value := .iface 0 (.agg cs.toArray)
theorem partV_bundle (cs : List Value) (i : Nat) : partV (bundle cs) i = cs.getD i .nilIface := by simp [partV, bundle, Array.getD_eq_getD_getElem?, List.getD_eq_getElem?_getD]

theorem den_part (cs : List Value) (k i : Nat) : den (fun _ => bundle cs) (.part k i) = hv (cs.getD i .nilIface) := by simp only [den, partV_bundle]

/-- the blocks of S, and the new ones -/
def Grow (w : World) (S : Nat → Prop) : Nat → Prop := fun b => b < w.heap.size → S b

def factR (W : World) (bs : List Nat) (Φ : List Value → World → (Nat → Prop) → Prop) : List Value → Value → List Nat → World → Prop := fun _ u fp w =>
  ∃ cs, u = bundle cs ∧ ∀ W₂ S₂, (∀ b, b < W.heap.size → b ∉ bs → W₂.heap[b]? = W.heap[b]? ∧ S₂ b) → (∀ b ∈ fp, W₂.heap[b]? = w.heap[b]? ∧ S₂ b) → Φ cs W₂ S₂

/-- A callee that reads its arguments, and gives back values in new memory. -/
structure FactC (P : Program) (f : FuncId) where
  pre : List AV → World → (Nat → Prop) → Prop
  tm : Nat → SV
  Φ : List AV → List Value → World → (Nat → Prop) → Prop
  premono : ∀ as_ W S W' S', Sees W S W' S' → pre as_ W S → pre as_ W' S'
  mono : ∀ as_ cs W S W' S', Sees W S W' S' → Φ as_ cs W S → Φ as_ cs W' S'
  tmg : ∀ E k, den E (tm k) = den (fun _ => E k) (tm 0)
  tmk : ∀ k, ∀ j ∈ (tm k).keys, j = k
  enters : ∀ args w, (callFunc f args).run P w = .ok (.enter f args) w
  ok : ∀ (w : World) (S : Nat → Prop) (us : List Value) (as_ : List AV), avsSat w us as_ → pre as_ w S → Calls P f us.toArray w fun e w' => ∃ cs, e = .returned (den (fun _ => bundle cs) (tm 0)) ∧ Φ as_ cs w' (Grow w S) ∧ Keeps w [] w'

/-- known blocks: old ones that may not be written -/
def Old (W : World) (bs : List Nat) : Nat → Prop := fun b => b < W.heap.size ∧ b ∉ bs

def factK (κ : Nat) (pre : List AV → World → (Nat → Prop) → Prop) (tm : Nat → SV) (Φ : List AV → List Value → World → (Nat → Prop) → Prop) (W : World) (bs : List Nat) : Option (List AV × List Nat) → R
  | some (as_, rs) => ⟨pre as_ W (Out bs), tm (8 * κ), [(8 * κ, some (.obj [] (factR W bs (Φ as_))))], none, [], rs⟩
  | none => .bad

def FactC.spec {P : Program} {f : FuncId} (p : FactC P f) : Spec P f where
  ev := fun W bs κ h args => factK κ p.pre p.tm p.Φ W bs (viewL h args)
  calls := p.enters
  good := fun W bs κ E F h w K args hs hK hk hx hside => by
    cases hv : viewL h args with
    | none => rw [hv] at hside; exact hside.elim
    | some q =>
      obtain ⟨as_, rs⟩ := q
      rw [hv] at hside
      have h0 : Sees W (Out bs) w (Old W bs) := fun b hb hs' => ⟨hs.keeps.block b hb hs', hb, hs'⟩
      refine good_maker hs hK hk (e := .obj [] (factR W bs (p.Φ as_))) ((p.ok w (Old W bs) _ as_ (viewL_sat hs hv) (p.premono as_ _ _ _ _ h0 hside)).mono fun e w' he => ?_) rfl rfl
      obtain ⟨cs, rfl, hΦ, hkeep⟩ := he
      have hmem : ∀ b, b ∈ List.range' w.heap.size (w'.heap.size - w.heap.size) ↔ w.heap.size ≤ b ∧ b < w'.heap.size := fun b => by
        rw [List.mem_range'_1]
        have := hkeep.size
        omega
      have hR : ∀ w3 : World, (∀ b ∈ List.range' w.heap.size (w'.heap.size - w.heap.size), w3.heap[b]? = w'.heap[b]?) → factR W bs (p.Φ as_) [] (bundle cs) (List.range' w.heap.size (w'.heap.size - w.heap.size)) w3 := by
        intro w3 h3
        refine ⟨cs, rfl, fun W₂ S₂ hold hnew => p.mono as_ cs w' (Grow w (Old W bs)) W₂ S₂ (fun b hb hg => ?_) hΦ⟩
        by_cases hbw : b < w.heap.size
        · obtain ⟨g1, g2⟩ := hg hbw
          obtain ⟨g3, g4⟩ := hold b g1 g2
          exact ⟨by rw [g3, hkeep.block b hbw (by simp), hs.keeps.block b g1 g2], g4⟩
        · have hb' := (hmem b).2 ⟨by omega, hb⟩
          obtain ⟨g3, g4⟩ := hnew b hb'
          exact ⟨by rw [g3, h3 b hb'], g4⟩
      refine ⟨_, bundle cs, List.range' w.heap.size (w'.heap.size - w.heap.size), rfl, fun E' => ⟨⟨hR w' fun _ _ => rfl, rfl⟩, hR⟩, fun b hb => (hmem b).1 hb, hkeep, ?_⟩
      simp only [factK]
      rw [p.tmg (upd E (nk κ) (bundle cs)), nk, upd_same]
  keys := fun W bs κ h K args hK hx hside => by
    cases hv : viewL h args with
    | none => rw [hv] at hside; exact hside.elim
    | some q =>
      obtain ⟨as_, rs⟩ := q
      refine ⟨fun k hk => .inr ?_, fun q hq => ?_⟩
      · rw [p.tmk _ k hk]
        exact nk_div0 κ
      · simp only [factK, List.mem_singleton] at hq
        subst hq
        refine ⟨.inr (nk_div0 κ), fun e he k hk => ?_⟩
        simp only [Option.some.injEq] at he
        subst he
        cases hk
  loc := fun W bs κ h h' args hside hr => by
    cases hv : viewL h args with
    | none => rw [hv] at hside; exact hside.elim
    | some q =>
      obtain ⟨as_, rs⟩ := q
      rw [hv] at hr
      rw [viewL_loc hv hr]
theorem factC_ev {P : Program} {f : FuncId} (p : FactC P f) (W : World) (bs : List Nat) (κ : Nat) (h : Hp) (l : List SV) : p.spec.ev W bs κ h l = factK κ p.pre p.tm p.Φ W bs (viewL h l) := rfl
theorem factK_some (κ : Nat) (pre : List AV → World → (Nat → Prop) → Prop) (tm : Nat → SV) (Φ : List AV → List Value → World → (Nat → Prop) → Prop) (W : World) (bs : List Nat) (as_ : List AV) (rs : List Nat) :
    factK κ pre tm Φ W bs (some (as_, rs)) = ⟨pre as_ W (Out bs), tm (8 * κ), [(8 * κ, some (.obj [] (factR W bs (Φ as_))))], none, [], rs⟩ := rfl

/-- what is told, once it stands -/
theorem fact_stands {W W' : World} {bs bs' : List Nat} {E : Nat → Value} {F : Nat → List Nat} {h : Hp} {k : Nat} {W0 : World} {bs0 : List Nat} {Φ : List Value → World → (Nat → Prop) → Prop} (hs : HeapSat W bs E F h W') (hk : h k = some (.obj [] (factR W0 bs0 Φ)))
    (h0 : Sees W0 (Out bs0) W' (Out bs')) (hb : ∀ b ∈ F k, b ∉ bs') : ∃ cs, E k = bundle cs ∧ Φ cs W' (Out bs') := by
  obtain ⟨⟨⟨cs, h1, h2⟩, _⟩, _⟩ := hs.ent k _ hk
  exact ⟨cs, h1, h2 W' (Out bs') (fun b hlt hn => h0 b hlt hn) fun b hbk => ⟨rfl, hb b hbk⟩⟩

/-- A CALL THAT GIVES BACK VALUES OF WHICH SOMETHING IS TOLD. -/
theorem calls_fact {P : Program} {f : FuncId} {fn : Func} {c : Code} {args : Array Value} {w : World} {nt : Nat} {Φ : List Value → World → (Nat → Prop) → Prop} (S : Nat → Prop) (tm : Nat → SV) (rs : List ResultVar)
    (mono : ∀ cs W S W' S', Sees W S W' S' → Φ cs W S → Φ cs W' S') (hf : P.funcs[f]? = some fn) (hb : fn.body = some c) (hrs : fn.results.toList = rs) (hnt : args.size + (fn.ntmps - args.size) = nt)
    (h : Wp P w [] nt ⟨[], []⟩ c (Fin P rs (fun W' bs' x _ => ∃ cs, (∀ E, den E x = den (fun _ => bundle cs) (tm 0)) ∧ Φ cs W' (fun b => Grow w S b ∧ b ∉ bs')) (fun _ _ => False)) (σ0 args.toList)) :
    Calls P f args w fun e w' => ∃ cs, e = .returned (den (fun _ => bundle cs) (tm 0)) ∧ Φ cs w' (Grow w S) ∧ Keeps w [] w' := by
  subst hrs
  refine (calls_Wp hf hb (sat_entry args hnt) h).mono fun e w' he => ?_
  cases e with
  | returned u =>
    obtain ⟨W', bs', E, F, x, h, hx, ⟨cs, hd, hΦ⟩, rfl, hs, _⟩ := he
    exact ⟨cs, by rw [hd E], mono _ _ _ _ _ (fun b hb hS => ⟨hs.keeps.block b hb hS.2, hS.1⟩) hΦ, hx.keep hs.keeps⟩
  | panicked c => obtain ⟨_, _, _, _, _, _, hf, _⟩ := he; exact hf.elim
  | outgrown => exact he.elim

theorem renL_map_v (m : Nat → Src) (l : List Value) : renL m (l.map .v) = l.map .v := by
  induction l with
  | nil => rfl
  | cons x r ih => simp [renL, ren, ih]
theorem renL_append (m : Nat → Src) (a b : List SV) : renL m (a ++ b) = renL m a ++ renL m b := by
  induction a with
  | nil => rfl
  | cons x r ih => simp [renL, ih]

/-! ### Rules: make, cuts of slices that stand -/
section
variable {P : Program} {κ : Nat} {h : Hp}
def mkV (κ : Nat) (e : TypeId) (l c : Int) : Option Nat → Option (List Value) → Option Nat → R
  | some sz, some zs, some by_ => ⟨0 ≤ l ∧ l ≤ c ∧ (by_ : Int) * c ≤ 281474976710656 ∧ c ≤ 9223372036854775807 ∧ zs.length = sz ∧ 0 < sz, .hd (8 * κ), [(8 * κ, some (.row e sz l.toNat ((List.replicate l.toNat zs).flatten.map .v)))], none, [], []⟩
  | _, _, _ => .bad
def mkU (P : Program) (κ : Nat) (l c : Int) : Option TypeDesc → R
  | some (.slice e) => mkV κ e l c (ts P e) (tz P e) (tby P e)
  | _ => .bad
theorem semMake_int (T : TypeId) (k k' : IntKind) (l c : Int) : semMake P κ T [.v (.int k l), .v (.int k' c)] = mkU P κ l c (P.underlying T) := by
  simp only [semMake]; unfold mkU
  rcases P.underlying T with _ | d
  · rfl
  · cases d <;> first | rfl | (rename_i e; simp only [mkV, nk]; rcases ts P e with _ | a <;> rcases tz P e with _ | b <;> rcases tby P e with _ | c <;> rfl)
theorem mkU_slice (l c : Int) (e : TypeId) : mkU P κ l c (some (.slice e)) = mkV κ e l c (ts P e) (tz P e) (tby P e) := rfl
theorem mkV_some (e : TypeId) (l c : Int) (sz : Nat) (zs : List Value) (by_ : Nat) : mkV κ e l c (some sz) (some zs) (some by_) = ⟨0 ≤ l ∧ l ≤ c ∧ (by_ : Int) * c ≤ 281474976710656 ∧ c ≤ 9223372036854775807 ∧ zs.length = sz ∧ 0 < sz, .hd (8 * κ), [(8 * κ, some (.row e sz l.toNat ((List.replicate l.toNat zs).flatten.map .v)))], none, [], []⟩ := rfl

/-- where the a-th element begins, as the machine tells it -/
def slAt (ao : Option Addr) (a sz c : Nat) : Option Addr := if c = a then ao else ao.map (·.add (a * sz))
theorem slAt_zero (ao : Option Addr) (sz c : Nat) : slAt ao 0 sz c = ao := by
  unfold slAt
  split
  · rfl
  · cases ao <;> simp [Addr.add]
theorem SlX.at {W : World} {S : Nat → Prop} {ao : Option Addr} {vs : List Value} {a sz c n : Nat} (h : SlX W S ao vs) (hl : vs.length = n * sz) (hn : n ≤ c) (ha : a ≤ n) : SlX W S (slAt ao a sz c) (vs.drop (a * sz)) := by
  unfold slAt
  split
  · left
    have : vs.length ≤ a * sz := by rw [hl]; exact Nat.mul_le_mul_right _ (by omega)
    simp [this]
  · rcases h with h | ⟨b, o, rfl, h2⟩
    · exact .inl (by simp [h])
    · refine .inr ⟨b, o + a * sz, ?_, fun j hj => ?_⟩
      · simp only [Option.map_some, Addr.add, Option.some.injEq]
        split
        · rename_i h0; simp [h0]
        · rfl
      · simp only [List.length_drop] at hj
        have := h2 (a * sz + j) (by omega)
        rw [List.getElem_drop]
        rwa [Nat.add_assoc]
def slV (ao : Option Addr) (c : Nat) (a b : Int) : Option Nat → R
  | some sz => ⟨0 ≤ a ∧ a ≤ b ∧ b ≤ c, .v (.slice (slAt ao a.toNat sz c) (b.toNat - a.toNat) (c - a.toNat)), [], none, [], []⟩
  | none => .bad
def slU (P : Program) (ao : Option Addr) (c : Nat) (a b : Int) : Option TypeDesc → R
  | some (.slice e) => slV ao c a b (ts P e)
  | _ => .bad
theorem semSliceX_eq (T : TypeId) (ao : Option Addr) (n c : Nat) (a b : Int) : semSliceX P T ao n c a b = slU P ao c a b (P.underlying T) := by
  simp only [semSliceX]; unfold slU
  rcases P.underlying T with _ | d
  · rfl
  · cases d <;> first | rfl | (rename_i e; simp only [slV, R.req, slAt]; rcases ts P e with _ | a <;> rfl)
theorem slU_slice (ao : Option Addr) (c : Nat) (a b : Int) (e : TypeId) : slU P ao c a b (some (.slice e)) = slV ao c a b (ts P e) := rfl
theorem slV_some (ao : Option Addr) (c : Nat) (a b : Int) (sz : Nat) : slV ao c a b (some sz) = ⟨0 ≤ a ∧ a ≤ b ∧ b ≤ c, .v (.slice (slAt ao a.toNat sz c) (b.toNat - a.toNat) (c - a.toNat)), [], none, [], []⟩ := rfl
theorem semSlice_x11 (T : TypeId) (ao : Option Addr) (n c : Nat) (k k' : IntKind) (a b : Int) : semSlice P T true true false [.v (.slice ao n c), .v (.int k a), .v (.int k' b)] = slU P ao c a b (P.underlying T) := by
  rw [← semSliceX_eq T ao n]; rfl
theorem semSlice_x10 (T : TypeId) (ao : Option Addr) (n c : Nat) (k : IntKind) (a : Int) : semSlice P T true false false [.v (.slice ao n c), .v (.int k a)] = slU P ao c a n (P.underlying T) := by
  rw [← semSliceX_eq T ao n]; rfl
theorem semSlice_x01 (T : TypeId) (ao : Option Addr) (n c : Nat) (k : IntKind) (b : Int) : semSlice P T false true false [.v (.slice ao n c), .v (.int k b)] = slU P ao c 0 b (P.underlying T) := by
  rw [← semSliceX_eq T ao n]; rfl
end
end Go.LE
