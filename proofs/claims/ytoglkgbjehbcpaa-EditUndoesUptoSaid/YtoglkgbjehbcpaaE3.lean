/-
  LE, the engine, part 3: the single operations, a family at a time: what each comes to, and that it is so.
-/
import Derived.Test.YtoglkgbjehbcpaaE2
import Derived.WalkLawsBesides
import Derived.WalkSpells
namespace Go.LE
open Go.RowKit
set_option linter.unusedSimpArgs false
set_option linter.unusedVariables false

/-! ### Types -/
def tz (P : Program) (T : TypeId) : Option (List Value) := (P.info? T).bind fun i => i.zero.map fun z => z.cells.toList
def ts (P : Program) (T : TypeId) : Option Nat := (P.info? T).map (·.size)
def tby (P : Program) (T : TypeId) : Option Nat := (P.info? T).map (·.bytes)
def ta (P : Program) (T : TypeId) : Option Bool := (P.underlying T).map fun | .struct _ => true | .array _ _ => true | _ => false
/-- a field: where its cells begin, how many they are, whether it is a struct or an array itself -/
def tf (P : Program) (S : TypeId) (f : Nat) : Option (Nat × Nat × Bool) :=
  match P.underlying S with
  | some (.struct fs) => (fs[f]?).bind fun d => (ts P d.type).bind fun s => (ta P d.type).map fun a => (d.offset, s, a)
  | _ => none

section
variable {P : Program} {W : World} {bs : List Nat} {κ : Nat} {E : Nat → Value} {F : Nat → List Nat} {h : Nat → Option Ent} {w : World} {K : Nat → Prop}

theorem run_ts {T s : Nat} (ht : ts P T = some s) (w : World) : (sizeOf T).run P w = .ok s w := by
  obtain ⟨i, hi, rfl⟩ := Option.map_eq_some_iff.1 ht
  simp [sizeOf, typeInfo, hi]
theorem run_ta {T : TypeId} {a : Bool} (ht : ta P T = some a) (w : World) : (isAgg T).run P w = .ok a w := by
  obtain ⟨d, hd, hda⟩ := Option.map_eq_some_iff.1 ht
  subst hda
  simp only [isAgg, Sem.run_bind, run_underlying hd, Result.andThen_ok]
  cases d <;> simp
theorem run_tz {T : TypeId} {zs : List Value} (ht : tz P T = some zs) : ∃ z, z.cells.toList = zs ∧ ∀ w : World, (zeroValue T).run P w = .ok z w := by
  unfold tz at ht
  cases hi : P.info? T with
  | none => simp [hi] at ht
  | some i =>
    simp only [hi, Option.bind_some] at ht
    cases hz : i.zero with
    | none => simp [hz] at ht
    | some z =>
      simp only [hz, Option.map_some, Option.some.injEq] at ht
      exact ⟨z, ht, fun w => by simp [zeroValue, typeInfo, hi, hz]⟩

/-! ### Parts of a value: its cells -/
def partsOf : SV → List SV
  | .agg l => l
  | .v x => x.cells.toList.map .v
  | x => [x]
theorem ptrAt_cells (a : Option Addr) (o : Nat) : (ptrAt a o).cells = #[ptrAt a o] := by cases a <;> rfl
theorem denL_partsOf (E : Nat → Value) (x : SV) : denL E (partsOf x) = (den E x).cells.toList := by
  cases x with
  | agg l => simp [partsOf, den, Value.cells]
  | v x => simp [partsOf, den, denL_map_v]
  | own k o => simp [partsOf, den, denL, ptrAt_cells]
  | hd k => simp [partsOf, den, denL, cells_of_one' (hv_one _)]
  | tup l => rfl
  | ifc t x => rfl
  | part k i => simp [partsOf, den, denL, cells_of_one' (hv_one _)]
  | fn f a c => rfl
theorem keys_partsOf (x : SV) : keysL (partsOf x) = x.keys := by
  cases x <;> simp [partsOf, SV.keys, keysL, keysL_map_v]

/-- Every cell of a value takes one cell. -/
def oneSV : SV → Bool
  | .v x => x.oneCell'
  | .agg _ => false
  | .tup _ => false
  | .own _ _ => true
  | .hd _ => true
  | .ifc _ _ => true
  | .part _ _ => true
  | .fn _ _ _ => true

/-! ### alloc, box -/
def semAlloc (P : Program) (κ : Nat) (T : TypeId) : R :=
  match tz P T with
  | some zs => .new (nk κ) (.cells T (zs.map .v)) (.own (nk κ) 0)
  | none => .bad

theorem keeps_alloc (w : World) (o : Obj) : Keeps w [] (w.alloc o) := ⟨rfl, rfl, rfl, by simp, fun b hb _ => Below.heap_alloc w o b hb⟩

theorem ent_new (E : Nat → Value) (w : World) (T : TypeId) (vs : List SV) (cs : Array Value) (h : denL E vs = cs.toList) :
    entSat E (.pointer (some ⟨w.heap.size, 0, none⟩)) [w.heap.size] (w.alloc (.cells cs T)) (.cells T vs) :=
  ⟨_, rfl, rfl, by rw [h]; simpa using heap_alloc_new w (.cells cs T)⟩

theorem new_cells {T : TypeId} {vs : List SV} {cs : Array Value} {j : Nat} (hj : j < 8) (hs : HeapSat W bs E F h w) (hK : KeysIn K h) (hk : ∀ k, k / 8 = κ → ¬ K k) (hv : ∀ k ∈ keysL vs, K k) (hd : denL E vs = cs.toList) :
    HeapSat W bs (upd E (nk κ + j) (.pointer (some ⟨w.heap.size, 0, none⟩))) (upd F (nk κ + j) [w.heap.size]) (upd h (nk κ + j) (some (.cells T vs))) (w.alloc (.cells cs T)) := by
  have hnk := hk _ (nk_div κ j hj)
  refine hs.new hK hnk (ent_new _ w T vs cs ?_) (fun b hb => ?_) (keeps_alloc w _)
  · rw [← hd]
    exact denL_congr vs fun i hk' => upd_ne _ _ fun e => hnk (e ▸ hv i hk')
  · simp at hb; subst hb; simp

theorem upd_agree {j : Nat} (hj : j < 8) (u : Value) : ∀ k, k / 8 ≠ κ → upd E (nk κ + j) u k = E k := fun _ hk => upd_ne _ _ fun e => hk (e ▸ nk_div κ j hj)

theorem alloc_good {T : TypeId} (hs : HeapSat W bs E F h w) (hK : KeysIn K h) (hk : ∀ k, k / 8 = κ → ¬ K k) (hside : (semAlloc P κ T).side) :
    Good P W bs κ E h (semAlloc P κ T) ((do pure (.value (← Instr.alloc T true (.tuple #[]))) : Sem Next).run P w) := by
  cases hz : tz P T with
  | none => simp [semAlloc, hz, R.bad] at hside
  | some zs =>
    obtain ⟨z, rfl, hrun⟩ := run_tz hz
    simp only [semAlloc, hz]
    have : (do pure (.value (← Instr.alloc T true (.tuple #[]))) : Sem Next).run P w = .ok (.value (.pointer (some ⟨w.heap.size, 0, none⟩))) (w.alloc (.cells z.cells T)) := by
      simp [Instr.alloc, hrun, newVar, newRow]
    rw [this]
    refine ⟨rfl, _, _, upd_agree (j := 0) (by omega) _, ?_, new_cells (j := 0) (by omega) hs hK hk (by simp [keysL_map_v]) (by simp [denL_map_v])⟩
    simp [R.new, den, upd_same, base, ptrAt, nk]

def semBox (κ : Nat) (T : TypeId) : List SV → R
  | [x] => .new (nk κ) (.cells T (partsOf x)) (.own (nk κ) 0)
  | _ => .bad
theorem box_good {T : TypeId} {x : SV} (hs : HeapSat W bs E F h w) (hK : KeysIn K h) (hk : ∀ k, k / 8 = κ → ¬ K k) (hx : ∀ k ∈ x.keys, K k) :
    Good P W bs κ E h (semBox κ T [x]) ((do pure (.value (← Instr.box T (den E x))) : Sem Next).run P w) := by
  have : (do pure (.value (← Instr.box T (den E x))) : Sem Next).run P w = .ok (.value (.pointer (some ⟨w.heap.size, 0, none⟩))) (w.alloc (.cells (den E x).cells T)) := by
    simp [Instr.box, newVar, newRow]
  rw [this]
  refine ⟨rfl, _, _, upd_agree (j := 0) (by omega) _, ?_, new_cells (j := 0) (by omega) hs hK hk (by rw [keys_partsOf]; exact hx) (denL_partsOf E x)⟩
  simp [semBox, R.new, den, upd_same, base, ptrAt, nk]

/-! ### load, store -/
def entVs : Option Ent → Option (List SV)
  | some (.cells _ vs) => some vs
  | some (.row _ _ _ vs) => some vs
  | _ => none

/-- cells of memory that was there before -/
def xcells (W : World) (b : Nat) : Nat → Nat → List SV
  | _, 0 => []
  | o, n + 1 => .v ((W.cell? ⟨b, o, none⟩).getD undef) :: xcells W b (o + 1) n
def xthere (W : World) (b : Nat) : Nat → Nat → Prop
  | _, 0 => True
  | o, n + 1 => (W.cell? ⟨b, o, none⟩).isSome = true ∧ xthere W b (o + 1) n

def semLoad (P : Program) (W : World) (bs : List Nat) (h : Nat → Option Ent) (T : TypeId) : List SV → R
  | [.own k o] =>
    match ts P T, ta P T, entVs (h k) with
    | some sz, some true, some vs => { side := o + sz ≤ vs.length ∧ 0 < sz, val := .agg ((vs.drop o).take sz), reads := [k] }
    | some _, some false, some vs => { side := o < vs.length, val := vs.getD o (.v undef), reads := [k] }
    | _, _, _ => .bad
  | [.v (.pointer (some ⟨b, o, none⟩))] =>
    match ts P T, ta P T with
    | some sz, some true => { side := b ∉ bs ∧ xthere W b o sz, val := .agg (xcells W b o sz) }
    | some _, some false => { side := b ∉ bs ∧ (W.cell? ⟨b, o, none⟩).isSome = true, val := .v ((W.cell? ⟨b, o, none⟩).getD undef) }
    | _, _ => .bad
  | _ => .bad

theorem run_loadVar_agg {T sz : Nat} (hs : ts P T = some sz) (ha : ta P T = some true) (a : Addr) (cs : List Value) (hl : cs.length = sz) (h : ∀ j v, cs[j]? = some v → w.cell? (a.add j) = some v) :
    (loadVar T a).run P w = .ok (.agg cs.toArray) w := by
  subst hl
  simp [loadVar, run_ta ha, run_ts hs, run_loadCells_list w a cs h]
theorem run_loadVar_one {T : TypeId} (ha : ta P T = some false) (a : Addr) (v : Value) (h : w.cell? a = some v) :
    (loadVar T a).run P w = .ok v w := by
  simp [loadVar, run_ta ha, h]

/-- The contents of an own thing, cell by cell, from its handle on. -/
theorem ent_cells {k : Nat} {vs : List SV} (hs : HeapSat W bs E F h w) (he : entVs (h k) = some vs) (hne : 0 < vs.length) :
    ∃ b, base (E k) = some ⟨b, 0, none⟩ ∧ ∀ j, j < vs.length → w.cell? ⟨b, j, none⟩ = some ((denL E vs)[j]?.getD undef) := by
  cases hk : h k with
  | none => simp [hk, entVs] at he
  | some e =>
    have hent := hs.ent k e hk
    cases e with
    | obj d R => simp [hk, entVs] at he
    | cells T us =>
      simp only [hk, entVs, Option.some.injEq] at he
      subst he
      obtain ⟨b, h1, _, h3⟩ := hent
      refine ⟨b, by rw [h1]; rfl, fun j hj => ?_⟩
      have hj' : j < (denL E us).length := by rw [denL_length]; exact hj
      simp [World.cell?, h3, List.getElem?_eq_getElem hj']
    | row T size n us =>
      simp only [hk, entVs, Option.some.injEq] at he
      subst he
      obtain ⟨⟨hl, hor⟩, _⟩ := hent
      rcases hor with ⟨h1, h2⟩ | ⟨g, cap, cur, h1, _, hh, _, _, hcs, htake⟩
      · have : (denL E us).length = 0 := by rw [hl, h2]; simp
        rw [denL_length] at this
        omega
      · refine ⟨g, by rw [h1]; rfl, fun j hj => ?_⟩
        have hj' : j < (denL E us).length := by rw [denL_length]; exact hj
        have hcur : cur[j]? = (denL E us)[j]? := by
          rw [← htake, List.getElem?_take, if_pos (by omega)]
          simp
        simp [World.cell?, hh, hcur, List.getElem?_eq_getElem hj']

theorem xcells_there : ∀ (n o b : Nat), xthere W b o n → denL E (xcells W b o n) = (List.range n).map (fun j => (W.cell? ⟨b, o + j, none⟩).getD undef) ∧ ∀ j, j < n → (W.cell? ⟨b, o + j, none⟩).isSome = true
  | 0, _, _, _ => ⟨rfl, fun j hj => by omega⟩
  | n + 1, o, b, h => by
    obtain ⟨h1, h2⟩ := xcells_there n (o + 1) b h.2
    refine ⟨?_, fun j hj => ?_⟩
    · simp only [xcells, denL, den, h1, List.range_succ_eq_map, List.map_cons, List.map_map, Nat.add_zero, Function.comp_def]
      congr 1
      apply List.map_congr_left
      intro j _
      simp [Nat.add_assoc, Nat.add_comm 1 j]
    · cases j with
      | zero => exact h.1
      | succ j => have := h2 j (by omega); rwa [show o + (j + 1) = o + 1 + j by omega]

theorem Keeps.cell {b o : Nat} (hk : Keeps W bs w) (hb : b ∉ bs) (hs : (W.cell? ⟨b, o, none⟩).isSome = true) : w.cell? ⟨b, o, none⟩ = some ((W.cell? ⟨b, o, none⟩).getD undef) := by
  obtain ⟨v, hv⟩ := Option.isSome_iff_exists.1 hs
  have hlt := World.block_lt_of_cell? W _ hv
  have : w.cell? ⟨b, o, none⟩ = W.cell? ⟨b, o, none⟩ := World.cell?_of_block (hk.block b hlt hb)
  rw [this, hv]; rfl

theorem denL_getD (E : Nat → Value) (vs : List SV) (o : Nat) : den E (vs.getD o (.v undef)) = (denL E vs)[o]?.getD undef := by
  rw [denL_eq_map, List.getD_eq_getElem?_getD, List.getElem?_map]
  cases vs[o]? <;> rfl

theorem load_good {T : TypeId} {x : SV} (hs : HeapSat W bs E F h w) (hside : (semLoad P W bs h T [x]).side) :
    Good P W bs κ E h (semLoad P W bs h T [x]) ((do pure (.value (← Instr.loadAt T (den E x))) : Sem Next).run P w) := by
  revert hside
  unfold semLoad
  split
  · rename_i k o heq
    simp only [List.cons.injEq, and_true] at heq
    subst heq
    split
    · rename_i sz vs hsz hag hvs
      rintro ⟨hlen, hpos⟩
      obtain ⟨b, hb, hcells⟩ := ent_cells hs hvs (by omega)
      have hrun : (loadVar T ⟨b, 0 + o, none⟩).run P w = .ok (.agg (((denL E vs).drop o).take sz).toArray) w := by
        refine run_loadVar_agg hsz hag _ _ (by simp [denL_length]; omega) fun j v hj => ?_
        have hjl : j < sz := by
          have := (List.getElem?_eq_some_iff.1 hj).1
          simp at this; omega
        rw [Addr.add_lit, Nat.zero_add, hcells (o + j) (by omega)]
        rw [List.getElem?_take, if_pos hjl, List.getElem?_drop] at hj
        rw [hj]; rfl
      rw [Nat.zero_add] at hrun
      have : (do pure (.value (← Instr.loadAt T (den E (.own k o)))) : Sem Next).run P w = .ok (.value (.agg (((denL E vs).drop o).take sz).toArray)) w := by
        simp only [den, hb, ptrAt, Instr.loadAt, Instr.sureAddr]
        simp [hrun]
      rw [this]
      refine Good.pure hs ?_ rfl rfl
      simp [den, denL_eq_map, List.map_take, List.map_drop]
    · rename_i sz vs hsz hag hvs
      intro hlen
      obtain ⟨b, hb, hcells⟩ := ent_cells hs hvs (Nat.zero_lt_of_lt hlen)
      have hrun := run_loadVar_one (w := w) hag ⟨b, 0 + o, none⟩ ((denL E vs)[o]?.getD undef) (by rw [Nat.zero_add]; exact hcells o hlen)
      rw [Nat.zero_add] at hrun
      have : (do pure (.value (← Instr.loadAt T (den E (.own k o)))) : Sem Next).run P w = .ok (.value ((denL E vs)[o]?.getD undef)) w := by
        simp only [den, hb, ptrAt, Instr.loadAt, Instr.sureAddr]
        simp [hrun]
      rw [this]
      exact Good.pure hs (denL_getD E vs o).symm rfl rfl
    · exact fun hf => hf.elim
  · rename_i b o heq
    simp only [List.cons.injEq, and_true] at heq
    subst heq
    split
    · rename_i sz hsz hag
      rintro ⟨hb, hthere⟩
      obtain ⟨_, hsome⟩ := xcells_there (E := E) sz o b hthere
      have hrun : (loadVar T ⟨b, o, none⟩).run P w = .ok (.agg (denL E (xcells W b o sz)).toArray) w := by
        refine run_loadVar_agg hsz hag _ _ ?_ fun j v hj => ?_
        · have : denL E (xcells W b o sz) = denL E (xcells W b o sz) := rfl
          have hl : ∀ n o, (xcells W b o n).length = n := fun n => by induction n with | zero => intro o; rfl | succ n ih => intro o; simp [xcells, ih]
          rw [denL_length, hl]
        · have hd : denL E (xcells W b o sz) = (List.range sz).map (fun j => (W.cell? ⟨b, o + j, none⟩).getD undef) := (xcells_there sz o b hthere).1
          rw [hd] at hj
          have hjl : j < sz := by have := (List.getElem?_eq_some_iff.1 hj).1; simpa using this
          rw [List.getElem?_map, List.getElem?_range hjl] at hj
          simp only [Option.map_some, Option.some.injEq] at hj
          subst hj
          rw [Addr.add_lit]
          exact hs.keeps.cell hb (hsome j hjl)
      have : (do pure (.value (← Instr.loadAt T (den E (.v (.pointer (some ⟨b, o, none⟩)))))) : Sem Next).run P w = .ok (.value (.agg (denL E (xcells W b o sz)).toArray)) w := by
        simp only [den, Instr.loadAt, Instr.sureAddr]
        simp [hrun]
      rw [this]
      exact Good.pure hs rfl rfl rfl
    · rename_i sz hsz hag
      rintro ⟨hb, hsome⟩
      have hrun := run_loadVar_one (w := w) hag ⟨b, o, none⟩ _ (hs.keeps.cell hb hsome)
      have : (do pure (.value (← Instr.loadAt T (den E (.v (.pointer (some ⟨b, o, none⟩)))))) : Sem Next).run P w = .ok (.value ((W.cell? ⟨b, o, none⟩).getD undef)) w := by
        simp only [den, Instr.loadAt, Instr.sureAddr]
        simp [hrun]
      rw [this]
      exact Good.pure hs rfl rfl rfl
    · exact fun hf => hf.elim
  · exact fun hf => hf.elim
end
end Go.LE
