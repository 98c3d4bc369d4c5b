/-
  LE, the engine, part 4: stores, fields, building, numbers and texts.
-/
import Derived.Test.YtoglkgbjehbcpaaE3
namespace Go.LE
open Go.RowKit
set_option linter.unusedSimpArgs false
set_option linter.unusedVariables false

section
variable {P : Program} {W : World} {bs : List Nat} {κ : Nat} {E : Nat → Value} {F : Nat → List Nat} {h : Nat → Option Ent} {w : World} {K : Nat → Prop}

/-! ### store -/
def setRange (vs : List SV) (o : Nat) (ps : List SV) : List SV := vs.take o ++ ps ++ vs.drop (o + ps.length)

def setEnt : Option Ent → Nat → List SV → Option Ent
  | some (.cells T vs), o, ps => some (.cells T (setRange vs o ps))
  | some (.row T s n vs), o, ps => some (.row T s n (setRange vs o ps))
  | e, _, _ => e

def semStore (P : Program) (h : Nat → Option Ent) (T : TypeId) : List SV → R
  | [.own k o, x] =>
    match ts P T, entVs (h k) with
    | some sz, some vs => { side := (partsOf x).length = sz ∧ o + sz ≤ vs.length ∧ 0 < sz ∧ (partsOf x).all oneSV = true, val := .v undef, upd := [(k, setEnt (h k) o (partsOf x))], reads := [k] }
    | _, _ => .bad
  | _ => .bad

theorem ptrAt_one (a : Option Addr) (o : Nat) : (ptrAt a o).oneCell' = true := by cases a <;> rfl
theorem oneSV_den (E : Nat → Value) : ∀ {x : SV}, oneSV x = true → (den E x).oneCell' = true
  | .v x, hx => hx
  | .agg _, hx => by cases hx
  | .tup _, hx => by cases hx
  | .own k o, _ => ptrAt_one _ _
  | .hd k, _ => hv_one _
  | .ifc _ _, _ => rfl
  | .part _ _, _ => hv_one _
  | .fn _ _ _, _ => rfl

theorem denL_setRange (E : Nat → Value) (vs ps : List SV) (o : Nat) : denL E (setRange vs o ps) = (denL E vs).take o ++ denL E ps ++ (denL E vs).drop (o + (denL E ps).length) := by
  simp [setRange, denL_eq_map, List.map_take, List.map_drop]

theorem keeps_setRow (w : World) (g : Nat) (cs : Array Value) : Keeps w [g] (w.setRow g cs) :=
  ⟨rfl, rfl, rfl, by simp, fun b _ hn => setRow_other w g b cs (by simpa using hn)⟩

theorem store_good {T : TypeId} {p x : SV} (hs : HeapSat W bs E F h w) (hside : (semStore P h T [p, x]).side) :
    Good P W bs κ E h (semStore P h T [p, x]) ((do Instr.storeAt T (den E p) (den E x); pure .skip : Sem Next).run P w) := by
  revert hside
  unfold semStore
  split
  · rename_i k o x' heq
    simp only [List.cons.injEq, and_true] at heq
    obtain ⟨rfl, rfl⟩ := heq
    split
    · rename_i sz vs hsz hvs
      rintro ⟨hpl, hlen, hpos, hone⟩
      have hone' : ∀ v ∈ denL E (partsOf x), v.oneCell' = true := by
        intro v hv
        rw [denL_eq_map] at hv
        obtain ⟨y, hy, rfl⟩ := List.mem_map.1 hv
        exact oneSV_den E (List.all_eq_true.1 hone y hy)
      have hcl : (den E x).cells.toList = denL E (partsOf x) := (denL_partsOf E x).symm
      have hcs : (den E x).cells.size = sz := by rw [← Array.length_toList, hcl, denL_length, hpl]
      cases hk : h k with
      | none => simp [hk, entVs] at hvs
      | some e =>
        have hent := hs.ent k e hk
        -- the block, its cells
        have key : ∃ g cur T', base (E k) = some ⟨g, 0, none⟩ ∧ F k = [g] ∧ w.heap[g]? = some (.cells cur T' (0, 0)) ∧ o + sz ≤ cur.size ∧
            ∀ w' : World, w'.heap[g]? = some (.cells (cur.toList.take o ++ denL E (partsOf x) ++ cur.toList.drop (o + sz)).toArray T' (0, 0)) → ∃ e', setEnt (h k) o (partsOf x) = some e' ∧ entSat E (E k) [g] w' e' := by
          cases e with
          | obj d R => simp [hk, entVs] at hvs
          | cells T' us =>
            simp only [hk, entVs, Option.some.injEq] at hvs
            subst hvs
            obtain ⟨b, h1, h2, h3⟩ := hent
            refine ⟨b, _, _, by rw [h1]; rfl, h2, h3, by simp [denL_length]; omega, fun w' hw' => ⟨.cells T' (setRange us o (partsOf x)), by rw [hk]; rfl, ⟨b, h1, rfl, ?_⟩⟩⟩
            rw [hw', denL_setRange]
            simp [denL_length, hpl]
          | row T' size n us =>
            simp only [hk, entVs, Option.some.injEq] at hvs
            subst hvs
            obtain ⟨⟨hl, hor⟩, hf⟩ := hent
            rcases hor with ⟨h1, h2⟩ | ⟨g, cap, cur, h1, hb0, hh, hnc, hcm, hcs', htake⟩
            · have : (denL E us).length = 0 := by rw [hl, h2]; simp
              rw [denL_length] at this
              omega
            · have hul : us.length = n * size := by rw [← hl, denL_length]
              have hnsz : n * size ≤ cap * size := Nat.mul_le_mul_right _ hnc
              refine ⟨g, cur, _, by rw [h1]; rfl, by rw [hf, h1]; rfl, hh, by omega, fun w' hw' => ⟨.row T' size n (setRange us o (partsOf x)), by rw [hk]; rfl, ⟨⟨?_, .inr ⟨g, cap, _, h1, hb0, hw', hnc, hcm, ?_, ?_⟩⟩, by rw [h1]; rfl⟩⟩⟩
              · rw [denL_setRange]
                simp only [List.length_append, List.length_take, List.length_drop, denL_length, hpl]
                omega
              · simp only [List.size_toArray, List.length_append, List.length_take, List.length_drop, denL_length, hpl, Array.length_toList]
                omega
              · rw [denL_setRange, ← htake]
                simp only [denL_length, hpl]
                apply List.ext_getElem?
                intro j
                simp only [List.getElem?_take, List.getElem?_append, List.length_append, List.length_take, denL_length, hpl, List.getElem?_drop, Array.length_toList]
                by_cases hj1 : j < n * size
                · rw [if_pos hj1]
                  repeat' split
                  all_goals (first | rfl | omega | (congr 1; omega) | skip)
                · rw [if_neg hj1]
                  repeat' split
                  all_goals (first | rfl | omega | skip)
        obtain ⟨g, cur, T', hb, hF, hh, hle, hset⟩ := key
        obtain ⟨e', he', hsat⟩ := hset _ (setRow_heap w g cur _ T' _ hh)
        have hst := run_storeCells_at P g o T' (denL E (partsOf x)) 0 cur w hh (by rw [denL_length, hpl]; omega) hone'
        have : (do Instr.storeAt T (den E (.own k o)) (den E x); pure .skip : Sem Next).run P w = .ok .skip (w.setRow g (cur.toList.take o ++ denL E (partsOf x) ++ cur.toList.drop (o + sz)).toArray) := by
          simp only [den, hb, ptrAt, Instr.storeAt, Instr.sureAddr, Nat.zero_add]
          simp only [Nat.add_zero, denL_length, hpl] at hst
          simp [storeVar, hcs, run_ts hsz, hcl, hst]
        rw [this]
        rw [hk] at he'
        simp only [Good, Runs, updL, he']
        refine ⟨trivial, E, _, fun _ _ => rfl, rfl, hs.turn hk hsat (fun b hb => by left; rw [hF]; exact hb) (fun b hb => ?_) ?_⟩
        · simp at hb; subst hb
          rw [size_setRow]
          exact (Array.getElem?_eq_some_iff.1 hh).1
        · rw [hF]; exact keeps_setRow w g _
    · exact fun hf => hf.elim
  · exact fun hf => hf.elim
end
end Go.LE
