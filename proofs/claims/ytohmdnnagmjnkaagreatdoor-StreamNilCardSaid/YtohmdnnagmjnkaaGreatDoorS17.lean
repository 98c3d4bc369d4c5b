/-
  Part 17 of the proof.
-/
import Derived.Test.YtohmdnnagmjnkaaGreatDoorCards
import Derived.Test.YtohmdnnagmjnkaaGreatDoorTie
import Derived.Test.YtohmdnnagmjnkaaGreatDoorS15
import Derived.Test.YtohmdnnagmjnkaaGreatDoorS6
import Derived.WalkKit
import Derived.ProofKit
import Derived.OpenShut
import Derived.Deep.DeepHandedRow
import Derived.Lib.LaidTab
import Derived.Lib.LaidU8
import Derived.Lay
import Derived.Test.YtohmdnnagmjnkaaGreatDoorS16
set_option linter.unusedSimpArgs false
set_option linter.unusedVariables false
set_option linter.defProp false
section
namespace Go.Proofs.YtohmdnnagmjnkaaGreatDoor
open Go Go.ChangeShapes Go.WideShapes Go.ChangeAt Go.RowKit Go.LE
set_option maxRecDepth 10000
theorem own0 : ownKnob Tryz.prog.godebug = none := by kernel_rfl
theorem laid0 : laidOutB Tryz.prog = true := by kernel_rfl
theorem maps0 : mapsRowed Tryz.prog = true := by kernel_rfl
theorem full0 : ((List.range Tryz.prog.types.size).all fun t => match Tryz.prog.underlying t with | some (.slice e) => decide (0 < Tryz.prog.cellsOf e) | _ => true) = true := by kernel_rfl
theorem cells9 : Tryz.prog.cellsOf 9 = 1 := by kernel_rfl
theorem cells5 : Tryz.prog.cellsOf 5 = 1 := by kernel_rfl
theorem cells365 : Tryz.prog.cellsOf 365 = 2 := by kernel_rfl
theorem glob1 : Tryz.prog.globalNamed "loupe/class.escapes" = some 1 := by kernel_rfl
theorem globT1 : (Tryz.prog.globals[1]?).map (·.type) = some 366 := by kernel_rfl
theorem globK : Tryz.prog.globalNamed "loupe/syntax.ranks" = some 0 := by kernel_rfl
theorem globTK : (Tryz.prog.globals[0]?).map (·.type) = some 307 := by kernel_rfl
theorem var_cells {W : World} {n : String} {g : Nat} {cs : Array Value} (hg : Tryz.prog.globalNamed n = some g) (h : W.var? Tryz.prog n = some cs) (i : Nat) (v : Value) (hi : cs.toList[i]? = some v) : W.cell? ⟨g, i, none⟩ = some v := by
  unfold World.var? at h
  rw [hg, Option.bind_some] at h
  split at h
  · rename_i cs' T fr hh
    cases h
    simp only [World.cell?, hh]
    rw [Array.getElem?_toList] at hi
    simpa using hi
  · cases h
theorem two_of {l : List Value} {k : Nat} {x y : Value} (h : (l.drop k).take 2 = [x, y]) : l[k]? = some x ∧ l[k + 1]? = some y := by
  have h0 := congrArg (·[0]?) h
  have h1 := congrArg (·[1]?) h
  simp only [List.getElem?_take, List.getElem?_drop] at h0 h1
  exact ⟨by simpa using h0, by simpa using h1⟩
theorem pair_reads {W : World} {sp : Nat → Bool} {fuel : Nat} {cs : List Value} {a b : Int} {q : List MemPlace} (h : DataW.trod (fun _ => ()) Tryz.prog W 0 sp false fuel 365 cs = some (.agg [.lit (.int .u8 a), .lit (.int .u8 b)], q)) : cs = [.int .u8 a, .int .u8 b] :=
  Lib.ints_of_struct (zs := [a, b]) Tryz.underlying365 (fun i f hf => by
    match i, hf with
    | 0, hf => cases hf; exact ⟨Tryz.underlying5, rfl, cells5⟩
    | 1, hf => cases hf; exact ⟨Tryz.underlying5, rfl, cells5⟩
    | i + 2, hf => cases hf) cells365 h
theorem esc_reads {W : World} (h : Lib.VarReads Tryz.prog W "loupe/class.escapes" Rows.laid_loupe_class_escapes) : ∀ (j : Nat) x, (CE.int8 [110, 10, 114, 13, 116, 9])[j]? = some x → W.cell? ⟨1, j, none⟩ = some x := by
  obtain ⟨g, t, cs, fuel, p, h1, h2, h3, h4⟩ := h
  obtain rfl := Option.some.inj (glob1.symm.trans h1)
  obtain rfl := Option.some.inj (globT1.symm.trans h2)
  have key : ∀ i (a b : Int), i < 3 → [(110, 10), (114, 13), (116, 9)][i]? = some (a, b) → W.cell? ⟨1, i * 2, none⟩ = some (.int .u8 a) ∧ W.cell? ⟨1, i * 2 + 1, none⟩ = some (.int .u8 b) := fun i a b hi hab => by
    obtain ⟨f', d, q, hd, ht⟩ := Lib.array_elem Tryz.underlying366 h4 i hi
    rw [cells365] at ht
    have e : d = .agg [.lit (.int .u8 a), .lit (.int .u8 b)] := by
      match i, hi with
      | 0, _ => cases hab; cases hd; rfl
      | 1, _ => cases hab; cases hd; rfl
      | 2, _ => cases hab; cases hd; rfl
    subst e
    obtain ⟨g1, g2⟩ := two_of (pair_reads ht)
    exact ⟨var_cells glob1 h3 _ _ g1, var_cells glob1 h3 _ _ g2⟩
  have k0 := key 0 _ _ (by omega) rfl
  have k1 := key 1 _ _ (by omega) rfl
  have k2 := key 2 _ _ (by omega) rfl
  intro j x hx
  match j, hx with
  | 0, hx => cases hx; exact k0.1
  | 1, hx => cases hx; exact k0.2
  | 2, hx => cases hx; exact k1.1
  | 3, hx => cases hx; exact k1.2
  | 4, hx => cases hx; exact k2.1
  | 5, hx => cases hx; exact k2.2
  | j + 6, hx => cases hx
def rkS : List ByteArray := [⟨#[124]⟩, ⟨#[38, 45]⟩, ⟨#[62, 62]⟩, ⟨#[126]⟩, ⟨#[46]⟩]
theorem rnk_reads {W : World} (h : Lib.VarReads Tryz.prog W "loupe/syntax.ranks" Rows.laid_loupe_syntax_ranks) : ∀ (j : Nat) x, [Value.string ⟨#[124]⟩, .string ⟨#[38, 45]⟩, .string ⟨#[62, 62]⟩, .string ⟨#[126]⟩, .string ⟨#[46]⟩][j]? = some x → W.cell? ⟨0, j, none⟩ = some x := by
  obtain ⟨g, t, cs, fuel, p, h1, h2, h3, h4⟩ := h
  obtain rfl := Option.some.inj (globK.symm.trans h1)
  obtain rfl := Option.some.inj (globTK.symm.trans h2)
  have e : (Rows.laid_loupe_syntax_ranks : DataW Unit) = .agg (rkS.map fun s => .lit (.string s.data.toList)) := rfl
  rw [e] at h4
  have key : ∀ i s, rkS[i]? = some s → i < 5 → W.cell? ⟨0, i, none⟩ = some (.string s) := fun i s hs hi => by
    obtain ⟨f', d, q, hd, ht⟩ := Lib.array_elem Tryz.underlying307 h4 i hi
    rw [cells9] at ht
    rw [List.getElem?_map, hs, Option.map_some, Option.some.injEq] at hd
    subst hd
    obtain ⟨z0, g0, f0, _⟩ := DataW.trod_string Tryz.underlying9 ht
    simp only [Prod.mk.injEq, DataW.lit.injEq, Lit.string.injEq] at f0
    obtain ⟨f0, _⟩ := f0
    have d0 : s = z0 := by
      rcases s with ⟨⟨l⟩⟩
      rcases z0 with ⟨⟨l'⟩⟩
      simp only at f0
      rw [f0]
    rw [d0]
    have g1 := congrArg (·[0]?) g0
    simp only [List.getElem?_take, List.getElem?_drop, List.getElem?_cons_zero] at g1
    refine var_cells globK h3 i _ ?_
    simpa using g1
  intro j x hx
  match j, hx with
  | 0, hx => cases hx; exact key 0 _ rfl (by omega)
  | 1, hx => cases hx; exact key 1 _ rfl (by omega)
  | 2, hx => cases hx; exact key 2 _ rfl (by omega)
  | 3, hx => cases hx; exact key 3 _ rfl (by omega)
  | 4, hx => cases hx; exact key 4 _ rfl (by omega)
  | j + 5, hx => cases hx
end Go.Proofs.YtohmdnnagmjnkaaGreatDoor
end
section
namespace Go.CE
open Go.RowKit
open Go.Proofs
set_option maxRecDepth 100000
noncomputable def L15 : Hooks := [(15, memoH [MB15])]
theorem l15_ok {U : Nat → Value} : ∀ p ∈ L15, HookOk Tryz.prog (KK L15) U p.1 p.2 := by
  intro p hp
  simp only [L15, List.mem_cons, List.not_mem_nil, or_false] at hp
  subst hp
  refine memo_hook (L' := LS) (m := 2000) (kk_ok ls_ok) fun M hM => ?_
  simp only [List.mem_cons, List.not_mem_nil, or_false] at hM
  subst hM
  exact ⟨rfl, mb15_ok⟩
theorem stream_run : isT (run (KK L15) 100 4 [.u 0] .e 0) = true := by kernel_rfl
theorem law_stream (s : ByteArray) {w : World} (hg : GlOk w) : Calls Tryz.prog 4 #[.string s] w fun e w' => e = .returned (.bool true) ∧ Go.LE.Keeps w [] w' := by
  refine law_of (U := fun i => .string s) (fun i => rfl) l15_ok Tryz.func4 rfl (l := [.u 0]) (xs := [.string s]) ?_ stream_run hg
  exact .cons (by simp [Den]) .nil
end Go.CE
end
