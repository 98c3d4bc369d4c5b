/-
  Part 25 of the proof.
-/
import Derived.Test.YtohmdnnagmjnkaaGreatDoorQ10
import Derived.Test.YtohmdnnagmjnkaaGreatDoorCards
import Derived.Test.YtohmdnnagmjnkaaGreatDoorTie
import Derived.Test.YtohmdnnagmjnkaaGreatDoorQ6
import Derived.WalkKit
import Derived.ProofKit
import Derived.OpenShut
import Derived.Deep.DeepHandedRow
import Derived.Lib.LaidTab
import Derived.Lib.LaidU8
import Derived.Lay
import Derived.Test.YtohmdnnagmjnkaaGreatDoorQ11
import Derived.Test.YtohmdnnagmjnkaaGreatDoorQ12
import Derived.Test.YtohmdnnagmjnkaaGreatDoorQ13
import Derived.Test.YtohmdnnagmjnkaaGreatDoorQ14
import Derived.Test.YtohmdnnagmjnkaaGreatDoorQ15
import Derived.Test.YtohmdnnagmjnkaaGreatDoorQ16
import Derived.Test.YtohmdnnagmjnkaaGreatDoorQ17
import Derived.Test.YtohmdnnagmjnkaaGreatDoorQ22
import Derived.Test.YtohmdnnagmjnkaaGreatDoorQ23
import Derived.Test.YtohmdnnagmjnkaaGreatDoorQ24
set_option linter.unusedSimpArgs false
set_option linter.unusedVariables false
set_option linter.defProp false
section
namespace Go.CE
open Go.RowKit
open Go.Proofs
section
variable {U : Nat → Value} {L L' : Hooks} {r r' : RG} {B : Nat → Prop} {W : World} {f : FuncId} {m : Nat}
theorem cok_kk (hr : RgOk U r') (h : COk Tryz.prog (KK L r) U B W) : COk Tryz.prog (KK L' r') U B W := ⟨h.ty, h.gl, h.u, h.cmp, h.hel, h.eg, hr⟩
theorem memo_hook (hR : RgOk U r') (hP : POk Tryz.prog (KK L' r') U) : ∀ {Ms : List Memo}, (∀ M ∈ Ms, M.f = f ∧ memoOk (KK L' r') m M = true) → HookOk Tryz.prog (KK L r) U f (memoH Ms)
  | [], h => fun B W hC l H n x H' n' hr => by simp [memoH] at hr
  | M :: q, h => fun B W hC l H n x H' n' hr E w xs hh hd => by
    simp only [memoH] at hr
    cases he : eqXL M.args l with
    | false =>
      rw [he] at hr
      exact memo_hook hR hP (fun M' hM => h M' (List.mem_cons_of_mem _ hM)) B W hC l H n x H' n' hr E w xs hh hd
    | true =>
      rw [he] at hr
      simp only [memo1] at hr
      obtain ⟨hf, hok⟩ := h M List.mem_cons_self
      have := eqXL_eq he
      subst this
      cases hp : putAll n M.L H with
      | none => rw [hp] at hr; cases hr
      | some G =>
        rw [hp] at hr
        simp only [memoK, R.ok.injEq] at hr
        obtain ⟨rfl, rfl, rfl⟩ := hr
        subst hf
        exact memo_res (m := m) (fun B W hC => run_sound hP m B W hC) hok (cok_kk hR hC) hh hd hp
end
end Go.CE
end
section
namespace Go.CE
open Go.RowKit
open Go.Proofs
set_option maxRecDepth 100000
theorem calls_of_res {P : Program} {f : FuncId} {fn : Func} {c : Code} {xs : Array Value} {w : World} {R : Value → World → Prop} (hf : P.funcs[f]? = some fn) (hn : fn.name ≠ "runtime.NumGoroutine") (hb : fn.body = some c) (h : CallRes P f xs w R) : Calls P f xs w fun | .returned v, w' => R v w' | _, _ => False := by
  have he : (callFunc f xs).run P w = .ok (.enter f xs) w := by simp [callFunc, go_sem, hf, hn, hb]
  rcases h with ⟨v, w', h1, _⟩ | ⟨_, h⟩
  · rw [he] at h1; cases h1
  · exact h
structure GlOk (w : World) : Prop where
  rk : ∀ (j : Nat) x, [Value.string ⟨#[124]⟩, .string ⟨#[38, 45]⟩, .string ⟨#[62, 62]⟩, .string ⟨#[126]⟩, .string ⟨#[46]⟩][j]? = some x → w.cell? ⟨0, j, none⟩ = some x
  es : ∀ (j : Nat) x, (int8 [110, 10, 114, 13, 116, 9])[j]? = some x → w.cell? ⟨1, j, none⟩ = some x
theorem cell_lt {w : World} {b j : Nat} {x : Value} (h : w.cell? ⟨b, j, none⟩ = some x) : b < w.heap.size := by
  cases hb : w.heap[b]? with
  | none => simp [World.cell?, hb] at h
  | some o => exact (Array.getElem?_eq_some_iff.1 hb).1
theorem GlOk.cok {w : World} (h : GlOk w) {U : Nat → Value} (hu : ∀ i, (U i).oneCell' = true) {L : Hooks} {r : RG} (hR : RgOk U r) : COk Tryz.prog (KK L r) U (fun b => b < w.heap.size) w := by
  refine cfg_ok (kk_like L r) hu hR fun b l hb => ?_
  have := setL_e hb
  simp only [List.mem_cons, List.not_mem_nil, or_false, Prod.mk.injEq] at this
  rcases this with ⟨rfl, rfl⟩ | ⟨rfl, rfl⟩
  · exact ⟨cell_lt (h.rk 0 _ rfl), h.rk⟩
  · exact ⟨cell_lt (h.es 0 _ rfl), h.es⟩
theorem rg_ok {U : Nat → Value} {a b : Option Int} {z : Int} (h0 : U 0 = .int .i64 z) (ha : ∀ x, a = some x → x ≤ z) (hb : ∀ x, b = some x → z ≤ x) : RgOk U (setL .e [(0, (a, b))]) := fun i lo hi h => by
  have := setL_e h
  simp only [List.mem_cons, List.not_mem_nil, or_false, Prod.mk.injEq] at this
  obtain ⟨rfl, rfl, rfl⟩ := this
  exact ⟨z, h0, ha, hb⟩
def isT : R → Bool
  | .ok (.v (.bool true)) _ _ => true
  | _ => false
theorem isT_inv {r : R} (h : isT r = true) : ∃ H n, r = .ok (.v (.bool true)) H n := by
  unfold isT at h
  split at h
  · exact ⟨_, _, rfl⟩
  · cases h
theorem law_of {L : Hooks} {r : RG} {m : Nat} {f : FuncId} {fn : Func} {c : Code} {l : List V} {xs : List Value} {U : Nat → Value} (hu : ∀ i, (U i).oneCell' = true) (hR : RgOk U r) (hL : ∀ p ∈ L, HookOk Tryz.prog (KK L r) U p.1 p.2) (hf : Tryz.prog.funcs[f]? = some fn) (hb : fn.body = some c) (hd : DenL U (fun _ => none) l xs)
    (hr : isT (run (KK L r) m f l .e 0) = true) {w : World} (hg : GlOk w) : Calls Tryz.prog f xs.toArray w fun e w' => e = .returned (.bool true) ∧ Go.LE.Keeps w [] w' := by
  obtain ⟨H, n, hr⟩ := isT_inv hr
  refine (calls_of_res hf (name_ne hf) hb (run_sound (kk_ok hL) m _ _ (hg.cok hu hR) f l .e 0 _ H n hr (fun _ => none) w xs (HR.here w) hd)).mono fun e w' he => ?_
  cases e with
  | returned v =>
    obtain ⟨E', h1, h2, h3⟩ := he
    exact ⟨by rw [h3.v_inv], ⟨h2.os, h2.tape, h2.output, h2.size, fun b hb _ => (h2.keep b hb).2⟩⟩
  | panicked c => exact he.elim
  | outgrown => exact he.elim
end Go.CE
end
section
namespace Go.Proofs.YtohmdnnagmjnkaaGreatDoor
open Go Go.ChangeShapes Go.WideShapes Go.ChangeAt Go.RowKit Go.LE
set_option maxRecDepth 10000
theorem own0 : ownKnob Tryz.prog.godebug = none := by kernel_rfl
theorem laid0 : laidOutB Tryz.prog = true := by kernel_rfl
theorem maps0 : mapsRowed Tryz.prog = true := by kernel_rfl
theorem full0 : ((List.range Tryz.prog.types.size).all fun t => match Tryz.prog.underlying t with | some (.slice e) => decide (0 < Tryz.prog.cellsOf e) | _ => true) = true := by kernel_rfl
theorem cells9 : Tryz.prog.cellsOf 9 = 1 := by kernel_rfl
theorem cells5 : Tryz.prog.cellsOf 5 = 1 := by kernel_rfl
theorem cells365 : Tryz.prog.cellsOf 365 = 2 := by kernel_rfl
theorem glob1 : Tryz.prog.globalNamed "loupe/class.escapes" = some 1 := by kernel_rfl
theorem globT1 : (Tryz.prog.globals[1]?).map (·.type) = some 366 := by kernel_rfl
theorem globK : Tryz.prog.globalNamed "loupe/syntax.ranks" = some 0 := by kernel_rfl
theorem globTK : (Tryz.prog.globals[0]?).map (·.type) = some 307 := by kernel_rfl
theorem var_cells {W : World} {n : String} {g : Nat} {cs : Array Value} (hg : Tryz.prog.globalNamed n = some g) (h : W.var? Tryz.prog n = some cs) (i : Nat) (v : Value) (hi : cs.toList[i]? = some v) : W.cell? ⟨g, i, none⟩ = some v := by
  unfold World.var? at h
  rw [hg, Option.bind_some] at h
  split at h
  · rename_i cs' T fr hh
    cases h
    simp only [World.cell?, hh]
    rw [Array.getElem?_toList] at hi
    simpa using hi
  · cases h
theorem two_of {l : List Value} {k : Nat} {x y : Value} (h : (l.drop k).take 2 = [x, y]) : l[k]? = some x ∧ l[k + 1]? = some y := by
  have h0 := congrArg (·[0]?) h
  have h1 := congrArg (·[1]?) h
  simp only [List.getElem?_take, List.getElem?_drop] at h0 h1
  exact ⟨by simpa using h0, by simpa using h1⟩
theorem pair_reads {W : World} {sp : Nat → Bool} {fuel : Nat} {cs : List Value} {a b : Int} {q : List MemPlace} (h : DataW.trod (fun _ => ()) Tryz.prog W 0 sp false fuel 365 cs = some (.agg [.lit (.int .u8 a), .lit (.int .u8 b)], q)) : cs = [.int .u8 a, .int .u8 b] :=
  Lib.ints_of_struct (zs := [a, b]) Tryz.underlying365 (fun i f hf => by
    match i, hf with
    | 0, hf => cases hf; exact ⟨Tryz.underlying5, rfl, cells5⟩
    | 1, hf => cases hf; exact ⟨Tryz.underlying5, rfl, cells5⟩
    | i + 2, hf => cases hf) cells365 h
theorem esc_reads {W : World} (h : Lib.VarReads Tryz.prog W "loupe/class.escapes" Rows.laid_loupe_class_escapes) : ∀ (j : Nat) x, (CE.int8 [110, 10, 114, 13, 116, 9])[j]? = some x → W.cell? ⟨1, j, none⟩ = some x := by
  obtain ⟨g, t, cs, fuel, p, h1, h2, h3, h4⟩ := h
  obtain rfl := Option.some.inj (glob1.symm.trans h1)
  obtain rfl := Option.some.inj (globT1.symm.trans h2)
  have key : ∀ i (a b : Int), i < 3 → [(110, 10), (114, 13), (116, 9)][i]? = some (a, b) → W.cell? ⟨1, i * 2, none⟩ = some (.int .u8 a) ∧ W.cell? ⟨1, i * 2 + 1, none⟩ = some (.int .u8 b) := fun i a b hi hab => by
    obtain ⟨f', d, q, hd, ht⟩ := Lib.array_elem Tryz.underlying366 h4 i hi
    rw [cells365] at ht
    have e : d = .agg [.lit (.int .u8 a), .lit (.int .u8 b)] := by
      match i, hi with
      | 0, _ => cases hab; cases hd; rfl
      | 1, _ => cases hab; cases hd; rfl
      | 2, _ => cases hab; cases hd; rfl
    subst e
    obtain ⟨g1, g2⟩ := two_of (pair_reads ht)
    exact ⟨var_cells glob1 h3 _ _ g1, var_cells glob1 h3 _ _ g2⟩
  have k0 := key 0 _ _ (by omega) rfl
  have k1 := key 1 _ _ (by omega) rfl
  have k2 := key 2 _ _ (by omega) rfl
  intro j x hx
  match j, hx with
  | 0, hx => cases hx; exact k0.1
  | 1, hx => cases hx; exact k0.2
  | 2, hx => cases hx; exact k1.1
  | 3, hx => cases hx; exact k1.2
  | 4, hx => cases hx; exact k2.1
  | 5, hx => cases hx; exact k2.2
  | j + 6, hx => cases hx
def rkS : List ByteArray := [⟨#[124]⟩, ⟨#[38, 45]⟩, ⟨#[62, 62]⟩, ⟨#[126]⟩, ⟨#[46]⟩]
theorem rnk_reads {W : World} (h : Lib.VarReads Tryz.prog W "loupe/syntax.ranks" Rows.laid_loupe_syntax_ranks) : ∀ (j : Nat) x, [Value.string ⟨#[124]⟩, .string ⟨#[38, 45]⟩, .string ⟨#[62, 62]⟩, .string ⟨#[126]⟩, .string ⟨#[46]⟩][j]? = some x → W.cell? ⟨0, j, none⟩ = some x := by
  obtain ⟨g, t, cs, fuel, p, h1, h2, h3, h4⟩ := h
  obtain rfl := Option.some.inj (globK.symm.trans h1)
  obtain rfl := Option.some.inj (globTK.symm.trans h2)
  have e : (Rows.laid_loupe_syntax_ranks : DataW Unit) = .agg (rkS.map fun s => .lit (.string s.data.toList)) := rfl
  rw [e] at h4
  have key : ∀ i s, rkS[i]? = some s → i < 5 → W.cell? ⟨0, i, none⟩ = some (.string s) := fun i s hs hi => by
    obtain ⟨f', d, q, hd, ht⟩ := Lib.array_elem Tryz.underlying307 h4 i hi
    rw [cells9] at ht
    rw [List.getElem?_map, hs, Option.map_some, Option.some.injEq] at hd
    subst hd
    obtain ⟨z0, g0, f0, _⟩ := DataW.trod_string Tryz.underlying9 ht
    simp only [Prod.mk.injEq, DataW.lit.injEq, Lit.string.injEq] at f0
    obtain ⟨f0, _⟩ := f0
    have d0 : s = z0 := by
      rcases s with ⟨⟨l⟩⟩
      rcases z0 with ⟨⟨l'⟩⟩
      simp only at f0
      rw [f0]
    rw [d0]
    have g1 := congrArg (·[0]?) g0
    simp only [List.getElem?_take, List.getElem?_drop, List.getElem?_cons_zero] at g1
    refine var_cells globK h3 i _ ?_
    simpa using g1
  intro j x hx
  match j, hx with
  | 0, hx => cases hx; exact key 0 _ rfl (by omega)
  | 1, hx => cases hx; exact key 1 _ rfl (by omega)
  | 2, hx => cases hx; exact key 2 _ rfl (by omega)
  | 3, hx => cases hx; exact key 3 _ rfl (by omega)
  | 4, hx => cases hx; exact key 4 _ rfl (by omega)
  | j + 5, hx => cases hx
end Go.Proofs.YtohmdnnagmjnkaaGreatDoor
end
section
namespace Go.CE
open Go.RowKit
open Go.Proofs
section
variable {U : Nat → Value} {L L' : Hooks} {r : RG}
noncomputable def LKb : Hooks := [(114, memoH [MB31, MB32, MB33, MB34, MB35, MB36, MB37, MB42, MB43, MB44])]
theorem lkb_ok : ∀ p ∈ LKb, HookOk Tryz.prog (KK L r) U p.1 p.2 := by
  intro p hp
  simp only [LKb, List.mem_cons, List.not_mem_nil, or_false] at hp
  subst hp
  refine memo_hook (r' := .e) (L' := []) (m := 2000) RgOk.e (kk_ok fun p hp => by cases hp) fun M hM => ?_
  simp only [List.mem_cons, List.not_mem_nil, or_false] at hM
  rcases hM with rfl | rfl | rfl | rfl | rfl | rfl | rfl | rfl | rfl | rfl
  · exact ⟨rfl, mb31_ok⟩
  · exact ⟨rfl, mb32_ok⟩
  · exact ⟨rfl, mb33_ok⟩
  · exact ⟨rfl, mb34_ok⟩
  · exact ⟨rfl, mb35_ok⟩
  · exact ⟨rfl, mb36_ok⟩
  · exact ⟨rfl, mb37_ok⟩
  · exact ⟨rfl, mb42_ok⟩
  · exact ⟨rfl, mb43_ok⟩
  · exact ⟨rfl, mb44_ok⟩
end
end Go.CE
end
section
namespace Go.CE
set_option maxRecDepth 100000
noncomputable def MT1 : Memo := ⟨29, [.v (.string ⟨#[99, 111, 112, 121, 40, 47, 97, 42, 47, 41, 32, 46, 32, 105, 110, 115, 40, 34, 120, 34, 41]⟩), .v (.int .i64 (.ofNat 100))], .g [.v (.int .i64 (.ofNat 0)), .v (.int .i64 (.ofNat 0)), .v (.string ⟨#[]⟩), .v (.string ⟨#[97, 42, 40, 41]⟩), .v (.string ⟨#[97, 42, 120]⟩), .v (.int .i64 (.ofNat 4))], [], 10893⟩
noncomputable def MT2 : Memo := ⟨29, [.v (.string ⟨#[99, 111, 112, 121, 40, 47, 97, 42, 47, 41, 32, 46, 32, 99, 111, 112, 121, 40, 47, 97, 42, 47, 41]⟩), .v (.int .i64 (.ofNat 100))], .g [.v (.int .i64 (.ofNat 81)), .v (.int .i64 (.ofNat 11)), .v (.string ⟨#[97]⟩), .v (.string ⟨#[]⟩), .v (.string ⟨#[]⟩), .v (.int .i64 (.ofNat 0))], [], 3945⟩
end Go.CE
end
