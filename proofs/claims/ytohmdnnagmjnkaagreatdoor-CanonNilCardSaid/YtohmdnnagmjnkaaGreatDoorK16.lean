/-
  Part 16 of the proof.
-/
import Derived.Test.YtohmdnnagmjnkaaGreatDoorK10
import Derived.Test.YtohmdnnagmjnkaaGreatDoorCards
import Derived.Test.YtohmdnnagmjnkaaGreatDoorTie
import Derived.Test.YtohmdnnagmjnkaaGreatDoorK6
import Derived.WalkKit
import Derived.ProofKit
import Derived.OpenShut
import Derived.Deep.DeepHandedRow
import Derived.Lib.LaidTab
import Derived.Lib.LaidU8
import Derived.Lay
import Derived.Test.YtohmdnnagmjnkaaGreatDoorK5
import Derived.RangeFuncLeaves
import Derived.RangeFuncRecord
import Derived.RangeFuncCalls
import Derived.Shelf.Strings.Builder1
import Derived.Shelf.RegionOpenPlain
import Derived.Lib.FrozenHead
set_option linter.unusedSimpArgs false
set_option linter.unusedVariables false
set_option linter.defProp false
section
namespace Go.CE
open Go.RowKit
open Go.Proofs
section
variable {U : Nat → Value} {L L' : Hooks} {r r' : RG} {B : Nat → Prop} {W : World} {f : FuncId} {m : Nat}
theorem cok_kk (hr : RgOk U r') (h : COk Tryz.prog (KK L r) U B W) : COk Tryz.prog (KK L' r') U B W := ⟨h.ty, h.gl, h.u, h.cmp, h.hel, h.eg, hr⟩
theorem memo_hook (hR : RgOk U r') (hP : POk Tryz.prog (KK L' r') U) : ∀ {Ms : List Memo}, (∀ M ∈ Ms, M.f = f ∧ memoOk (KK L' r') m M = true) → HookOk Tryz.prog (KK L r) U f (memoH Ms)
  | [], h => fun B W hC l H n x H' n' hr => by simp [memoH] at hr
  | M :: q, h => fun B W hC l H n x H' n' hr E w xs hh hd => by
    simp only [memoH] at hr
    cases he : eqXL M.args l with
    | false =>
      rw [he] at hr
      exact memo_hook hR hP (fun M' hM => h M' (List.mem_cons_of_mem _ hM)) B W hC l H n x H' n' hr E w xs hh hd
    | true =>
      rw [he] at hr
      simp only [memo1] at hr
      obtain ⟨hf, hok⟩ := h M List.mem_cons_self
      have := eqXL_eq he
      subst this
      cases hp : putAll n M.L H with
      | none => rw [hp] at hr; cases hr
      | some G =>
        rw [hp] at hr
        simp only [memoK, R.ok.injEq] at hr
        obtain ⟨rfl, rfl, rfl⟩ := hr
        subst hf
        exact memo_res (m := m) (fun B W hC => run_sound hP m B W hC) hok (cok_kk hR hC) hh hd hp
end
end Go.CE
end
section
namespace Go.CE
open Go.RowKit
open Go.Proofs
set_option maxRecDepth 100000
theorem calls_of_res {P : Program} {f : FuncId} {fn : Func} {c : Code} {xs : Array Value} {w : World} {R : Value → World → Prop} (hf : P.funcs[f]? = some fn) (hn : fn.name ≠ "runtime.NumGoroutine") (hb : fn.body = some c) (h : CallRes P f xs w R) : Calls P f xs w fun | .returned v, w' => R v w' | _, _ => False := by
  have he : (callFunc f xs).run P w = .ok (.enter f xs) w := by simp [callFunc, go_sem, hf, hn, hb]
  rcases h with ⟨v, w', h1, _⟩ | ⟨_, h⟩
  · rw [he] at h1; cases h1
  · exact h
structure GlOk (w : World) : Prop where
  rk : ∀ (j : Nat) x, [Value.string ⟨#[124]⟩, .string ⟨#[38, 45]⟩, .string ⟨#[62, 62]⟩, .string ⟨#[126]⟩, .string ⟨#[46]⟩][j]? = some x → w.cell? ⟨0, j, none⟩ = some x
  es : ∀ (j : Nat) x, (int8 [110, 10, 114, 13, 116, 9])[j]? = some x → w.cell? ⟨1, j, none⟩ = some x
theorem cell_lt {w : World} {b j : Nat} {x : Value} (h : w.cell? ⟨b, j, none⟩ = some x) : b < w.heap.size := by
  cases hb : w.heap[b]? with
  | none => simp [World.cell?, hb] at h
  | some o => exact (Array.getElem?_eq_some_iff.1 hb).1
theorem GlOk.cok {w : World} (h : GlOk w) {U : Nat → Value} (hu : ∀ i, (U i).oneCell' = true) {L : Hooks} {r : RG} (hR : RgOk U r) : COk Tryz.prog (KK L r) U (fun b => b < w.heap.size) w := by
  refine cfg_ok (kk_like L r) hu hR fun b l hb => ?_
  have := setL_e hb
  simp only [List.mem_cons, List.not_mem_nil, or_false, Prod.mk.injEq] at this
  rcases this with ⟨rfl, rfl⟩ | ⟨rfl, rfl⟩
  · exact ⟨cell_lt (h.rk 0 _ rfl), h.rk⟩
  · exact ⟨cell_lt (h.es 0 _ rfl), h.es⟩
theorem rg_ok {U : Nat → Value} {a b : Option Int} {z : Int} (h0 : U 0 = .int .i64 z) (ha : ∀ x, a = some x → x ≤ z) (hb : ∀ x, b = some x → z ≤ x) : RgOk U (setL .e [(0, (a, b))]) := fun i lo hi h => by
  have := setL_e h
  simp only [List.mem_cons, List.not_mem_nil, or_false, Prod.mk.injEq] at this
  obtain ⟨rfl, rfl, rfl⟩ := this
  exact ⟨z, h0, ha, hb⟩
def isT : R → Bool
  | .ok (.v (.bool true)) _ _ => true
  | _ => false
theorem isT_inv {r : R} (h : isT r = true) : ∃ H n, r = .ok (.v (.bool true)) H n := by
  unfold isT at h
  split at h
  · exact ⟨_, _, rfl⟩
  · cases h
theorem law_of {L : Hooks} {r : RG} {m : Nat} {f : FuncId} {fn : Func} {c : Code} {l : List V} {xs : List Value} {U : Nat → Value} (hu : ∀ i, (U i).oneCell' = true) (hR : RgOk U r) (hL : ∀ p ∈ L, HookOk Tryz.prog (KK L r) U p.1 p.2) (hf : Tryz.prog.funcs[f]? = some fn) (hb : fn.body = some c) (hd : DenL U (fun _ => none) l xs)
    (hr : isT (run (KK L r) m f l .e 0) = true) {w : World} (hg : GlOk w) : Calls Tryz.prog f xs.toArray w fun e w' => e = .returned (.bool true) ∧ Go.LE.Keeps w [] w' := by
  obtain ⟨H, n, hr⟩ := isT_inv hr
  refine (calls_of_res hf (name_ne hf) hb (run_sound (kk_ok hL) m _ _ (hg.cok hu hR) f l .e 0 _ H n hr (fun _ => none) w xs (HR.here w) hd)).mono fun e w' he => ?_
  cases e with
  | returned v =>
    obtain ⟨E', h1, h2, h3⟩ := he
    exact ⟨by rw [h3.v_inv], ⟨h2.os, h2.tape, h2.output, h2.size, fun b hb _ => (h2.keep b hb).2⟩⟩
  | panicked c => exact he.elim
  | outgrown => exact he.elim
end Go.CE
end
section
namespace Go.Proofs.YtohmdnnagmjnkaaGreatDoor
open Go Go.ChangeShapes Go.WideShapes Go.ChangeAt Go.RowKit Go.LE
set_option maxRecDepth 10000
theorem own0 : ownKnob Tryz.prog.godebug = none := by kernel_rfl
theorem laid0 : laidOutB Tryz.prog = true := by kernel_rfl
theorem maps0 : mapsRowed Tryz.prog = true := by kernel_rfl
theorem full0 : ((List.range Tryz.prog.types.size).all fun t => match Tryz.prog.underlying t with | some (.slice e) => decide (0 < Tryz.prog.cellsOf e) | _ => true) = true := by kernel_rfl
theorem cells9 : Tryz.prog.cellsOf 9 = 1 := by kernel_rfl
theorem cells5 : Tryz.prog.cellsOf 5 = 1 := by kernel_rfl
theorem cells365 : Tryz.prog.cellsOf 365 = 2 := by kernel_rfl
theorem glob1 : Tryz.prog.globalNamed "loupe/class.escapes" = some 1 := by kernel_rfl
theorem globT1 : (Tryz.prog.globals[1]?).map (·.type) = some 366 := by kernel_rfl
theorem globK : Tryz.prog.globalNamed "loupe/syntax.ranks" = some 0 := by kernel_rfl
theorem globTK : (Tryz.prog.globals[0]?).map (·.type) = some 307 := by kernel_rfl
theorem var_cells {W : World} {n : String} {g : Nat} {cs : Array Value} (hg : Tryz.prog.globalNamed n = some g) (h : W.var? Tryz.prog n = some cs) (i : Nat) (v : Value) (hi : cs.toList[i]? = some v) : W.cell? ⟨g, i, none⟩ = some v := by
  unfold World.var? at h
  rw [hg, Option.bind_some] at h
  split at h
  · rename_i cs' T fr hh
    cases h
    simp only [World.cell?, hh]
    rw [Array.getElem?_toList] at hi
    simpa using hi
  · cases h
theorem two_of {l : List Value} {k : Nat} {x y : Value} (h : (l.drop k).take 2 = [x, y]) : l[k]? = some x ∧ l[k + 1]? = some y := by
  have h0 := congrArg (·[0]?) h
  have h1 := congrArg (·[1]?) h
  simp only [List.getElem?_take, List.getElem?_drop] at h0 h1
  exact ⟨by simpa using h0, by simpa using h1⟩
theorem pair_reads {W : World} {sp : Nat → Bool} {fuel : Nat} {cs : List Value} {a b : Int} {q : List MemPlace} (h : DataW.trod (fun _ => ()) Tryz.prog W 0 sp false fuel 365 cs = some (.agg [.lit (.int .u8 a), .lit (.int .u8 b)], q)) : cs = [.int .u8 a, .int .u8 b] :=
  Lib.ints_of_struct (zs := [a, b]) Tryz.underlying365 (fun i f hf => by
    match i, hf with
    | 0, hf => cases hf; exact ⟨Tryz.underlying5, rfl, cells5⟩
    | 1, hf => cases hf; exact ⟨Tryz.underlying5, rfl, cells5⟩
    | i + 2, hf => cases hf) cells365 h
theorem esc_reads {W : World} (h : Lib.VarReads Tryz.prog W "loupe/class.escapes" Rows.laid_loupe_class_escapes) : ∀ (j : Nat) x, (CE.int8 [110, 10, 114, 13, 116, 9])[j]? = some x → W.cell? ⟨1, j, none⟩ = some x := by
  obtain ⟨g, t, cs, fuel, p, h1, h2, h3, h4⟩ := h
  obtain rfl := Option.some.inj (glob1.symm.trans h1)
  obtain rfl := Option.some.inj (globT1.symm.trans h2)
  have key : ∀ i (a b : Int), i < 3 → [(110, 10), (114, 13), (116, 9)][i]? = some (a, b) → W.cell? ⟨1, i * 2, none⟩ = some (.int .u8 a) ∧ W.cell? ⟨1, i * 2 + 1, none⟩ = some (.int .u8 b) := fun i a b hi hab => by
    obtain ⟨f', d, q, hd, ht⟩ := Lib.array_elem Tryz.underlying366 h4 i hi
    rw [cells365] at ht
    have e : d = .agg [.lit (.int .u8 a), .lit (.int .u8 b)] := by
      match i, hi with
      | 0, _ => cases hab; cases hd; rfl
      | 1, _ => cases hab; cases hd; rfl
      | 2, _ => cases hab; cases hd; rfl
    subst e
    obtain ⟨g1, g2⟩ := two_of (pair_reads ht)
    exact ⟨var_cells glob1 h3 _ _ g1, var_cells glob1 h3 _ _ g2⟩
  have k0 := key 0 _ _ (by omega) rfl
  have k1 := key 1 _ _ (by omega) rfl
  have k2 := key 2 _ _ (by omega) rfl
  intro j x hx
  match j, hx with
  | 0, hx => cases hx; exact k0.1
  | 1, hx => cases hx; exact k0.2
  | 2, hx => cases hx; exact k1.1
  | 3, hx => cases hx; exact k1.2
  | 4, hx => cases hx; exact k2.1
  | 5, hx => cases hx; exact k2.2
  | j + 6, hx => cases hx
def rkS : List ByteArray := [⟨#[124]⟩, ⟨#[38, 45]⟩, ⟨#[62, 62]⟩, ⟨#[126]⟩, ⟨#[46]⟩]
theorem rnk_reads {W : World} (h : Lib.VarReads Tryz.prog W "loupe/syntax.ranks" Rows.laid_loupe_syntax_ranks) : ∀ (j : Nat) x, [Value.string ⟨#[124]⟩, .string ⟨#[38, 45]⟩, .string ⟨#[62, 62]⟩, .string ⟨#[126]⟩, .string ⟨#[46]⟩][j]? = some x → W.cell? ⟨0, j, none⟩ = some x := by
  obtain ⟨g, t, cs, fuel, p, h1, h2, h3, h4⟩ := h
  obtain rfl := Option.some.inj (globK.symm.trans h1)
  obtain rfl := Option.some.inj (globTK.symm.trans h2)
  have e : (Rows.laid_loupe_syntax_ranks : DataW Unit) = .agg (rkS.map fun s => .lit (.string s.data.toList)) := rfl
  rw [e] at h4
  have key : ∀ i s, rkS[i]? = some s → i < 5 → W.cell? ⟨0, i, none⟩ = some (.string s) := fun i s hs hi => by
    obtain ⟨f', d, q, hd, ht⟩ := Lib.array_elem Tryz.underlying307 h4 i hi
    rw [cells9] at ht
    rw [List.getElem?_map, hs, Option.map_some, Option.some.injEq] at hd
    subst hd
    obtain ⟨z0, g0, f0, _⟩ := DataW.trod_string Tryz.underlying9 ht
    simp only [Prod.mk.injEq, DataW.lit.injEq, Lit.string.injEq] at f0
    obtain ⟨f0, _⟩ := f0
    have d0 : s = z0 := by
      rcases s with ⟨⟨l⟩⟩
      rcases z0 with ⟨⟨l'⟩⟩
      simp only at f0
      rw [f0]
    rw [d0]
    have g1 := congrArg (·[0]?) g0
    simp only [List.getElem?_take, List.getElem?_drop, List.getElem?_cons_zero] at g1
    refine var_cells globK h3 i _ ?_
    simpa using g1
  intro j x hx
  match j, hx with
  | 0, hx => cases hx; exact key 0 _ rfl (by omega)
  | 1, hx => cases hx; exact key 1 _ rfl (by omega)
  | 2, hx => cases hx; exact key 2 _ rfl (by omega)
  | 3, hx => cases hx; exact key 3 _ rfl (by omega)
  | 4, hx => cases hx; exact key 4 _ rfl (by omega)
  | j + 5, hx => cases hx
end Go.Proofs.YtohmdnnagmjnkaaGreatDoor
end
section
namespace Go.CE
open Go.RowKit
section
variable {P : Program} {C : Cfg} {U : Nat → Value} {E E' : Env} {F : FR} {H H' : HP} {n n' : Nat} {D D' : DL} {B : Nat → Prop} {W w w' : World} {a : Act} {rec : Rec} {x : V} {nt i : Nat} {Q : Exit → Act → World → Prop} {ops : Array Oper}
theorem region_part (hC : COk P C U B W) (hme : MeOk P C) (hrec : CallsOk P C U B W rec) : ∀ (m i : Nat), i + m ≤ ops.size → ∀ (E : Env) (F : FR) (H : HP) (n : Nat) (D : DL) (a : Act) (w : World), SS U E F H n D B W nt a w →
    Post U E B W nt Q (exCOs (rdyL C nt ops.toList ((ops.toList.drop i).take m)) rec C F H n D) → wpOps P ops Q (List.range' i m) a w
  | 0, i, hi, E, F, H, n, D, a, w, hss, hp => by
    rw [List.take_zero] at hp
    exact hp E a w (.refl E) hss
  | m + 1, i, hi, E, F, H, n, D, a, w, hss, hp => by
    have hlt : i < ops.toList.length := by simp; omega
    rw [List.drop_eq_getElem_cons hlt, List.take_succ_cons] at hp
    rw [List.range'_succ, wpOps_cons]
    change Post U E B W nt Q (exCO (rdyO C nt ops.toList ops.toList[i]) rec C (exCOs (rdyL C nt ops.toList ((ops.toList.drop (i + 1)).take m)) rec C) F H n D) at hp
    rcases exCO_inv nt ops.toList ops.toList[i] rec C (exCOs (rdyL C nt ops.toList ((ops.toList.drop (i + 1)).take m)) rec C) F H n D with ⟨s, h1⟩ | ⟨x, H', n', D', h1, h2⟩ | ⟨v, H', n', D', h1, h2⟩
    · rw [h1] at hp; exact hp.elim
    rotate_left
    · rw [h2] at hp
      cases hX : exCOs (rdyL C nt ops.toList ((ops.toList.drop (i + 1)).take m)) rec C (putT ops.toList[i].dst .pv F) H' n' D' with
      | nor F2 H2 n2 D2 =>
        rw [hX] at hp
        obtain ⟨rfl, _, _⟩ := stpP_facts h1
        refine op_pan hme hrec (o := ops.toList[i]) (by simp at hlt; simp [hlt]) (fun t _ v hv => hss.fr t v hv) hss.hr h1 fun E' y w' he hr hy => ?_
        exact hp E' a w' y he ⟨hss.fr.mono he, hss.sz, hr, hss.df.mono he⟩ hy
      | _ => rw [hX] at hp; exact hp.elim
    · rw [h2] at hp
      refine op_step hC hme hrec (o := ops.toList[i]) (by simp at hlt; simp [hlt]) (fun t _ v hv => hss.fr t v hv) hss.hr hss.df h1 fun E' y w' ds he hr hx hd _ => ?_
      exact region_part hC hme hrec m (i + 1) (by omega) E' _ H' n' D' _ w' (SS.put hss.fr hss.sz he hr hx hd (stp_dst h1)) (hp.mono he)
def Bad : Exit → Act → World → Prop := fun _ _ _ => False
theorem not_out {K : Act → World → Prop} : ¬ LetsOut (Exit.then K Bad) := fun ⟨_, _, h⟩ => h
theorem wpOps_in {fc : Fence} (hfn : ∀ f, fc.fn f) (hdp : fc.depth = none) {m : Nat} {K : Act → World → Prop} {l2 : List Nat} (hd : ∀ o ∈ ops.toList, ∀ c, o.op ≠ .defer c) (hcall : ∀ m f xs w R, Calls P f xs w R → CallsIn fc m P f xs w R) (hrow : ∀ m r xs w R, Rows P r xs w R → RowsIn fc m P r xs w R) : ∀ (l1 : List Nat) (a : Act) (w : World),
    wpOps P ops (Exit.then K Bad) l1 a w → (∀ a w, K a w → wpOpsIn fc m P ops Q l2 a w) → wpOpsIn fc m P ops Q (l1 ++ l2) a w
  | [], a, w, h, hK => hK a w h
  | i :: l1, a, w, h, hK => by
    simp only [wpOps] at h
    simp only [List.cons_append, wpOpsIn]
    cases ho : ops[i]? with
    | none => rw [ho] at h; exact wpOps_in hfn hdp hd hcall hrow l1 a w h hK
    | some o =>
      rw [ho] at h
      simp only at h ⊢
      by_cases hw : Region.wanted o (yielded ops a.tmps) = true
      · rw [if_pos hw] at h ⊢
        rcases h with h | ⟨_, h⟩
        · refine ⟨fun f _ => hfn f, ?_⟩
          have hmem : o ∈ ops.toList := List.mem_of_getElem? (by rw [Array.getElem?_toList]; exact ho)
          rw [Oper.semAt_eq _ _ _ (hd o hmem)]
          unfold Oper.wp at h
          generalize (execOp a.eval o).run P w = r at h ⊢
          cases r with
          | ok nx w' =>
            cases nx <;> simp only [Oper.upon] at h <;> simp only [Oper.uponIn] <;> first
              | exact h.elim
              | exact wpOps_in hfn hdp hd hcall hrow l1 _ _ h hK
              | skip
            · refine ⟨fun hs => (by rw [hdp] at hs; exact absurd hs (by decide)), (hcall _ _ _ _ _ h).mono fun e w' he => ?_⟩
              cases e with
              | returned v => exact wpOps_in hfn hdp hd hcall hrow l1 _ _ he hK
              | panicked c => exact he.elim
              | outgrown => obtain ⟨_, _, hf⟩ := he; exact hf.elim
            · refine ⟨fun hs => (by rw [hdp] at hs; exact absurd hs (by decide)), (hrow _ _ _ _ _ h).mono fun v w' he => ?_⟩
              exact wpOps_in hfn hdp hd hcall hrow l1 _ _ he hK
          | halt y w' => cases y <;> simp only [Oper.upon] at h <;> exact h.elim
        · obtain ⟨_, _, hf⟩ := h; exact hf.elim
      · rw [if_neg hw] at h ⊢
        exact ⟨fun f _ => hfn f, wpOps_in hfn hdp hd hcall hrow l1 _ _ h hK⟩
end
end Go.CE
end
section
namespace Go.CE
open Go.RowKit
def noDf (o : Oper) : Bool := match o.op with
  | .defer _ => false
  | _ => true
def plainR : Code → Bool
  | .skip => true
  | .region _ ops false => ops.toList.all noDf
  | .seq a b => and (plainR a) (plainR b)
  | .cond _ a b => and (plainR a) (plainR b)
  | .block _ b => plainR b
  | .exit _ => true
  | .ret => true
  | _ => false
noncomputable def putPs : List Tmp → List V → FR → FR
  | p :: ps, v :: vs, F => putPs ps vs (F.set p (some v))
  | _, _, F => F
def allLt (nt : Nat) : List Tmp → Bool
  | [] => true
  | p :: ps => and (Nat.blt p nt) (allLt nt ps)
noncomputable def yl3 (k : Nat) (c : YC) (F : FR) : X → R
  | .nor _ H n _ => .ok (.b true) (H.set k (some (.y c F))) n
  | .no s => .no s
  | _ => .no ["round"]
noncomputable def yl2 (C : Cfg) (m k : Nat) (c : YC) (F : FR) : X → R
  | .nor F2 H n [] => yl3 k c F (exec C m (comp C 0 c.nt c.body) F2 H n [])
  | .no s => .no s
  | _ => .no ["round's head"]
noncomputable def yl1 (C : Cfg) (m k : Nat) (c : YC) (F : FR) (args : List V) (H : HP) (n : Nat) : Bool → R
  | true => yl2 C m k c F (exec C m (comp C 0 c.nt c.asg) (putPs c.ps.toList args F) (H.set k none) n [])
  | false => .no ["round?"]
noncomputable def yldX (C : Cfg) (m k : Nat) (c : YC) (F : FR) (args : List V) (H : HP) (n : Nat) : R :=
  yl1 C m k c F args H n (and (okK k) (and (plainR c.asg) (and (plainR c.body) (and (Nat.beq (lng args) (lng c.ps.toList)) (allLt c.nt c.ps.toList)))))
section
variable {P : Program} {C : Cfg} {U : Nat → Value} {E E' : Env} {F : FR} {H H' : HP} {n n' : Nat} {D D' : DL} {B : Nat → Prop} {W w w' : World} {a : Act} {rec : Rec} {x : V} {nt i : Nat} {Q : Exit → Act → World → Prop} {ops : Array Oper} {fc : Fence}
def XR : X → Prop
  | .exit _ _ _ _ _ => False
  | .ret _ _ _ _ => False
  | _ => True
theorem co_kind : ∀ (m i : Nat), i + m ≤ ops.size → ∀ (F : FR) (H : HP) (n : Nat) (D : DL), XR (exCOs (rdyL C nt ops.toList ((ops.toList.drop i).take m)) rec C F H n D)
  | 0, i, hi, F, H, n, D => by rw [List.take_zero]; trivial
  | m + 1, i, hi, F, H, n, D => by
    have hlt : i < ops.toList.length := by simp; omega
    rw [List.drop_eq_getElem_cons hlt, List.take_succ_cons]
    change XR (exCO (rdyO C nt ops.toList ops.toList[i]) rec C (exCOs (rdyL C nt ops.toList ((ops.toList.drop (i + 1)).take m)) rec C) F H n D)
    rcases exCO_inv nt ops.toList ops.toList[i] rec C (exCOs (rdyL C nt ops.toList ((ops.toList.drop (i + 1)).take m)) rec C) F H n D with ⟨s, h1⟩ | ⟨x, H', n', D', h1, h2⟩ | ⟨v, H', n', D', h1, h2⟩
    · rw [h1]; trivial
    · rw [h2]; exact co_kind m (i + 1) (by omega) _ _ _ _
    · rw [h2]
      generalize exCOs (rdyL C nt ops.toList ((ops.toList.drop (i + 1)).take m)) rec C (putT ops.toList[i].dst .pv F) H' n' D' = X
      cases X <;> trivial
structure FcOk (P : Program) (fc : Fence) : Prop where
  fn : ∀ f, fc.fn f
  dp : fc.depth = none
  call : ∀ m f xs w R, Calls P f xs w R → CallsIn fc m P f xs w R
  row : ∀ m r xs w R, Rows P r xs w R → RowsIn fc m P r xs w R
theorem rowsIn_wide {m : Nat} {r : String} {xs : Array Value} {R : Value → World → Prop} (h : Rows P r xs w R) : RowsIn Fence.wide m P r xs w R :=
  fun c cs _ => let ⟨v, w', hr, hs⟩ := h c cs; ⟨v, w', hr, stepsIn_wide.2 hs⟩
theorem fc_wide : FcOk P Fence.wide := ⟨fun _ => trivial, rfl, fun m f xs w R h => callsIn_wide.2 h, fun m r xs w R h => rowsIn_wide h⟩
theorem fc_round (l : Nat) : FcOk P (Fence.wide.inRound l) := ⟨fun _ => trivial, rfl, fun m f xs w R h => callsIn_wide.2 h, fun m r xs w R h => rowsIn_wide h⟩
theorem region_in (hP : POk P C U) (hfc : FcOk P fc) (hC : COk P C U B W) (hrec : CallsOk P C U B W rec) {k m i : Nat} {l2 : List Nat} (him : i + m ≤ ops.size) (hdf : ops.toList.all noDf = true) (hss : SS U E F H n D B W nt a w) {F' : FR} {H' : HP} {n' : Nat} {D' : DL} (hX : exCOs (rdyL C nt ops.toList ((ops.toList.drop i).take m)) rec C F H n D = .nor F' H' n' D')
    (hK : ∀ E' a w, E.le E' → SS U E' F' H' n' D' B W nt a w → wpOpsIn fc k P ops Q l2 a w) : wpOpsIn fc k P ops Q (List.range' i m ++ l2) a w := by
  refine wpOps_in (K := fun a w => ∃ E', E.le E' ∧ SS U E' F' H' n' D' B W nt a w) hfc.fn hfc.dp (fun o ho c hc => ?_) hfc.call hfc.row _ a w (region_part hC hP.me hrec m i him E F H n D a w hss ?_) fun a w ⟨E', h1, h2⟩ => hK E' a w h1 h2
  · have := List.all_eq_true.1 hdf o ho
    unfold noDf at this
    rw [hc] at this
    cases this
  · rw [hX]
    exact fun E' a w he hs => ⟨E', he, hs⟩
theorem rec_in (hP : POk P C U) (hfc : FcOk P fc) {f k : Nat} (hbh : C.bh.get f = none) : ∀ (m : Nat) (c : Code), plainR c = true → ∀ B W, COk P C U B W → ∀ E F H n D a w Q, SS U E F H n D B W nt a w → (∀ v F1 H1 n1 D1, exec C m (comp C f nt c) F H n D ≠ .pan v F1 H1 n1 D1) → Post U E B W nt Q (exec C m (comp C f nt c) F H n D) → c.wpIn fc k P Q a w
  | 0, c, hpl, B, W, hC, E, F, H, n, D, a, w, Q, hss, hnp, hp => hp.elim
  | m + 1, c, hpl, B, W, hC, E, F, H, n, D, a, w, Q, hss, hnp, hp => by
    have ih := fun c h => rec_in hP hfc (k := k) hbh m c h B W hC
    cases c with
    | skip => exact wpIn_skip (hp E a w (.refl E) hss)
    | ret => exact wpIn_ret (hp E a w (.refl E) hss)
    | exit id => exact wpIn_exit (hp E a w (.refl E) hss)
    | region id ops draw =>
      cases draw with
      | true => cases hpl
      | false =>
        refine wpIn_region ?_
        rw [List.range_eq_range', show List.range' 0 ops.size = List.range' 0 ops.size ++ [] by simp]
        change Post U E B W nt Q (exCOs (rdyL C nt ops.toList ops.toList) (exec C m) C F H n D) at hp
        have ht : (ops.toList.drop 0).take ops.size = ops.toList := by rw [List.drop_zero, ← Array.length_toList, List.take_length]
        have hk := co_kind (C := C) (nt := nt) (rec := exec C m) (ops := ops) ops.size 0 (by omega) F H n D
        rw [ht] at hk
        have hnp' : ∀ v F1 H1 n1 D1, exCOs (rdyL C nt ops.toList ops.toList) (exec C m) C F H n D ≠ .pan v F1 H1 n1 D1 := hnp
        cases hX : exCOs (rdyL C nt ops.toList ops.toList) (exec C m) C F H n D with
        | no s => rw [hX] at hp; exact hp.elim
        | exit j F1 H1 n1 D1 => rw [hX] at hk; exact hk.elim
        | ret F1 H1 n1 D1 => rw [hX] at hk; exact hk.elim
        | pan v F1 H1 n1 D1 => exact absurd hX (hnp' v F1 H1 n1 D1)
        | nor F1 H1 n1 D1 =>
          rw [hX] at hp
          exact region_in hP hfc hC (calls_of_rec hP (rec_ok hP m).1 B W hC) (by omega) hpl hss (by rw [ht]; exact hX) fun E' a w he hs => hp E' a w he hs
    | seq b1 b2 =>
      obtain ⟨p1, p2⟩ := Bool.and_eq_true_iff.1 hpl
      change Post U E B W nt Q (seqX (exec C m (comp C f nt b1) F H n D) (comp C f nt b2) (exec C m)) at hp
      have hnp' : ∀ v F1 H1 n1 D1, seqX (exec C m (comp C f nt b1) F H n D) (comp C f nt b2) (exec C m) ≠ .pan v F1 H1 n1 D1 := hnp
      refine wpIn_seq (ih b1 p1 E F H n D a w _ hss (fun v F1 H1 n1 D1 he => ?_) ?_)
      · rw [he] at hnp'; exact hnp' v F1 H1 n1 D1 rfl
      · cases hX : exec C m (comp C f nt b1) F H n D with
        | no s => rw [hX] at hp; exact hp.elim
        | exit j F1 H1 n1 D1 => rw [hX] at hp; exact fun E' a w he hs => hp E' a w he hs
        | ret F1 H1 n1 D1 => rw [hX] at hp; exact fun E' a w he hs => hp E' a w he hs
        | pan v F1 H1 n1 D1 => rw [hX] at hnp'; exact absurd rfl (hnp' v F1 H1 n1 D1)
        | nor F1 H1 n1 D1 =>
          rw [hX] at hp hnp'
          exact fun E' a w he hs => ih b2 p2 E' F1 H1 n1 D1 a w Q hs hnp' (Post.mono he hp)
    | cond o b1 b2 =>
      obtain ⟨p1, p2⟩ := Bool.and_eq_true_iff.1 hpl
      change Post U E B W nt Q (condX (pickB (ev o F)) (comp C f nt b1) (comp C f nt b2) (exec C m) F H n D) at hp
      have hnp' : ∀ v F1 H1 n1 D1, condX (pickB (ev o F)) (comp C f nt b1) (comp C f nt b2) (exec C m) F H n D ≠ .pan v F1 H1 n1 D1 := hnp
      cases hb : pickB (ev o F) with
      | none => rw [hb] at hp; exact hp.elim
      | some b =>
        rw [hb] at hp hnp'
        have := ev_sound hss.fr o (pickB_inv hb)
        simp only [Den] at this
        cases b with
        | true => exact wpIn_cond_true this (ih b1 p1 E F H n D a w Q hss hnp' hp)
        | false => exact wpIn_cond_false this (ih b2 p2 E F H n D a w Q hss hnp' hp)
    | block id b =>
      change Post U E B W nt Q (exCC (hookO (C.bh.get f) id (comp C f nt b)) (exec C m) C F H n D) at hp
      have hnp' : ∀ v F1 H1 n1 D1, exCC (hookO (C.bh.get f) id (comp C f nt b)) (exec C m) C F H n D ≠ .pan v F1 H1 n1 D1 := hnp
      rw [hbh] at hp hnp'
      change Post U E B W nt Q (blockX (exec C m (comp C f nt b) F H n D) id) at hp
      have hnp2 : ∀ v F1 H1 n1 D1, blockX (exec C m (comp C f nt b) F H n D) id ≠ .pan v F1 H1 n1 D1 := hnp'
      refine wpIn_block (ih b hpl E F H n D a w _ hss (fun v F1 H1 n1 D1 he => ?_) (post_block hp))
      rw [he] at hnp2
      exact hnp2 v F1 H1 n1 D1 rfl
    | _ => cases hpl
end
end Go.CE
end
section
namespace Go.CE
open Go.RowKit
section
variable {P : Program} {C : Cfg} {U : Nat → Value} {E E' : Env} {F : FR} {H H' : HP} {n n' : Nat} {D D' : DL} {B : Nat → Prop} {W w w' : World} {a : Act} {rec : Rec} {x : V} {nt i : Nat} {Q : Exit → Act → World → Prop} {ops : Array Oper} {fc : Fence}
theorem put_other {b0 b : Nat} {o : Obj} (h : b ≠ b0) : (w.putObj b0 o).heap[b]? = w.heap[b]? := by
  simp [World.putObj, Array.getElem?_setIfInBounds, Ne.symm h]
theorem put_this {b0 : Nat} {o : Obj} (h : b0 < w.heap.size) : (w.putObj b0 o).heap[b0]? = some o := by
  simp [World.putObj, h]
theorem put_size' {b0 : Nat} {o : Obj} : (w.putObj b0 o).heap.size = w.heap.size := by simp [World.putObj]
theorem HR.lend1 (h : HR U E H n B W w) {k : Nat} {l : Loc} {o : O} (hk : H.get k = some o) (hok : okK k = true) (he : E k = some l) : HR U E (H.set k none) n (fun b => B b ∨ b = l.b) w w := by
  have old : ∀ j o', (H.set k none).get j = some o' → j ≠ k ∧ H.get j = some o' := fun j o' hj => by
    rw [HP.get_set _ _ _ hok] at hj
    split at hj
    · cases hj
    · exact ⟨‹_›, hj⟩
  refine ⟨fun j o' hj => h.ent j o' (old j o' hj).2, fun j j' l1 l2 o1 o2 h1 h2 => h.inj j j' l1 l2 o1 o2 (old j o1 h1).2 (old j' o2 h2).2, fun j l1 o1 h1 e1 hb => ?_, h.new, fun b hb => ⟨?_, rfl⟩, rfl, rfl, rfl, Nat.le_refl _⟩
  · rcases hb with hb | hb
    · exact h.out j l1 o1 (old j o1 h1).2 e1 hb
    · exact (old j o1 h1).1 (h.inj j k l1 l o1 o (old j o1 h1).2 hk e1 he hb)
  · rcases hb with hb | rfl
    · have := (h.keep b hb).1
      have := h.size
      omega
    · obtain ⟨l2, e2, ho⟩ := h.ent k o hk
      rw [he] at e2
      cases e2
      exact ho.blk
theorem HR.rebase (h : HR U E H n B W w) {b0 : Nat} (hb : B b0) (o : Obj) : HR U E H n B (w.putObj b0 o) (w.putObj b0 o) := by
  refine ⟨fun k o' hk => ?_, h.inj, h.out, h.new, fun b hb' => ⟨?_, rfl⟩, rfl, rfl, rfl, Nat.le_refl _⟩
  · obtain ⟨l, h1, h2⟩ := h.ent k o' hk
    refine ⟨l, h1, h2.mono (.refl E) (put_other fun he => ?_)⟩
    exact h.out k l o' hk h1 (he ▸ hb)
  · rw [put_size']
    have := (h.keep b hb').1
    have := h.size
    omega
theorem cell_loop {b0 j : Nat} {r : Loop} (h : w.heap[b0]? = some (.loop r)) : w.cell? ⟨b0, j, none⟩ = none := by
  simp [World.cell?, h]
theorem COk.rebase (hC : COk P C U B w) {b0 : Nat} {r : Loop} (hl : w.heap[b0]? = some (.loop r)) (o : Obj) : COk P C U B (w.putObj b0 o) :=
  ⟨hC.ty, fun b l hb => ⟨(hC.gl b l hb).1, fun j x hj => by
    have h1 := (hC.gl b l hb).2 j x hj
    by_cases hbb : b = b0
    · subst hbb
      rw [cell_loop hl] at h1
      cases h1
    · rw [← h1]
      exact World.cell?_of_block (put_other hbb)⟩, hC.u, hC.cmp, hC.hel, hC.eg, hC.rg⟩
theorem put_ps : ∀ (ps : List Tmp) (vs : List V) (xs : List Value) (F : FR) (tmps : Array Value), DenL U E vs xs → (∀ t v, F.get t = some v → Den U E v (tmps.getD t undef)) → allLt nt ps = true → nt ≤ tmps.size →
    nt ≤ ((ps.zip xs).foldl (fun tmps (q : Tmp × Value) => tmps.setIfInBounds q.1 q.2) tmps).size ∧ ∀ t v, (putPs ps vs F).get t = some v → Den U E v (((ps.zip xs).foldl (fun tmps (q : Tmp × Value) => tmps.setIfInBounds q.1 q.2) tmps).getD t undef)
  | [], vs, xs, F, tmps, hd, hf, hl, hs => by
    simp only [List.zip_nil_left, List.foldl_nil, putPs]
    exact ⟨hs, hf⟩
  | p :: ps, [], xs, F, tmps, hd, hf, hl, hs => by
    cases hd.nil_inv
    simp only [List.zip_nil_right, List.foldl_nil, putPs]
    exact ⟨hs, hf⟩
  | p :: ps, v :: vs, xs, F, tmps, hd, hf, hl, hs => by
    obtain ⟨y, ys, rfl, h1, h2⟩ := hd.cons_inv
    obtain ⟨g1, g2⟩ := Bool.and_eq_true_iff.1 hl
    have hp : p < nt := by simpa using g1
    simp only [List.zip_cons_cons, List.foldl_cons, putPs]
    refine put_ps ps vs ys _ _ h2 (fun t u hu => ?_) g2 (by simpa using hs)
    have hp2 : p < tmps.size := Nat.lt_of_lt_of_le hp hs
    rw [getD_set' tmps p t y hp2]
    rcases FR.get_set _ _ _ _ _ hu with ⟨rfl, h3⟩ | ⟨hne, h3⟩
    · rw [if_pos rfl]; cases h3; exact h1
    · rw [if_neg (Ne.symm hne)]; exact hf t u h3
theorem yl3_inv {k : Nat} {c : YC} {X : X} (h : yl3 k c F X = .ok x H' n') : ∃ F3 H3 D3, X = .nor F3 H3 n' D3 ∧ x = .b true ∧ H' = H3.set k (some (.y c F)) := by
  unfold yl3 at h
  split at h
  · simp only [R.ok.injEq] at h
    exact ⟨_, _, _, by rw [h.2.2], h.1.symm, h.2.1.symm⟩
  · cases h
  · cases h
theorem yl2_inv {m k : Nat} {c : YC} {X : X} (h : yl2 C m k c F X = .ok x H' n') : ∃ F2 H2 n2, X = .nor F2 H2 n2 [] ∧ yl3 k c F (exec C m (comp C 0 c.nt c.body) F2 H2 n2 []) = .ok x H' n' := by
  unfold yl2 at h
  split at h
  · exact ⟨_, _, _, rfl, h⟩
  · cases h
  · cases h
theorem yield_ok (hP : POk P C U) (hbh : C.bh.get 0 = none) (hC : COk P C U B W) (h : HR U E H n B W w) {m k mm : Nat} {c : YC} {l : Loc} (hk : H.get k = some (.y c F)) (he : E k = some l) {args : List V} {xs : List Value} (hd : DenL U E args xs) (hr : yldX C m k c F args H n = .ok x H' n') :
    ∃ fn tmps, (Instr.yield l.b xs.toArray).run P w = .ok (.round l.b fn tmps c.asg c.body) w ∧ RoundIn Fence.wide mm P l.b fn tmps c.asg c.body w (fun | .returned v, w' => ∃ E', E.le E' ∧ HR U E' H' n' B W w' ∧ Den U E' x v | _, _ => False) := by
  unfold yldX at hr
  cases hb : and (okK k) (and (plainR c.asg) (and (plainR c.body) (and (Nat.beq (lng args) (lng c.ps.toList)) (allLt c.nt c.ps.toList)))) with
  | false => rw [hb] at hr; cases hr
  | true =>
    rw [hb] at hr
    simp only [yl1] at hr
    obtain ⟨hok, hb⟩ := Bool.and_eq_true_iff.1 hb
    obtain ⟨hp1, hb⟩ := Bool.and_eq_true_iff.1 hb
    obtain ⟨hp2, hb⟩ := Bool.and_eq_true_iff.1 hb
    obtain ⟨hlen, hlt⟩ := Bool.and_eq_true_iff.1 hb
    rw [lng_eq, lng_eq] at hlen
    have hlen := Nat.eq_of_beq_eq_true hlen
    obtain ⟨F2, H2, n2, hX1, hr⟩ := yl2_inv hr
    obtain ⟨F3, H3, D3, hX2, rfl, rfl⟩ := yl3_inv hr
    obtain ⟨l', he', hd0, fn, tmps, Dl, hL, hsz, hfr⟩ := h.ent k _ hk
    rw [he] at he'
    cases he'
    have hlb : l.b < w.heap.size := (Array.getElem?_eq_some_iff.1 hL).1
    have hy := run_yield (P := P) (args := xs.toArray) hL (by simp only [List.size_toArray]; rw [hd.len, hlen]; simp)
    refine ⟨fn, _, hy, roundIn_of_wpIn trivial ?_⟩
    have h1 := h.lend1 hk hok he
    have hC1 : COk P C U (fun b => B b ∨ b = l.b) w := hC.at h fun b hb => .inl hb
    have hps := put_ps (nt := c.nt) (U := U) (E := E) c.ps.toList args xs F tmps hd hfr hlt hsz
    have hfold : (c.ps.zip xs.toArray).foldl (fun tmps (q : Tmp × Value) => tmps.setIfInBounds q.1 q.2) tmps = (c.ps.toList.zip xs).foldl (fun tmps (q : Tmp × Value) => tmps.setIfInBounds q.1 q.2) tmps := by
      rw [← Array.foldl_toList, Array.toList_zip]
    rw [← hfold] at hps
    refine rec_in hP (fc_round l.b) hbh m c.asg hp1 _ _ hC1 E _ (H.set k none) n [] _ w _ ⟨hps.2, hps.1, h1, .nil⟩ (fun v F1 H1 n1 D1 hX => by rw [hX1] at hX; cases hX) ?_
    rw [hX1]
    intro E1 a1 w1 hle1 hs1
    have hL1 : w1.heap[l.b]? = some (.loop { state := .ready, pending := none, fn := fn, tmps := tmps, params := c.ps, assign := c.asg, body := c.body, defers := Dl }) := by rw [(hs1.hr.keep l.b (.inr rfl)).2]; exact hL
    refine ⟨_, run_beginRound hL1 rfl, ?_⟩
    have h2 := hs1.hr.rebase (b0 := l.b) (.inr rfl) (.loop { state := .busy, pending := none, fn := fn, tmps := tmps, params := c.ps, assign := c.asg, body := c.body, defers := Dl })
    have hC2 : COk P C U (fun b => B b ∨ b = l.b) (w1.putObj l.b (.loop { state := .busy, pending := none, fn := fn, tmps := tmps, params := c.ps, assign := c.asg, body := c.body, defers := Dl })) := (hC1.at hs1.hr fun b hb => hb).rebase hL1 _
    refine rec_in hP (fc_round l.b) hbh m c.body hp2 _ _ hC2 E1 F2 H2 n2 [] a1 _ _ ⟨hs1.fr, hs1.sz, h2, hs1.df⟩ (fun v F1 H1 n1 D1 hX => by rw [hX2] at hX; cases hX) ?_
    rw [hX2]
    intro E2 a2 w3 hle2 hs2
    have hlb1 : l.b < w1.heap.size := (Array.getElem?_eq_some_iff.1 hL1).1
    have hL3 := (hs2.hr.keep l.b (.inr rfl)).2.trans (put_this hlb1)
    refine ⟨_, _, run_endRound none hL3, E2, hle1.trans hle2, ?_, by simp only [V.b, Den]; rfl⟩
    have hlb3 : l.b < w3.heap.size := (Array.getElem?_eq_some_iff.1 hL3).1
    have hek : E2 k = some l := hle2 _ _ (hle1 _ _ he)
    have nB : ¬ B l.b := h.out k l _ hk he
    have old : ∀ j o', (H3.set k (some (.y c F))).get j = some o' → j ≠ k → H3.get j = some o' := fun j o' hj hne => by
      rw [HP.get_set _ _ _ hok, if_neg hne] at hj
      exact hj
    have far : ∀ j l' o', H3.get j = some o' → E2 j = some l' → l'.b ≠ l.b := fun j l' o' h1 e1 hbb => hs2.hr.out j l' o' h1 e1 (.inr hbb)
    refine ⟨fun j o' hj => ?_, fun j j' l1 l2 o1 o2 g1 g2 e1 e2 hbb => ?_, fun j l1 o1 g1 e1 hbb => ?_, hs2.hr.new, fun b hb => ?_, ?_, ?_, ?_, ?_⟩
    · by_cases hjk : j = k
      · subst hjk
        rw [HP.get_set _ _ _ hok, if_pos rfl] at hj
        cases hj
        exact ⟨l, hek, hd0, fn, tmps, Dl, put_this hlb3, hsz, fun t v hv => (hfr t v hv).mono (hle1.trans hle2)⟩
      · have hj' := old j o' hj hjk
        obtain ⟨l1, f1, f2⟩ := hs2.hr.ent j o' hj'
        exact ⟨l1, f1, f2.mono (.refl E2) (put_other (far j l1 o' hj' f1))⟩
    · by_cases hjk : j = k
      · by_cases hjk' : j' = k
        · rw [hjk, hjk']
        · exfalso
          rw [hjk, hek] at e1
          cases e1
          exact far j' l2 o2 (old j' o2 g2 hjk') e2 hbb.symm
      · by_cases hjk' : j' = k
        · exfalso
          rw [hjk', hek] at e2
          cases e2
          exact far j l1 o1 (old j o1 g1 hjk) e1 hbb
        · exact hs2.hr.inj j j' l1 l2 o1 o2 (old j o1 g1 hjk) (old j' o2 g2 hjk') e1 e2 hbb
    · by_cases hjk : j = k
      · rw [hjk, hek] at e1
        cases e1
        exact nB hbb
      · exact hs2.hr.out j l1 o1 (old j o1 g1 hjk) e1 (.inl hbb)
    · have hne : b ≠ l.b := fun e => nB (e ▸ hb)
      refine ⟨(h.keep b hb).1, ?_⟩
      rw [put_other hne, (hs2.hr.keep b (.inl hb)).2, put_other hne, (hs1.hr.keep b (.inl hb)).2, (h.keep b hb).2]
    · exact hs2.hr.os.trans (hs1.hr.os.trans h.os)
    · exact hs2.hr.tape.trans (hs1.hr.tape.trans h.tape)
    · exact hs2.hr.output.trans (hs1.hr.output.trans h.output)
    · have g1 := hs2.hr.size
      have g2 := hs1.hr.size
      have g3 := h.size
      rw [put_size'] at g1 ⊢
      omega
end
end Go.CE
end
section
namespace Go.CE
open Go.Proofs
def ch8 : Bool → Nat → Option UInt8
  | true, n => some n.toUInt8
  | false, _ => none
def chV : V → Option UInt8
  | .v (.int .u8 (.ofNat n)) => ch8 (Nat.blt n 256) n
  | _ => none
def chL : List V → Option (List UInt8)
  | [] => some []
  | x :: r => conO (chV x) (chL r)
noncomputable def hkB4 (g o m : Nat) (bs : List V) : Bool → Option (List UInt8) → HP → Nat → R
  | true, some l, H, n => .ok (.v (.string ⟨⟨l⟩⟩)) (H.set g (some (.r 5 bs))) n
  | _, _, _, _ => .no ["builder"]
noncomputable def hkB3 (g o m : Nat) : Option O → HP → Nat → R
  | some (.c 5 bs _), H, n => hkB4 g o m bs (and (okK g) (and (okK m) (and (Nat.ble (Nat.add o m) (lng bs)) (Nat.blt 0 m)))) (chL ((bs.drop o).take m)) H n
  | some (.r 5 bs), H, n => hkB4 g o m bs (and (okK g) (and (okK m) (and (Nat.ble (Nat.add o m) (lng bs)) (Nat.blt 0 m)))) (chL ((bs.drop o).take m)) H n
  | _, _, _ => .no ["builder"]
noncomputable def hkB2 : Option V → HP → Nat → R
  | some (.s g o m _), H, n => hkB3 g o m (H.get g) H n
  | some (.v (.slice none 0 0)), H, n => .ok (.v (.string ⟨⟨[]⟩⟩)) H n
  | _, _, _ => .no ["builder"]
noncomputable def hkB1 : Option O → HP → Nat → R
  | some (.c 69 vs _), H, n => hkB2 (vs[1]?) H n
  | _, _, _ => .no ["builder"]
noncomputable def hkB : List V → HP → Nat → R
  | [.p k 0], H, n => hkB1 (H.get k) H n
  | _, _, _ => .no ["builder"]
def adr0 : Bool → Option Bool
  | true => some false
  | false => none
def adr (k : Nat) : Option V → Option Bool
  | some (.v (.pointer none)) => some true
  | some (.p k' 0) => adr0 (Nat.beq k k')
  | _ => none
def adr2 : Bool → Option Bool → Option Bool
  | true, o => o
  | false, _ => none
noncomputable def adr1 (k : Nat) : Option O → Option Bool
  | some (.c 69 vs _) => adr2 (Nat.ble 2 (lng vs)) (adr k vs[0]?)
  | _ => none
noncomputable def bufO : Option O → Option V
  | some (.c 69 vs _) => vs[1]?
  | _ => none
noncomputable def hkW5 : Option HP → Nat → Nat → R
  | some H, m, n => .ok (.t [.v (.int .i64 (Int.ofNat m)), .v .nilIface]) H n
  | none, _, _ => .no ["write store"]
noncomputable def hkW4 (k m : Nat) : R → R
  | .ok (.s g o q c) H n => hkW5 (wr H k 1 [.s g o q c]) m n
  | _ => .no ["write append"]
noncomputable def apR2 (g m : Nat) (s : ByteArray) : Bool → List V → HP → Nat → R
  | true, bs, H, n => .ok (.s n 0 (Nat.add m s.size) (.un 1)) ((H.set g none).set n (some (.r 5 (bs ++ byCells s)))) (Nat.succ n)
  | false, _, _, _ => .no ["row"]
noncomputable def apR (s : ByteArray) : V → Option O → HP → Nat → R
  | .s g 0 m (.un 1), some (.r 5 bs), H, n => apR2 g m s (and (okK g) (and (okK n) (and (Nat.beq m (lng bs)) (and (Nat.ble (Nat.add m s.size) 140737488355328) (Nat.blt 0 s.size))))) bs H n
  | b, some (.c _ _ _), H, n => apT (K0.ty 67) (K0.ty 9) b (.v (.string s)) K0 H n
  | b, none, H, n => apT (K0.ty 67) (K0.ty 9) b (.v (.string s)) K0 H n
  | _, _, _, _ => .no ["row"]
noncomputable def gtB : V → HP → Option O
  | .s g _ _ _, H => H.get g
  | _, _ => none
noncomputable def hkW3 (k : Nat) (s : ByteArray) : Option V → HP → Nat → R
  | some b, H, n => hkW4 k s.size (apR s b (gtB b H) H n)
  | none, _, _ => .no ["write buf"]
noncomputable def hkW2 (k : Nat) (s : ByteArray) : Option HP → Nat → R
  | some H, n => hkW3 k s (bufO (H.get k)) H n
  | none, _ => .no ["write addr"]
noncomputable def hkW1 (k : Nat) (s : ByteArray) : Option Bool → HP → Nat → R
  | some true, H, n => hkW2 k s (wr H k 0 [.p k 0]) n
  | some false, H, n => hkW2 k s (some H) n
  | none, _, _ => .no ["write check"]
noncomputable def hkW : List V → HP → Nat → R
  | [.p k 0, .v (.string s)], H, n => hkW1 k s (adr1 k (H.get k)) H n
  | _, _, _ => .no ["write args"]
end Go.CE
end
section
namespace Go.Proofs.YtohmdnnagmjnkaaGreatDoor
open Go.RowKit
set_option maxRecDepth 10000
theorem size69 : (Tryz.prog.info? 69).map (·.size) = some 2 := by kernel_rfl
theorem cells71 : Tryz.prog.cellsOf 69 = 2 := by kernel_rfl
theorem liesB (n : Nat) : liesAt Tryz.prog Tryz.prog.depth 69 (n + 1) 0 69 1 = true := by kernel_rfl
abbrev pB (b : Nat) : Value := .pointer (some ⟨b, 0, none⟩)
set_option maxHeartbeats 1000000 in
theorem cc_used (b : Nat) (w : World) (h0 : w.cell? ⟨b, 0, none⟩ = some (pB b)) :
    Calls Tryz.prog 89 #[pB b] w fun e w' => e = .returned (.tuple #[]) ∧ w' = w := by
  obtain ⟨j, hj, _⟩ := Option.map_eq_some_iff.1 size69
  go_enter Tryz.func89, Tryz.ntmps89
  go_wp2
  rw [Lib.run_neq_ptr_same w _ Tryz.underlying66 hj]
  go_wp2
  go_end0
  exact ⟨rfl, rfl⟩
set_option maxHeartbeats 1000000 in
theorem cc_fresh (b n : Nat) (w : World) (h0 : w.cell? ⟨b, 0, none⟩ = some (.pointer none)) (hsh : w.shape? b = some (69, n)) (hn : 2 ≤ n) (hfz : w.frozen? ⟨b, 0, none⟩ = false) :
    Calls Tryz.prog 89 #[pB b] w fun e w' => e = .returned (.tuple #[]) ∧ w' = w.setCell ⟨b, 0, none⟩ (pB b) := by
  obtain ⟨j, hj, hjs⟩ := Option.map_eq_some_iff.1 size69
  have hl : liesAt Tryz.prog Tryz.prog.depth 69 (n / Tryz.prog.cellsOf 69) 0 69 1 = true := by
    rw [cells71]
    have : n / 2 = (n / 2 - 1) + 1 := by omega
    rw [this]
    exact liesB _
  go_enter Tryz.func89, Tryz.ntmps89
  go_wp2
  rw [Lib.run_to_unsafe w ⟨b, 0, none⟩ Tryz.underlying66 Tryz.underlying204 hj (by rw [hjs]; decide) hsh (by show 0 < n; omega)]
  simp only [Result.andThen]
  rw [Oper.upon_value]
  go_wp2
  rw [run_callFunc_extern Tryz.func126 (by kernel_rfl) (by kernel_rfl) (by kernel_rfl) (e := Extern.AbiNoEscape.same) (by kernel_rfl)]
  rw [Lib.run_noEscape]
  simp only [Result.andThen]
  rw [Oper.upon_value]
  go_wp2
  rw [Lib.run_from_unsafe w ⟨b, 0, none⟩ Tryz.underlying204 Tryz.underlying66 hj hsh hl]
  simp only [Result.andThen]
  rw [Oper.upon_value]
  go_wp2
  go_end0
  exact ⟨rfl, rfl⟩
set_option maxHeartbeats 2000000 in
theorem str_some (b m cap : Nat) (a : Addr) (s : ByteArray) (w w' : World) (hc : cap ≠ 0) (c1 : w.drew.cell? ⟨b, 1, none⟩ = some (.slice (some a) m cap)) (hUS : (Builtin.unsafeString_ #[138, 3] 9 #[.pointer (some a), .int .i64 m]).run Tryz.prog w.drew = .ok (.string s) w') :
    Calls Tryz.prog 52 #[pB b] w fun e w2 => e = .returned (.string s) ∧ w2 = w' := by
  have hSD : (Builtin.unsafeSliceData_ #[67] 138 #[.slice (some a) m cap]).run Tryz.prog w.drew = .ok (.pointer (some a)) w.drew :=
    Lib.run_unsafeSliceData_row _ _ _ _ _ _ hc
  have mixed := hmix
  go_enter Tryz.func52, Tryz.ntmps52
  go_wp2
  go_region_o
  all_goals (go_wp2; go_ret; exact ⟨rfl, rfl⟩)
set_option maxHeartbeats 2000000 in
theorem str_nil (b : Nat) (w : World) (c1 : w.drew.cell? ⟨b, 1, none⟩ = some (.slice none 0 0)) :
    Calls Tryz.prog 52 #[pB b] w fun e w' => e = .returned (.string ⟨#[]⟩) ∧ w' = w.drew := by
  have hUS := fun (W : World) (q : Option Addr) => Lib.run_unsafeString_none (P := Tryz.prog) W 138 3 9 q
  have hSD : (Builtin.unsafeSliceData_ #[67] 138 #[.slice none 0 0]).run Tryz.prog w.drew = .ok (.pointer none) w.drew := rfl
  have mixed := hmix
  go_enter Tryz.func52, Tryz.ntmps52
  go_wp2
  go_region_o
  all_goals (go_wp2; go_ret; exact ⟨rfl, rfl⟩)
theorem wpList_app {ops : Array Oper} {rest : List Oper} {o : Oper} {a : Act} {w w' : World} {Q : Exit → Act → World → Prop} (hgd : o.guard = none) (sl x : Operand) (t u : TypeId)
    (ho : o.op = .call { callee := .builtin .append, args := #[sl, x], argTypes := #[t, u] }) (v y v' : Value) (hs : a.eval sl = v) (hx : a.eval x = y) (hr : (Builtin.append_ #[t, u] o.type #[v, y]).run Tryz.prog w = .ok v' w')
    (h : wpList Tryz.prog ops Q rest (a.put o.dst v') w') : wpList Tryz.prog ops Q (o :: rest) a w := by
  refine wpList_plain hgd fun K hK => ?_
  unfold Oper.wp execOp
  simp only [ho, resolve, invoke, builtin, Sem.run_bind, Sem.run_pure, Result.andThen_ok, List.map_toArray, List.map_cons, List.map_nil, hs, hx, hr]
  exact hK _ _ h
set_option maxHeartbeats 2000000 in
theorem write_at (b : Nat) (s : ByteArray) (v y : Value) (ao : Option Addr) (n' cap : Nat) (w w1 w2 : World) (hcc : Calls Tryz.prog 89 #[pB b] w fun e w' => e = .returned (.tuple #[]) ∧ w' = w1) (c1 : w1.cell? ⟨b, 1, none⟩ = some v)
    (happ : (Builtin.append_ #[67, 9] 67 #[v, .string s]).run Tryz.prog w1 = .ok (.slice ao n' cap) w2) (d1 : w2.cell? ⟨b, 1, none⟩ = some y) (f1 : w2.frozen? ⟨b, 1, none⟩ = false) :
    Calls Tryz.prog 53 #[pB b, .string s] w fun e w' => e = .returned (.tuple #[.int .i64 s.size, .nilIface]) ∧ w' = w2.setCell ⟨b, 1, none⟩ (.slice ao n' cap) := by
  go_enter Tryz.func53, Tryz.ntmps53
  go_wp2_with (refine hcc.mono ?_)
  rintro e w' ⟨rfl, rfl⟩
  go_wp2_with (at_builtin; refine wpList_app rfl _ _ 67 9 rfl _ _ _ rfl rfl happ ?_)
  go_wp2
  go_ret2
  exact ⟨rfl, rfl⟩
end Go.Proofs.YtohmdnnagmjnkaaGreatDoor
end
section
namespace Go.CE
open Go.RowKit
open Go.Proofs
section
variable {C : Cfg} {U : Nat → Value} {E E' : Env} {H H' : HP} {n n' : Nat} {B : Nat → Prop} {W w w' : World} {x : V} {L : Hooks}
theorem enter_of {P : Program} {f : FuncId} {fn : Func} {c : Code} (hf : P.funcs[f]? = some fn) (hn : fn.name ≠ "runtime.NumGoroutine") (hb : fn.body = some c) (xs : Array Value) (w : World) : (callFunc f xs).run P w = .ok (.enter f xs) w := by
  simp [callFunc, go_sem, hf, hn, hb]
theorem chV_inv {v : V} {b : UInt8} (h : chV v = some b) : v = .v (.int .u8 (b.toNat : Int)) := by
  unfold chV at h
  split at h
  · rename_i m
    cases hb : Nat.blt m 256 with
    | false => rw [hb] at h; cases h
    | true =>
      rw [hb] at h
      simp only [ch8, Option.some.injEq] at h
      have hm : m < 256 := by simpa using hb
      subst h
      have : m.toUInt8.toNat = m := by simp [Nat.mod_eq_of_lt hm]
      rw [this]
      rfl
  · cases h
theorem chL_get : ∀ {l : List V} {bs : List UInt8}, chL l = some bs → bs.length = l.length ∧ ∀ (j : Nat) (b : UInt8), bs[j]? = some b → l[j]? = some (V.v (.int .u8 (b.toNat : Int)))
  | [], bs, h => by simp only [chL, Option.some.injEq] at h; subst h; exact ⟨rfl, fun j b hj => by simp at hj⟩
  | x :: r, bs, h => by
    rw [chL] at h
    obtain ⟨q, qs, h1, h2, rfl⟩ := conO_inv h
    obtain ⟨g1, g2⟩ := chL_get h2
    refine ⟨by simp [g1], fun j b hj => ?_⟩
    cases j with
    | zero => simp at hj; subst hj; simp [chV_inv h1]
    | succ j => simpa using g2 j b (by simpa using hj)
theorem run_unsafeString_off {P : Program} (w : World) (pt it ty e : TypeId) (hp : P.underlying pt = some (.pointer e)) (hc : P.cellsOf e = 1) (g off cells : Nat) (hsh : w.shape? g = some (e, cells)) (l : List UInt8) (h0 : l ≠ []) (hn : off + l.length ≤ cells) (h63 : l.length ≤ 9223372036854775807)
    (hcell : ∀ j x, l[j]? = some x → w.cell? ((⟨g, off, none⟩ : Addr).add j) = some (.int .u8 x.toNat)) :
    (Builtin.unsafeString_ #[pt, it] ty #[.pointer (some ⟨g, off, none⟩), .int .i64 l.length]).run P w = .ok (.string ⟨l.toArray⟩) (w.freeze ⟨g, off, none⟩ l.length) := by
  have hl : l.length ≠ 0 := by simpa using h0
  have hlb := Lib.run_loadBytes (P := P) w l ⟨g, off, none⟩ .empty hcell
  have hlies : liesAt P P.depth e (cells / P.cellsOf e) off e l.length = true := by
    have hd : P.depth = (2 * (P.types.size + Made.depth) + 1) + 1 := rfl
    rw [hd]
    simp only [liesAt, Bool.or_eq_true]
    left
    rw [hd]
    simp [rowAt, hc, hn, sameLayout, Nat.mod_one]
  have h63' : ¬ (9223372036854775807 : Int) < (l.length : Int) := by omega
  have hdef : Builtin.unsafeString_ #[pt, it] ty #[.pointer (some ⟨g, off, none⟩), .int .i64 l.length] =
      (do
        let n ← asInt (.int .i64 l.length)
        if n < 0 then runtimePanic (.error "unsafe.String: len out of range")
        if n > IntKind.i64.max then unsupported (.unsafePointer "String: a length above the largest int")
        if n = 0 then pure (.string .empty)
        else if ← variablesAt ⟨g, off, none⟩ (← elemOf pt) n.toNat then do
          let s ← loadBytes ⟨g, off, none⟩ .empty n.toNat
          freeze ⟨g, off, none⟩ n.toNat
          pure (.string s)
        else unsupported (.unsafePointer "String: not so many bytes at ptr")) := rfl
  rw [hdef]
  have hmax : IntKind.i64.max = 9223372036854775807 := rfl
  have hneg : ¬ (l.length : Int) < 0 := by omega
  simp [asInt, asIntOf, hmax, h63', hneg, hl, variablesAt, hsh, elemOf, run_underlying hp, hlies, hlb]
theorem cells5 : Tryz.prog.cellsOf 5 = 1 := by kernel_rfl
theorem row_of (hr : HR U E H n B W w) {g : Nat} {bs : List V} (h : (∃ len, H.get g = some (.c 5 bs len)) ∨ H.get g = some (.r 5 bs)) :
    ∃ l, E g = some l ∧ ∃ cs us junk lo hi, w.heap[l.b]? = some (.cells cs 5 (lo, hi)) ∧ cs.toList.drop l.d = us ++ junk ∧ DenL U E bs us ∧ cs.size = l.d + l.t ∧ hi ≤ l.d + bs.length := by
  rcases h with ⟨len, h⟩ | h
  · obtain ⟨l, he, _, cs, us, junk, h1, h2, h3, h4⟩ := hr.ent g _ h
    exact ⟨l, he, cs, us, junk, 0, 0, h1, h2, h3, h4, Nat.zero_le _⟩
  · obtain ⟨l, he, cs, us, junk, lo, hi, h1, h2, h3, h4, h5⟩ := hr.ent g _ h
    exact ⟨l, he, cs, us, junk, lo, hi, h1, h2, h3, h4, h5⟩
theorem bld_of (hr : HR U E H n B W w) {k : Nat} {vs : List V} {len : Nat} (h : H.get k = some (.c 69 vs len)) :
    ∃ b t, E k = some ⟨b, 0, t⟩ ∧ CSat U E ⟨b, 0, t⟩ w 69 vs := by
  obtain ⟨⟨b, d, t⟩, he, ⟨_, hz⟩, hc⟩ := hr.ent k _ h
  have : d = 0 := hz (by decide)
  subst this
  exact ⟨b, t, he, hc⟩
theorem freeze_at {cs : Array Value} {T lo hi : Nat} {g off m : Nat} (hm : m ≠ 0) (h : w.heap[g]? = some (.cells cs T (lo, hi))) : ∃ lo' hi', (w.freeze ⟨g, off, none⟩ m).heap[g]? = some (.cells cs T (lo', hi')) ∧ hi' ≤ max hi (off + m) := by
  unfold World.freeze
  rw [if_neg hm]
  simp only [Array.getElem?_modify, if_true, h, Option.map_some]
  by_cases hlh : lo == hi
  · simp only [hlh, if_true]
    exact ⟨_, _, rfl, by omega⟩
  · simp only [hlh]
    exact ⟨_, _, rfl, by omega⟩
theorem freeze_other {g off m b : Nat} (hb : b ≠ g) : (w.freeze ⟨g, off, none⟩ m).heap[b]? = w.heap[b]? := by
  unfold World.freeze
  split
  · rfl
  · simp only [Array.getElem?_modify, if_neg (Ne.symm hb)]
theorem freeze_rest {g off m : Nat} : (w.freeze ⟨g, off, none⟩ m).os = w.os ∧ (w.freeze ⟨g, off, none⟩ m).tape = w.tape ∧ (w.freeze ⟨g, off, none⟩ m).output = w.output ∧ (w.freeze ⟨g, off, none⟩ m).heap.size = w.heap.size := by
  unfold World.freeze
  split <;> simp
theorem hkB3_inv {g o m : Nat} {ob : Option O} (h : hkB3 g o m ob H n = .ok x H' n') : ∃ bs l, ((∃ len, ob = some (.c 5 bs len)) ∨ ob = some (.r 5 bs)) ∧ okK g = true ∧ okK m = true ∧ o + m ≤ bs.length ∧ 0 < m ∧ chL ((bs.drop o).take m) = some l ∧ x = .v (.string ⟨⟨l⟩⟩) ∧ H' = H.set g (some (.r 5 bs)) ∧ n' = n := by
  have key : ∀ bs, hkB4 g o m bs (and (okK g) (and (okK m) (and (Nat.ble (Nat.add o m) (lng bs)) (Nat.blt 0 m)))) (chL ((bs.drop o).take m)) H n = .ok x H' n' → ∃ l, okK g = true ∧ okK m = true ∧ o + m ≤ bs.length ∧ 0 < m ∧ chL ((bs.drop o).take m) = some l ∧ x = .v (.string ⟨⟨l⟩⟩) ∧ H' = H.set g (some (.r 5 bs)) ∧ n' = n := fun bs h => by
    cases hb : and (okK g) (and (okK m) (and (Nat.ble (Nat.add o m) (lng bs)) (Nat.blt 0 m))) with
    | false => rw [hb] at h; cases h
    | true =>
      rw [hb] at h
      cases hl : chL ((bs.drop o).take m) with
      | none => rw [hl] at h; cases h
      | some l =>
        rw [hl] at h
        simp only [hkB4, R.ok.injEq] at h
        obtain ⟨h1, hb⟩ := Bool.and_eq_true_iff.1 hb
        obtain ⟨h2, hb⟩ := Bool.and_eq_true_iff.1 hb
        obtain ⟨h3, h4⟩ := Bool.and_eq_true_iff.1 hb
        rw [lng_eq] at h3
        exact ⟨l, h1, h2, Nat.le_of_ble_eq_true h3, by simpa using h4, rfl, h.1.symm, h.2.1.symm, h.2.2.symm⟩
  unfold hkB3 at h
  split at h
  · rename_i bs len
    obtain ⟨l, r⟩ := key bs h
    exact ⟨bs, l, .inl ⟨len, rfl⟩, r⟩
  · rename_i bs
    obtain ⟨l, r⟩ := key bs h
    exact ⟨bs, l, .inr rfl, r⟩
  · cases h
theorem hook_text : HookOk Tryz.prog C U 52 hkB := by
  intro B W hC l H n x H' n' h E w xs hr hd
  unfold hkB at h
  split at h
  · rename_i k
    unfold hkB1 at h
    split at h
    · rename_i vs len hg
      obtain ⟨y, ys, rfl, hy, hd⟩ := hd.cons_inv
      cases hd.nil_inv
      obtain ⟨b, t, he, hc⟩ := bld_of hr hg
      simp only [Den] at hy
      obtain ⟨lk, he2, rfl⟩ := hy
      rw [he] at he2
      cases he2
      refine .inr ⟨enter_of Tryz.func52 (name_ne Tryz.func52) rfl _ w, ?_⟩
      unfold hkB2 at h
      split at h
      · rename_i g o m c hv
        obtain ⟨bs, l, hob, hok, hokm, hle, hm, hl, rfl, rfl, rfl⟩ := hkB3_inv h
        obtain ⟨v, c1, hden⟩ := hc.cell hv
        simp only [Den] at hden
        obtain ⟨lg, eg, hcap, rfl⟩ := hden
        obtain ⟨lg', eg', cs, us, junk, lo, hi, h1, h2, h3, h4, h5⟩ := row_of hr hob
        rw [eg] at eg'
        cases eg'
        obtain ⟨hll, hlc⟩ := chL_get hl
        have hlm : l.length = m := by rw [hll, List.length_take, List.length_drop]; omega
        have hus := h3.len
        have hdl := congrArg List.length h2
        simp only [List.length_drop, List.length_append, Array.length_toList] at hdl
        have hcell : ∀ j z, l[j]? = some z → w.drew.cell? ((⟨lg.b, lg.d + o, none⟩ : Addr).add j) = some (.int .u8 z.toNat) := fun j z hj => by
          have h6 := hlc j z hj
          have hjm : j < m := by have := (List.getElem?_eq_some_iff.1 hj).1; omega
          rw [List.getElem?_take, if_pos hjm, List.getElem?_drop] at h6
          obtain ⟨u, g1, g2⟩ := h3.get h6
          have g2 := g2.v_inv
          subst g2
          rw [Addr.add_lit]
          show w.cell? _ = _
          rw [Lib.cell_of_heap h1, ← Array.getElem?_toList, show lg.d + o + j = lg.d + (o + j) by omega, ← List.getElem?_drop, h2, List.getElem?_append_left (by have := (List.getElem?_eq_some_iff.1 g1).1; exact this)]
          exact g1
        have hUS := run_unsafeString_off (P := Tryz.prog) w.drew 138 3 9 5 Tryz.underlying138 cells5 lg.b (lg.d + o) cs.size (by show w.shape? _ = _; simp [World.shape?, h1]) l (by intro e; rw [e] at hlm; simp at hlm; omega) (by omega) (by have := okK_lt hokm; omega) hcell
        rw [hlm] at hUS
        refine (YtohmdnnagmjnkaaGreatDoor.str_some b m (capOf lg o c) ⟨lg.b, lg.d + o, none⟩ ⟨l.toArray⟩ w _ (by omega) c1 hUS).mono fun e w2 he2 => ?_
        obtain ⟨rfl, rfl⟩ := he2
        obtain ⟨lo', hi', f1, f2⟩ := freeze_at (w := w.drew) (off := lg.d + o) (m := m) (by omega) h1
        obtain ⟨r1, r2, r3, r4⟩ := freeze_rest (w := w.drew) (g := lg.b) (off := lg.d + o) (m := m)
        refine ⟨E, .refl E, ?_, by simp only [Den]⟩
        have fin := fun o' (ho' : _ = some o') => hr.drew.turn (k := g) (o' := .r 5 bs) ho' hok eg ⟨cs, us, junk, lo', hi', f1, h2, h3, h4, by omega⟩ (fun b hb => freeze_other hb) (by rw [r4]; exact Nat.le_refl _) r1 r2 r3
        rcases hob with ⟨len, h⟩ | h
        · exact fin _ h
        · exact fin _ h
      · rename_i hv
        simp only [R.ok.injEq] at h
        obtain ⟨rfl, rfl, rfl⟩ := h
        obtain ⟨v, c1, hden⟩ := hc.cell hv
        have := hden.v_inv
        subst this
        refine (YtohmdnnagmjnkaaGreatDoor.str_nil b w c1).mono fun e w2 he2 => ?_
        obtain ⟨rfl, rfl⟩ := he2
        exact ⟨E, .refl E, hr.drew, by simp only [Den]⟩
      · cases h
    · cases h
  · cases h
end
end Go.CE
end
section
namespace Go.CE
open Go.RowKit
open Go.Proofs
section
variable {C : Cfg} {U : Nat → Value} {E E' : Env} {H H' : HP} {n n' : Nat} {B : Nat → Prop} {W w w' : World} {x : V} {L : Hooks} {r : RG}
set_option maxRecDepth 100000 in
theorem cok_k0 (h : COk Tryz.prog (KK L r) U B W) : COk Tryz.prog K0 U B W := ⟨h.ty, h.gl, h.u, h.cmp, h.hel, h.eg, RgOk.e⟩
theorem byte5 : (Tryz.prog.info? 5).map (fun i => (i.zero, i.size, i.bytes)) = some (some (.int .u8 0), 1, 1) := by kernel_rfl
theorem info5 : ∃ i, Tryz.prog.info? 5 = some i ∧ i.zero = some (.int .u8 0) ∧ i.size = 1 ∧ i.bytes = 1 := by
  obtain ⟨i, h1, h2⟩ := Option.map_eq_some_iff.1 byte5
  simp only [Prod.mk.injEq] at h2
  exact ⟨i, h1, h2.1, h2.2.1, h2.2.2⟩
def ApOk (U : Nat → Value) (E : Env) (B : Nat → Prop) (W w : World) (v : Value) (s : ByteArray) (x : V) (H' : HP) (n' : Nat) : Prop :=
  ∃ y w' E', (Builtin.append_ #[67, 9] 67 #[v, .string s]).run Tryz.prog w = .ok y w' ∧ E.le E' ∧ Den U E' x y ∧ HR U E' H' n' B W w'
theorem row_app (h : HR U E H n B W w) {g m : Nat} {s : ByteArray} {bs : List V} {l : Loc} (hg : H.get g = some (.r 5 bs)) (hok : okK g = true) (hokn : okK n = true) (hm : m = bs.length) (hb : m + s.size ≤ 140737488355328) (h0 : 0 < s.size) (he : E g = some l) (hcap : m ≤ capOf l 0 (.un 1)) :
    ApOk U E B W w (.slice (some ⟨l.b, l.d + 0, none⟩) m (capOf l 0 (.un 1))) s (.s n 0 (m + s.size) (.un 1)) ((H.set g none).set n (some (.r 5 (bs ++ byCells s)))) (n + 1) := by
  obtain ⟨i, hi, hz, hsz, hby⟩ := info5
  obtain ⟨l', he', cs, us, junk, lo, hi', h1, h2, h3, h4, h5⟩ := h.ent g _ hg
  rw [he] at he'
  cases he'
  have hus := h3.len
  have hcapE : capOf l 0 (.un 1) = l.t := by show (l.t - 0) / 1 = l.t; simp
  have hdl := congrArg List.length h2
  simp only [List.length_drop, List.length_append, Array.length_toList] at hdl
  have hs : Src Tryz.prog i.size 9 (.string s) s.size (byteCells s) w := by rw [hsz]; exact Src.ofString w Tryz.underlying9 s
  have hnl : (byteCells s).length = s.size := byteCells_length s
  by_cases hroom : m + s.size ≤ capOf l 0 (.un 1)
  · have hst := run_storeCells_atF Tryz.prog l.b (l.d + 0 + m * i.size) 5 (lo, hi') (byteCells s) 0 cs w h1 (by show hi' ≤ _; rw [hsz]; omega) (by rw [hsz, hnl, h4]; omega) hs.one
    have hrun := run_append_put (P := Tryz.prog) (ty := 67) Tryz.underlying67 hi (b := l.b) (off := l.d + 0) (sLen := m) hs hroom hst
    refine ⟨_, _, _, hrun, h.le_new l, ?_, h.move hg hok hokn he rfl ⟨_, us ++ byteCells s, cs.toList.drop (l.d + 0 + m * i.size + 0 + s.size), lo, hi', setRow_heap w l.b cs _ 5 (lo, hi') h1, ?_, DenL.app (h3.mono (h.le_new l)) ((by_den s).mono (h.le_new l)), ?_, ?_⟩ (fun b hb => setRow_other w l.b b _ hb) (by simp) rfl rfl rfl⟩
    · simp only [Den]
      exact ⟨l, by simp, hroom, rfl⟩
    · simp only [hnl, hsz, Nat.mul_one, Nat.add_zero]
      have e1 : cs.toList.take (l.d + m) = cs.toList.take l.d ++ us := by
        rw [List.take_add, h2, hm, ← hus, List.take_left]
      have hd0 : (cs.toList.take l.d).length = l.d := by rw [List.length_take, Array.length_toList]; omega
      rw [e1]
      have := List.drop_left (l₁ := cs.toList.take l.d) (l₂ := us ++ byteCells s ++ cs.toList.drop (l.d + m + s.size))
      rw [hd0] at this
      simpa [List.append_assoc] using this
    · simp only [List.size_toArray, List.length_append, List.length_take, List.length_drop, hnl, hsz, Nat.mul_one, Nat.add_zero, Array.length_toList]
      omega
    · rw [List.length_append]; omega
  · have hold : (Builtin.firstCells i.size m (.slice (some ⟨l.b, l.d + 0, none⟩) m (capOf l 0 (.un 1)))).run Tryz.prog w.drew = .ok us.toArray w.drew :=
      run_firstCells_some w.drew i.size m ⟨l.b, l.d + 0, none⟩ m (capOf l 0 (.un 1)) us (by rw [hsz]; omega) (fun j v hv => by
        rw [Addr.add_lit]
        show w.cell? _ = _
        rw [Lib.cell_of_heap h1, ← Array.getElem?_toList, show l.d + 0 + j = l.d + j by omega, ← List.getElem?_drop, h2, List.getElem?_append_left (List.getElem?_eq_some_iff.1 hv).1]
        exact hv)
    have hlt : capOf l 0 (.un 1) < m + s.size := by omega
    have hrun := run_append_grow_src (P := Tryz.prog) w 67 9 67 5 i (.int .u8 0) Tryz.underlying67 hi hz (some ⟨l.b, l.d + 0, none⟩) m (capOf l 0 (.un 1)) us hold (.string s) s.size (byteCells s) hs hlt (by omega) (growslice_fits hlt (by rw [hby]; omega))
    have hge := grownCap_ge w (m + s.size) (capOf l 0 (.un 1)) 5
    have h' : HR U E (H.set g none) n B W w := h.drop fun j o hj => HP.get_set_none H hj
    refine ⟨_, _, _, hrun, h'.drew.le_new ⟨w.heap.size, 0, grownCap w (m + s.size) (capOf l 0 (.un 1)) 5⟩, ?_, h'.drew.new_obj hokn rfl ⟨_, us ++ byteCells s, (Builtin.zeroCells (Value.int .u8 0).cells (grownCap w (m + s.size) (capOf l 0 (.un 1)) 5 - (m + s.size))).toList, 0, 0, heap_alloc_new w.drew _, ?_, DenL.app (h3.mono (h'.drew.le_new _)) ((by_den s).mono (h'.drew.le_new _)), ?_, Nat.zero_le _⟩⟩
    · simp only [Den]
      have hc : capOf ⟨w.heap.size, 0, grownCap w (m + s.size) (capOf l 0 (.un 1)) 5⟩ 0 (.un 1) = grownCap w (m + s.size) (capOf l 0 (.un 1)) 5 := by
        show (_ - 0) / 1 = _
        simp
      refine ⟨⟨w.heap.size, 0, grownCap w (m + s.size) (capOf l 0 (.un 1)) 5⟩, by simp, by rw [hc]; exact hge, ?_⟩
      rw [hc]
    · simp
    · have hz1 : (Value.int .u8 0).cells.size = 1 := rfl
      simp only [Array.size_append, List.size_toArray, size_zeroCells, hz1, List.length_append, hnl]
      show _ = 0 + _
      omega
theorem apR2_inv {g m : Nat} {s : ByteArray} {c : Bool} {bs : List V} (h : apR2 g m s c bs H n = .ok x H' n') : c = true ∧ x = .s n 0 (m + s.size) (.un 1) ∧ H' = (H.set g none).set n (some (.r 5 (bs ++ byCells s))) ∧ n' = n + 1 := by
  cases c with
  | false => cases h
  | true =>
    simp only [apR2, R.ok.injEq] at h
    exact ⟨rfl, h.1.symm, h.2.1.symm, h.2.2.symm⟩
theorem apR_sound (hC : COk Tryz.prog (KK L r) U B W) (h : HR U E H n B W w) {b : V} {v : Value} {s : ByteArray} (hb : Den U E b v) (hr : apR s b (gtB b H) H n = .ok x H' n') : ApOk U E B W w v s x H' n' := by
  have dflt : apT (K0.ty 67) (K0.ty 9) b (.v (.string s)) K0 H n = .ok x H' n' → ApOk U E B W w v s x H' n' := fun hr =>
    append_sound (T := 67) (tx := 9) (ty := 67) (cok_k0 hC) h hb (show Den U E (.v (.string s)) (.string s) by simp only [Den]) x H' n' hr
  unfold apR at hr
  split at hr
  · rename_i g m bs hg
    simp only [gtB] at hg
    obtain ⟨hc, rfl, rfl, rfl⟩ := apR2_inv hr
    obtain ⟨h1, hc⟩ := Bool.and_eq_true_iff.1 hc
    obtain ⟨h2, hc⟩ := Bool.and_eq_true_iff.1 hc
    obtain ⟨h3, hc⟩ := Bool.and_eq_true_iff.1 hc
    obtain ⟨h4, h5⟩ := Bool.and_eq_true_iff.1 hc
    rw [lng_eq] at h3
    simp only [Den] at hb
    obtain ⟨l, he, hcap, rfl⟩ := hb
    exact row_app h hg h1 h2 (Nat.eq_of_beq_eq_true h3) (Nat.le_of_ble_eq_true h4) (by simpa using h5) he hcap
  · exact dflt hr
  · exact dflt hr
  · cases hr
end
end Go.CE
end
section
namespace Go.CE
open Go.RowKit
open Go.Proofs
section
variable {C : Cfg} {U : Nat → Value} {E E' : Env} {H H' : HP} {n n' : Nat} {B : Nat → Prop} {W w w1 w' : World} {x : V} {L : Hooks} {r : RG}
theorem store_one {P : Program} {b j T : Nat} {cs : Array Value} {v : Value} (h : w.heap[b]? = some (.cells cs T (0, 0))) (hj : j < cs.size) (hv : v.oneCell' = true) : (storeCells ⟨b, j, none⟩ [v]).run P w = .ok () (w.setCell ⟨b, j, none⟩ v) := by
  have hadd : (⟨b, j, none⟩ : Addr).add 0 = ⟨b, j, none⟩ := by unfold Addr.add; split <;> simp_all
  have hcell : w.cell? ⟨b, j, none⟩ = some cs[j] := by simp [World.cell?, h, hj]
  have hst : (store ((⟨b, j, none⟩ : Addr).add 0) v).run P w = .ok () (w.setCell ⟨b, j, none⟩ v) := by
    rw [hadd, run_store P w _ v _ hv, hcell]
    simp [Lib.frozen_of_heap h j]
  simp only [storeCells, Sem.run_bind, hst, Result.andThen_ok]
  rfl
theorem wr_one (hu : ∀ i, (U i).oneCell' = true) (h : HR U E H n B W w) {k j b t : Nat} {v : V} {y : Value} (hw : wr H k j [v] = some H') (he : E k = some ⟨b, 0, t⟩) (hd : Den U E v y) (ho : y.oneCell' = true) :
    HR U E H' n B W (w.setCell ⟨b, j, none⟩ y) ∧ (∃ z, w.cell? ⟨b, j, none⟩ = some z) ∧ w.frozen? ⟨b, j, none⟩ = false := by
  obtain ⟨w', hst, hh⟩ := wr_sound (P := Tryz.prog) hu h hw he (.cons hd .nil)
  obtain ⟨T, l, len, hg, _, hle, _, _⟩ := wr_inv hw
  obtain ⟨l', he', ⟨hlen, _⟩, cs, us, junk, h1, h2, h3, h4⟩ := h.ent k _ hg
  rw [he] at he'
  cases he'
  have h1 : w.heap[b]? = some (.cells cs T (0, 0)) := h1
  have hus := h3.len
  have hdl := congrArg List.length h2
  simp only [List.length_drop, List.length_append, Array.length_toList, Nat.sub_zero] at hdl
  have hj : j < cs.size := by simp at hle; omega
  have hs := store_one (P := Tryz.prog) h1 hj ho
  have e : (0 + j) = j := by omega
  have hst : (storeCells ⟨b, 0 + j, none⟩ [y]).run Tryz.prog w = .ok () w' := hst
  rw [e, hs] at hst
  cases hst
  exact ⟨hh, ⟨_, by rw [Lib.cell_of_heap h1]; exact Array.getElem?_eq_getElem hj⟩, Lib.frozen_of_heap h1 j⟩
theorem bufO_inv {o : Option O} {v : V} (h : bufO o = some v) : ∃ vs len, o = some (.c 69 vs len) ∧ vs[1]? = some v := by
  unfold bufO at h
  split at h
  · exact ⟨_, _, rfl, h⟩
  · cases h
theorem hkW2_inv {k : Nat} {s : ByteArray} (h : hkW2 k s (some H) n = .ok x H' n') : ∃ buf g o q c H2, bufO (H.get k) = some buf ∧ apR s buf (gtB buf H) H n = .ok (.s g o q c) H2 n' ∧ wr H2 k 1 [.s g o q c] = some H' ∧ x = .t [.v (.int .i64 (Int.ofNat s.size)), .v .nilIface] := by
  simp only [hkW2] at h
  cases hb : bufO (H.get k) with
  | none => rw [hb] at h; cases h
  | some buf =>
    rw [hb] at h
    simp only [hkW3] at h
    cases ha : apR s buf (gtB buf H) H n with
    | no l => rw [ha] at h; cases h
    | pan v2 H2 n2 => rw [ha] at h; cases h
    | ok v H2 n2 =>
      rw [ha] at h
      cases v <;> try (cases h; done)
      rename_i g o q c
      simp only [hkW4] at h
      cases hw : wr H2 k 1 [.s g o q c] with
      | none => rw [hw] at h; cases h
      | some H3 =>
        rw [hw] at h
        simp only [hkW5, R.ok.injEq] at h
        obtain ⟨rfl, rfl, rfl⟩ := h
        exact ⟨buf, g, o, q, c, H2, rfl, ha, hw, rfl⟩
theorem write_stage (hC : COk Tryz.prog (KK L r) U B W) (h : HR U E H n B W w1) {k b t : Nat} {s : ByteArray} (he : E k = some ⟨b, 0, t⟩) (hcc : Calls Tryz.prog 89 #[.pointer (some ⟨b, 0, none⟩)] w fun e w' => e = .returned (.tuple #[]) ∧ w' = w1) (hr : hkW2 k s (some H) n = .ok x H' n') :
    Calls Tryz.prog 53 #[.pointer (some ⟨b, 0, none⟩), .string s] w fun e w' => match e with | .returned v => ∃ E', E.le E' ∧ HR U E' H' n' B W w' ∧ Den U E' x v | _ => False := by
  obtain ⟨buf, g, o, q, c, H2, hb, ha, hw, rfl⟩ := hkW2_inv hr
  obtain ⟨vs, len, hg, hv⟩ := bufO_inv hb
  obtain ⟨b', t', he', hcs⟩ := bld_of h hg
  rw [he] at he'
  cases he'
  obtain ⟨v, c1, hden⟩ := hcs.cell hv
  obtain ⟨y, w2, E', hrun, hle, hy, h2⟩ := apR_sound hC h hden ha
  have hy0 := hy
  simp only [Den] at hy
  obtain ⟨lg, eg, hcap, rfl⟩ := hy
  obtain ⟨h3, ⟨z, d1⟩, f1⟩ := wr_one hC.u h2 hw (hle _ _ he) hy0 rfl
  refine (YtohmdnnagmjnkaaGreatDoor.write_at b s v z _ _ _ w w1 w2 hcc c1 hrun d1 f1).mono fun e w' hh => ?_
  obtain ⟨rfl, rfl⟩ := hh
  refine ⟨E', hle, h3, ?_⟩
  simp only [Den]
  exact ⟨_, .cons (by simp only [Den]; rfl) (.cons (by simp only [Den]) .nil), rfl⟩
theorem adr1_inv {k : Nat} {ob : Option O} {d : Bool} (h : adr1 k ob = some d) : ∃ vs len v, ob = some (.c 69 vs len) ∧ 2 ≤ vs.length ∧ vs[0]? = some v ∧ ((d = true ∧ v = .v (.pointer none)) ∨ (d = false ∧ v = .p k 0)) := by
  unfold adr1 at h
  split at h
  · rename_i vs len
    cases hb : Nat.ble 2 (lng vs) with
    | false => rw [hb] at h; cases h
    | true =>
      rw [hb] at h
      simp only [adr2] at h
      rw [lng_eq] at hb
      refine ⟨vs, len, ?_⟩
      unfold adr at h
      split at h
      · rename_i hv
        simp only [Option.some.injEq] at h
        exact ⟨_, rfl, Nat.le_of_ble_eq_true hb, hv, .inl ⟨h.symm, rfl⟩⟩
      · rename_i k' hv
        cases hk : Nat.beq k k' with
        | false => rw [hk] at h; cases h
        | true =>
          rw [hk] at h
          simp only [adr0, Option.some.injEq] at h
          have := Nat.eq_of_beq_eq_true hk
          subst this
          exact ⟨_, rfl, Nat.le_of_ble_eq_true hb, hv, .inr ⟨h.symm, rfl⟩⟩
      · cases h
  · cases h
theorem hook_write : HookOk Tryz.prog (KK L r) U 53 hkW := by
  intro B W hC l H n x H' n' h E w xs hr hd
  unfold hkW at h
  split at h
  · rename_i k s
    obtain ⟨y1, r1, rfl, g1, hd⟩ := hd.cons_inv
    obtain ⟨y2, r2, rfl, g2, hd⟩ := hd.cons_inv
    cases hd.nil_inv
    have g2 := g2.v_inv
    subst g2
    cases ha : adr1 k (H.get k) with
    | none => rw [ha] at h; cases h
    | some d =>
      obtain ⟨vs, len, v, hg, hl, hv, hdv⟩ := adr1_inv ha
      obtain ⟨b, t, he, hcs⟩ := bld_of hr hg
      simp only [Den] at g1
      obtain ⟨l0, he0, rfl⟩ := g1
      rw [he] at he0
      cases he0
      refine .inr ⟨enter_of Tryz.func53 (name_ne Tryz.func53) rfl _ w, ?_⟩
      obtain ⟨z, c1, hden⟩ := hcs.cell hv
      have c1 : w.cell? ⟨b, 0, none⟩ = some z := c1
      obtain ⟨cs, us, junk, h1, h2, h3, h4⟩ := hcs
      have h1 : w.heap[b]? = some (.cells cs 69 (0, 0)) := h1
      have fin : ∀ {H1 w1}, HR U E H1 n B W w1 → (Calls Tryz.prog 89 #[.pointer (some ⟨b, 0, none⟩)] w fun e w' => e = .returned (.tuple #[]) ∧ w' = w1) → hkW2 k s (some H1) n = .ok x H' n' → Calls Tryz.prog 53 #[.pointer (some ⟨b, 0, none⟩), .string s] w (fun | .returned v, w' => ∃ E', E.le E' ∧ HR U E' H' n' B W w' ∧ Den U E' x v | _, _ => False) := fun hh hcc hr' =>
        (write_stage hC hh he hcc hr').mono fun e w' hh => by
          cases e with
          | returned v => exact hh
          | panicked c => exact hh
          | outgrown => exact hh
      rcases hdv with ⟨rfl, rfl⟩ | ⟨rfl, rfl⟩
      · rw [ha] at h
        simp only [hkW1] at h
        cases hw : wr H k 0 [.p k 0] with
        | none => rw [hw] at h; cases h
        | some H1 =>
          rw [hw] at h
          have hp : Den U E (.p k 0) (.pointer (some ⟨b, 0, none⟩)) := by simp only [Den]; exact ⟨_, he, rfl⟩
          obtain ⟨hh, _, f1⟩ := wr_one hC.u hr hw he hp rfl
          have hz := hden.v_inv
          subst hz
          have hus := h3.len
          have hdl := congrArg List.length h2
          simp only [List.length_drop, List.length_append, Array.length_toList, Nat.sub_zero] at hdl
          exact fin hh (YtohmdnnagmjnkaaGreatDoor.cc_fresh b cs.size w c1 (by simp [World.shape?, h1]) (by omega) f1) h
      · rw [ha] at h
        simp only [hkW1] at h
        simp only [Den] at hden
        obtain ⟨l1, he1, rfl⟩ := hden
        rw [he] at he1
        cases he1
        exact fin hr (YtohmdnnagmjnkaaGreatDoor.cc_used b w c1) h
  · cases h
end
end Go.CE
end
section
namespace Go.CE
open Go.RowKit
open Go.Proofs
set_option maxRecDepth 100000
def q0 : Option Code → Code
  | some (.seq a _) => a
  | _ => .skip
def q1 : Option Code → Code
  | some (.seq _ (.seq (.seq a _) _)) => a
  | _ => .skip
def q2 : Option Code → Code
  | some (.seq _ (.seq (.seq _ (.block _ (.seq a _))) _)) => a
  | _ => .skip
def q3 : Option Code → Code
  | some (.seq _ (.seq (.seq _ (.block _ (.seq _ (.cond _ (.seq (.seq a _) _) _)))) _)) => a
  | _ => .skip
def q4 : Option Code → Array Oper
  | some (.seq _ (.seq (.seq _ (.block _ (.seq _ (.cond _ (.seq (.seq _ (.cond _ (.seq (.region _ a _) _) _)) _) _)))) _)) => a
  | _ => #[]
def qx : Option Code → Code
  | some (.seq _ (.seq (.seq _ (.block _ (.seq _ (.cond _ (.seq _ a) _)))) _)) => a
  | _ => .skip
def qy : Option Code → Code
  | some (.seq _ (.seq (.seq _ (.block _ (.seq _ (.cond _ _ a)))) _)) => a
  | _ => .skip
def qz : Option Code → Code
  | some (.seq _ (.seq _ a)) => a
  | _ => .skip
theorem body161 : Tryz.f161.body = some (.seq (q0 Tryz.f161.body) (.seq (.seq (q1 Tryz.f161.body) (.block 0 (.seq (q2 Tryz.f161.body) (.cond (.tmp 23) (.seq (.seq (q3 Tryz.f161.body) (.cond (.tmp 26) (.seq (.region 4 (q4 Tryz.f161.body) false) .ret) .skip)) (qx Tryz.f161.body)) (qy Tryz.f161.body))))) (qz Tryz.f161.body))) := by rfl
noncomputable def Lb : Hooks := [(52, hkB), (53, hkW)]
noncomputable def Cb : Cfg := KK Lb
theorem lbb_ok {U : Nat → Value} {L : Hooks} {r : RG} : ∀ p ∈ Lb, HookOk Tryz.prog (KK L r) U p.1 p.2 := by
  intro p hp
  simp only [Lb, List.mem_cons, List.not_mem_nil, or_false] at hp
  rcases hp with rfl | rfl
  · exact hook_text
  · exact hook_write
noncomputable def wkY (m : Nat) (s : V) (k : Nat) (H : HP) (n : Nat) : Option O → R
  | some (.y c F) => yldX Cb m k c F [s] H n
  | _ => .no ["walk: loop"]
noncomputable def wk5 (m : Nat) (H : HP) (n : Nat) : Option V → Option V → R
  | some (.y k), some s => wkY m s k H n (H.get k)
  | _, _ => .no ["walk: yield"]
noncomputable def wk4 (m : Nat) : X → R
  | .nor F H n [] => wk5 m H n (F.get 27) (F.get 34)
  | .no s => .no s
  | _ => .no ["walk 4"]
noncomputable def wk3b (m : Nat) (F : FR) (H : HP) (n : Nat) : Option Bool → R
  | some true => wk4 m (exCOs (rdyL Cb 154 (q4 Tryz.f161.body).toList (((q4 Tryz.f161.body).toList.drop 0).take 8)) (exec Cb m) Cb F H n [])
  | _ => .no ["walk: inward"]
noncomputable def wk3 (m : Nat) : X → R
  | .nor F H n [] => wk3b m F H n (pickB (F.get 26))
  | .no s => .no s
  | _ => .no ["walk 3"]
noncomputable def wk2b (m : Nat) (F : FR) (H : HP) (n : Nat) : Option Bool → R
  | some true => wk3 m (exec Cb m (comp Cb 161 154 (q3 Tryz.f161.body)) F H n [])
  | _ => .no ["walk: norm"]
noncomputable def wk2 (m : Nat) : X → R
  | .nor F H n [] => wk2b m F H n (pickB (F.get 23))
  | .no s => .no s
  | _ => .no ["walk 2"]
noncomputable def wk1 (m : Nat) : X → R
  | .nor F H n [] => wk2 m (exec Cb m (comp Cb 161 154 (q2 Tryz.f161.body)) F H n [])
  | .no s => .no s
  | _ => .no ["walk 1"]
noncomputable def wk0 (m : Nat) : X → R
  | .nor F H n [] => wk1 m (exec Cb m (comp Cb 161 154 (q1 Tryz.f161.body)) F H n [])
  | .no s => .no s
  | _ => .no ["walk 0"]
noncomputable def wk (m : Nat) (l : List V) (H : HP) (n : Nat) : R := wk0 m (exec Cb m (comp Cb 161 154 (q0 Tryz.f161.body)) (frame l) H n [])
section
variable {U : Nat → Value} {E E' : Env} {F : FR} {H H' : HP} {n n' : Nat} {B : Nat → Prop} {W w w' : World} {x : V} {L : Hooks} {r : RG} {m : Nat}
theorem wk0_inv {X : X} (h : wk0 m X = .ok x H' n') : ∃ F H n, X = .nor F H n [] ∧ wk1 m (exec Cb m (comp Cb 161 154 (q1 Tryz.f161.body)) F H n []) = .ok x H' n' := by
  unfold wk0 at h; split at h
  · exact ⟨_, _, _, rfl, h⟩
  · cases h
  · cases h
theorem wk1_inv {X : X} (h : wk1 m X = .ok x H' n') : ∃ F H n, X = .nor F H n [] ∧ wk2 m (exec Cb m (comp Cb 161 154 (q2 Tryz.f161.body)) F H n []) = .ok x H' n' := by
  unfold wk1 at h; split at h
  · exact ⟨_, _, _, rfl, h⟩
  · cases h
  · cases h
theorem wk2_inv {X : X} (h : wk2 m X = .ok x H' n') : ∃ F H n, X = .nor F H n [] ∧ pickB (F.get 23) = some true ∧ wk3 m (exec Cb m (comp Cb 161 154 (q3 Tryz.f161.body)) F H n []) = .ok x H' n' := by
  unfold wk2 at h; split at h
  · rename_i F H n
    unfold wk2b at h
    split at h
    · rename_i hb; exact ⟨F, H, n, rfl, hb, h⟩
    · cases h
  · cases h
  · cases h
theorem wk3_inv {X : X} (h : wk3 m X = .ok x H' n') : ∃ F H n, X = .nor F H n [] ∧ pickB (F.get 26) = some true ∧ wk4 m (exCOs (rdyL Cb 154 (q4 Tryz.f161.body).toList (((q4 Tryz.f161.body).toList.drop 0).take 8)) (exec Cb m) Cb F H n []) = .ok x H' n' := by
  unfold wk3 at h; split at h
  · rename_i F H n
    unfold wk3b at h
    split at h
    · rename_i hb; exact ⟨F, H, n, rfl, hb, h⟩
    · cases h
  · cases h
  · cases h
theorem wk4_inv {X : X} (h : wk4 m X = .ok x H' n') : ∃ F H n k s c F0, X = .nor F H n [] ∧ F.get 27 = some (.y k) ∧ F.get 34 = some s ∧ H.get k = some (.y c F0) ∧ yldX Cb m k c F0 [s] H n = .ok x H' n' := by
  unfold wk4 at h; split at h
  · rename_i F H n
    unfold wk5 at h
    split at h
    · rename_i k s h1 h2
      unfold wkY at h
      split at h
      · rename_i c F0 h3; exact ⟨F, H, n, k, s, c, F0, rfl, h1, h2, h3, h⟩
      · cases h
    · cases h
  · cases h
  · cases h
theorem hk_none {f nt : Nat} (h : f ≠ 232) (c : Code) : HkOk Tryz.prog Cb U f nt c := bh_none (fun q hq => by
  have := setL_e (hq : (setL (.e : PT (Nat × RS)) [(232, (2, collect))]).get f = some q)
  simp only [List.mem_cons, List.not_mem_nil, or_false, Prod.mk.injEq] at this
  exact h this.1) c
theorem pos161 : (Tryz.f161.ntmps = 154 ∧ (q4 Tryz.f161.body).size = 10 ∧ (q4 Tryz.f161.body).toList.all noDf = true) := ⟨rfl, rfl, by rfl⟩
theorem ops161 : (∃ t e, (q4 Tryz.f161.body)[8]? = some ⟨some 35, .call ⟨.value (.tmp 27), #[.tmp 34], t⟩, 4, "canon.go:176", e, none⟩) ∧ ∃ e, (q4 Tryz.f161.body)[9]? = some ⟨some 8, .assign (.tmp 35), 4, "canon.go:176", e, none⟩ := ⟨⟨_, _, rfl⟩, _, rfl⟩
theorem wpOpsIn_some {P : Program} {fc : Fence} {k i : Nat} {rest : List Nat} {ops : Array Oper} {o : Oper} {a : Act} {w : World} {Q : Exit → Act → World → Prop} (ho : ops[i]? = some o) (hg : o.guard = none) (h : o.wpIn fc k P a w (wpOpsIn fc k P ops Q rest) Q) : wpOpsIn fc k P ops Q (i :: rest) a w := by
  simp only [wpOpsIn, ho]
  rw [if_pos (by simp [Region.wanted, hg])]
  exact h
theorem hook_walk : HookOk Tryz.prog (KK L r) U 161 (wk m) := by
  intro B W hC l H n x H' n' h E w xs hr hd
  have hC0 : COk Tryz.prog Cb U B W := cok_kk RgOk.e hC
  have hP : POk Tryz.prog Cb U := kk_ok lbb_ok
  have hrec : RecOk Tryz.prog Cb U (exec Cb m) := (rec_ok hP m).1
  obtain ⟨ps1, ps2, ps3⟩ := pos161
  refine .inr ⟨enter_of Tryz.func161 (name_ne Tryz.func161) rfl _ w, ?_⟩
  refine calls_of_wp_defers Tryz.func161 rfl ?_
  change (Code.wp Tryz.prog (Code.seq (q0 Tryz.f161.body) (.seq (.seq (q1 Tryz.f161.body) (.block 0 (.seq (q2 Tryz.f161.body) (.cond (.tmp 23) (.seq (.seq (q3 Tryz.f161.body) (.cond (.tmp 26) (.seq (.region 4 (q4 Tryz.f161.body) false) .ret) .skip)) (qx Tryz.f161.body)) (qy Tryz.f161.body))))) (qz Tryz.f161.body))) _ _ w)
  obtain ⟨F1, H1, n1, hX0, h⟩ := wk0_inv h
  refine wp_seq (hrec B W hC0 (q0 Tryz.f161.body) 161 154 (hk_none (by decide) _) E (frame l) H n [] _ w _ ⟨fun t v hv => ?_, ?_, hr, .nil⟩ ?_)
  · obtain ⟨y, h1, h2⟩ := hd.get (frame_get hv)
    have hlt := (List.getElem?_eq_some_iff.1 h1).1
    have : (xs.toArray ++ Array.replicate (Tryz.f161.ntmps - xs.toArray.size) undef).getD t undef = y := by
      rw [Array.getD_eq_getD_getElem?, Array.getElem?_append_left (by simpa using hlt)]
      simp [h1]
    simp only
    rw [this]
    exact h2
  · rw [ps1]; simp; omega
  rw [hX0]
  intro E1 a1 w1 he1 hs1
  obtain ⟨F2, H2, n2, hX1, h⟩ := wk1_inv h
  refine wp_seq (wp_seq (hrec B W hC0 (q1 Tryz.f161.body) 161 154 (hk_none (by decide) _) E1 F1 H1 n1 [] a1 w1 _ hs1 ?_))
  rw [hX1]
  intro E2 a2 w2 he2 hs2
  obtain ⟨F3, H3, n3, hX2, h23, h⟩ := wk2_inv h
  refine wp_block (wp_seq (hrec B W hC0 (q2 Tryz.f161.body) 161 154 (hk_none (by decide) _) E2 F2 H2 n2 [] a2 w2 _ hs2 ?_))
  rw [hX2]
  intro E3 a3 w3 he3 hs3
  have c23 : a3.eval (.tmp 23) = .bool true := by
    have := hs3.fr 23 _ (pickB_inv h23)
    simp only [Den] at this
    exact this
  obtain ⟨F4, H4, n4, hX3, h26, h⟩ := wk3_inv h
  refine wp_cond_true c23 (wp_seq (wp_seq (hrec B W hC0 (q3 Tryz.f161.body) 161 154 (hk_none (by decide) _) E3 F3 H3 n3 [] a3 w3 _ hs3 ?_)))
  rw [hX3]
  intro E4 a4 w4 he4 hs4
  have c26 : a4.eval (.tmp 26) = .bool true := by
    have := hs4.fr 26 _ (pickB_inv h26)
    simp only [Den] at this
    exact this
  obtain ⟨F5, H5, n5, k, s, c, F0, hX4, h27, h34, hk, h⟩ := wk4_inv h
  refine wp_cond_true c26 (wp_seq (wpIn_wide.1 (wpIn_region (n := 5) ?_)))
  rw [ps2]
  refine region_in (m := 8) (i := 0) (l2 := [8, 9]) hP fc_wide hC0 (calls_of_rec hP hrec B W hC0) (by omega) ps3 hs4 hX4 fun E5 a5 w5 he5 hs5 => ?_
  obtain ⟨⟨t8, e8, o8⟩, e9, o9⟩ := ops161
  have v27 := hs5.fr 27 _ h27
  simp only [Den] at v27
  obtain ⟨lk, ek, v27⟩ := v27
  obtain ⟨fn, tmps, hy, hround⟩ := yield_ok (mm := 4) hP (by rfl) hC0 hs5.hr hk ek (.cons (hs5.fr 34 _ h34) .nil) h
  refine wpOpsIn_some o8 rfl ⟨fun f _ => trivial, ?_⟩
  have hex : (execOp a5.eval ⟨some 35, .call ⟨.value (.tmp 27), #[.tmp 34], t8⟩, 4, "canon.go:176", e8, none⟩).run Tryz.prog w5 = .ok (.round lk.b fn tmps c.asg c.body) w5 := by
    have e27 : a5.eval (.tmp 27) = .func (.yield lk.b) #[] #[] := v27
    have e34 : a5.eval (.tmp 34) = a5.tmps.getD 34 undef := rfl
    rw [← hy]
    simp [execOp, resolve, invoke, e27, e34, Deferred.ofValue]
  change Oper.uponIn _ _ _ _ _ _ _ ((execOp a5.eval ⟨some 35, .call ⟨.value (.tmp 27), #[.tmp 34], t8⟩, 4, "canon.go:176", e8, none⟩).run Tryz.prog w5)
  rw [hex]
  refine ⟨fun hs => absurd hs (by decide), hround.mono fun e w6 he => ?_⟩
  cases e with
  | panicked c => exact he.elim
  | outgrown => exact he.elim
  | returned v =>
    obtain ⟨E6, g1, g2, g3⟩ := he
    refine wpOpsIn_some o9 rfl ⟨fun f _ => trivial, ?_⟩
    change Oper.uponIn _ _ _ _ _ _ _ ((execOp (a5.put (some 35) v).eval ⟨some 8, .assign (.tmp 35), 4, "canon.go:176", e9, none⟩).run Tryz.prog w6)
    have sz5 := hs5.sz
    have p35 : (a5.put (some 35) v).eval (.tmp 35) = v := by
      simp only [Act.put, Act.eval]
      rw [getD_set' _ _ _ _ (by omega), if_pos rfl]
    simp only [execOp, p35, Sem.run_pure, Oper.uponIn]
    refine wp_ret ?_
    have df5 : a5.defers = [] := hs5.df.nil_inv
    show Leaves Tryz.prog Tryz.f161 _ _ a5.defers .returning w6
    rw [df5]
    refine ⟨v, ?_, E6, ((((he1.trans he2).trans he3).trans he4).trans he5).trans g1, g2, g3⟩
    have : Tryz.f161.results = #[.tmp 8] := rfl
    unfold results
    rw [this]
    have h8 : 8 < a5.tmps.size := by omega
    simp [Act.put, getD_set', sz5, h8]
end
end Go.CE
end
section
namespace Go.CE
open Go.RowKit
open Go.Proofs
set_option maxRecDepth 100000
section
variable {P : Program} {C : Cfg} {U : Nat → Value} {E E' : Env} {F : FR} {H H' H3 : HP} {n n' n3 : Nat} {D D' : DL} {B : Nat → Prop} {W w w' : World} {a : Act} {rec : Rec} {x : V} {nt i : Nat} {Q : Exit → Act → World → Prop} {ops : Array Oper}
theorem calls_of_wp_mark {f : FuncId} {fn : Func} {c : Code} {args : Array Value} {R : Ending → World → Prop} (hf : P.funcs[f]? = some fn) (hb : fn.body = some c)
    (h : c.wp P (fun e a w' => e = .ret ∧ ∃ r w2, a.defers = [⟨.collected r, #[]⟩] ∧ (Instr.takeDeferred r).run P w' = .ok [] w2 ∧ ∃ v, (results fn a.tmps).run P w2 = .ok v w2 ∧ R (.returned v) w2) { tmps := args ++ Array.replicate (fn.ntmps - args.size) undef, defers := [] } w) : Calls P f args w R := by
  intro cs
  let b : Frame := { (default : Frame) with fn := f, kind := .normal }
  have henter : Frame.enter P f args .normal = b.at { tmps := args ++ Array.replicate (fn.ntmps - args.size) undef, defers := [] } [.code c] := by
    simp [Frame.enter, Frame.at, hf, hb, b]
  obtain ⟨e, a', w', ⟨rfl, r, w2, hd, ht, v, hr, hR⟩, todo, hs⟩ := h b [] cs
  rw [← henter] at hs
  have h1 := step_collected (P := P) (fr := { b.at a' todo with mode := .returning }) (cs := cs) (ds := []) (fun hh => (by cases hh)) hd rfl ht
  obtain ⟨e', w'', fr', hR', hs', hfn, hl⟩ := leaves_steps [] .returning w2 { { b.at a' todo with mode := .returning } with defers := [] ++ [] } cs rfl rfl rfl hf rfl ⟨v, hr, hR⟩
  exact ⟨e', w'', fr', hR', Comes.of_steps (Steps.trans hs (.one h1)) hs', hfn, hl⟩
theorem HR.turn0 (h : HR U E H n B W w) {b0 : Nat} (hB : ¬ B b0) (hin : ∀ k o l, H.get k = some o → E k = some l → l.b ≠ b0) (o : Obj) : HR U E H n B W (w.putObj b0 o) := by
  refine ⟨fun k o' hk => ?_, h.inj, h.out, h.new, fun b hb => ⟨(h.keep b hb).1, ?_⟩, h.os, h.tape, h.output, by rw [put_size']; exact h.size⟩
  · obtain ⟨l, h1, h2⟩ := h.ent k o' hk
    exact ⟨l, h1, h2.mono (.refl E) (put_other (hin k o' l hk h1))⟩
  · have hne : b ≠ b0 := fun e => hB (e ▸ hb)
    rw [put_other hne]
    exact (h.keep b hb).2
theorem HR.forget (h : HR U E H n B W w) {k : Nat} {l : Loc} {o : O} (hk : H.get k = some o) (hok : okK k = true) (he : E k = some l) (ob : Obj) : HR U E (H.set k none) n B W (w.putObj l.b ob) := by
  have old : ∀ j o', (H.set k none).get j = some o' → j ≠ k ∧ H.get j = some o' := fun j o' hj => by
    rw [HP.get_set _ _ _ hok] at hj
    split at hj
    · cases hj
    · exact ⟨‹_›, hj⟩
  refine (h.drop fun j o' hj => (old j o' hj).2).turn0 (h.out k l o hk he) (fun j o' l' hj ej hb => ?_) ob
  exact (old j o' hj).1 (h.inj j k l' l o' o (old j o' hj).2 hk ej he hb)
theorem rf_ok (hP : POk P C U) (hC : COk P C U B W) {g : Operand} {gf : FuncId} {lb : Array Value} {caps : List V} {c c' : YC} {F' : FR} {m : Nat} (hgv : a.eval g = .func (.func gf) #[] lb) (hcaps : DenL U E caps lb.toList)
    (henter : ∀ xs w, (callFunc gf xs).run P w = .ok (.enter gf xs) w) (hss : SS U E F H n D B W c.nt a w) (hok : okK n = true) (hok2 : okK (Nat.succ n) = true)
    (hr : run C m gf (.y (Nat.succ n) :: caps) ((H.set n (some .d)).set (Nat.succ n) (some (.y c F))) (Nat.succ (Nat.succ n)) = .ok x H3 n3) (hy : H3.get (Nat.succ n) = some (.y c' F'))
    (hQ : ∀ E' l a' w', E.le E' → E' n = some l → a'.tmps = a.tmps → a'.defers = ⟨.collected l.b, #[]⟩ :: a.defers → HR U E' (H3.set (Nat.succ n) none) n3 B W w' → Q .normal a' w') : (Code.rangeFunc g c.ps c.asg c.body).wp P Q a w := by
  refine (wpIn_wide (n := 5)).1 (wpIn_rangeFunc fun fn _ => ?_)
  have hsz : (w.alloc (.deferred (some []))).heap.size = w.heap.size + 1 := by simp
  have h1 : HR U (fun k => if k = n then some ⟨w.heap.size, 0, 0⟩ else E k) (H.set n (some .d)) (Nat.succ n) B W (w.alloc (.deferred (some []))) :=
    hss.hr.new_obj hok rfl ⟨rfl, heap_alloc_new w _⟩
  have le1 := hss.hr.le_new ⟨w.heap.size, 0, 0⟩
  have h2 := h1.new_obj (l := ⟨w.heap.size + 1, 0, 0⟩) (o := .y c F) (x := .loop { state := .ready, pending := none, fn := fn, tmps := a.tmps, params := c.ps, assign := c.asg, body := c.body, defers := w.heap.size }) hok2 hsz.symm
    ⟨rfl, fn, a.tmps, w.heap.size, by have := heap_alloc_new (w.alloc (.deferred (some []))) (.loop { state := .ready, pending := none, fn := fn, tmps := a.tmps, params := c.ps, assign := c.asg, body := c.body, defers := w.heap.size }); rw [hsz] at this; exact this, hss.sz, fun t v hv => ((hss.fr t v hv).mono le1).mono (h1.le_new _)⟩
  have le2 := h1.le_new ⟨w.heap.size + 1, 0, 0⟩
  generalize hE2 : (fun k => if k = Nat.succ n then some (⟨w.heap.size + 1, 0, 0⟩ : Loc) else (fun k => if k = n then some ⟨w.heap.size, 0, 0⟩ else E k) k) = E2 at h2 le2
  have e2n : E2 n = some ⟨w.heap.size, 0, 0⟩ := by
    rw [← hE2]
    have : n ≠ Nat.succ n := by omega
    simp [this]
  have e2y : E2 (Nat.succ n) = some ⟨w.heap.size + 1, 0, 0⟩ := by rw [← hE2]; simp
  have leE : E.le E2 := le1.trans le2
  have hcall := run_sound hP m B W hC gf _ _ _ x H3 n3 hr E2 _ (.func (.yield (w.heap.size + 1)) #[] #[] :: lb.toList) h2 (.cons (by simp only [Den]; exact ⟨_, e2y, rfl⟩) (hcaps.mono leE))
  refine ⟨w.heap.size + 1, [{ target := .collected w.heap.size, args := #[] }], ((w.alloc (.deferred (some []))).alloc (.loop { state := .ready, pending := none, fn := fn, tmps := a.tmps, params := c.ps, assign := c.asg, body := c.body, defers := w.heap.size })), { target := .fn (.func gf) lb, args := #[.func (.yield (w.heap.size + 1)) #[] #[]] }, ((w.alloc (.deferred (some []))).alloc (.loop { state := .ready, pending := none, fn := fn, tmps := a.tmps, params := c.ps, assign := c.asg, body := c.body, defers := w.heap.size })), gf, #[.func (.yield (w.heap.size + 1)) #[] #[]] ++ lb, ((w.alloc (.deferred (some []))).alloc (.loop { state := .ready, pending := none, fn := fn, tmps := a.tmps, params := c.ps, assign := c.asg, body := c.body, defers := w.heap.size })), run_enterLoop_outer _ _ _ _ _, ?_, fun f' _ => trivial, ?_, fun hs => absurd hs (by decide), ?_⟩
  · simp only [resolve, hgv]
    simp [go_sem]
  · simp [invoke, go_sem, henter]
  · have eargs : (Value.func (.yield (w.heap.size + 1)) #[] #[] :: lb.toList).toArray = #[.func (.yield (w.heap.size + 1)) #[] #[]] ++ lb := by
      apply Array.ext'; simp
    rw [eargs] at hcall
    rcases hcall with ⟨v, w', h3, _⟩ | ⟨_, hcall⟩
    · rw [henter] at h3; cases h3
    refine callsIn_wide.2 (hcall.mono fun e w3 he => ?_)
    cases e with
    | panicked ch => exact he.elim
    | outgrown => exact he.elim
    | returned v =>
      obtain ⟨E3, g1, g2, g3⟩ := he
      obtain ⟨ly, ey, _, fn', tmps', D', hL, _⟩ := g2.ent _ _ hy
      have := g1 _ _ e2y
      rw [ey] at this
      cases this
      refine ⟨none, _, run_endLoop hL (fun hh => (by cases hh)), ?_⟩
      exact hQ E3 ⟨w.heap.size, 0, 0⟩ _ _ (leE.trans g1) (g1 _ _ e2n) rfl rfl (g2.forget hy hok2 ey _)
end
def p1 : Option Code → Code
  | some (.seq _ (.seq a _)) => a
  | _ => .skip
def p7 : Option Code → Code
  | some (.seq _ (.seq _ (.seq a _))) => a
  | _ => .skip
def p8 : Option Code → Code
  | some (.seq _ (.seq _ (.seq _ (.seq (.seq a _) _)))) => a
  | _ => .skip
def pa : Option Code → Code
  | some (.seq _ (.seq _ (.seq _ (.seq (.seq _ (.block _ (.rangeFunc _ _ a _))) _)))) => a
  | _ => .skip
def pb : Option Code → Code
  | some (.seq _ (.seq _ (.seq _ (.seq (.seq _ (.block _ (.rangeFunc _ _ _ a))) _)))) => a
  | _ => .skip
def p13 : Option Code → Code
  | some (.seq _ (.seq _ (.seq _ (.seq _ (.seq a _))))) => a
  | _ => .skip
theorem body66 : Tryz.f66.body = some (.seq (q0 Tryz.f66.body) (.seq (p1 Tryz.f66.body) (.seq (p7 Tryz.f66.body) (.seq (.seq (p8 Tryz.f66.body) (.block 1 (.rangeFunc (.tmp 38) #[39] (pa Tryz.f66.body) (pb Tryz.f66.body)))) (.seq (p13 Tryz.f66.body) .ret))))) := by rfl
noncomputable def yc66 : YC := ⟨50, #[39], pa Tryz.f66.body, pb Tryz.f66.body⟩
noncomputable def Lw : Hooks := (161, wk 500) :: Lb
noncomputable def Cw : Cfg := KK Lw
theorem lw_ok {U : Nat → Value} {L : Hooks} {r : RG} : ∀ p ∈ Lw, HookOk Tryz.prog (KK L r) U p.1 p.2 := by
  intro p hp
  rcases List.mem_cons.1 hp with rfl | hp
  · exact hook_walk (m := 500)
  · exact lbb_ok p hp
noncomputable def s14 (F : FR) (H : HP) (n n0 : Nat) : Bool → Option O → R
  | true, some .d => rv (tupV (resL Tryz.f66.results.toList Cw F (H.set n0 none))) (H.set n0 none) n
  | _, _ => .no ["start: mark"]
noncomputable def s13 (n0 : Nat) : X → R
  | .nor F H n [(_, [.s k 0 1 (.ex 0)])] => s14 F H n n0 (Nat.beq k n0) (H.get n0)
  | .no s => .no s
  | _ => .no ["start: end"]
noncomputable def sy (m : Nat) (F : FR) (n0 : Nat) (H : HP) (n : Nat) : Option O → R
  | some (.y _ _) => s13 n0 (exec Cw m (comp Cw 66 50 (p13 Tryz.f66.body)) F (H.set (Nat.succ n0) none) n [(COL, [.s n0 0 1 (.ex 0)])])
  | _ => .no ["start: loop"]
noncomputable def sr (m : Nat) (F : FR) (n0 : Nat) : R → R
  | .ok _ H n => sy m F n0 H n (H.get (Nat.succ n0))
  | .no s => .no s
  | _ => .no ["start: panic"]
noncomputable def sl (m : Nat) (F : FR) (H : HP) (n : Nat) (caps : List V) : Bool → R
  | true => sr m F n (run Cw m 160 (.y (Nat.succ n) :: caps) ((H.set n (some .d)).set (Nat.succ n) (some (.y yc66 F))) (Nat.succ (Nat.succ n)))
  | false => .no ["start: pieces"]
noncomputable def sg (m : Nat) (F : FR) (H : HP) (n : Nat) : Option V → R
  | some (.f (.func g) [] caps) => sl m F H n caps (and (Nat.beq g 160) (and (okK n) (okK (Nat.succ n))))
  | _ => .no ["start: function"]
noncomputable def sa8 (m : Nat) : X → R
  | .nor F H n [] => sg m F H n (F.get 38)
  | .no s => .no s
  | _ => .no ["start 8"]
noncomputable def sa7 (m : Nat) : X → R
  | .nor F H n [] => sa8 m (exec Cw m (comp Cw 66 50 (p8 Tryz.f66.body)) F H n [])
  | .no s => .no s
  | _ => .no ["start 7"]
noncomputable def sa1 (m : Nat) : X → R
  | .nor F H n [] => sa7 m (exec Cw m (comp Cw 66 50 (p7 Tryz.f66.body)) F H n [])
  | .no s => .no s
  | _ => .no ["start 1"]
noncomputable def sa0 (m : Nat) : X → R
  | .nor F H n [] => sa1 m (exec Cw m (comp Cw 66 50 (p1 Tryz.f66.body)) F H n [])
  | .no s => .no s
  | _ => .no ["start 0"]
noncomputable def st (m : Nat) (l : List V) (H : HP) (n : Nat) : R := sa0 m (exec Cw m (comp Cw 66 50 (q0 Tryz.f66.body)) (frame l) H n [])
section
variable {U : Nat → Value} {E E' : Env} {F : FR} {H H' : HP} {n n' : Nat} {B : Nat → Prop} {W w w' : World} {x : V} {L : Hooks} {r : RG} {m n0 : Nat}
theorem sa0_inv {X : X} (h : sa0 m X = .ok x H' n') : ∃ F H n, X = .nor F H n [] ∧ sa1 m (exec Cw m (comp Cw 66 50 (p1 Tryz.f66.body)) F H n []) = .ok x H' n' := by
  unfold sa0 at h; split at h
  · exact ⟨_, _, _, rfl, h⟩
  · cases h
  · cases h
theorem sa1_inv {X : X} (h : sa1 m X = .ok x H' n') : ∃ F H n, X = .nor F H n [] ∧ sa7 m (exec Cw m (comp Cw 66 50 (p7 Tryz.f66.body)) F H n []) = .ok x H' n' := by
  unfold sa1 at h; split at h
  · exact ⟨_, _, _, rfl, h⟩
  · cases h
  · cases h
theorem sa7_inv {X : X} (h : sa7 m X = .ok x H' n') : ∃ F H n, X = .nor F H n [] ∧ sa8 m (exec Cw m (comp Cw 66 50 (p8 Tryz.f66.body)) F H n []) = .ok x H' n' := by
  unfold sa7 at h; split at h
  · exact ⟨_, _, _, rfl, h⟩
  · cases h
  · cases h
theorem sa8_inv {X : X} (h : sa8 m X = .ok x H' n') : ∃ F H n caps, X = .nor F H n [] ∧ F.get 38 = some (.f (.func 160) [] caps) ∧ okK n = true ∧ okK (Nat.succ n) = true ∧ sr m F n (run Cw m 160 (.y (Nat.succ n) :: caps) ((H.set n (some .d)).set (Nat.succ n) (some (.y yc66 F))) (Nat.succ (Nat.succ n))) = .ok x H' n' := by
  unfold sa8 at h; split at h
  · rename_i F H n
    unfold sg at h
    split at h
    · rename_i g caps hg
      cases hb : and (Nat.beq g 160) (and (okK n) (okK (Nat.succ n))) with
      | false => rw [hb] at h; cases h
      | true =>
        rw [hb] at h
        obtain ⟨h1, hb⟩ := Bool.and_eq_true_iff.1 hb
        obtain ⟨h2, h3⟩ := Bool.and_eq_true_iff.1 hb
        have := Nat.eq_of_beq_eq_true h1
        subst this
        exact ⟨F, H, n, caps, rfl, hg, h2, h3, h⟩
    · cases h
  · cases h
  · cases h
theorem sr_inv {q : R} (h : sr m F n0 q = .ok x H' n') : ∃ y H n c F0, q = .ok y H n ∧ H.get (Nat.succ n0) = some (.y c F0) ∧ s13 n0 (exec Cw m (comp Cw 66 50 (p13 Tryz.f66.body)) F (H.set (Nat.succ n0) none) n [(COL, [.s n0 0 1 (.ex 0)])]) = .ok x H' n' := by
  unfold sr at h; split at h
  · rename_i y H n
    unfold sy at h
    split at h
    · rename_i c F0 hg; exact ⟨y, H, n, c, F0, rfl, hg, h⟩
    · cases h
  · cases h
  · cases h
theorem s13_inv {X : X} (h : s13 n0 X = .ok x H' n') : ∃ F H f, X = .nor F H n' [(f, [.s n0 0 1 (.ex 0)])] ∧ H.get n0 = some .d ∧ tupV (resL Tryz.f66.results.toList Cw F (H.set n0 none)) = some x ∧ H' = H.set n0 none := by
  unfold s13 at h; split at h
  · rename_i F H n f k
    cases hb : Nat.beq k n0 with
    | false => rw [hb] at h; cases h
    | true =>
      have := Nat.eq_of_beq_eq_true hb
      subst this
      rw [hb] at h
      cases hg : H.get k with
      | none => rw [hg] at h; cases h
      | some o =>
        rw [hg] at h
        cases o <;> try (cases h; done)
        obtain ⟨h1, rfl, rfl⟩ := rv_inv h
        exact ⟨F, H, f, rfl, hg, h1, rfl⟩
  · cases h
  · cases h
theorem hkw_none {f nt : Nat} (h : f ≠ 232) (c : Code) : HkOk Tryz.prog Cw U f nt c := bh_none (fun q hq => by
  have := setL_e (hq : (setL (.e : PT (Nat × RS)) [(232, (2, collect))]).get f = some q)
  simp only [List.mem_cons, List.not_mem_nil, or_false, Prod.mk.injEq] at this
  exact h this.1) c
theorem hook_start : HookOk Tryz.prog (KK L r) U 66 (st m) := by
  intro B W hC l H n x H' n' h E w xs hr hd
  have hC0 : COk Tryz.prog Cw U B W := cok_kk RgOk.e hC
  have hP : POk Tryz.prog Cw U := kk_ok lw_ok
  have hrec : RecOk Tryz.prog Cw U (exec Cw m) := (rec_ok hP m).1
  have pnt : Tryz.f66.ntmps = 50 := rfl
  refine .inr ⟨enter_of Tryz.func66 (name_ne Tryz.func66) rfl _ w, ?_⟩
  refine calls_of_wp_mark Tryz.func66 body66 ?_
  obtain ⟨F1, H1, n1, hX0, h⟩ := sa0_inv h
  refine wp_seq (hrec B W hC0 (q0 Tryz.f66.body) 66 50 (hkw_none (by decide) _) E (frame l) H n [] _ w _ ⟨fun t v hv => ?_, ?_, hr, .nil⟩ ?_)
  · obtain ⟨y, h1, h2⟩ := hd.get (frame_get hv)
    have hlt := (List.getElem?_eq_some_iff.1 h1).1
    have : (xs.toArray ++ Array.replicate (Tryz.f66.ntmps - xs.toArray.size) undef).getD t undef = y := by
      rw [Array.getD_eq_getD_getElem?, Array.getElem?_append_left (by simpa using hlt)]
      simp [h1]
    simp only
    rw [this]
    exact h2
  · rw [pnt]; simp; omega
  rw [hX0]
  intro E1 a1 w1 he1 hs1
  obtain ⟨F2, H2, n2, hX1, h⟩ := sa1_inv h
  refine wp_seq (hrec B W hC0 (p1 Tryz.f66.body) 66 50 (hkw_none (by decide) _) E1 F1 H1 n1 [] a1 w1 _ hs1 ?_)
  rw [hX1]
  intro E2 a2 w2 he2 hs2
  obtain ⟨F3, H3, n3, hX2, h⟩ := sa7_inv h
  refine wp_seq (hrec B W hC0 (p7 Tryz.f66.body) 66 50 (hkw_none (by decide) _) E2 F2 H2 n2 [] a2 w2 _ hs2 ?_)
  rw [hX2]
  intro E3 a3 w3 he3 hs3
  obtain ⟨F4, H4, n4, caps, hX3, h38, hok, hok2, h⟩ := sa8_inv h
  refine wp_seq (wp_seq (hrec B W hC0 (p8 Tryz.f66.body) 66 50 (hkw_none (by decide) _) E3 F3 H3 n3 [] a3 w3 _ hs3 ?_))
  rw [hX3]
  intro E4 a4 w4 he4 hs4
  obtain ⟨y5, H5, n5, c5, F5, hrun, hy5, h⟩ := sr_inv h
  have v38 := hs4.fr 38 _ h38
  simp only [Den] at v38
  obtain ⟨bs, cs, hb0, hcs, v38⟩ := v38
  cases hb0.nil_inv
  refine wp_block (rf_ok (c := yc66) hP hC0 (lb := cs.toArray) (caps := caps) v38 (by simpa using hcs) (fun ys W => enter_of Tryz.func160 (name_ne Tryz.func160) rfl ys W) hs4 hok hok2 hrun hy5 fun E5 l5 a5 w5 le5 el5 ht5 hd5 hr5 => ?_)
  obtain ⟨F6, H6, f6, hX6, hg6, hres, rfl⟩ := s13_inv h
  have df4 : a4.defers = [] := hs4.df.nil_inv
  refine wp_seq (hrec B W hC0 (p13 Tryz.f66.body) 66 50 (hkw_none (by decide) _) E5 F4 _ n5 [(COL, [.s n4 0 1 (.ex 0)])] a5 w5 _ ⟨fun t v hv => by rw [ht5]; exact (hs4.fr t v hv).mono le5, by rw [ht5]; exact hs4.sz, hr5, by rw [hd5, df4]; exact .col el5 .nil⟩ ?_)
  rw [hX6]
  intro E6 a6 w6 le6 hs6
  refine wp_ret ⟨rfl, ?_⟩
  obtain ⟨tm6, df6⟩ := a6
  obtain ⟨fr6, sz6, hr6, dd6⟩ := hs6
  simp only at dd6 ⊢
  have hcol : ∃ l6, E6 n4 = some l6 ∧ df6 = [⟨.collected l6.b, #[]⟩] := by
    cases dd6 with
    | col he hd => cases hd; exact ⟨_, he, rfl⟩
    | cons hl hd =>
      exfalso
      obtain ⟨y, ys, _, hy, _⟩ := hl.cons_inv
      simp only [Den] at hy
      obtain ⟨l, _, hle, _⟩ := hy
      exact absurd hle (by show ¬ 1 ≤ 0; omega)
  obtain ⟨l6, e6, rfl⟩ := hcol
  obtain ⟨l7, e7, _, hL⟩ := hr6.ent n4 _ hg6
  rw [e6] at e7
  cases e7
  have hf := hr6.forget hg6 hok e6 (.deferred none)
  obtain ⟨u, f1, f2⟩ := results_sound (fn := Tryz.f66) (a := ⟨tm6, []⟩) (D := []) hC0 ⟨fun t z hz => fr6 t z hz, sz6, hf, .nil⟩ hres
  exact ⟨l6.b, _, rfl, run_takeDeferred hL, u, f1, E6, (((((he1.trans he2).trans he3).trans he4).trans le5).trans le6), hf, f2⟩
end
end Go.CE
end
