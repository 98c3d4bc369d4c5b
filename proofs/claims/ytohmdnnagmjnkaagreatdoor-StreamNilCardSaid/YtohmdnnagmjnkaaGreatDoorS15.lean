/-
  Part 15 of the proof.
-/
import Derived.Test.YtohmdnnagmjnkaaGreatDoorS10
import Derived.Shelf.Strings.Builder1
import Derived.Shelf.RegionOpenPlain
import Derived.Test.YtohmdnnagmjnkaaGreatDoorS6
import Derived.Lib.FrozenHead
import Derived.Test.YtohmdnnagmjnkaaGreatDoorS11
import Derived.Test.YtohmdnnagmjnkaaGreatDoorS12
import Derived.Test.YtohmdnnagmjnkaaGreatDoorS13
import Derived.Test.YtohmdnnagmjnkaaGreatDoorS14
set_option linter.unusedSimpArgs false
set_option linter.unusedVariables false
set_option linter.defProp false
section
namespace Go.CE
open Go.RowKit
open Go.Proofs
section
variable {U : Nat → Value} {L L' : Hooks} {B : Nat → Prop} {W : World} {f : FuncId} {m : Nat}
theorem cok_kk (h : COk Tryz.prog (KK L) U B W) : COk Tryz.prog (KK L') U B W := ⟨h.ty, h.gl, h.u, h.cmp, h.hel, h.eg⟩
theorem memo_hook (hP : POk Tryz.prog (KK L') U) : ∀ {Ms : List Memo}, (∀ M ∈ Ms, M.f = f ∧ memoOk (KK L') m M = true) → HookOk Tryz.prog (KK L) U f (memoH Ms)
  | [], h => fun B W hC l H n x H' n' hr => by simp [memoH] at hr
  | M :: r, h => fun B W hC l H n x H' n' hr E w xs hh hd => by
    simp only [memoH] at hr
    cases he : eqXL M.args l with
    | false =>
      rw [he] at hr
      exact memo_hook hP (fun M' hM => h M' (List.mem_cons_of_mem _ hM)) B W hC l H n x H' n' hr E w xs hh hd
    | true =>
      rw [he] at hr
      simp only [memo1] at hr
      obtain ⟨hf, hok⟩ := h M List.mem_cons_self
      have := eqXL_eq he
      subst this
      cases hp : putAll n M.L H with
      | none => rw [hp] at hr; cases hr
      | some G =>
        rw [hp] at hr
        simp only [memoK, R.ok.injEq] at hr
        obtain ⟨rfl, rfl, rfl⟩ := hr
        subst hf
        exact memo_res (m := m) (fun B W hC => run_sound hP m B W hC) hok (cok_kk hC) hh hd hp
end
end Go.CE
end
section
namespace Go.CE
open Go.RowKit
open Go.Proofs
set_option maxRecDepth 100000
theorem calls_of_res {P : Program} {f : FuncId} {fn : Func} {c : Code} {xs : Array Value} {w : World} {R : Value → World → Prop} (hf : P.funcs[f]? = some fn) (hn : fn.name ≠ "runtime.NumGoroutine") (hb : fn.body = some c) (h : CallRes P f xs w R) : Calls P f xs w fun | .returned v, w' => R v w' | _, _ => False := by
  have he : (callFunc f xs).run P w = .ok (.enter f xs) w := by simp [callFunc, go_sem, hf, hn, hb]
  rcases h with ⟨v, w', h1, _⟩ | ⟨_, h⟩
  · rw [he] at h1; cases h1
  · exact h
structure GlOk (w : World) : Prop where
  rk : ∀ (j : Nat) x, [Value.string ⟨#[124]⟩, .string ⟨#[38, 45]⟩, .string ⟨#[62, 62]⟩, .string ⟨#[126]⟩, .string ⟨#[46]⟩][j]? = some x → w.cell? ⟨0, j, none⟩ = some x
  es : ∀ (j : Nat) x, (int8 [110, 10, 114, 13, 116, 9])[j]? = some x → w.cell? ⟨1, j, none⟩ = some x
theorem cell_lt {w : World} {b j : Nat} {x : Value} (h : w.cell? ⟨b, j, none⟩ = some x) : b < w.heap.size := by
  cases hb : w.heap[b]? with
  | none => simp [World.cell?, hb] at h
  | some o => exact (Array.getElem?_eq_some_iff.1 hb).1
theorem GlOk.cok {w : World} (h : GlOk w) {U : Nat → Value} (hu : ∀ i, (U i).oneCell' = true) {L : Hooks} : COk Tryz.prog (KK L) U (fun b => b < w.heap.size) w := by
  refine cfg_ok (kk_like L) hu fun b l hb => ?_
  have := setL_e hb
  simp only [List.mem_cons, List.not_mem_nil, or_false, Prod.mk.injEq] at this
  rcases this with ⟨rfl, rfl⟩ | ⟨rfl, rfl⟩
  · exact ⟨cell_lt (h.rk 0 _ rfl), h.rk⟩
  · exact ⟨cell_lt (h.es 0 _ rfl), h.es⟩
def isT : R → Bool
  | .ok (.v (.bool true)) _ _ => true
  | _ => false
theorem isT_inv {r : R} (h : isT r = true) : ∃ H n, r = .ok (.v (.bool true)) H n := by
  unfold isT at h
  split at h
  · exact ⟨_, _, rfl⟩
  · cases h
theorem law_of {L : Hooks} {m : Nat} {f : FuncId} {fn : Func} {c : Code} {l : List V} {xs : List Value} {U : Nat → Value} (hu : ∀ i, (U i).oneCell' = true) (hL : ∀ p ∈ L, HookOk Tryz.prog (KK L) U p.1 p.2) (hf : Tryz.prog.funcs[f]? = some fn) (hb : fn.body = some c) (hd : DenL U (fun _ => none) l xs)
    (hr : isT (run (KK L) m f l .e 0) = true) {w : World} (hg : GlOk w) : Calls Tryz.prog f xs.toArray w fun e w' => e = .returned (.bool true) ∧ Go.LE.Keeps w [] w' := by
  obtain ⟨H, n, hr⟩ := isT_inv hr
  refine (calls_of_res hf (name_ne hf) hb (run_sound (kk_ok hL) m _ _ (hg.cok hu) f l .e 0 _ H n hr (fun _ => none) w xs (HR.here w) hd)).mono fun e w' he => ?_
  cases e with
  | returned v =>
    obtain ⟨E', h1, h2, h3⟩ := he
    exact ⟨by rw [h3.v_inv], ⟨h2.os, h2.tape, h2.output, h2.size, fun b hb _ => (h2.keep b hb).2⟩⟩
  | panicked c => exact he.elim
  | outgrown => exact he.elim
end Go.CE
end
section
namespace Go.CE
open Go.Proofs
def ch8 : Bool → Nat → Option UInt8
  | true, n => some n.toUInt8
  | false, _ => none
def chV : V → Option UInt8
  | .v (.int .u8 (.ofNat n)) => ch8 (Nat.blt n 256) n
  | _ => none
def chL : List V → Option (List UInt8)
  | [] => some []
  | x :: r => conO (chV x) (chL r)
noncomputable def hkB4 (g o m : Nat) (bs : List V) : Bool → Option (List UInt8) → HP → Nat → R
  | true, some l, H, n => .ok (.v (.string ⟨⟨l⟩⟩)) (H.set g (some (.r 5 bs))) n
  | _, _, _, _ => .no ["builder"]
noncomputable def hkB3 (g o m : Nat) : Option O → HP → Nat → R
  | some (.c 5 bs _), H, n => hkB4 g o m bs (and (okK g) (and (okK m) (and (Nat.ble (Nat.add o m) (lng bs)) (Nat.blt 0 m)))) (chL ((bs.drop o).take m)) H n
  | some (.r 5 bs), H, n => hkB4 g o m bs (and (okK g) (and (okK m) (and (Nat.ble (Nat.add o m) (lng bs)) (Nat.blt 0 m)))) (chL ((bs.drop o).take m)) H n
  | _, _, _ => .no ["builder"]
noncomputable def hkB2 : Option V → HP → Nat → R
  | some (.s g o m _), H, n => hkB3 g o m (H.get g) H n
  | some (.v (.slice none 0 0)), H, n => .ok (.v (.string ⟨⟨[]⟩⟩)) H n
  | _, _, _ => .no ["builder"]
noncomputable def hkB1 : Option O → HP → Nat → R
  | some (.c 71 vs _), H, n => hkB2 (vs[3]?) H n
  | _, _, _ => .no ["builder"]
noncomputable def hkB : List V → HP → Nat → R
  | [.p k 2], H, n => hkB1 (H.get k) H n
  | _, _, _ => .no ["builder"]
def adr0 : Bool → Option Bool
  | true => some false
  | false => none
def adr (k : Nat) : Option V → Option Bool
  | some (.v (.pointer none)) => some true
  | some (.p k' 2) => adr0 (Nat.beq k k')
  | _ => none
def adr2 : Bool → Option Bool → Option Bool
  | true, o => o
  | false, _ => none
noncomputable def adr1 (k : Nat) : Option O → Option Bool
  | some (.c 71 vs _) => adr2 (Nat.ble 5 (lng vs)) (adr k vs[2]?)
  | _ => none
noncomputable def bufO : Option O → Option V
  | some (.c 71 vs _) => vs[3]?
  | _ => none
noncomputable def hkW5 : Option HP → Nat → Nat → R
  | some H, m, n => .ok (.t [.v (.int .i64 (Int.ofNat m)), .v .nilIface]) H n
  | none, _, _ => .no ["write store"]
noncomputable def hkW4 (k m : Nat) : R → R
  | .ok (.s g o q c) H n => hkW5 (wr H k 3 [.s g o q c]) m n
  | _ => .no ["write append"]
noncomputable def apR2 (g m : Nat) (s : ByteArray) : Bool → List V → HP → Nat → R
  | true, bs, H, n => .ok (.s n 0 (Nat.add m s.size) (.un 1)) ((H.set g none).set n (some (.r 5 (bs ++ byCells s)))) (Nat.succ n)
  | false, _, _, _ => .no ["row"]
noncomputable def apR (s : ByteArray) : V → Option O → HP → Nat → R
  | .s g 0 m (.un 1), some (.r 5 bs), H, n => apR2 g m s (and (okK g) (and (okK n) (and (Nat.beq m (lng bs)) (and (Nat.ble (Nat.add m s.size) 140737488355328) (Nat.blt 0 s.size))))) bs H n
  | b, some (.c _ _ _), H, n => apT (K0.ty 67) (K0.ty 9) b (.v (.string s)) K0 H n
  | b, none, H, n => apT (K0.ty 67) (K0.ty 9) b (.v (.string s)) K0 H n
  | _, _, _, _ => .no ["row"]
noncomputable def gtB : V → HP → Option O
  | .s g _ _ _, H => H.get g
  | _, _ => none
noncomputable def hkW3 (k : Nat) (s : ByteArray) : Option V → HP → Nat → R
  | some b, H, n => hkW4 k s.size (apR s b (gtB b H) H n)
  | none, _, _ => .no ["write buf"]
noncomputable def hkW2 (k : Nat) (s : ByteArray) : Option HP → Nat → R
  | some H, n => hkW3 k s (bufO (H.get k)) H n
  | none, _ => .no ["write addr"]
noncomputable def hkW1 (k : Nat) (s : ByteArray) : Option Bool → HP → Nat → R
  | some true, H, n => hkW2 k s (wr H k 2 [.p k 2]) n
  | some false, H, n => hkW2 k s (some H) n
  | none, _, _ => .no ["write check"]
noncomputable def hkW : List V → HP → Nat → R
  | [.p k 2, .v (.string s)], H, n => hkW1 k s (adr1 k (H.get k)) H n
  | _, _, _ => .no ["write args"]
end Go.CE
end
section
namespace Go.Proofs.YtohmdnnagmjnkaaGreatDoor
open Go.RowKit
set_option maxRecDepth 10000
theorem size69 : (Tryz.prog.info? 69).map (·.size) = some 2 := by kernel_rfl
theorem cells71 : Tryz.prog.cellsOf 71 = 5 := by kernel_rfl
theorem liesB (n : Nat) : liesAt Tryz.prog Tryz.prog.depth 71 (n + 1) 2 69 1 = true := by kernel_rfl
abbrev pB (b : Nat) : Value := .pointer (some ⟨b, 2, none⟩)
set_option maxHeartbeats 1000000 in
theorem cc_used (b : Nat) (w : World) (h0 : w.cell? ⟨b, 2, none⟩ = some (pB b)) :
    Calls Tryz.prog 89 #[pB b] w fun e w' => e = .returned (.tuple #[]) ∧ w' = w := by
  obtain ⟨j, hj, _⟩ := Option.map_eq_some_iff.1 size69
  go_enter Tryz.func89, Tryz.ntmps89
  go_wp2
  rw [Lib.run_neq_ptr_same w _ Tryz.underlying66 hj]
  go_wp2
  go_end0
  exact ⟨rfl, rfl⟩
set_option maxHeartbeats 1000000 in
theorem cc_fresh (b n : Nat) (w : World) (h0 : w.cell? ⟨b, 2, none⟩ = some (.pointer none)) (hsh : w.shape? b = some (71, n)) (hn : 5 ≤ n) (hfz : w.frozen? ⟨b, 2, none⟩ = false) :
    Calls Tryz.prog 89 #[pB b] w fun e w' => e = .returned (.tuple #[]) ∧ w' = w.setCell ⟨b, 2, none⟩ (pB b) := by
  obtain ⟨j, hj, hjs⟩ := Option.map_eq_some_iff.1 size69
  have hl : liesAt Tryz.prog Tryz.prog.depth 71 (n / Tryz.prog.cellsOf 71) 2 69 1 = true := by
    rw [cells71]
    have : n / 5 = (n / 5 - 1) + 1 := by omega
    rw [this]
    exact liesB _
  go_enter Tryz.func89, Tryz.ntmps89
  go_wp2
  rw [Lib.run_to_unsafe w ⟨b, 2, none⟩ Tryz.underlying66 Tryz.underlying204 hj (by rw [hjs]; decide) hsh (by show 2 < n; omega)]
  simp only [Result.andThen]
  rw [Oper.upon_value]
  go_wp2
  rw [run_callFunc_extern Tryz.func126 (by kernel_rfl) (by kernel_rfl) (by kernel_rfl) (e := Extern.AbiNoEscape.same) (by kernel_rfl)]
  rw [Lib.run_noEscape]
  simp only [Result.andThen]
  rw [Oper.upon_value]
  go_wp2
  rw [Lib.run_from_unsafe w ⟨b, 2, none⟩ Tryz.underlying204 Tryz.underlying66 hj hsh hl]
  simp only [Result.andThen]
  rw [Oper.upon_value]
  go_wp2
  go_end0
  exact ⟨rfl, rfl⟩
set_option maxHeartbeats 2000000 in
theorem str_some (b m cap : Nat) (a : Addr) (s : ByteArray) (w w' : World) (hc : cap ≠ 0) (c1 : w.drew.cell? ⟨b, 3, none⟩ = some (.slice (some a) m cap)) (hUS : (Builtin.unsafeString_ #[138, 3] 9 #[.pointer (some a), .int .i64 m]).run Tryz.prog w.drew = .ok (.string s) w') :
    Calls Tryz.prog 52 #[pB b] w fun e w2 => e = .returned (.string s) ∧ w2 = w' := by
  have hSD : (Builtin.unsafeSliceData_ #[67] 138 #[.slice (some a) m cap]).run Tryz.prog w.drew = .ok (.pointer (some a)) w.drew :=
    Lib.run_unsafeSliceData_row _ _ _ _ _ _ hc
  have mixed := hmix
  go_enter Tryz.func52, Tryz.ntmps52
  go_wp2
  go_region_o
  all_goals (go_wp2; go_ret; exact ⟨rfl, rfl⟩)
set_option maxHeartbeats 2000000 in
theorem str_nil (b : Nat) (w : World) (c1 : w.drew.cell? ⟨b, 3, none⟩ = some (.slice none 0 0)) :
    Calls Tryz.prog 52 #[pB b] w fun e w' => e = .returned (.string ⟨#[]⟩) ∧ w' = w.drew := by
  have hUS := fun (W : World) (q : Option Addr) => Lib.run_unsafeString_none (P := Tryz.prog) W 138 3 9 q
  have hSD : (Builtin.unsafeSliceData_ #[67] 138 #[.slice none 0 0]).run Tryz.prog w.drew = .ok (.pointer none) w.drew := rfl
  have mixed := hmix
  go_enter Tryz.func52, Tryz.ntmps52
  go_wp2
  go_region_o
  all_goals (go_wp2; go_ret; exact ⟨rfl, rfl⟩)
theorem wpList_app {ops : Array Oper} {rest : List Oper} {o : Oper} {a : Act} {w w' : World} {Q : Exit → Act → World → Prop} (hgd : o.guard = none) (sl x : Operand) (t u : TypeId)
    (ho : o.op = .call { callee := .builtin .append, args := #[sl, x], argTypes := #[t, u] }) (v y v' : Value) (hs : a.eval sl = v) (hx : a.eval x = y) (hr : (Builtin.append_ #[t, u] o.type #[v, y]).run Tryz.prog w = .ok v' w')
    (h : wpList Tryz.prog ops Q rest (a.put o.dst v') w') : wpList Tryz.prog ops Q (o :: rest) a w := by
  refine wpList_plain hgd fun K hK => ?_
  unfold Oper.wp execOp
  simp only [ho, resolve, invoke, builtin, Sem.run_bind, Sem.run_pure, Result.andThen_ok, List.map_toArray, List.map_cons, List.map_nil, hs, hx, hr]
  exact hK _ _ h
set_option maxHeartbeats 2000000 in
theorem write_at (b : Nat) (s : ByteArray) (v y : Value) (ao : Option Addr) (n' cap : Nat) (w w1 w2 : World) (hcc : Calls Tryz.prog 89 #[pB b] w fun e w' => e = .returned (.tuple #[]) ∧ w' = w1) (c1 : w1.cell? ⟨b, 3, none⟩ = some v)
    (happ : (Builtin.append_ #[67, 9] 67 #[v, .string s]).run Tryz.prog w1 = .ok (.slice ao n' cap) w2) (d1 : w2.cell? ⟨b, 3, none⟩ = some y) (f1 : w2.frozen? ⟨b, 3, none⟩ = false) :
    Calls Tryz.prog 53 #[pB b, .string s] w fun e w' => e = .returned (.tuple #[.int .i64 s.size, .nilIface]) ∧ w' = w2.setCell ⟨b, 3, none⟩ (.slice ao n' cap) := by
  go_enter Tryz.func53, Tryz.ntmps53
  go_wp2_with (refine hcc.mono ?_)
  rintro e w' ⟨rfl, rfl⟩
  go_wp2_with (at_builtin; refine wpList_app rfl _ _ 67 9 rfl _ _ _ rfl rfl happ ?_)
  go_wp2
  go_ret2
  exact ⟨rfl, rfl⟩
end Go.Proofs.YtohmdnnagmjnkaaGreatDoor
end
section
namespace Go.CE
open Go.RowKit
open Go.Proofs
section
variable {C : Cfg} {U : Nat → Value} {E E' : Env} {H H' : HP} {n n' : Nat} {B : Nat → Prop} {W w w' : World} {x : V} {L : Hooks}
theorem enter_of {P : Program} {f : FuncId} {fn : Func} {c : Code} (hf : P.funcs[f]? = some fn) (hn : fn.name ≠ "runtime.NumGoroutine") (hb : fn.body = some c) (xs : Array Value) (w : World) : (callFunc f xs).run P w = .ok (.enter f xs) w := by
  simp [callFunc, go_sem, hf, hn, hb]
theorem chV_inv {v : V} {b : UInt8} (h : chV v = some b) : v = .v (.int .u8 (b.toNat : Int)) := by
  unfold chV at h
  split at h
  · rename_i m
    cases hb : Nat.blt m 256 with
    | false => rw [hb] at h; cases h
    | true =>
      rw [hb] at h
      simp only [ch8, Option.some.injEq] at h
      have hm : m < 256 := by simpa using hb
      subst h
      have : m.toUInt8.toNat = m := by simp [Nat.mod_eq_of_lt hm]
      rw [this]
      rfl
  · cases h
theorem chL_get : ∀ {l : List V} {bs : List UInt8}, chL l = some bs → bs.length = l.length ∧ ∀ (j : Nat) (b : UInt8), bs[j]? = some b → l[j]? = some (V.v (.int .u8 (b.toNat : Int)))
  | [], bs, h => by simp only [chL, Option.some.injEq] at h; subst h; exact ⟨rfl, fun j b hj => by simp at hj⟩
  | x :: r, bs, h => by
    rw [chL] at h
    obtain ⟨q, qs, h1, h2, rfl⟩ := conO_inv h
    obtain ⟨g1, g2⟩ := chL_get h2
    refine ⟨by simp [g1], fun j b hj => ?_⟩
    cases j with
    | zero => simp at hj; subst hj; simp [chV_inv h1]
    | succ j => simpa using g2 j b (by simpa using hj)
theorem run_unsafeString_off {P : Program} (w : World) (pt it ty e : TypeId) (hp : P.underlying pt = some (.pointer e)) (hc : P.cellsOf e = 1) (g off cells : Nat) (hsh : w.shape? g = some (e, cells)) (l : List UInt8) (h0 : l ≠ []) (hn : off + l.length ≤ cells) (h63 : l.length ≤ 9223372036854775807)
    (hcell : ∀ j x, l[j]? = some x → w.cell? ((⟨g, off, none⟩ : Addr).add j) = some (.int .u8 x.toNat)) :
    (Builtin.unsafeString_ #[pt, it] ty #[.pointer (some ⟨g, off, none⟩), .int .i64 l.length]).run P w = .ok (.string ⟨l.toArray⟩) (w.freeze ⟨g, off, none⟩ l.length) := by
  have hl : l.length ≠ 0 := by simpa using h0
  have hlb := Lib.run_loadBytes (P := P) w l ⟨g, off, none⟩ .empty hcell
  have hlies : liesAt P P.depth e (cells / P.cellsOf e) off e l.length = true := by
    have hd : P.depth = (2 * (P.types.size + Made.depth) + 1) + 1 := rfl
    rw [hd]
    simp only [liesAt, Bool.or_eq_true]
    left
    rw [hd]
    simp [rowAt, hc, hn, sameLayout, Nat.mod_one]
  have h63' : ¬ (9223372036854775807 : Int) < (l.length : Int) := by omega
  have hdef : Builtin.unsafeString_ #[pt, it] ty #[.pointer (some ⟨g, off, none⟩), .int .i64 l.length] =
      (do
        let n ← asInt (.int .i64 l.length)
        if n < 0 then runtimePanic (.error "unsafe.String: len out of range")
        if n > IntKind.i64.max then unsupported (.unsafePointer "String: a length above the largest int")
        if n = 0 then pure (.string .empty)
        else if ← variablesAt ⟨g, off, none⟩ (← elemOf pt) n.toNat then do
          let s ← loadBytes ⟨g, off, none⟩ .empty n.toNat
          freeze ⟨g, off, none⟩ n.toNat
          pure (.string s)
        else unsupported (.unsafePointer "String: not so many bytes at ptr")) := rfl
  rw [hdef]
  have hmax : IntKind.i64.max = 9223372036854775807 := rfl
  have hneg : ¬ (l.length : Int) < 0 := by omega
  simp [asInt, asIntOf, hmax, h63', hneg, hl, variablesAt, hsh, elemOf, run_underlying hp, hlies, hlb]
theorem cells5 : Tryz.prog.cellsOf 5 = 1 := by kernel_rfl
theorem row_of (hr : HR U E H n B W w) {g : Nat} {bs : List V} (h : (∃ len, H.get g = some (.c 5 bs len)) ∨ H.get g = some (.r 5 bs)) :
    ∃ l, E g = some l ∧ ∃ cs us junk lo hi, w.heap[l.b]? = some (.cells cs 5 (lo, hi)) ∧ cs.toList.drop l.d = us ++ junk ∧ DenL U E bs us ∧ cs.size = l.d + l.t ∧ hi ≤ l.d + bs.length := by
  rcases h with ⟨len, h⟩ | h
  · obtain ⟨l, he, _, cs, us, junk, h1, h2, h3, h4⟩ := hr.ent g _ h
    exact ⟨l, he, cs, us, junk, 0, 0, h1, h2, h3, h4, Nat.zero_le _⟩
  · obtain ⟨l, he, cs, us, junk, lo, hi, h1, h2, h3, h4, h5⟩ := hr.ent g _ h
    exact ⟨l, he, cs, us, junk, lo, hi, h1, h2, h3, h4, h5⟩
theorem bld_of (hr : HR U E H n B W w) {k : Nat} {vs : List V} {len : Nat} (h : H.get k = some (.c 71 vs len)) :
    ∃ b t, E k = some ⟨b, 0, t⟩ ∧ CSat U E ⟨b, 0, t⟩ w 71 vs := by
  obtain ⟨⟨b, d, t⟩, he, ⟨_, hz⟩, hc⟩ := hr.ent k _ h
  have : d = 0 := hz (by decide)
  subst this
  exact ⟨b, t, he, hc⟩
theorem freeze_at {cs : Array Value} {T lo hi : Nat} {g off m : Nat} (hm : m ≠ 0) (h : w.heap[g]? = some (.cells cs T (lo, hi))) : ∃ lo' hi', (w.freeze ⟨g, off, none⟩ m).heap[g]? = some (.cells cs T (lo', hi')) ∧ hi' ≤ max hi (off + m) := by
  unfold World.freeze
  rw [if_neg hm]
  simp only [Array.getElem?_modify, if_true, h, Option.map_some]
  by_cases hlh : lo == hi
  · simp only [hlh, if_true]
    exact ⟨_, _, rfl, by omega⟩
  · simp only [hlh]
    exact ⟨_, _, rfl, by omega⟩
theorem freeze_other {g off m b : Nat} (hb : b ≠ g) : (w.freeze ⟨g, off, none⟩ m).heap[b]? = w.heap[b]? := by
  unfold World.freeze
  split
  · rfl
  · simp only [Array.getElem?_modify, if_neg (Ne.symm hb)]
theorem freeze_rest {g off m : Nat} : (w.freeze ⟨g, off, none⟩ m).os = w.os ∧ (w.freeze ⟨g, off, none⟩ m).tape = w.tape ∧ (w.freeze ⟨g, off, none⟩ m).output = w.output ∧ (w.freeze ⟨g, off, none⟩ m).heap.size = w.heap.size := by
  unfold World.freeze
  split <;> simp
theorem hkB3_inv {g o m : Nat} {ob : Option O} (h : hkB3 g o m ob H n = .ok x H' n') : ∃ bs l, ((∃ len, ob = some (.c 5 bs len)) ∨ ob = some (.r 5 bs)) ∧ okK g = true ∧ okK m = true ∧ o + m ≤ bs.length ∧ 0 < m ∧ chL ((bs.drop o).take m) = some l ∧ x = .v (.string ⟨⟨l⟩⟩) ∧ H' = H.set g (some (.r 5 bs)) ∧ n' = n := by
  have key : ∀ bs, hkB4 g o m bs (and (okK g) (and (okK m) (and (Nat.ble (Nat.add o m) (lng bs)) (Nat.blt 0 m)))) (chL ((bs.drop o).take m)) H n = .ok x H' n' → ∃ l, okK g = true ∧ okK m = true ∧ o + m ≤ bs.length ∧ 0 < m ∧ chL ((bs.drop o).take m) = some l ∧ x = .v (.string ⟨⟨l⟩⟩) ∧ H' = H.set g (some (.r 5 bs)) ∧ n' = n := fun bs h => by
    cases hb : and (okK g) (and (okK m) (and (Nat.ble (Nat.add o m) (lng bs)) (Nat.blt 0 m))) with
    | false => rw [hb] at h; cases h
    | true =>
      rw [hb] at h
      cases hl : chL ((bs.drop o).take m) with
      | none => rw [hl] at h; cases h
      | some l =>
        rw [hl] at h
        simp only [hkB4, R.ok.injEq] at h
        obtain ⟨h1, hb⟩ := Bool.and_eq_true_iff.1 hb
        obtain ⟨h2, hb⟩ := Bool.and_eq_true_iff.1 hb
        obtain ⟨h3, h4⟩ := Bool.and_eq_true_iff.1 hb
        rw [lng_eq] at h3
        exact ⟨l, h1, h2, Nat.le_of_ble_eq_true h3, by simpa using h4, rfl, h.1.symm, h.2.1.symm, h.2.2.symm⟩
  unfold hkB3 at h
  split at h
  · rename_i bs len
    obtain ⟨l, r⟩ := key bs h
    exact ⟨bs, l, .inl ⟨len, rfl⟩, r⟩
  · rename_i bs
    obtain ⟨l, r⟩ := key bs h
    exact ⟨bs, l, .inr rfl, r⟩
  · cases h
theorem hook_text : HookOk Tryz.prog C U 52 hkB := by
  intro B W hC l H n x H' n' h E w xs hr hd
  unfold hkB at h
  split at h
  · rename_i k
    unfold hkB1 at h
    split at h
    · rename_i vs len hg
      obtain ⟨y, ys, rfl, hy, hd⟩ := hd.cons_inv
      cases hd.nil_inv
      obtain ⟨b, t, he, hc⟩ := bld_of hr hg
      simp only [Den] at hy
      obtain ⟨lk, he2, rfl⟩ := hy
      rw [he] at he2
      cases he2
      refine .inr ⟨enter_of Tryz.func52 (name_ne Tryz.func52) rfl _ w, ?_⟩
      unfold hkB2 at h
      split at h
      · rename_i g o m c hv
        obtain ⟨bs, l, hob, hok, hokm, hle, hm, hl, rfl, rfl, rfl⟩ := hkB3_inv h
        obtain ⟨v, c1, hden⟩ := hc.cell hv
        simp only [Den] at hden
        obtain ⟨lg, eg, hcap, rfl⟩ := hden
        obtain ⟨lg', eg', cs, us, junk, lo, hi, h1, h2, h3, h4, h5⟩ := row_of hr hob
        rw [eg] at eg'
        cases eg'
        obtain ⟨hll, hlc⟩ := chL_get hl
        have hlm : l.length = m := by rw [hll, List.length_take, List.length_drop]; omega
        have hus := h3.len
        have hdl := congrArg List.length h2
        simp only [List.length_drop, List.length_append, Array.length_toList] at hdl
        have hcell : ∀ j z, l[j]? = some z → w.drew.cell? ((⟨lg.b, lg.d + o, none⟩ : Addr).add j) = some (.int .u8 z.toNat) := fun j z hj => by
          have h6 := hlc j z hj
          have hjm : j < m := by have := (List.getElem?_eq_some_iff.1 hj).1; omega
          rw [List.getElem?_take, if_pos hjm, List.getElem?_drop] at h6
          obtain ⟨u, g1, g2⟩ := h3.get h6
          have g2 := g2.v_inv
          subst g2
          rw [Addr.add_lit]
          show w.cell? _ = _
          rw [Lib.cell_of_heap h1, ← Array.getElem?_toList, show lg.d + o + j = lg.d + (o + j) by omega, ← List.getElem?_drop, h2, List.getElem?_append_left (by have := (List.getElem?_eq_some_iff.1 g1).1; exact this)]
          exact g1
        have hUS := run_unsafeString_off (P := Tryz.prog) w.drew 138 3 9 5 Tryz.underlying138 cells5 lg.b (lg.d + o) cs.size (by show w.shape? _ = _; simp [World.shape?, h1]) l (by intro e; rw [e] at hlm; simp at hlm; omega) (by omega) (by have := okK_lt hokm; omega) hcell
        rw [hlm] at hUS
        refine (YtohmdnnagmjnkaaGreatDoor.str_some b m (capOf lg o c) ⟨lg.b, lg.d + o, none⟩ ⟨l.toArray⟩ w _ (by omega) c1 hUS).mono fun e w2 he2 => ?_
        obtain ⟨rfl, rfl⟩ := he2
        obtain ⟨lo', hi', f1, f2⟩ := freeze_at (w := w.drew) (off := lg.d + o) (m := m) (by omega) h1
        obtain ⟨r1, r2, r3, r4⟩ := freeze_rest (w := w.drew) (g := lg.b) (off := lg.d + o) (m := m)
        refine ⟨E, .refl E, ?_, by simp only [Den]⟩
        have fin := fun o' (ho' : _ = some o') => hr.drew.turn (k := g) (o' := .r 5 bs) ho' hok eg ⟨cs, us, junk, lo', hi', f1, h2, h3, h4, by omega⟩ (fun b hb => freeze_other hb) (by rw [r4]; exact Nat.le_refl _) r1 r2 r3
        rcases hob with ⟨len, h⟩ | h
        · exact fin _ h
        · exact fin _ h
      · rename_i hv
        simp only [R.ok.injEq] at h
        obtain ⟨rfl, rfl, rfl⟩ := h
        obtain ⟨v, c1, hden⟩ := hc.cell hv
        have := hden.v_inv
        subst this
        refine (YtohmdnnagmjnkaaGreatDoor.str_nil b w c1).mono fun e w2 he2 => ?_
        obtain ⟨rfl, rfl⟩ := he2
        exact ⟨E, .refl E, hr.drew, by simp only [Den]⟩
      · cases h
    · cases h
  · cases h
end
end Go.CE
end
section
namespace Go.CE
open Go.RowKit
open Go.Proofs
section
variable {C : Cfg} {U : Nat → Value} {E E' : Env} {H H' : HP} {n n' : Nat} {B : Nat → Prop} {W w w' : World} {x : V} {L : Hooks}
set_option maxRecDepth 100000 in
theorem cok_k0 (h : COk Tryz.prog (KK L) U B W) : COk Tryz.prog K0 U B W := ⟨h.ty, h.gl, h.u, h.cmp, h.hel, h.eg⟩
theorem byte5 : (Tryz.prog.info? 5).map (fun i => (i.zero, i.size, i.bytes)) = some (some (.int .u8 0), 1, 1) := by kernel_rfl
theorem info5 : ∃ i, Tryz.prog.info? 5 = some i ∧ i.zero = some (.int .u8 0) ∧ i.size = 1 ∧ i.bytes = 1 := by
  obtain ⟨i, h1, h2⟩ := Option.map_eq_some_iff.1 byte5
  simp only [Prod.mk.injEq] at h2
  exact ⟨i, h1, h2.1, h2.2.1, h2.2.2⟩
def ApOk (U : Nat → Value) (E : Env) (B : Nat → Prop) (W w : World) (v : Value) (s : ByteArray) (x : V) (H' : HP) (n' : Nat) : Prop :=
  ∃ y w' E', (Builtin.append_ #[67, 9] 67 #[v, .string s]).run Tryz.prog w = .ok y w' ∧ E.le E' ∧ Den U E' x y ∧ HR U E' H' n' B W w'
theorem row_app (h : HR U E H n B W w) {g m : Nat} {s : ByteArray} {bs : List V} {l : Loc} (hg : H.get g = some (.r 5 bs)) (hok : okK g = true) (hokn : okK n = true) (hm : m = bs.length) (hb : m + s.size ≤ 140737488355328) (h0 : 0 < s.size) (he : E g = some l) (hcap : m ≤ capOf l 0 (.un 1)) :
    ApOk U E B W w (.slice (some ⟨l.b, l.d + 0, none⟩) m (capOf l 0 (.un 1))) s (.s n 0 (m + s.size) (.un 1)) ((H.set g none).set n (some (.r 5 (bs ++ byCells s)))) (n + 1) := by
  obtain ⟨i, hi, hz, hsz, hby⟩ := info5
  obtain ⟨l', he', cs, us, junk, lo, hi', h1, h2, h3, h4, h5⟩ := h.ent g _ hg
  rw [he] at he'
  cases he'
  have hus := h3.len
  have hcapE : capOf l 0 (.un 1) = l.t := by show (l.t - 0) / 1 = l.t; simp
  have hdl := congrArg List.length h2
  simp only [List.length_drop, List.length_append, Array.length_toList] at hdl
  have hs : Src Tryz.prog i.size 9 (.string s) s.size (byteCells s) w := by rw [hsz]; exact Src.ofString w Tryz.underlying9 s
  have hnl : (byteCells s).length = s.size := byteCells_length s
  by_cases hroom : m + s.size ≤ capOf l 0 (.un 1)
  · have hst := run_storeCells_atF Tryz.prog l.b (l.d + 0 + m * i.size) 5 (lo, hi') (byteCells s) 0 cs w h1 (by show hi' ≤ _; rw [hsz]; omega) (by rw [hsz, hnl, h4]; omega) hs.one
    have hrun := run_append_put (P := Tryz.prog) (ty := 67) Tryz.underlying67 hi (b := l.b) (off := l.d + 0) (sLen := m) hs hroom hst
    refine ⟨_, _, _, hrun, h.le_new l, ?_, h.move hg hok hokn he rfl ⟨_, us ++ byteCells s, cs.toList.drop (l.d + 0 + m * i.size + 0 + s.size), lo, hi', setRow_heap w l.b cs _ 5 (lo, hi') h1, ?_, DenL.app (h3.mono (h.le_new l)) ((by_den s).mono (h.le_new l)), ?_, ?_⟩ (fun b hb => setRow_other w l.b b _ hb) (by simp) rfl rfl rfl⟩
    · simp only [Den]
      exact ⟨l, by simp, hroom, rfl⟩
    · simp only [hnl, hsz, Nat.mul_one, Nat.add_zero]
      have e1 : cs.toList.take (l.d + m) = cs.toList.take l.d ++ us := by
        rw [List.take_add, h2, hm, ← hus, List.take_left]
      have hd0 : (cs.toList.take l.d).length = l.d := by rw [List.length_take, Array.length_toList]; omega
      rw [e1]
      have := List.drop_left (l₁ := cs.toList.take l.d) (l₂ := us ++ byteCells s ++ cs.toList.drop (l.d + m + s.size))
      rw [hd0] at this
      simpa [List.append_assoc] using this
    · simp only [List.size_toArray, List.length_append, List.length_take, List.length_drop, hnl, hsz, Nat.mul_one, Nat.add_zero, Array.length_toList]
      omega
    · rw [List.length_append]; omega
  · have hold : (Builtin.firstCells i.size m (.slice (some ⟨l.b, l.d + 0, none⟩) m (capOf l 0 (.un 1)))).run Tryz.prog w.drew = .ok us.toArray w.drew :=
      run_firstCells_some w.drew i.size m ⟨l.b, l.d + 0, none⟩ m (capOf l 0 (.un 1)) us (by rw [hsz]; omega) (fun j v hv => by
        rw [Addr.add_lit]
        show w.cell? _ = _
        rw [Lib.cell_of_heap h1, ← Array.getElem?_toList, show l.d + 0 + j = l.d + j by omega, ← List.getElem?_drop, h2, List.getElem?_append_left (List.getElem?_eq_some_iff.1 hv).1]
        exact hv)
    have hlt : capOf l 0 (.un 1) < m + s.size := by omega
    have hrun := run_append_grow_src (P := Tryz.prog) w 67 9 67 5 i (.int .u8 0) Tryz.underlying67 hi hz (some ⟨l.b, l.d + 0, none⟩) m (capOf l 0 (.un 1)) us hold (.string s) s.size (byteCells s) hs hlt (by omega) (growslice_fits hlt (by rw [hby]; omega))
    have hge := grownCap_ge w (m + s.size) (capOf l 0 (.un 1)) 5
    have h' : HR U E (H.set g none) n B W w := h.drop fun j o hj => HP.get_set_none H hj
    refine ⟨_, _, _, hrun, h'.drew.le_new ⟨w.heap.size, 0, grownCap w (m + s.size) (capOf l 0 (.un 1)) 5⟩, ?_, h'.drew.new_obj hokn rfl ⟨_, us ++ byteCells s, (Builtin.zeroCells (Value.int .u8 0).cells (grownCap w (m + s.size) (capOf l 0 (.un 1)) 5 - (m + s.size))).toList, 0, 0, heap_alloc_new w.drew _, ?_, DenL.app (h3.mono (h'.drew.le_new _)) ((by_den s).mono (h'.drew.le_new _)), ?_, Nat.zero_le _⟩⟩
    · simp only [Den]
      have hc : capOf ⟨w.heap.size, 0, grownCap w (m + s.size) (capOf l 0 (.un 1)) 5⟩ 0 (.un 1) = grownCap w (m + s.size) (capOf l 0 (.un 1)) 5 := by
        show (_ - 0) / 1 = _
        simp
      refine ⟨⟨w.heap.size, 0, grownCap w (m + s.size) (capOf l 0 (.un 1)) 5⟩, by simp, by rw [hc]; exact hge, ?_⟩
      rw [hc]
    · simp
    · have hz1 : (Value.int .u8 0).cells.size = 1 := rfl
      simp only [Array.size_append, List.size_toArray, size_zeroCells, hz1, List.length_append, hnl]
      show _ = 0 + _
      omega
theorem apR2_inv {g m : Nat} {s : ByteArray} {c : Bool} {bs : List V} (h : apR2 g m s c bs H n = .ok x H' n') : c = true ∧ x = .s n 0 (m + s.size) (.un 1) ∧ H' = (H.set g none).set n (some (.r 5 (bs ++ byCells s))) ∧ n' = n + 1 := by
  cases c with
  | false => cases h
  | true =>
    simp only [apR2, R.ok.injEq] at h
    exact ⟨rfl, h.1.symm, h.2.1.symm, h.2.2.symm⟩
theorem apR_sound (hC : COk Tryz.prog (KK L) U B W) (h : HR U E H n B W w) {b : V} {v : Value} {s : ByteArray} (hb : Den U E b v) (hr : apR s b (gtB b H) H n = .ok x H' n') : ApOk U E B W w v s x H' n' := by
  have dflt : apT (K0.ty 67) (K0.ty 9) b (.v (.string s)) K0 H n = .ok x H' n' → ApOk U E B W w v s x H' n' := fun hr =>
    append_sound (T := 67) (tx := 9) (ty := 67) (cok_k0 hC) h hb (show Den U E (.v (.string s)) (.string s) by simp only [Den]) x H' n' hr
  unfold apR at hr
  split at hr
  · rename_i g m bs hg
    simp only [gtB] at hg
    obtain ⟨hc, rfl, rfl, rfl⟩ := apR2_inv hr
    obtain ⟨h1, hc⟩ := Bool.and_eq_true_iff.1 hc
    obtain ⟨h2, hc⟩ := Bool.and_eq_true_iff.1 hc
    obtain ⟨h3, hc⟩ := Bool.and_eq_true_iff.1 hc
    obtain ⟨h4, h5⟩ := Bool.and_eq_true_iff.1 hc
    rw [lng_eq] at h3
    simp only [Den] at hb
    obtain ⟨l, he, hcap, rfl⟩ := hb
    exact row_app h hg h1 h2 (Nat.eq_of_beq_eq_true h3) (Nat.le_of_ble_eq_true h4) (by simpa using h5) he hcap
  · exact dflt hr
  · exact dflt hr
  · cases hr
end
end Go.CE
end
section
namespace Go.CE
open Go.RowKit
open Go.Proofs
section
variable {C : Cfg} {U : Nat → Value} {E E' : Env} {H H' : HP} {n n' : Nat} {B : Nat → Prop} {W w w1 w' : World} {x : V} {L : Hooks}
theorem store_one {P : Program} {b j T : Nat} {cs : Array Value} {v : Value} (h : w.heap[b]? = some (.cells cs T (0, 0))) (hj : j < cs.size) (hv : v.oneCell' = true) : (storeCells ⟨b, j, none⟩ [v]).run P w = .ok () (w.setCell ⟨b, j, none⟩ v) := by
  have hadd : (⟨b, j, none⟩ : Addr).add 0 = ⟨b, j, none⟩ := by unfold Addr.add; split <;> simp_all
  have hcell : w.cell? ⟨b, j, none⟩ = some cs[j] := by simp [World.cell?, h, hj]
  have hst : (store ((⟨b, j, none⟩ : Addr).add 0) v).run P w = .ok () (w.setCell ⟨b, j, none⟩ v) := by
    rw [hadd, run_store P w _ v _ hv, hcell]
    simp [Lib.frozen_of_heap h j]
  simp only [storeCells, Sem.run_bind, hst, Result.andThen_ok]
  rfl
theorem wr_one (hu : ∀ i, (U i).oneCell' = true) (h : HR U E H n B W w) {k j b t : Nat} {v : V} {y : Value} (hw : wr H k j [v] = some H') (he : E k = some ⟨b, 0, t⟩) (hd : Den U E v y) (ho : y.oneCell' = true) :
    HR U E H' n B W (w.setCell ⟨b, j, none⟩ y) ∧ (∃ z, w.cell? ⟨b, j, none⟩ = some z) ∧ w.frozen? ⟨b, j, none⟩ = false := by
  obtain ⟨w', hst, hh⟩ := wr_sound (P := Tryz.prog) hu h hw he (.cons hd .nil)
  obtain ⟨T, l, len, hg, _, hle, _, _⟩ := wr_inv hw
  obtain ⟨l', he', ⟨hlen, _⟩, cs, us, junk, h1, h2, h3, h4⟩ := h.ent k _ hg
  rw [he] at he'
  cases he'
  have h1 : w.heap[b]? = some (.cells cs T (0, 0)) := h1
  have hus := h3.len
  have hdl := congrArg List.length h2
  simp only [List.length_drop, List.length_append, Array.length_toList, Nat.sub_zero] at hdl
  have hj : j < cs.size := by simp at hle; omega
  have hs := store_one (P := Tryz.prog) h1 hj ho
  have e : (0 + j) = j := by omega
  have hst : (storeCells ⟨b, 0 + j, none⟩ [y]).run Tryz.prog w = .ok () w' := hst
  rw [e, hs] at hst
  cases hst
  exact ⟨hh, ⟨_, by rw [Lib.cell_of_heap h1]; exact Array.getElem?_eq_getElem hj⟩, Lib.frozen_of_heap h1 j⟩
theorem bufO_inv {o : Option O} {v : V} (h : bufO o = some v) : ∃ vs len, o = some (.c 71 vs len) ∧ vs[3]? = some v := by
  unfold bufO at h
  split at h
  · exact ⟨_, _, rfl, h⟩
  · cases h
theorem hkW2_inv {k : Nat} {s : ByteArray} (h : hkW2 k s (some H) n = .ok x H' n') : ∃ buf g o q c H2, bufO (H.get k) = some buf ∧ apR s buf (gtB buf H) H n = .ok (.s g o q c) H2 n' ∧ wr H2 k 3 [.s g o q c] = some H' ∧ x = .t [.v (.int .i64 (Int.ofNat s.size)), .v .nilIface] := by
  simp only [hkW2] at h
  cases hb : bufO (H.get k) with
  | none => rw [hb] at h; cases h
  | some buf =>
    rw [hb] at h
    simp only [hkW3] at h
    cases ha : apR s buf (gtB buf H) H n with
    | no l => rw [ha] at h; cases h
    | ok v H2 n2 =>
      rw [ha] at h
      cases v <;> try (cases h; done)
      rename_i g o q c
      simp only [hkW4] at h
      cases hw : wr H2 k 3 [.s g o q c] with
      | none => rw [hw] at h; cases h
      | some H3 =>
        rw [hw] at h
        simp only [hkW5, R.ok.injEq] at h
        obtain ⟨rfl, rfl, rfl⟩ := h
        exact ⟨buf, g, o, q, c, H2, rfl, ha, hw, rfl⟩
theorem write_stage (hC : COk Tryz.prog (KK L) U B W) (h : HR U E H n B W w1) {k b t : Nat} {s : ByteArray} (he : E k = some ⟨b, 0, t⟩) (hcc : Calls Tryz.prog 89 #[.pointer (some ⟨b, 2, none⟩)] w fun e w' => e = .returned (.tuple #[]) ∧ w' = w1) (hr : hkW2 k s (some H) n = .ok x H' n') :
    Calls Tryz.prog 53 #[.pointer (some ⟨b, 2, none⟩), .string s] w fun e w' => match e with | .returned v => ∃ E', E.le E' ∧ HR U E' H' n' B W w' ∧ Den U E' x v | _ => False := by
  obtain ⟨buf, g, o, q, c, H2, hb, ha, hw, rfl⟩ := hkW2_inv hr
  obtain ⟨vs, len, hg, hv⟩ := bufO_inv hb
  obtain ⟨b', t', he', hcs⟩ := bld_of h hg
  rw [he] at he'
  cases he'
  obtain ⟨v, c1, hden⟩ := hcs.cell hv
  obtain ⟨y, w2, E', hrun, hle, hy, h2⟩ := apR_sound hC h hden ha
  have hy0 := hy
  simp only [Den] at hy
  obtain ⟨lg, eg, hcap, rfl⟩ := hy
  obtain ⟨h3, ⟨z, d1⟩, f1⟩ := wr_one hC.u h2 hw (hle _ _ he) hy0 rfl
  refine (YtohmdnnagmjnkaaGreatDoor.write_at b s v z _ _ _ w w1 w2 hcc c1 hrun d1 f1).mono fun e w' hh => ?_
  obtain ⟨rfl, rfl⟩ := hh
  refine ⟨E', hle, h3, ?_⟩
  simp only [Den]
  exact ⟨_, .cons (by simp only [Den]; rfl) (.cons (by simp only [Den]) .nil), rfl⟩
theorem adr1_inv {k : Nat} {ob : Option O} {d : Bool} (h : adr1 k ob = some d) : ∃ vs len v, ob = some (.c 71 vs len) ∧ 5 ≤ vs.length ∧ vs[2]? = some v ∧ ((d = true ∧ v = .v (.pointer none)) ∨ (d = false ∧ v = .p k 2)) := by
  unfold adr1 at h
  split at h
  · rename_i vs len
    cases hb : Nat.ble 5 (lng vs) with
    | false => rw [hb] at h; cases h
    | true =>
      rw [hb] at h
      simp only [adr2] at h
      rw [lng_eq] at hb
      refine ⟨vs, len, ?_⟩
      unfold adr at h
      split at h
      · rename_i hv
        simp only [Option.some.injEq] at h
        exact ⟨_, rfl, Nat.le_of_ble_eq_true hb, hv, .inl ⟨h.symm, rfl⟩⟩
      · rename_i k' hv
        cases hk : Nat.beq k k' with
        | false => rw [hk] at h; cases h
        | true =>
          rw [hk] at h
          simp only [adr0, Option.some.injEq] at h
          have := Nat.eq_of_beq_eq_true hk
          subst this
          exact ⟨_, rfl, Nat.le_of_ble_eq_true hb, hv, .inr ⟨h.symm, rfl⟩⟩
      · cases h
  · cases h
theorem hook_write : HookOk Tryz.prog (KK L) U 53 hkW := by
  intro B W hC l H n x H' n' h E w xs hr hd
  unfold hkW at h
  split at h
  · rename_i k s
    obtain ⟨y1, r1, rfl, g1, hd⟩ := hd.cons_inv
    obtain ⟨y2, r2, rfl, g2, hd⟩ := hd.cons_inv
    cases hd.nil_inv
    have g2 := g2.v_inv
    subst g2
    cases ha : adr1 k (H.get k) with
    | none => rw [ha] at h; cases h
    | some d =>
      obtain ⟨vs, len, v, hg, hl, hv, hdv⟩ := adr1_inv ha
      obtain ⟨b, t, he, hcs⟩ := bld_of hr hg
      simp only [Den] at g1
      obtain ⟨l0, he0, rfl⟩ := g1
      rw [he] at he0
      cases he0
      refine .inr ⟨enter_of Tryz.func53 (name_ne Tryz.func53) rfl _ w, ?_⟩
      obtain ⟨z, c1, hden⟩ := hcs.cell hv
      have c1 : w.cell? ⟨b, 2, none⟩ = some z := c1
      obtain ⟨cs, us, junk, h1, h2, h3, h4⟩ := hcs
      have h1 : w.heap[b]? = some (.cells cs 71 (0, 0)) := h1
      have fin : ∀ {H1 w1}, HR U E H1 n B W w1 → (Calls Tryz.prog 89 #[.pointer (some ⟨b, 2, none⟩)] w fun e w' => e = .returned (.tuple #[]) ∧ w' = w1) → hkW2 k s (some H1) n = .ok x H' n' → Calls Tryz.prog 53 #[.pointer (some ⟨b, 2, none⟩), .string s] w (fun | .returned v, w' => ∃ E', E.le E' ∧ HR U E' H' n' B W w' ∧ Den U E' x v | _, _ => False) := fun hh hcc hr' =>
        (write_stage hC hh he hcc hr').mono fun e w' hh => by
          cases e with
          | returned v => exact hh
          | panicked c => exact hh
          | outgrown => exact hh
      rcases hdv with ⟨rfl, rfl⟩ | ⟨rfl, rfl⟩
      · rw [ha] at h
        simp only [hkW1] at h
        cases hw : wr H k 2 [.p k 2] with
        | none => rw [hw] at h; cases h
        | some H1 =>
          rw [hw] at h
          have hp : Den U E (.p k 2) (.pointer (some ⟨b, 2, none⟩)) := by simp only [Den]; exact ⟨_, he, rfl⟩
          obtain ⟨hh, _, f1⟩ := wr_one hC.u hr hw he hp rfl
          have hz := hden.v_inv
          subst hz
          have hus := h3.len
          have hdl := congrArg List.length h2
          simp only [List.length_drop, List.length_append, Array.length_toList, Nat.sub_zero] at hdl
          exact fin hh (YtohmdnnagmjnkaaGreatDoor.cc_fresh b cs.size w c1 (by simp [World.shape?, h1]) (by omega) f1) h
      · rw [ha] at h
        simp only [hkW1] at h
        simp only [Den] at hden
        obtain ⟨l1, he1, rfl⟩ := hden
        rw [he] at he1
        cases he1
        exact fin hr (YtohmdnnagmjnkaaGreatDoor.cc_used b w c1) h
  · cases h
end
end Go.CE
end
section
namespace Go.CE
open Go.RowKit
open Go.Proofs
section
variable {U : Nat → Value}
noncomputable def LS : Hooks := [(141, memoH [MB11, MB12, MB13, MB14]), (52, hkB), (53, hkW)]
theorem ls_ok : ∀ p ∈ LS, HookOk Tryz.prog (KK LS) U p.1 p.2 := by
  intro p hp
  simp only [LS, List.mem_cons, List.not_mem_nil, or_false] at hp
  rcases hp with rfl | rfl | rfl
  · refine memo_hook (L' := []) (m := 2000) (kk_ok fun p hp => by cases hp) fun M hM => ?_
    simp only [List.mem_cons, List.not_mem_nil, or_false] at hM
    rcases hM with rfl | rfl | rfl | rfl
    · exact ⟨rfl, mb11_ok⟩
    · exact ⟨rfl, mb12_ok⟩
    · exact ⟨rfl, mb13_ok⟩
    · exact ⟨rfl, mb14_ok⟩
  · exact hook_text
  · exact hook_write
end
noncomputable def MB15 : Memo := ⟨15, [], .v (.bool true), [], 6989⟩
end Go.CE
end
