/-
  LE, the engine, part 18: its rules for the simplifier.
-/
import Derived.Test.YtoglkgbjehbcpaaE17
namespace Go.LE
open Go.RowKit
set_option linter.unusedSimpArgs false
set_option linter.unusedVariables false

section
variable {P : Program} {W : World} {bs : List Nat} {nt : Nat} {ds : Aux} {σ : St} {ops : Array Oper} (Γ : Env P)

/-! ### A region -/
def rgoK (dst : Option Nat) (r : List Oper) (κ : Nat) (φ : Fr) (h : Hp) (s : S) : RG :=
  rgAdd s (rgo Γ W bs nt ops r (κ + 1) (putO φ dst s.fv) (updL h s.upd))
theorem rgo_nil (κ : Nat) (φ : Fr) (h : Hp) : rgo Γ W bs nt ops [] κ φ h = ⟨True, κ, φ, h, [], [], []⟩ := rfl
theorem rgo_cons (o : Oper) (r : List Oper) (κ : Nat) (φ : Fr) (h : Hp) : rgo Γ W bs nt ops (o :: r) κ φ h = rgoK (W := W) (bs := bs) (nt := nt) (ops := ops) Γ o.dst r κ φ h (step Γ W bs nt ops κ φ h o) := rfl
theorem rgoK_mk (dst : Option Nat) (r : List Oper) (κ : Nat) (φ : Fr) (h : Hp) (side : Prop) (fv : FV) (u : List (Nat × Option Ent)) (pan : Option (List PanicEntry)) (pupd reads uk : List Nat) :
    rgoK (W := W) (bs := bs) (nt := nt) (ops := ops) Γ dst r κ φ h ⟨side, fv, u, pan, pupd, reads, uk⟩ = rgAdd ⟨side, fv, u, pan, pupd, reads, uk⟩ (rgo Γ W bs nt ops r (κ + 1) (putO φ dst fv) (updL h u)) := rfl
theorem rgAdd_mk (side side' : Prop) (n : Nat) (fv : FV) (u : List (Nat × Option Ent)) (pan : Option (List PanicEntry)) (pupd reads uk lost : List Nat) (φ : Fr) (h : Hp) (pans : List (Option (List PanicEntry))) (fx : List (List Nat × List Nat)) :
    rgAdd ⟨side, fv, u, pan, pupd, reads, uk⟩ ⟨side', n, φ, h, pans, lost, fx⟩ = ⟨side ∧ side', n, φ, h, pan :: pans, uk ++ pupd ++ lost, (uk, reads) :: fx⟩ := rfl

/-! ### A step -/
def isPick : Op → Bool
  | .pick _ _ _ => true
  | _ => false
theorem isPick_no :
    (∀ (x : Operand), isPick (.move x) = false) ∧
    (∀ (x : Operand), isPick (.assign x) = false) ∧
    (∀ (elem : TypeId), isPick (.alloc elem) = false) ∧
    (∀ (elem : TypeId) (v : Operand), isPick (.box elem v) = false) ∧
    (∀ (t : TypeId) (parts : Array (Nat × Operand)), isPick (.build t parts) = false) ∧
    (∀ (t : TypeId) (len : Nat) (parts : Array (Nat × Operand)), isPick (.buildSlice t len parts) = false) ∧
    (∀ (t : TypeId) (addr : Operand), isPick (.load t addr) = false) ∧
    (∀ (t : TypeId) (addr val : Operand), isPick (.store t addr val) = false) ∧
    (∀ (x : Operand), isPick (.nilCheck x) = false) ∧
    (∀ (op : BinOp) (xType : TypeId) (x y : Operand) (yType : TypeId), isPick (.binOp op xType x y yType) = false) ∧
    (∀ (op : UnOp) (xType : TypeId) (x : Operand), isPick (.unOp op xType x) = false) ∧
    (∀ (src dst : TypeId) (x : Operand), isPick (.convert src dst x) = false) ∧
    (∀ (xType : TypeId) (x : Operand), isPick (.makeInterface xType x) = false) ∧
    (∀ (fn : Fn) (first captured : Array Operand), isPick (.makeFunc fn first captured) = false) ∧
    (∀ (t : TypeId) (len cap : Operand), isPick (.makeSlice t len cap) = false) ∧
    (∀ (xType : TypeId) (x : Operand) (low high max : Option Operand), isPick (.slice xType x low high max) = false) ∧
    (∀ (xType : TypeId) (x : Operand) (field : Nat), isPick (.fieldAddr xType x field) = false) ∧
    (∀ (xType : TypeId) (x : Operand) (field : Nat), isPick (.field xType x field) = false) ∧
    (∀ (xType : TypeId) (x index : Operand), isPick (.indexAddr xType x index) = false) ∧
    (∀ (xType : TypeId) (x index : Operand), isPick (.index xType x index) = false) ∧
    (∀ (x : Operand) (xType asserted : TypeId) (commaOk : Bool), isPick (.typeAssert x xType asserted commaOk) = false) ∧
    (∀ (tuple : Operand) (index : Nat), isPick (.extract tuple index) = false) ∧
    (∀ (c : Call), isPick (.call c) = false) ∧
    (∀ (x : Operand), isPick (.panic x) = false) := by
  refine ⟨?_, ?_, ?_, ?_, ?_, ?_, ?_, ?_, ?_, ?_, ?_, ?_, ?_, ?_, ?_, ?_, ?_, ?_, ?_, ?_, ?_, ?_, ?_, ?_⟩ <;> (intros; rfl)
def dstOk (nt : Nat) : Option Nat → Prop
  | some d => d < nt
  | none => True
theorem dstOk_eq (d : Option Nat) : (∀ i, d = some i → i < nt) = dstOk nt d := by
  cases d <;> simp [dstOk]
def stepR (nt : Nat) (dst : Option Nat) (un : Bool) (p : Prop) (b : Bool) (q : Prop) (r : R) : S :=
  ⟨p ∧ q ∧ (b = true → r.side) ∧ dstOk nt dst, mkFV un b r.val, bif b then r.upd else [], bif b then r.pan else none, r.pupd, r.reads, keysU r.upd⟩
def stepE (W : World) (bs : List Nat) (nt : Nat) (κ : Nat) (h : Hp) (dst : Option Nat) (un : Bool) (op : Op) (p : Prop) (b : Bool) (e : Prop × List SV) : S :=
  stepR nt dst un p b e.1 (sem Γ W bs κ h op e.2)
def stepG (W : World) (bs : List Nat) (nt : Nat) (κ : Nat) (φ : Fr) (h : Hp) (dst : Option Nat) (un : Bool) (op : Op) (g : Prop × Bool) : S :=
  stepE Γ W bs nt κ h dst un op g.1 g.2 (evL φ g.2 op.operands.toList)
theorem step_go (κ : Nat) (φ : Fr) (h : Hp) (dst : Option Nat) (op : Op) (ty : TypeId) (pos : String) (after : Array Edge) (guard : Option (Nat × Bool)) (hop : isPick op = false) :
    step Γ W bs nt ops κ φ h ⟨dst, op, ty, pos, after, guard⟩ = stepG Γ W bs nt κ φ h dst guard.isNone op (evG φ ops guard) := by
  rw [step_notpick Γ (by rintro c x y rfl; cases hop)]
  simp only [stepG, stepE, stepR, dstOk_eq]
theorem stepG_mk (κ : Nat) (φ : Fr) (h : Hp) (dst : Option Nat) (un : Bool) (op : Op) (p : Prop) (b : Bool) :
    stepG Γ W bs nt κ φ h dst un op (p, b) = stepE Γ W bs nt κ h dst un op p b (evL φ b op.operands.toList) := rfl
theorem stepE_mk (κ : Nat) (h : Hp) (dst : Option Nat) (un : Bool) (op : Op) (p : Prop) (b : Bool) (q : Prop) (l : List SV) :
    stepE Γ W bs nt κ h dst un op p b (q, l) = stepR nt dst un p b q (sem Γ W bs κ h op l) := rfl
theorem stepR_mk (dst : Option Nat) (un : Bool) (p : Prop) (b : Bool) (q side : Prop) (val : SV) (u : List (Nat × Option Ent)) (pan : Option (List PanicEntry)) (pupd reads : List Nat) :
    stepR nt dst un p b q ⟨side, val, u, pan, pupd, reads⟩ = ⟨p ∧ q ∧ (b = true → side) ∧ dstOk nt dst, mkFV un b val, bif b then u else [], bif b then pan else none, pupd, reads, keysU u⟩ := rfl

def stepP2 (nt : Nat) (φ : Fr) (dst : Option Nat) (un : Bool) (x y : Operand) (p : Prop) (g : Bool) : Prop × SV → S
  | (q, .v (.bool cb)) => ⟨p ∧ q ∧ (cb = true → (evO φ (g && cb) x).1) ∧ (cb = false → (evO φ (g && !cb) y).1) ∧ dstOk nt dst, mkFV un g (pickV cb (evO φ (g && cb) x).2 (evO φ (g && !cb) y).2), [], none, [], [], []⟩
  | _ => ⟨False, .any, [], none, [], [], []⟩
def stepP (nt : Nat) (φ : Fr) (dst : Option Nat) (un : Bool) (c x y : Operand) (g : Prop × Bool) : S := stepP2 nt φ dst un x y g.1 g.2 (evO φ g.2 c)
theorem step_pick (κ : Nat) (φ : Fr) (h : Hp) (dst : Option Nat) (c x y : Operand) (ty : TypeId) (pos : String) (after : Array Edge) (guard : Option (Nat × Bool)) :
    step Γ W bs nt ops κ φ h ⟨dst, .pick c x y, ty, pos, after, guard⟩ = stepP nt φ dst guard.isNone c x y (evG φ ops guard) := by
  simp only [step, stepP, dstOk_eq]
  split
  · rename_i cb hcb
    rw [show evO φ (evG φ ops guard).2 c = ((evO φ (evG φ ops guard).2 c).1, .v (.bool cb)) from by rw [← hcb]]
    rfl
  · rename_i hn
    unfold stepP2
    split
    · rename_i q cb he
      exact absurd (by rw [he]) (hn cb)
    · rfl
theorem stepP_mk (φ : Fr) (dst : Option Nat) (un : Bool) (c x y : Operand) (p : Prop) (g : Bool) : stepP nt φ dst un c x y (p, g) = stepP2 nt φ dst un x y p g (evO φ g c) := rfl
theorem stepP2_mk (φ : Fr) (dst : Option Nat) (un : Bool) (x y : Operand) (p q : Prop) (g cb : Bool) : stepP2 nt φ dst un x y p g (q, .v (.bool cb)) =
    ⟨p ∧ q ∧ (cb = true → (evO φ (g && cb) x).1) ∧ (cb = false → (evO φ (g && !cb) y).1) ∧ dstOk nt dst, mkFV un g (pickV cb (evO φ (g && cb) x).2 (evO φ (g && !cb) y).2), [], none, [], [], []⟩ := rfl

/-! ### Operands, guards -/
def evS (w : Bool) : FV → Prop × SV
  | .is x => (True, x)
  | .cnd b x => (w = true → b = true, x)
  | .any => (w = false, .v undef)
theorem evO_tmp (φ : Fr) (w : Bool) (t : Nat) : evO φ w (.tmp t) = evS w (φ t) := by
  simp only [evO, evS]; cases φ t <;> rfl
theorem evS_is (w : Bool) (x : SV) : evS w (.is x) = (True, x) := rfl
theorem evS_cnd (w b : Bool) (x : SV) : evS w (.cnd b x) = (w = true → b = true, x) := rfl
theorem evO_const (φ : Fr) (w : Bool) (v : Value) : evO φ w (.const v) = (True, .v v) := rfl
theorem evO_global (φ : Fr) (w : Bool) (g : Nat) : evO φ w (.global g) = (True, .v (.pointer (some ⟨g, 0, none⟩))) := rfl
theorem evO_func (φ : Fr) (w : Bool) (f : Nat) : evO φ w (.func f) = (True, .v (.func (.func f) #[] #[])) := rfl
def evC : Prop × SV → Prop × List SV → Prop × List SV := fun a b => (a.1 ∧ b.1, a.2 :: b.2)
theorem evL_nil (φ : Fr) (w : Bool) : evL φ w [] = (True, []) := rfl
theorem evL_cons (φ : Fr) (w : Bool) (o : Operand) (r : List Operand) : evL φ w (o :: r) = evC (evO φ w o) (evL φ w r) := rfl
theorem evC_mk (p q : Prop) (x : SV) (l : List SV) : evC (p, x) (q, l) = (p ∧ q, x :: l) := rfl
def evGS (want : Bool) : FV → Prop × Bool
  | .is (.v (.bool b)) => (True, b == want)
  | .cnd c (.v (.bool b)) => (True, c && (b == want))
  | _ => (False, false)
def evGD (φ : Fr) (want : Bool) : Option Nat → Prop × Bool
  | some d => evGS want (φ d)
  | none => (False, false)
theorem evG_none (φ : Fr) : evG φ ops none = (True, true) := rfl
theorem evG_some (φ : Fr) (j : Nat) (want : Bool) : evG φ ops (some (j, want)) = evGD φ want ((ops[j]?).bind (·.dst)) := by
  simp only [evG, evGD]
  cases (ops[j]?).bind (·.dst) with
  | none => rfl
  | some d => simp only [evGS]; split <;> simp_all
theorem evGD_some (φ : Fr) (want : Bool) (d : Nat) : evGD φ want (some d) = evGS want (φ d) := rfl
theorem evGS_is (want b : Bool) : evGS want (.is (.v (.bool b))) = (True, b == want) := rfl
theorem evGS_cnd (want b c : Bool) : evGS want (.cnd c (.v (.bool b))) = (True, c && (b == want)) := rfl
theorem mkFV_un (w : Bool) (x : SV) : mkFV true w x = .is x := rfl
theorem mkFV_g (w : Bool) (x : SV) : mkFV false w x = .cnd w x := rfl
theorem pickV_bool (c a b : Bool) : pickV c (.v (.bool a)) (.v (.bool b)) = .v (.bool (bif c then a else b)) := rfl
theorem pickV_int (c : Bool) (k k' : IntKind) (a b : Int) : pickV c (.v (.int k a)) (.v (.int k' b)) = .v (bif c then .int k a else .int k' b) := rfl
theorem pickV_v (c : Bool) (x y : Value) : pickV c (.v x) (.v y) = .v (bif c then x else y) := by
  cases c <;> (simp only [pickV]; split <;> simp_all)

/-! ### The frame, own memory -/
theorem upd_eq {α : Type} (f : Nat → α) (k : Nat) (x : α) (j : Nat) : upd f k x j = if j = k then x else f j := rfl
theorem putO_some (φ : Fr) (d : Nat) (x : FV) : putO φ (some d) x = upd φ d x := rfl
theorem putO_none (φ : Fr) (x : FV) : putO φ none x = φ := rfl
theorem updL_nil {α : Type} (f : Nat → α) : updL f [] = f := rfl
theorem updL_cons {α : Type} (f : Nat → α) (k : Nat) (x : α) (r : List (Nat × α)) : updL f ((k, x) :: r) = updL (upd f k x) r := rfl
theorem frL_nil (t : Nat) : frL [] t = .any := rfl
theorem frL_cons (t k : Nat) (x : FV) (r : List (Nat × FV)) : frL ((k, x) :: r) t = if t = k then x else frL r t := rfl
theorem hpL_nil (t : Nat) : hpL [] t = none := rfl
theorem hpL_cons (t k : Nat) (x : Ent) (r : List (Nat × Ent)) : hpL ((k, x) :: r) t = if t = k then some x else hpL r t := rfl
theorem dstOk_some (n d : Nat) : dstOk n (some d) = (d < n) := rfl
theorem dstOk_none (n : Nat) : dstOk n none = True := rfl

/-! ### Operations -/
section
variable {κ : Nat} {h : Hp}
theorem sem_move (o : Operand) (x : SV) : sem Γ W bs κ h (.move o) [x] = .ok x := rfl
theorem sem_assign (o : Operand) (x : SV) : sem Γ W bs κ h (.assign o) [x] = .ok x := rfl
theorem sem_alloc (T : TypeId) : sem Γ W bs κ h (.alloc T) [] = semAlloc P κ T := rfl
theorem sem_box (T : TypeId) (o : Operand) (l : List SV) : sem Γ W bs κ h (.box T o) l = semBox κ T l := rfl
theorem sem_build (T : TypeId) (ps : Array (Nat × Operand)) (l : List SV) : sem Γ W bs κ h (.build T ps) l = semBuild P T (ps.toList.map (·.1)) l := rfl
theorem sem_buildSlice (T : TypeId) (n : Nat) (ps : Array (Nat × Operand)) (l : List SV) : sem Γ W bs κ h (.buildSlice T n ps) l = semBuildSlice P κ T n (ps.toList.map (·.1)) l := rfl
theorem sem_load (T : TypeId) (o : Operand) (l : List SV) : sem Γ W bs κ h (.load T o) l = semLoad P W bs h T l := rfl
theorem sem_store (T : TypeId) (o o' : Operand) (l : List SV) : sem Γ W bs κ h (.store T o o') l = semStore P h T l := rfl
theorem sem_nilCheck (o : Operand) (l : List SV) : sem Γ W bs κ h (.nilCheck o) l = semNilCheck h l := rfl
theorem sem_binOp (op : BinOp) (T : TypeId) (x y : Operand) (r : TypeId) (l : List SV) : sem Γ W bs κ h (.binOp op T x y r) l = semBin P Γ.eqs op T l := rfl
theorem sem_unOp (op : UnOp) (T : TypeId) (x : Operand) (l : List SV) : sem Γ W bs κ h (.unOp op T x) l = semUn op l := rfl
theorem sem_convert (a b : TypeId) (x : Operand) (l : List SV) : sem Γ W bs κ h (.convert a b x) l = semConvert P a b l := rfl
theorem sem_makeSlice (T : TypeId) (x y : Operand) (l : List SV) : sem Γ W bs κ h (.makeSlice T x y) l = semMake P κ T l := rfl
theorem sem_panic (x : Operand) (l : List SV) : sem Γ W bs κ h (.panic x) l = semPanic l := rfl
theorem sem_makeInterface (T : TypeId) (o : Operand) (l : List SV) : sem Γ W bs κ h (.makeInterface T o) l = semMkI P T l := rfl
theorem sem_slice (T : TypeId) (o : Operand) (lo hi mx : Option Operand) (l : List SV) : sem Γ W bs κ h (.slice T o lo hi mx) l = semSlice P T lo.isSome hi.isSome mx.isSome l := rfl
theorem sem_fieldAddr (T : TypeId) (o : Operand) (f : Nat) (l : List SV) : sem Γ W bs κ h (.fieldAddr T o f) l = semFieldAddr P h T f l := rfl
theorem sem_field (T : TypeId) (o : Operand) (f : Nat) (l : List SV) : sem Γ W bs κ h (.field T o f) l = semField P T f l := rfl
theorem sem_indexAddr (T : TypeId) (o i : Operand) (l : List SV) : sem Γ W bs κ h (.indexAddr T o i) l = semIndexAddr P h T l := rfl
theorem sem_index (T : TypeId) (o i : Operand) (l : List SV) : sem Γ W bs κ h (.index T o i) l = semIndex P T l := rfl
theorem sem_extract (o : Operand) (i : Nat) (l : List SV) : sem Γ W bs κ h (.extract o i) l = semExtract i l := rfl
theorem sem_len (as_ : Array Operand) (T : TypeId) (l : List SV) : sem Γ W bs κ h (.call { callee := .builtin .len, args := as_, argTypes := #[T] }) l = semLen P h T l := rfl
theorem sem_append (as_ : Array Operand) (tys : Array TypeId) (l : List SV) : sem Γ W bs κ h (.call { callee := .builtin .append, args := as_, argTypes := tys }) l = semApp P κ h tys.toList l := rfl
theorem sem_call (f : Operand) (as_ : Array Operand) (tys : Array TypeId) (l : List SV) : sem Γ W bs κ h (.call { callee := .value f, args := as_, argTypes := tys }) l = semCall Γ W bs κ h l := rfl
theorem sem_invoke (f : Operand) (n : String) (as_ : Array Operand) (tys : Array TypeId) (l : List SV) : sem Γ W bs κ h (.call { callee := .invoke f n, args := as_, argTypes := tys }) l = semInvoke Γ W bs κ h n l := rfl
theorem semCall_v (f : FuncId) (first cap : Array Value) (rest : List SV) : semCall Γ W bs κ h (.v (.func (.func f) first cap) :: rest) = semF Γ W bs κ h f (first.toList.map .v ++ rest ++ cap.toList.map .v) := rfl
theorem semF_eq (f : FuncId) (l : List SV) {s : Spec P f} (hs : Γ.sp f = some s) : semF Γ W bs κ h f l = s.ev W bs κ h l := by simp only [semF, hs]
end

/-! ### What they come to -/
theorem R_new (k : Nat) (e : Ent) (x : SV) : R.new k e x = ⟨True, x, [(k, some e)], none, [], []⟩ := rfl
theorem R_ok (x : SV) : R.ok x = ⟨True, x, [], none, [], []⟩ := rfl
theorem R_req (p : Prop) (x : SV) : R.req p x = ⟨p, x, [], none, [], []⟩ := rfl
theorem nk_eq (n : Nat) : nk n = 8 * n := rfl
theorem keysU_nil {α : Type} : keysU ([] : List (Nat × α)) = [] := rfl
theorem keysU_cons {α : Type} (k : Nat) (x : α) (r : List (Nat × α)) : keysU ((k, x) :: r) = k :: keysU r := rfl
theorem partsOf_agg (l : List SV) : partsOf (.agg l) = l := rfl
theorem partsOf_vagg (cs : Array Value) : partsOf (.v (.agg cs)) = cs.toList.map .v := rfl
theorem partsOf_int (k : IntKind) (n : Int) : partsOf (.v (.int k n)) = [.v (.int k n)] := rfl
theorem partsOf_string (b : ByteArray) : partsOf (.v (.string b)) = [.v (.string b)] := rfl
theorem partsOf_bool (b : Bool) : partsOf (.v (.bool b)) = [.v (.bool b)] := rfl
theorem partsOf_slice (a : Option Addr) (n c : Nat) : partsOf (.v (.slice a n c)) = [.v (.slice a n c)] := rfl
theorem partsOf_pointer (a : Option Addr) : partsOf (.v (.pointer a)) = [.v (.pointer a)] := rfl
theorem partsOf_iface (t : TypeId) (x : Value) : partsOf (.v (.iface t x)) = [.v (.iface t x)] := rfl
theorem partsOf_nilIface : partsOf (.v .nilIface) = [.v .nilIface] := rfl
theorem partsOf_own (k o : Nat) : partsOf (.own k o) = [.own k o] := rfl
theorem partsOf_hd (k : Nat) : partsOf (.hd k) = [.hd k] := rfl
theorem partsOf_part (k i : Nat) : partsOf (.part k i) = [.part k i] := rfl
theorem partsOf_ifc (t : TypeId) (x : SV) : partsOf (.ifc t x) = [.ifc t x] := rfl
theorem oneSV_int (k : IntKind) (n : Int) : oneSV (.v (.int k n)) = true := rfl
theorem oneSV_string (b : ByteArray) : oneSV (.v (.string b)) = true := rfl
theorem oneSV_bool (b : Bool) : oneSV (.v (.bool b)) = true := rfl
theorem oneSV_slice (a : Option Addr) (n c : Nat) : oneSV (.v (.slice a n c)) = true := rfl
theorem oneSV_pointer (a : Option Addr) : oneSV (.v (.pointer a)) = true := rfl
theorem oneSV_iface (t : TypeId) (x : Value) : oneSV (.v (.iface t x)) = true := rfl
theorem oneSV_nilIface : oneSV (.v .nilIface) = true := rfl
theorem oneSV_own (k o : Nat) : oneSV (.own k o) = true := rfl
theorem oneSV_hd (k : Nat) : oneSV (.hd k) = true := rfl
theorem oneSV_part (k i : Nat) : oneSV (.part k i) = true := rfl
theorem oneSV_ifc (t : TypeId) (x : SV) : oneSV (.ifc t x) = true := rfl
theorem entVs_cells (T : TypeId) (vs : List SV) : entVs (some (.cells T vs)) = some vs := rfl
theorem entVs_row (T : TypeId) (s n : Nat) (vs : List SV) : entVs (some (.row T s n vs)) = some vs := rfl
theorem setEnt_cells (T : TypeId) (vs : List SV) (o : Nat) (ps : List SV) : setEnt (some (.cells T vs)) o ps = some (.cells T (setRange vs o ps)) := rfl
theorem setEnt_row (T : TypeId) (s n : Nat) (vs : List SV) (o : Nat) (ps : List SV) : setEnt (some (.row T s n vs)) o ps = some (.row T s n (setRange vs o ps)) := rfl

section
variable {κ : Nat} {h : Hp}
def allocK (κ : Nat) (T : TypeId) : Option (List Value) → R
  | some zs => ⟨True, .own (8 * κ) 0, [(8 * κ, some (.cells T (zs.map .v)))], none, [], []⟩
  | none => .bad
theorem semAlloc_eq (T : TypeId) : semAlloc P κ T = allocK κ T (tz P T) := by simp only [semAlloc]; unfold allocK; cases tz P T <;> rfl
theorem allocK_some (T : TypeId) (zs : List Value) : allocK κ T (some zs) = ⟨True, .own (8 * κ) 0, [(8 * κ, some (.cells T (zs.map .v)))], none, [], []⟩ := rfl
theorem semBox_eq (T : TypeId) (x : SV) : semBox κ T [x] = ⟨True, .own (8 * κ) 0, [(8 * κ, some (.cells T (partsOf x)))], none, [], []⟩ := rfl
def loadK (o k : Nat) : Option Nat → Option Bool → Option (List SV) → R
  | some sz, some true, some vs => ⟨o + sz ≤ vs.length ∧ 0 < sz, .agg ((vs.drop o).take sz), [], none, [], [k]⟩
  | some _, some false, some vs => ⟨o < vs.length, vs.getD o (.v undef), [], none, [], [k]⟩
  | _, _, _ => .bad
theorem semLoad_own (T : TypeId) (k o : Nat) : semLoad P W bs h T [.own k o] = loadK o k (ts P T) (ta P T) (entVs (h k)) := by
  simp only [semLoad]; unfold loadK
  rcases ts P T with _ | sz <;> rcases ta P T with _ | _ | _ <;> rcases entVs (h k) with _ | vs <;> rfl
theorem loadK_agg (o k sz : Nat) (vs : List SV) : loadK o k (some sz) (some true) (some vs) = ⟨o + sz ≤ vs.length ∧ 0 < sz, .agg ((vs.drop o).take sz), [], none, [], [k]⟩ := rfl
theorem loadK_one (o k sz : Nat) (vs : List SV) : loadK o k (some sz) (some false) (some vs) = ⟨o < vs.length, vs.getD o (.v undef), [], none, [], [k]⟩ := rfl
def loadX (W : World) (bs : List Nat) (b o : Nat) : Option Nat → Option Bool → R
  | some sz, some true => ⟨b ∉ bs ∧ xthere W b o sz, .agg (xcells W b o sz), [], none, [], []⟩
  | some _, some false => ⟨b ∉ bs ∧ (W.cell? ⟨b, o, none⟩).isSome = true, .v ((W.cell? ⟨b, o, none⟩).getD undef), [], none, [], []⟩
  | _, _ => .bad
theorem semLoad_ext (T : TypeId) (b o : Nat) : semLoad P W bs h T [.v (.pointer (some ⟨b, o, none⟩))] = loadX W bs b o (ts P T) (ta P T) := by
  simp only [semLoad]; unfold loadX
  rcases ts P T with _ | sz <;> rcases ta P T with _ | _ | _ <;> rfl
theorem loadX_agg (b o sz : Nat) : loadX W bs b o (some sz) (some true) = ⟨b ∉ bs ∧ xthere W b o sz, .agg (xcells W b o sz), [], none, [], []⟩ := rfl
theorem loadX_one (b o sz : Nat) : loadX W bs b o (some sz) (some false) = ⟨b ∉ bs ∧ (W.cell? ⟨b, o, none⟩).isSome = true, .v ((W.cell? ⟨b, o, none⟩).getD undef), [], none, [], []⟩ := rfl
theorem xcells_zero (b o : Nat) : xcells W b o 0 = [] := rfl
theorem xcells_succ (b o n : Nat) : xcells W b o (n + 1) = .v ((W.cell? ⟨b, o, none⟩).getD undef) :: xcells W b (o + 1) n := rfl
theorem xthere_zero (b o : Nat) : xthere W b o 0 = True := rfl
theorem xthere_succ (b o n : Nat) : xthere W b o (n + 1) = ((W.cell? ⟨b, o, none⟩).isSome = true ∧ xthere W b (o + 1) n) := rfl
def storeK (e : Option Ent) (k o : Nat) (x : SV) : Option Nat → Option (List SV) → R
  | some sz, some vs => ⟨(partsOf x).length = sz ∧ o + sz ≤ vs.length ∧ 0 < sz ∧ (partsOf x).all oneSV = true, .v undef, [(k, setEnt e o (partsOf x))], none, [], [k]⟩
  | _, _ => .bad
theorem semStore_own (T : TypeId) (k o : Nat) (x : SV) : semStore P h T [.own k o, x] = storeK (h k) k o x (ts P T) (entVs (h k)) := by
  simp only [semStore]; unfold storeK
  rcases ts P T with _ | sz <;> rcases entVs (h k) with _ | vs <;> rfl
theorem storeK_some (e : Option Ent) (k o sz : Nat) (x : SV) (vs : List SV) : storeK e k o x (some sz) (some vs) = ⟨(partsOf x).length = sz ∧ o + sz ≤ vs.length ∧ 0 < sz ∧ (partsOf x).all oneSV = true, .v undef, [(k, setEnt e o (partsOf x))], none, [], [k]⟩ := rfl
def faK (k o : Nat) : Option (Nat × Nat × Bool) → Option (List SV) → R
  | some (off, sz, _), some vs => ⟨0 < sz ∧ o < vs.length, .own k (o + off), [], none, [], [k]⟩
  | _, _ => .bad
theorem semFieldAddr_own (T : TypeId) (f k o : Nat) : semFieldAddr P h T f [.own k o] = faK k o (tf P T f) (entVs (h k)) := by
  simp only [semFieldAddr]; unfold faK
  rcases tf P T f with _ | ⟨a, b, c⟩ <;> rcases entVs (h k) with _ | vs <;> rfl
theorem faK_some (k o off sz : Nat) (ag : Bool) (vs : List SV) : faK k o (some (off, sz, ag)) (some vs) = ⟨0 < sz ∧ o < vs.length, .own k (o + off), [], none, [], [k]⟩ := rfl
def faX (b o : Nat) : Option (Nat × Nat × Bool) → R
  | some (off, sz, _) => ⟨0 < sz, .v (.pointer (some ⟨b, o + off, none⟩)), [], none, [], []⟩
  | _ => .bad
theorem semFieldAddr_ext (T : TypeId) (f b o : Nat) : semFieldAddr P h T f [.v (.pointer (some ⟨b, o, none⟩))] = faX b o (tf P T f) := by
  simp only [semFieldAddr]; unfold faX
  rcases tf P T f with _ | ⟨a, b, c⟩ <;> rfl
theorem faX_some (b o off sz : Nat) (ag : Bool) : faX b o (some (off, sz, ag)) = ⟨0 < sz, .v (.pointer (some ⟨b, o + off, none⟩)), [], none, [], []⟩ := rfl
def fieldK (l : List SV) : Option (Nat × Nat × Bool) → R
  | some (off, sz, ag) => partSV ag off sz l
  | none => .bad
theorem semField_agg (T : TypeId) (f : Nat) (l : List SV) : semField P T f [.agg l] = fieldK l (tf P T f) := by
  simp only [semField]; unfold fieldK
  rcases tf P T f with _ | ⟨a, b, c⟩ <;> rfl
theorem semField_vagg (T : TypeId) (f : Nat) (cs : Array Value) : semField P T f [.v (.agg cs)] = fieldK (cs.toList.map .v) (tf P T f) := by
  simp only [semField]; unfold fieldK
  rcases tf P T f with _ | ⟨a, b, c⟩ <;> rfl
theorem fieldK_agg (l : List SV) (off sz : Nat) : fieldK l (some (off, sz, true)) = ⟨off + sz ≤ l.length, .agg ((l.drop off).take sz), [], none, [], []⟩ := rfl
theorem fieldK_one (l : List SV) (off sz : Nat) : fieldK l (some (off, sz, false)) = ⟨off < l.length, l.getD off (.v undef), [], none, [], []⟩ := rfl
theorem semExtract_tup (i : Nat) (l : List SV) : semExtract i [.tup l] = ⟨i < l.length, l.getD i (.v undef), [], none, [], []⟩ := rfl
theorem semExtract_vtup (i : Nat) (vs : Array Value) : semExtract i [.v (.tuple vs)] = ⟨i < vs.size, .v (vs.getD i undef), [], none, [], []⟩ := rfl
theorem semBin_shl (eqs : (T : TypeId) → Option (EqSpec P T)) (T : TypeId) (k k' : IntKind) (a b : Int) : semBin P eqs .shl T [.v (.int k a), .v (.int k' b)] = ⟨0 ≤ b, .v (.int k (k.wrap (a * 2 ^ (min b.toNat k.bits)))), [], none, [], []⟩ := rfl
theorem semBin_shr (eqs : (T : TypeId) → Option (EqSpec P T)) (T : TypeId) (k k' : IntKind) (a b : Int) : semBin P eqs .shr T [.v (.int k a), .v (.int k' b)] = ⟨0 ≤ b, .v (.int k (a.fdiv (2 ^ (min b.toNat k.bits)))), [], none, [], []⟩ := rfl
theorem semBin_int (eqs : (T : TypeId) → Option (EqSpec P T)) (T : TypeId) (k : IntKind) (a b : Int) :
    semBin P eqs .add T [.v (.int k a), .v (.int k b)] = ⟨True, .v (.int k (k.wrap (a + b))), [], none, [], []⟩ ∧
    semBin P eqs .sub T [.v (.int k a), .v (.int k b)] = ⟨True, .v (.int k (k.wrap (a - b))), [], none, [], []⟩ ∧
    semBin P eqs .mul T [.v (.int k a), .v (.int k b)] = ⟨True, .v (.int k (k.wrap (a * b))), [], none, [], []⟩ ∧
    semBin P eqs .quo T [.v (.int k a), .v (.int k b)] = ⟨b ≠ 0, .v (.int k (k.wrap (a.tdiv b))), [], none, [], []⟩ ∧
    semBin P eqs .rem T [.v (.int k a), .v (.int k b)] = ⟨b ≠ 0, .v (.int k (a.tmod b)), [], none, [], []⟩ ∧
    semBin P eqs .and T [.v (.int k a), .v (.int k b)] = ⟨True, .v (.int k (bitsV .and k a b)), [], none, [], []⟩ ∧
    semBin P eqs .or T [.v (.int k a), .v (.int k b)] = ⟨True, .v (.int k (bitsV .or k a b)), [], none, [], []⟩ ∧
    semBin P eqs .xor T [.v (.int k a), .v (.int k b)] = ⟨True, .v (.int k (bitsV .xor k a b)), [], none, [], []⟩ ∧
    semBin P eqs .eql T [.v (.int k a), .v (.int k b)] = ⟨True, .v (.bool (decide (a = b))), [], none, [], []⟩ ∧
    semBin P eqs .neq T [.v (.int k a), .v (.int k b)] = ⟨True, .v (.bool (!decide (a = b))), [], none, [], []⟩ ∧
    semBin P eqs .lss T [.v (.int k a), .v (.int k b)] = ⟨True, .v (.bool (decide (a < b))), [], none, [], []⟩ ∧
    semBin P eqs .leq T [.v (.int k a), .v (.int k b)] = ⟨True, .v (.bool (decide (a ≤ b))), [], none, [], []⟩ ∧
    semBin P eqs .gtr T [.v (.int k a), .v (.int k b)] = ⟨True, .v (.bool (decide (b < a))), [], none, [], []⟩ ∧
    semBin P eqs .geq T [.v (.int k a), .v (.int k b)] = ⟨True, .v (.bool (decide (b ≤ a))), [], none, [], []⟩ := by
  simp [semBin, binI, R.req]
theorem semBin_str (eqs : (T : TypeId) → Option (EqSpec P T)) (T : TypeId) (a b : ByteArray) :
    semBin P eqs .add T [.v (.string a), .v (.string b)] = ⟨a.size + b.size ≤ 9223372036854775807, .v (.string (a ++ b)), [], none, [], []⟩ ∧
    semBin P eqs .eql T [.v (.string a), .v (.string b)] = ⟨True, .v (.bool (decide (a = b))), [], none, [], []⟩ ∧
    semBin P eqs .neq T [.v (.string a), .v (.string b)] = ⟨True, .v (.bool (!decide (a = b))), [], none, [], []⟩ ∧
    semBin P eqs .lss T [.v (.string a), .v (.string b)] = ⟨True, .v (.bool (Op.bytesLess a.toList b.toList)), [], none, [], []⟩ ∧
    semBin P eqs .gtr T [.v (.string a), .v (.string b)] = ⟨True, .v (.bool (!(Op.bytesLess a.toList b.toList || decide (a = b)))), [], none, [], []⟩ := by
  simp [semBin, binS, R.req]
theorem semBin_bool (eqs : (T : TypeId) → Option (EqSpec P T)) (T : TypeId) (a b : Bool) :
    semBin P eqs .eql T [.v (.bool a), .v (.bool b)] = ⟨P.underlying T = some .bool, .v (.bool (a == b)), [], none, [], []⟩ ∧
    semBin P eqs .neq T [.v (.bool a), .v (.bool b)] = ⟨P.underlying T = some .bool, .v (.bool (!(a == b))), [], none, [], []⟩ := ⟨rfl, rfl⟩
def valsL : List SV → Option (List Value)
  | [] => some []
  | .v x :: r => (valsL r).map (x :: ·)
  | _ => none
theorem valsOf_agg : ∀ l : List SV, valsOf (.agg l) = valsL l
  | [] => rfl
  | x :: r => by
    have ih := valsOf_agg r
    simp only [valsOf] at ih ⊢
    rw [List.mapM_cons, ih]
    cases x <;> simp [valsL] <;> cases valsL r <;> rfl
theorem valsOf_v (cs : Array Value) : valsOf (.v (.agg cs)) = some cs.toList := rfl
theorem valsL_nil : valsL [] = some [] := rfl
theorem valsL_cons (x : Value) (r : List SV) : valsL (.v x :: r) = (valsL r).map (x :: ·) := rfl
def eqK {T : TypeId} (neg : Bool) : Option (List Value) → Option (List Value) → Option (EqSpec P T) → R
  | some xs, some ys, some e => ⟨(e.f xs ys).isSome = true, .v (.bool (neg ^^ (e.f xs ys).getD false)), [], none, [], []⟩
  | _, _, _ => .bad
def aggL : SV → Option (List Value)
  | .v (.agg cs) => some cs.toList
  | .agg l => valsL l
  | _ => none
theorem semBin_eqS (eqs : (T : TypeId) → Option (EqSpec P T)) (T : TypeId) (l l' : List SV) :
    semBin P eqs .eql T [.agg l, .agg l'] = eqK false (valsL l) (valsL l') (eqs T) ∧ semBin P eqs .neq T [.agg l, .agg l'] = eqK true (valsL l) (valsL l') (eqs T) := by
  simp only [semBin, valsOf_agg, valsOf_v]
  constructor <;> (unfold eqK; rcases valsL l with _ | xs <;> rcases valsL l' with _ | ys <;> rcases eqs T with _ | e <;> simp [R.req])
theorem semBin_eqVV (eqs : (T : TypeId) → Option (EqSpec P T)) (T : TypeId) (cs cs' : Array Value) :
    semBin P eqs .eql T [.v (.agg cs), .v (.agg cs')] = eqK false (some cs.toList) (some cs'.toList) (eqs T) ∧ semBin P eqs .neq T [.v (.agg cs), .v (.agg cs')] = eqK true (some cs.toList) (some cs'.toList) (eqs T) := by
  simp only [semBin, valsOf_agg, valsOf_v]
  refine ⟨?_, ?_⟩ <;> (unfold eqK; rcases eqs T with _ | e <;> simp [R.req])
theorem semBin_eqVA (eqs : (T : TypeId) → Option (EqSpec P T)) (T : TypeId) (cs : Array Value) (l : List SV) :
    semBin P eqs .eql T [.v (.agg cs), .agg l] = eqK false (some cs.toList) (valsL l) (eqs T) ∧ semBin P eqs .neq T [.v (.agg cs), .agg l] = eqK true (some cs.toList) (valsL l) (eqs T) ∧
    semBin P eqs .eql T [.agg l, .v (.agg cs)] = eqK false (valsL l) (some cs.toList) (eqs T) ∧ semBin P eqs .neq T [.agg l, .v (.agg cs)] = eqK true (valsL l) (some cs.toList) (eqs T) := by
  simp only [semBin, valsOf_agg, valsOf_v]
  refine ⟨?_, ?_, ?_, ?_⟩ <;> (unfold eqK; rcases valsL l with _ | xs <;> rcases eqs T with _ | e <;> simp [R.req])
theorem eqK_some {T : TypeId} (neg : Bool) (xs ys : List Value) (e : EqSpec P T) : eqK neg (some xs) (some ys) (some e) = ⟨(e.f xs ys).isSome = true, .v (.bool (neg ^^ (e.f xs ys).getD false)), [], none, [], []⟩ := rfl
theorem semUn_not (b : Bool) : semUn .not [.v (.bool b)] = ⟨True, .v (.bool (!b)), [], none, [], []⟩ := rfl
theorem semUn_neg (k : IntKind) (n : Int) : semUn .neg [.v (.int k n)] = ⟨True, .v (.int k (k.wrap (0 - n))), [], none, [], []⟩ := rfl
def lenK (n : Nat) (k : Nat) : Option TypeDesc → R
  | some (.slice _) => ⟨True, .v (.int .i64 n), [], none, [], [k]⟩
  | _ => ⟨False, .v (.int .i64 n), [], none, [], [k]⟩
theorem semLen_str (T : TypeId) (s : ByteArray) : semLen P h T [.v (.string s)] = ⟨P.underlying T = some .string, .v (.int .i64 s.size), [], none, [], []⟩ := rfl
theorem semLen_slice (T : TypeId) (a : Option Addr) (n c : Nat) : semLen P h T [.v (.slice a n c)] = ⟨∃ e, P.underlying T = some (.slice e), .v (.int .i64 n), [], none, [], []⟩ := rfl
def lenH (P : Program) (T : TypeId) (k : Nat) : Option Ent → R
  | some (.row _ _ n _) => ⟨∃ e, P.underlying T = some (.slice e), .v (.int .i64 n), [], none, [], [k]⟩
  | _ => .bad
theorem semLen_hd (T : TypeId) (k : Nat) : semLen P h T [.hd k] = lenH P T k (h k) := by
  simp only [semLen]; unfold lenH
  rcases h k with _ | e
  · rfl
  · cases e <;> rfl
theorem lenH_row (T T' : TypeId) (k s n : Nat) (vs : List SV) : lenH P T k (some (.row T' s n vs)) = ⟨∃ e, P.underlying T = some (.slice e), .v (.int .i64 n), [], none, [], [k]⟩ := rfl
theorem sliceEx (d : TypeDesc) (e : TypeId) (hd : d = .slice e) : (∃ e, (some d : Option TypeDesc) = some (.slice e)) = True := by subst hd; simp
def ixK (P : Program) (k : Nat) (i : Int) : Option TypeDesc → Option Ent → R
  | some (.slice e), some (.row _ size n _) => ⟨ts P e = some size ∧ 0 ≤ i ∧ i < n ∧ 0 < size, .own k (i.toNat * size), [], none, [], [k]⟩
  | _, _ => .bad
theorem semIndexAddr_hd (T : TypeId) (k : Nat) (ik : IntKind) (i : Int) : semIndexAddr P h T [.hd k, .v (.int ik i)] = ixK P k i (P.underlying T) (h k) := by
  simp only [semIndexAddr]; unfold ixK
  rcases P.underlying T with _ | d <;> rcases h k with _ | e
  · rfl
  · cases e <;> rfl
  · cases d <;> rfl
  · cases d <;> cases e <;> rfl
theorem ixK_some (e e' : TypeId) (k size n : Nat) (i : Int) (vs : List SV) : ixK P k i (some (.slice e)) (some (.row e' size n vs)) = ⟨ts P e = some size ∧ 0 ≤ i ∧ i < n ∧ 0 < size, .own k (i.toNat * size), [], none, [], [k]⟩ := rfl
def ixY (b o n : Nat) (i : Int) : Option Nat → R
  | some sz => ⟨0 ≤ i ∧ i < n, .v (.pointer (some ⟨b, o + i.toNat * sz, none⟩)), [], none, [], []⟩
  | none => .bad
def ixX (P : Program) (b o n : Nat) (i : Int) : Option TypeDesc → R
  | some (.slice e) => ixY b o n i (ts P e)
  | _ => .bad
theorem semIndexAddr_ext (T : TypeId) (b o n c : Nat) (ik : IntKind) (i : Int) : semIndexAddr P h T [.v (.slice (some ⟨b, o, none⟩) n c), .v (.int ik i)] = ixX P b o n i (P.underlying T) := by
  simp only [semIndexAddr]; unfold ixX
  rcases P.underlying T with _ | d
  · rfl
  · cases d <;> rfl
theorem ixX_slice (e : TypeId) (b o n : Nat) (i : Int) : ixX P b o n i (some (.slice e)) = ixY b o n i (ts P e) := rfl
theorem ixY_some (b o n : Nat) (i : Int) (sz : Nat) : ixY b o n i (some sz) = ⟨0 ≤ i ∧ i < n, .v (.pointer (some ⟨b, o + i.toNat * sz, none⟩)), [], none, [], []⟩ := rfl
theorem semIndex_str (T : TypeId) (s : ByteArray) (ik : IntKind) (i : Int) : semIndex P T [.v (.string s), .v (.int ik i)] = ⟨P.underlying T = some .string ∧ 0 ≤ i ∧ i < s.size, .v (.int .u8 (bt s i)), [], none, [], []⟩ := rfl
theorem semSlice_s11 (T : TypeId) (s : ByteArray) (k k' : IntKind) (a b : Int) : semSlice P T true true false [.v (.string s), .v (.int k a), .v (.int k' b)] = ⟨P.underlying T = some .string ∧ 0 ≤ a ∧ a ≤ b ∧ b ≤ s.size, .v (.string (s.extract a.toNat b.toNat)), [], none, [], []⟩ := by
  simp [semSlice, sliceArgs, semSliceS, R.req]
theorem semSlice_s10 (T : TypeId) (s : ByteArray) (k : IntKind) (a : Int) : semSlice P T true false false [.v (.string s), .v (.int k a)] = ⟨P.underlying T = some .string ∧ 0 ≤ a ∧ a ≤ s.size, .v (.string (s.extract a.toNat s.size)), [], none, [], []⟩ := by
  simp [semSlice, sliceArgs, semSliceS, R.req]
theorem semSlice_s01 (T : TypeId) (s : ByteArray) (k' : IntKind) (b : Int) : semSlice P T false true false [.v (.string s), .v (.int k' b)] = ⟨P.underlying T = some .string ∧ 0 ≤ b ∧ b ≤ s.size, .v (.string (s.extract 0 b.toNat)), [], none, [], []⟩ := by
  simp [semSlice, sliceArgs, semSliceS, R.req]
theorem semNilCheck_own (k o : Nat) (vs : List SV) (hv : entVs (h k) = some vs) : semNilCheck h [.own k o] = ⟨o < vs.length, .own k o, [], none, [], [k]⟩ := by simp only [semNilCheck, hv]
theorem semNilCheck_ext (a : Addr) : semNilCheck h [.v (.pointer (some a))] = ⟨True, .v (.pointer (some a)), [], none, [], []⟩ := rfl
theorem semMkI_v (T : TypeId) (x : Value) : semMkI P T [.v x] = ⟨P.concrete T = true, .v (.iface T x), [], none, [], []⟩ := rfl
def buildK (idx : List Nat) (args : List SV) : Option (List Value) → Option (List (Nat × Nat)) → Option TypeDesc → R
  | some zs, some fl, some (.struct _) => match fillSV (fun i => fl[i]?) (zs.map .v) (idx.zip args) with
    | some cells => ⟨True, .agg cells, [], none, [], []⟩
    | none => .bad
  | _, _, _ => .bad
end

end
end Go.LE
