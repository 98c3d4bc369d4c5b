/-
  LE, the engine, part 21: more rules: struct values, slices made, append; numbers.
-/
import Derived.Test.YtoglkgbjehbcpaaE20
namespace Go.LE
open Go.RowKit
set_option linter.unusedSimpArgs false
set_option linter.unusedVariables false
set_option linter.defProp false

section
variable {P : Program} {W : World} {bs : List Nat} {κ : Nat} {h : Hp}

def fillF (fl : List (Nat × Nat)) (cells : List SV) (l : List (Nat × SV)) : Option (List SV) := fillSV (fun i => fl[i]?) cells l
def fillG (fl : List (Nat × Nat)) (cells : List SV) (r : List (Nat × SV)) (x : SV) : Option (Nat × Nat) → Option (List SV)
  | some (off, size) => if (partsOf x).length = size ∧ off + size ≤ cells.length then fillF fl (setRange cells off (partsOf x)) r else none
  | none => none
theorem fillF_nil (fl : List (Nat × Nat)) (cells : List SV) : fillF fl cells [] = some cells := rfl
theorem fillF_cons (fl : List (Nat × Nat)) (cells : List SV) (i : Nat) (x : SV) (r : List (Nat × SV)) : fillF fl cells ((i, x) :: r) = fillG fl cells r x (fl[i]?) := by
  simp only [fillF, fillSV, fillG]
  cases fl[i]? <;> rfl
theorem fillG_some (fl : List (Nat × Nat)) (cells : List SV) (r : List (Nat × SV)) (x : SV) (off size : Nat) :
    fillG fl cells r x (some (off, size)) = if (partsOf x).length = size ∧ off + size ≤ cells.length then fillF fl (setRange cells off (partsOf x)) r else none := rfl
def aggK : Option (List SV) → R
  | some cells => ⟨True, .agg cells, [], none, [], []⟩
  | none => .bad
theorem aggK_some (l : List SV) : aggK (some l) = ⟨True, .agg l, [], none, [], []⟩ := rfl
def buildF (idx : List Nat) (args : List SV) : Option (List Value) → Option (List (Nat × Nat)) → R
  | some zs, some fl => aggK (fillF fl (zs.map .v) (idx.zip args))
  | _, _ => .bad
theorem buildF_some (idx : List Nat) (args : List SV) (zs : List Value) (fl : List (Nat × Nat)) : buildF idx args (some zs) (some fl) = aggK (fillF fl (zs.map .v) (idx.zip args)) := rfl
theorem semBuild_eq (T : TypeId) (idx : List Nat) (args : List SV) (hs : (tfs P T).isSome = true) : semBuild P T idx args = buildF idx args (tz P T) (tfs P T) := by
  have hu : ∃ fs, P.underlying T = some (.struct fs) := by
    unfold tfs at hs
    split at hs
    · rename_i fs hfs; exact ⟨fs, hfs⟩
    · cases hs
  obtain ⟨fs, hu⟩ := hu
  obtain ⟨fl, hfl⟩ := Option.isSome_iff_exists.1 hs
  unfold semBuild buildF
  rw [hu, hfl]
  cases tz P T with
  | none => rfl
  | some zs =>
    simp only [fillF, aggK]
    cases fillSV (fun i => fl[i]?) (zs.map .v) (idx.zip args) <;> rfl

def fillS (sz : Nat) (cells : List SV) (l : List (Nat × SV)) : Option (List SV) := fillSV (fun i => some (i * sz, sz)) cells l
theorem fillS_nil (sz : Nat) (cells : List SV) : fillS sz cells [] = some cells := rfl
theorem fillS_cons (sz : Nat) (cells : List SV) (i : Nat) (x : SV) (r : List (Nat × SV)) :
    fillS sz cells ((i, x) :: r) = if (partsOf x).length = sz ∧ i * sz + sz ≤ cells.length then fillS sz (setRange cells (i * sz) (partsOf x)) r else none := rfl
def rowK (κ : Nat) (e : TypeId) (sz len : Nat) (p : Prop) : Option (List SV) → R
  | some cells => ⟨p, .hd (8 * κ), [(8 * κ, some (.row e sz len cells))], none, [], []⟩
  | none => .bad
theorem rowK_some (e : TypeId) (sz len : Nat) (p : Prop) (l : List SV) : rowK κ e sz len p (some l) = ⟨p, .hd (8 * κ), [(8 * κ, some (.row e sz len l))], none, [], []⟩ := rfl
def bsK (κ : Nat) (e : TypeId) (len : Nat) (idx : List Nat) (args : List SV) : Option Nat → Option (List Value) → R
  | some sz, some zs => rowK κ e sz len (len * sz ≤ 16777216 ∧ zs.length = sz ∧ 0 < sz) (fillS sz ((List.replicate len zs).flatten.map .v) (idx.zip args))
  | _, _ => .bad
theorem bsK_some (e : TypeId) (len : Nat) (idx : List Nat) (args : List SV) (sz : Nat) (zs : List Value) :
    bsK κ e len idx args (some sz) (some zs) = rowK κ e sz len (len * sz ≤ 16777216 ∧ zs.length = sz ∧ 0 < sz) (fillS sz ((List.replicate len zs).flatten.map .v) (idx.zip args)) := rfl
def bsU (P : Program) (κ : Nat) (len : Nat) (idx : List Nat) (args : List SV) : Option TypeDesc → R
  | some (.slice e) => bsK κ e len idx args (ts P e) (tz P e)
  | _ => .bad
theorem bsU_slice (len : Nat) (idx : List Nat) (args : List SV) (e : TypeId) : bsU P κ len idx args (some (.slice e)) = bsK κ e len idx args (ts P e) (tz P e) := rfl
theorem semBuildSlice_eq (T : TypeId) (len : Nat) (idx : List Nat) (args : List SV) : semBuildSlice P κ T len idx args = bsU P κ len idx args (P.underlying T) := by
  unfold semBuildSlice bsU
  rcases P.underlying T with _ | d
  · rfl
  · cases d with
    | slice e =>
      simp only [bsK]
      rcases ts P e with _ | sz <;> rcases tz P e with _ | zs
      · rfl
      · rfl
      · rfl
      · simp only [rowK, fillS]
        cases fillSV (fun i => some (i * sz, sz)) ((List.replicate len zs).flatten.map .v) (idx.zip args) <;> rfl
    | _ => rfl

def appK (P : Program) (κ k j : Nat) (tys : List TypeId) : Option Ent → Option Ent → R
  | some (.row e sz n vs), some (.row _ sz' m us) => match tys, tby P e, tz P e with
    | [T, T'], some by_, some zs => ⟨T' = T ∧ P.underlying T = some (.slice e) ∧ ts P e = some sz ∧ zs.length = sz ∧ 0 < sz ∧ sz' = sz ∧ k ≠ j ∧ 0 < m ∧ n + m ≤ maxLen ∧ (n + m) * by_ ≤ 140737488355328 ∧ us.all oneSV = true, .hd (8 * κ), [(k, none), (8 * κ, some (.row e sz (n + m) (vs ++ us)))], none, [], [k, j]⟩
    | _, _, _ => .bad
  | _, _ => .bad
theorem semApp_own (tys : List TypeId) (k j : Nat) : semApp P κ h tys [.hd k, .hd j] = appK P κ k j tys (h k) (h j) := by
  simp only [semApp]
  unfold appK
  rcases h k with _ | e <;> rcases h j with _ | e'
  · rcases tys with _ | ⟨a, _ | ⟨b, _ | _⟩⟩ <;> rfl
  · rcases tys with _ | ⟨a, _ | ⟨b, _ | _⟩⟩ <;> rfl
  · rcases tys with _ | ⟨a, _ | ⟨b, _ | _⟩⟩ <;> cases e <;> rfl
  · rcases tys with _ | ⟨a, _ | ⟨b, _ | _⟩⟩ <;> cases e <;> cases e' <;> try rfl
    rename_i T s n vs T' s' n' vs'
    simp only []
    rcases tby P T with _ | x <;> rcases tz P T with _ | y <;> rfl
def appJ (P : Program) (κ k j : Nat) (T T' e sz n sz' m : Nat) (vs us : List SV) : Option Nat → Option (List Value) → R
  | some by_, some zs => ⟨T' = T ∧ P.underlying T = some (.slice e) ∧ ts P e = some sz ∧ zs.length = sz ∧ 0 < sz ∧ sz' = sz ∧ k ≠ j ∧ 0 < m ∧ n + m ≤ maxLen ∧ (n + m) * by_ ≤ 140737488355328 ∧ us.all oneSV = true, .hd (8 * κ), [(k, none), (8 * κ, some (.row e sz (n + m) (vs ++ us)))], none, [], [k, j]⟩
  | _, _ => .bad
theorem appK_row (k j : Nat) (T T' e e' : TypeId) (sz n sz' m : Nat) (vs us : List SV) :
    appK P κ k j [T, T'] (some (.row e sz n vs)) (some (.row e' sz' m us)) = appJ P κ k j T T' e sz n sz' m vs us (tby P e) (tz P e) := by
  simp only [appK, appJ]
  rcases tby P e with _ | x <;> rcases tz P e with _ | y <;> rfl
theorem appJ_some (k j : Nat) (T T' e sz n sz' m : Nat) (vs us : List SV) (by_ : Nat) (zs : List Value) :
    appJ P κ k j T T' e sz n sz' m vs us (some by_) (some zs) = ⟨T' = T ∧ P.underlying T = some (.slice e) ∧ ts P e = some sz ∧ zs.length = sz ∧ 0 < sz ∧ sz' = sz ∧ k ≠ j ∧ 0 < m ∧ n + m ≤ maxLen ∧ (n + m) * by_ ≤ 140737488355328 ∧ us.all oneSV = true, .hd (8 * κ), [(k, none), (8 * κ, some (.row e sz (n + m) (vs ++ us)))], none, [], [k, j]⟩ := rfl
def appN (P : Program) (κ j : Nat) (T T' : TypeId) : Option TypeDesc → Option Ent → R
  | some (.slice e), some (.row _ sz m us) => match tby P e, tz P e with
    | some by_, some zs => ⟨T' = T ∧ ts P e = some sz ∧ zs.length = sz ∧ 0 < sz ∧ 0 < m ∧ m ≤ maxLen ∧ m * by_ ≤ 140737488355328 ∧ us.all oneSV = true, .hd (8 * κ), [(8 * κ, some (.row e sz m us))], none, [], [j]⟩
    | _, _ => .bad
  | _, _ => .bad
theorem semApp_nil (T T' : TypeId) (j : Nat) : semApp P κ h [T, T'] [.v (.slice none 0 0), .hd j] = appN P κ j T T' (P.underlying T) (h j) := by
  simp only [semApp]
  unfold appN
  rcases h j with _ | e'
  · rcases P.underlying T with _ | d
    · rfl
    · cases d <;> rfl
  · cases e' with
    | row e sz m us =>
      simp only []
      rcases P.underlying T with _ | d
      · rfl
      · cases d with
        | slice a =>
          simp only []
          rcases tby P a with _ | x <;> rcases tz P a with _ | y <;> rfl
        | _ => rfl
    | cells T2 vs =>
      rcases P.underlying T with _ | d
      · rfl
      · cases d <;> rfl
    | obj d R =>
      rcases P.underlying T with _ | d
      · rfl
      · cases d <;> rfl
def appM (P : Program) (κ j : Nat) (T T' e sz m : Nat) (us : List SV) : Option Nat → Option (List Value) → R
  | some by_, some zs => ⟨T' = T ∧ ts P e = some sz ∧ zs.length = sz ∧ 0 < sz ∧ 0 < m ∧ m ≤ maxLen ∧ m * by_ ≤ 140737488355328 ∧ us.all oneSV = true, .hd (8 * κ), [(8 * κ, some (.row e sz m us))], none, [], [j]⟩
  | _, _ => .bad
theorem appN_row (j : Nat) (T T' e e' : TypeId) (sz m : Nat) (us : List SV) :
    appN P κ j T T' (some (.slice e)) (some (.row e' sz m us)) = appM P κ j T T' e sz m us (tby P e) (tz P e) := by
  simp only [appN, appM]
theorem appM_some (j : Nat) (T T' e sz m : Nat) (us : List SV) (by_ : Nat) (zs : List Value) :
    appM P κ j T T' e sz m us (some by_) (some zs) = ⟨T' = T ∧ ts P e = some sz ∧ zs.length = sz ∧ 0 < sz ∧ 0 < m ∧ m ≤ maxLen ∧ m * by_ ≤ 140737488355328 ∧ us.all oneSV = true, .hd (8 * κ), [(8 * κ, some (.row e sz m us))], none, [], [j]⟩ := rfl
end

/-! ### Numbers -/
theorem wrap64_id {n : Int} (h1 : -9223372036854775808 ≤ n) (h2 : n ≤ 9223372036854775807) : IntKind.i64.wrap n = n := by
  simp only [IntKind.wrap, IntKind.bits, IntKind.signed, Bool.true_and, decide_eq_true_eq, show (2 : Int) ^ (64 - 1) = 9223372036854775808 from rfl, show (2 : Int) ^ 64 = 18446744073709551616 from rfl]
  split <;> omega
theorem xcells1 (W : World) (b o : Nat) : xcells W b o 1 = [.v ((W.cell? ⟨b, o, none⟩).getD undef)] := rfl
theorem xcells2 (W : World) (b o : Nat) : xcells W b o 2 = [.v ((W.cell? ⟨b, o, none⟩).getD undef), .v ((W.cell? ⟨b, o + 1, none⟩).getD undef)] := rfl
theorem xcells3 (W : World) (b o : Nat) : xcells W b o 3 = [.v ((W.cell? ⟨b, o, none⟩).getD undef), .v ((W.cell? ⟨b, o + 1, none⟩).getD undef), .v ((W.cell? ⟨b, o + 2, none⟩).getD undef)] := rfl
theorem xcells4 (W : World) (b o : Nat) : xcells W b o 4 = [.v ((W.cell? ⟨b, o, none⟩).getD undef), .v ((W.cell? ⟨b, o + 1, none⟩).getD undef), .v ((W.cell? ⟨b, o + 2, none⟩).getD undef), .v ((W.cell? ⟨b, o + 3, none⟩).getD undef)] := rfl
theorem xthere1 (W : World) (b o : Nat) : xthere W b o 1 = ((W.cell? ⟨b, o, none⟩).isSome = true) := by simp [xthere]
theorem xthere2 (W : World) (b o : Nat) : xthere W b o 2 = ((W.cell? ⟨b, o, none⟩).isSome = true ∧ (W.cell? ⟨b, o + 1, none⟩).isSome = true) := by simp [xthere]
theorem xthere3 (W : World) (b o : Nat) : xthere W b o 3 = ((W.cell? ⟨b, o, none⟩).isSome = true ∧ (W.cell? ⟨b, o + 1, none⟩).isSome = true ∧ (W.cell? ⟨b, o + 2, none⟩).isSome = true) := by simp [xthere]
theorem xthere4 (W : World) (b o : Nat) : xthere W b o 4 = ((W.cell? ⟨b, o, none⟩).isSome = true ∧ (W.cell? ⟨b, o + 1, none⟩).isSome = true ∧ (W.cell? ⟨b, o + 2, none⟩).isSome = true ∧ (W.cell? ⟨b, o + 3, none⟩).isSome = true) := by simp [xthere]
theorem sliceEq (e e' : TypeId) : ((some (TypeDesc.slice e) : Option TypeDesc) = some (.slice e')) = (e = e') := by simp
theorem sliceIs (e : TypeId) : (∃ e', (some (TypeDesc.slice e) : Option TypeDesc) = some (.slice e')) = True := by simp
theorem semExtract_agg (i : Nat) (vs : Array Value) : semExtract i [.v (.tuple vs)] = ⟨i < vs.size, .v (vs.getD i undef), [], none, [], []⟩ := rfl

theorem callOps_b (b : Builtin) (as_ : Array Operand) (tys : Array TypeId) : Call.operands { callee := .builtin b, args := as_, argTypes := tys } = as_ := by simp [Call.operands]
theorem callOps_v (f : Operand) (as_ : Array Operand) (tys : Array TypeId) : (Call.operands { callee := .value f, args := as_, argTypes := tys }).toList = f :: as_.toList := by simp [Call.operands]
theorem callOps_i (f : Operand) (n : String) (as_ : Array Operand) (tys : Array TypeId) : (Call.operands { callee := .invoke f n, args := as_, argTypes := tys }).toList = f :: as_.toList := by simp [Call.operands]

def semFK {P : Program} {f : FuncId} (W : World) (bs : List Nat) (κ : Nat) (h : Hp) (l : List SV) : Option (Spec P f) → R
  | some s => s.ev W bs κ h l
  | none => .bad
theorem semF_K {P : Program} {W : World} {bs : List Nat} {κ : Nat} {h : Hp} (Γ : Env P) (f : FuncId) (l : List SV) : semF Γ W bs κ h f l = semFK W bs κ h l (Γ.sp f) := by
  simp only [semF, semFK]
  cases Γ.sp f <;> rfl
theorem semFK_some {P : Program} {f : FuncId} (W : World) (bs : List Nat) (κ : Nat) (h : Hp) (l : List SV) (s : Spec P f) : semFK W bs κ h l (some s) = s.ev W bs κ h l := rfl
theorem pureC_ev {P : Program} {f : FuncId} (p : PureC P f) (W : World) (bs : List Nat) (κ : Nat) (h : Hp) (l : List SV) : p.spec.ev W bs κ h l = pureK p.pre p.res W bs (viewL h l) := rfl
theorem makeC_ev {P : Program} {f : FuncId} (p : MakeC P f) (W : World) (bs : List Nat) (κ : Nat) (h : Hp) (l : List SV) : p.spec.ev W bs κ h l = makeK κ p.T p.s p.pre p.n p.vs p.tm W bs (viewL h l) := rfl

/-! ### The ends -/
theorem resL_nil {P : Program} {W : World} {bs : List Nat} {σ : St} : resL P W bs σ [] = (True, []) := rfl
theorem resL_cons {P : Program} {W : World} {bs : List Nat} {σ : St} (r : ResultVar) (l : List ResultVar) : resL P W bs σ (r :: l) = evC (resOne P W bs σ r) (resL P W bs σ l) := rfl
def resS : FV → Prop × SV
  | .is x => (True, x)
  | .cnd b x => (b = true, x)
  | .any => (False, .v undef)
theorem resOne_tmp {P : Program} {W : World} {bs : List Nat} {σ : St} (t : Nat) : resOne P W bs σ (.tmp t) = resS (σ.φ t) := by
  simp only [resOne, resS]
  cases σ.φ t <;> rfl
theorem resS_is (x : SV) : resS (.is x) = (True, x) := rfl
def resC (P : Program) (W : World) (bs : List Nat) (h : Hp) (T : TypeId) : FV → Prop × SV
  | .is (.own k o) => resR (semLoad P W bs h T [.own k o])
  | _ => (False, .v undef)
where resR (r : R) : Prop × SV := (r.side, r.val)
theorem resOne_cell {P : Program} {W : World} {bs : List Nat} {σ : St} (t : Nat) (T : TypeId) : resOne P W bs σ (.cell t T) = resC P W bs σ.h T (σ.φ t) := by
  simp only [resOne, resC]
  rcases σ.φ t with x | ⟨b, x⟩ | _
  · cases x <;> rfl
  · rfl
  · rfl
theorem resC_own {P : Program} {W : World} {bs : List Nat} {h : Hp} (T : TypeId) (k o : Nat) : resC P W bs h T (.is (.own k o)) = resC.resR (semLoad P W bs h T [.own k o]) := rfl
theorem resR_mk (side : Prop) (val : SV) (u : List (Nat × Option Ent)) (pan : Option (List PanicEntry)) (pupd reads : List Nat) : resC.resR ⟨side, val, u, pan, pupd, reads⟩ = (side, val) := rfl
theorem tupOf_one (x : SV) : tupOf [x] = x := rfl
theorem tupOf_two (x y : SV) (l : List SV) : tupOf (x :: y :: l) = .tup (x :: y :: l) := rfl
def finK (R : World → List Nat → SV → Hp → Prop) (W : World) (bs : List Nat) (h : Hp) (x : Prop × List SV) : Prop := x.1 ∧ R W bs (tupOf x.2) h
theorem Fin_ret {P : Program} {W : World} {bs : List Nat} {rs : List ResultVar} {R : World → List Nat → SV → Hp → Prop} {RP : List PanicEntry → Hp → Prop} {σ : St} : Fin P rs R RP .ret W bs σ = finK R W bs σ.h (resL P W bs σ rs) := rfl
theorem Fin_normal {P : Program} {W : World} {bs : List Nat} {rs : List ResultVar} {R : World → List Nat → SV → Hp → Prop} {RP : List PanicEntry → Hp → Prop} {σ : St} : Fin P rs R RP .normal W bs σ = finK R W bs σ.h (resL P W bs σ rs) := rfl
theorem finK_mk (R : World → List Nat → SV → Hp → Prop) (W : World) (bs : List Nat) (h : Hp) (p : Prop) (l : List SV) : finK R W bs h (p, l) = (p ∧ R W bs (tupOf l) h) := rfl
end Go.LE
