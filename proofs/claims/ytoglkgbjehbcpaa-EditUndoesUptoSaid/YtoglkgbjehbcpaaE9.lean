/-
  LE, the engine, part 9: all operations under one name; what a callee is known to do.
-/
import Derived.Test.YtoglkgbjehbcpaaE8
namespace Go.LE
open Go.RowKit
set_option linter.unusedSimpArgs false
set_option linter.unusedVariables false

/-- The keys that a result speaks of are known ones or the operation's own. -/
def KeysOk (K : Nat → Prop) (κ : Nat) (r : R) : Prop :=
  (∀ k ∈ r.val.keys, K k ∨ k / 8 = κ) ∧ ∀ p ∈ r.upd, (K p.1 ∨ p.1 / 8 = κ) ∧ ∀ e, p.2 = some e → ∀ k ∈ e.keys, K k ∨ k / 8 = κ

theorem KeysOk.plain {K : Nat → Prop} {κ : Nat} {r : R} (h : ∀ k ∈ r.val.keys, K k) (hu : r.upd = []) : KeysOk K κ r :=
  ⟨fun k hk => .inl (h k hk), by rw [hu]; simp⟩

/-- What is known of a callee: what it comes to, told of symbolic arguments and own memory. -/
structure Spec (P : Program) (f : FuncId) where
  ev : World → List Nat → Nat → (Nat → Option Ent) → List SV → R
  calls : ∀ args w, (callFunc f args).run P w = .ok (.enter f args) w
  good : ∀ (W : World) (bs : List Nat) (κ : Nat) (E : Nat → Value) (F : Nat → List Nat) (h : Nat → Option Ent) (w : World) (K : Nat → Prop) (args : List SV),
    HeapSat W bs E F h w → KeysIn K h → (∀ k, k / 8 = κ → ¬ K k) → (∀ k ∈ keysL args, K k) → (ev W bs κ h args).side →
    Good P W bs κ E h (ev W bs κ h args) (.ok (.enter f (denL E args).toArray) w)
  keys : ∀ (W : World) (bs : List Nat) (κ : Nat) (h : Nat → Option Ent) (K : Nat → Prop) (args : List SV), KeysIn K h → (∀ k ∈ keysL args, K k) → (ev W bs κ h args).side → KeysOk K κ (ev W bs κ h args)
  loc : ∀ (W : World) (bs : List Nat) (κ : Nat) (h h' : Nat → Option Ent) (args : List SV), (ev W bs κ h args).side → (∀ k ∈ (ev W bs κ h args).reads, h' k = h k) → ev W bs κ h' args = ev W bs κ h args

/-- A method of a dynamic type: which function it is; the receiver is handed over as it is. -/
structure MethSpec (P : Program) (t : TypeId) (name : String) where
  f : FuncId
  ok : ∀ v w, (method (P.types.size + Made.depth) t v name).run P w = .ok (f, v) w

/-- All that a seat brings to its program. -/
structure Env (P : Program) where
  sp : (f : FuncId) → Option (Spec P f)
  eqs : (T : TypeId) → Option (EqSpec P T)
  mt : (t : TypeId) → (name : String) → Option (MethSpec P t name)

section
variable {P : Program} {W : World} {bs : List Nat} {κ : Nat} {E : Nat → Value} {F : Nat → List Nat} {h : Nat → Option Ent} {w : World} {K : Nat → Prop} (Γ : Env P)

def semF (W : World) (bs : List Nat) (κ : Nat) (h : Nat → Option Ent) (f : FuncId) (args : List SV) : R :=
  match Γ.sp f with
  | some s => s.ev W bs κ h args
  | none => .bad

/-- a call of a function value -/
def semCall (W : World) (bs : List Nat) (κ : Nat) (h : Nat → Option Ent) : List SV → R
  | .fn (.func f) first cap :: rest => semF Γ W bs κ h f (first ++ rest ++ cap)
  | .v (.func (.func f) first cap) :: rest => semF Γ W bs κ h f (first.toList.map .v ++ rest ++ cap.toList.map .v)
  | _ => .bad

/-- a call of a method of an interface value -/
def semInvoke (W : World) (bs : List Nat) (κ : Nat) (h : Nat → Option Ent) (name : String) : List SV → R
  | .ifc t x :: rest => match Γ.mt t name with
    | some m => semF Γ W bs κ h m.f (x :: rest)
    | none => .bad
  | .v (.iface t x) :: rest => match Γ.mt t name with
    | some m => semF Γ W bs κ h m.f (.v x :: rest)
    | none => .bad
  | _ => .bad

def isIface (P : Program) (T : TypeId) : Option Bool := (P.underlying T).map fun | .interface _ => true | _ => false
theorem isIface_run {T : TypeId} (ht : isIface P T = some false) : ∃ d, P.underlying T = some d ∧ ∀ ms, d ≠ .interface ms := by
  obtain ⟨d, hd, hda⟩ := Option.map_eq_some_iff.1 ht
  exact ⟨d, hd, fun ms e => by subst e; simp at hda⟩

def tzv (P : Program) (T : TypeId) : Option Value := (P.info? T).bind (·.zero)
theorem run_tzv {T : TypeId} {z : Value} (ht : tzv P T = some z) (w : World) : (zeroValue T).run P w = .ok z w := by
  unfold tzv at ht
  cases hi : P.info? T with
  | none => simp [hi] at ht
  | some i =>
    simp only [hi, Option.bind_some] at ht
    simp [zeroValue, typeInfo, hi, ht]

/-- x.(T), T no interface type -/
def semAssert (P : Program) (T : TypeId) (ok : Bool) : List SV → R
  | [.ifc t x] => match isIface P T, tzv P T with
    | some false, some z =>
      match ok with
      | true => .ok (if t = T then .tup [x, .v (.bool true)] else .tup [.v z, .v (.bool false)])
      | false => .req (t = T) x
    | _, _ => .bad
  | [.v (.iface t x)] => match isIface P T, tzv P T with
    | some false, some z =>
      match ok with
      | true => .ok (if t = T then .tup [.v x, .v (.bool true)] else .tup [.v z, .v (.bool false)])
      | false => .req (t = T) (.v x)
    | _, _ => .bad
  | [.v .nilIface] => match isIface P T, tzv P T with
    | some false, some z =>
      match ok with
      | true => .ok (.tup [.v z, .v (.bool false)])
      | false => .bad
    | _, _ => .bad
  | _ => .bad

def semPanic : List SV → R
  | [.v (.iface t x)] => { side := True, val := .v undef, pan := some [{ v := .iface t x, recovered := false }] }
  | _ => .bad

def sem (W : World) (bs : List Nat) (κ : Nat) (h : Nat → Option Ent) : Op → List SV → R
  | .move _, [x] => .ok x
  | .assign _, [x] => .ok x
  | .alloc T, [] => semAlloc P κ T
  | .box T _, args => semBox κ T args
  | .build T ps, args => semBuild P T (ps.toList.map (·.1)) args
  | .buildSlice T n ps, args => semBuildSlice P κ T n (ps.toList.map (·.1)) args
  | .load T _, args => semLoad P W bs h T args
  | .store T _ _, args => semStore P h T args
  | .nilCheck _, args => semNilCheck h args
  | .binOp op T _ _ _, args => semBin P Γ.eqs op T args
  | .unOp op _ _, args => semUn op args
  | .convert s d _, args => semConvert P s d args
  | .makeInterface T _, args => semMkI P T args
  | .makeFunc fn first _, args => .ok (.fn fn (args.take first.size) (args.drop first.size))
  | .makeSlice T _ _, args => semMake P κ T args
  | .slice T _ lo hi mx, args => semSlice P T lo.isSome hi.isSome mx.isSome args
  | .fieldAddr S _ f, args => semFieldAddr P h S f args
  | .field S _ f, args => semField P S f args
  | .indexAddr T _ _, args => semIndexAddr P h T args
  | .index T _ _, args => semIndex P T args
  | .extract _ i, args => semExtract i args
  | .typeAssert _ _ T ok, args => semAssert P T ok args
  | .panic _, args => semPanic args
  | .call { callee := .builtin .len, args := _, argTypes := tys }, args => match tys.toList with
    | [T] => semLen P h T args
    | _ => .bad
  | .call { callee := .builtin .append, args := _, argTypes := tys }, args => semApp P κ h tys.toList args
  | .call { callee := .builtin .min, args := _, argTypes := _ }, args => semMin args
  | .call { callee := .builtin .max, args := _, argTypes := _ }, args => semMax args
  | .call { callee := .value _, args := _, argTypes := _ }, args => semCall Γ W bs κ h args
  | .call { callee := .invoke _ name, args := _, argTypes := _ }, args => semInvoke Γ W bs κ h name args
  | _, _ => .bad

/-! ### That it is so -/
theorem semF_good {f : FuncId} {args : List SV} (hs : HeapSat W bs E F h w) (hK : KeysIn K h) (hk : ∀ k, k / 8 = κ → ¬ K k) (hx : ∀ k ∈ keysL args, K k) (hside : (semF Γ W bs κ h f args).side) :
    Good P W bs κ E h (semF Γ W bs κ h f args) ((callFunc f (denL E args).toArray).run P w) := by
  revert hside
  unfold semF
  split
  · rename_i s hsp
    intro hside
    rw [s.calls]
    exact s.good W bs κ E F h w K args hs hK hk hx hside
  · exact fun hf => hf.elim

theorem semCall_good {o : Oper} {ρ : Operand → Value} {fo : Operand} {as_ : Array Operand} {tys : Array TypeId} {args : List SV} (hop : o.op = .call { callee := .value fo, args := as_, argTypes := tys })
    (hρ : (fo :: as_.toList).map ρ = denL E args) (hs : HeapSat W bs E F h w) (hK : KeysIn K h) (hk : ∀ k, k / 8 = κ → ¬ K k) (hx : ∀ k ∈ keysL args, K k) (hside : (semCall Γ W bs κ h args).side) :
    Good P W bs κ E h (semCall Γ W bs κ h args) ((execOp ρ o).run P w) := by
  revert hside
  unfold semCall
  split
  · rename_i f first cap rest
    intro hside
    simp only [denL, List.map_cons, List.cons.injEq] at hρ
    obtain ⟨h1, h2⟩ := hρ
    have harr : as_.map ρ = (denL E rest).toArray := by apply Array.ext'; simpa using h2
    have hx' : ∀ k ∈ keysL (first ++ rest ++ cap), K k := fun k hk => hx k (by
      simp only [keysL_append, List.mem_append] at hk
      simp only [keysL, SV.keys, List.mem_append]
      rcases hk with (hk | hk) | hk
      · exact .inl (.inl hk)
      · exact .inr hk
      · exact .inl (.inr hk))
    have := semF_good Γ (f := f) hs hK hk hx' hside
    rw [denL_append, denL_append] at this
    simp only [execOp, hop, resolve, h1, den, Deferred.ofValue, Sem.run_bind, Sem.run_pure, Result.andThen_ok, invoke, harr]
    simpa using this
  · rename_i f first cap rest
    intro hside
    simp only [denL, List.map_cons, List.cons.injEq] at hρ
    obtain ⟨h1, h2⟩ := hρ
    have harr : as_.map ρ = (denL E rest).toArray := by apply Array.ext'; simpa using h2
    have hx' : ∀ k ∈ keysL (first.toList.map .v ++ rest ++ cap.toList.map .v), K k := fun k hk => hx k (by
      simp only [keysL_append, List.mem_append, keysL_map_v] at hk
      simp only [keysL, SV.keys, List.mem_append]
      rcases hk with (hk | hk) | hk
      · cases hk
      · exact .inr hk
      · cases hk)
    have := semF_good Γ (f := f) hs hK hk hx' hside
    rw [denL_append, denL_append, denL_map_v, denL_map_v] at this
    have e2 : (first.toList ++ denL E rest ++ cap.toList).toArray = first ++ (denL E rest).toArray ++ cap := by apply Array.ext'; simp
    rw [e2] at this
    simp only [execOp, hop, resolve, h1, den, Deferred.ofValue, Sem.run_bind, Sem.run_pure, Result.andThen_ok, invoke, harr]
    exact this
  · exact fun hf => hf.elim

theorem semInvoke_good {o : Oper} {ρ : Operand → Value} {ro : Operand} {name : String} {as_ : Array Operand} {tys : Array TypeId} {args : List SV} (hop : o.op = .call { callee := .invoke ro name, args := as_, argTypes := tys })
    (hρ : (ro :: as_.toList).map ρ = denL E args) (hs : HeapSat W bs E F h w) (hK : KeysIn K h) (hk : ∀ k, k / 8 = κ → ¬ K k) (hx : ∀ k ∈ keysL args, K k) (hside : (semInvoke Γ W bs κ h name args).side) :
    Good P W bs κ E h (semInvoke Γ W bs κ h name args) ((execOp ρ o).run P w) := by
  revert hside
  unfold semInvoke
  split
  · rename_i t x rest
    split
    · rename_i m hm
      intro hside
      simp only [denL, List.map_cons, List.cons.injEq] at hρ
      obtain ⟨h1, h2⟩ := hρ
      have harr : as_.map ρ = (denL E rest).toArray := by apply Array.ext'; simpa using h2
      have := semF_good Γ (f := m.f) (args := x :: rest) hs hK hk (by simpa [keysL, SV.keys] using hx) hside
      simp only [denL] at this
      simp only [execOp, hop, resolve, h1, den, Sem.run_bind, Sem.run_pure, Result.andThen_ok, invoke, harr, callMethod]
      simp [m.ok, callMethod]
      simpa using this
    · exact fun hf => hf.elim
  · rename_i t x rest
    split
    · rename_i m hm
      intro hside
      simp only [denL, List.map_cons, List.cons.injEq] at hρ
      obtain ⟨h1, h2⟩ := hρ
      have harr : as_.map ρ = (denL E rest).toArray := by apply Array.ext'; simpa using h2
      have := semF_good Γ (f := m.f) (args := .v x :: rest) hs hK hk (by simpa [keysL, SV.keys] using hx) hside
      simp only [denL] at this
      simp only [execOp, hop, resolve, h1, den, Sem.run_bind, Sem.run_pure, Result.andThen_ok, invoke, harr]
      simp [m.ok, callMethod]
      simpa [den] using this
    · exact fun hf => hf.elim
  · exact fun hf => hf.elim

theorem run_assert_iface {T xT t : TypeId} {y z : Value} {ok : Bool} (hif : isIface P T = some false) (hz : tzv P T = some z) (hok : ok = true ∨ t = T) (w : World) :
    (Instr.typeAssert (.iface t y) xT T ok).run P w = .ok (if t = T then (if ok then .tuple #[y, .bool true] else y) else .tuple #[z, .bool false]) w := by
  obtain ⟨d, hd, hdi⟩ := isIface_run hif
  have hz' := run_tzv hz
  by_cases ht : t = T
  · subst ht
    simp only [Instr.typeAssert, Sem.run_bind, run_underlying hd, Result.andThen_ok]
    cases d <;> first | exact absurd rfl (hdi _) | simp
  · have hk : ok = true := hok.resolve_right ht
    subst hk
    simp only [Instr.typeAssert, Sem.run_bind, run_underlying hd, Result.andThen_ok]
    cases d <;> first | exact absurd rfl (hdi _) | simp [ht, hz']
theorem run_assert_nil {T xT : TypeId} {z : Value} (hif : isIface P T = some false) (hz : tzv P T = some z) (w : World) :
    (Instr.typeAssert .nilIface xT T true).run P w = .ok (.tuple #[z, .bool false]) w := by
  obtain ⟨d, hd, hdi⟩ := isIface_run hif
  have hz' := run_tzv hz
  simp only [Instr.typeAssert, Sem.run_bind, run_underlying hd, Result.andThen_ok]
  cases d <;> first | exact absurd rfl (hdi _) | simp [hz']

theorem assert_good {xT T : TypeId} {ok : Bool} {x : SV} (hs : HeapSat W bs E F h w) (hside : (semAssert P T ok [x]).side) :
    Good P W bs κ E h (semAssert P T ok [x]) ((do pure (.value (← Instr.typeAssert (den E x) xT T ok)) : Sem Next).run P w) := by
  revert hside
  unfold semAssert
  split
  · rename_i t y heq
    simp only [List.cons.injEq, and_true] at heq
    subst heq
    split
    · rename_i z hif hz
      split
      · intro _
        refine good_value hs rfl rfl ?_
        simp only [R.ok, den]
        rw [run_assert_iface hif hz (.inl rfl)]
        by_cases ht : t = T <;> simp [ht, den, denL]
      · intro ht
        refine good_value hs rfl rfl ?_
        have ht' : t = T := ht
        simp only [R.req, den]
        rw [run_assert_iface hif hz (.inr ht')]
        simp [ht']
    · exact fun hf => hf.elim
  · rename_i t y heq
    simp only [List.cons.injEq, and_true] at heq
    subst heq
    split
    · rename_i z hif hz
      split
      · intro _
        refine good_value hs rfl rfl ?_
        simp only [R.ok, den]
        rw [run_assert_iface hif hz (.inl rfl)]
        by_cases ht : t = T <;> simp [ht, den, denL]
      · intro ht
        refine good_value hs rfl rfl ?_
        have ht' : t = T := ht
        simp only [R.req, den]
        rw [run_assert_iface hif hz (.inr ht')]
        simp [ht']
    · exact fun hf => hf.elim
  · rename_i heq
    simp only [List.cons.injEq, and_true] at heq
    subst heq
    split
    · rename_i z hif hz
      split
      · intro _
        refine good_value hs rfl rfl ?_
        simp only [R.ok, den]
        rw [run_assert_nil hif hz]
        simp [denL, den]
      · exact fun hf => hf.elim
    · exact fun hf => hf.elim
  · exact fun hf => hf.elim

theorem panic_good {x : SV} (hs : HeapSat W bs E F h w) (hside : (semPanic [x]).side) :
    Good P W bs κ E h (semPanic [x]) ((do pure (.value (← Instr.panic (den E x))) : Sem Next).run P w) := by
  revert hside
  unfold semPanic
  split
  · rename_i t y heq
    simp only [List.cons.injEq, and_true] at heq
    subst heq
    intro _
    have : (do pure (.value (← Instr.panic (den E (.v (.iface t y))))) : Sem Next).run P w = .halt (.panic (.iface t y)) w := by simp [den, Instr.panic]
    rw [this]
    exact ⟨rfl, F, hs.drop fun k e he => by simpa [dropKeys] using he⟩
  · exact fun hf => hf.elim

theorem denL_take (E : Nat → Value) (l : List SV) (n : Nat) : denL E (l.take n) = (denL E l).take n := by simp [denL_eq_map, List.map_take]
theorem denL_drop (E : Nat → Value) (l : List SV) (n : Nat) : denL E (l.drop n) = (denL E l).drop n := by simp [denL_eq_map, List.map_drop]

theorem pairs_zip (ps : List (Nat × Operand)) (ρ : Operand → Value) : ps.map (fun p => (p.1, ρ p.2)) = (ps.map (·.1)).zip ((ps.map (·.2)).map ρ) := zip_map_fst ρ ps

/-- ANY OPERATION THAT THE ENGINE KNOWS IS AS TOLD. -/
theorem sem_good (o : Oper) (ρ : Operand → Value) (args : List SV) (hρ : o.op.operands.toList.map ρ = denL E args) (hs : HeapSat W bs E F h w) (hK : KeysIn K h) (hk : ∀ k, k / 8 = κ → ¬ K k) (hx : ∀ k ∈ keysL args, K k)
    (hside : (sem Γ W bs κ h o.op args).side) : Good P W bs κ E h (sem Γ W bs κ h o.op args) ((execOp ρ o).run P w) := by
  have one : ∀ {x : SV} {X : Operand}, o.op.operands.toList = [X] → args = [x] → ρ X = den E x := fun {x X} h1 h2 => by
    rw [h1, h2] at hρ; simpa [denL] using hρ
  have len1 : ∀ {X : Operand}, o.op.operands.toList = [X] → ∃ x, args = [x] := fun {X} h1 => by
    have := congrArg List.length hρ
    rw [h1, denL_length] at this
    exact List.length_eq_one_iff.1 (by simpa using this.symm)
  have len2 : ∀ {X Y : Operand}, o.op.operands.toList = [X, Y] → ∃ x y, args = [x, y] ∧ ρ X = den E x ∧ ρ Y = den E y := fun {X Y} h1 => by
    rw [h1] at hρ
    match args, hρ with
    | [x, y], hρ => simp [denL] at hρ; exact ⟨x, y, rfl, hρ.1, hρ.2⟩
    | [], hρ => simp [denL] at hρ
    | [x], hρ => simp [denL] at hρ
    | x :: y :: z :: r, hρ => simp [denL] at hρ
  generalize hop : o.op = op at *
  cases op with
  | move X =>
    obtain ⟨x, rfl⟩ := len1 (X := X) rfl
    simp only [sem] at hside ⊢
    have : (execOp ρ o).run P w = .ok (.value (den E x)) w := by simp [execOp, hop, one (X := X) rfl rfl]
    rw [this]; exact Good.pure hs rfl rfl rfl
  | assign X =>
    obtain ⟨x, rfl⟩ := len1 (X := X) rfl
    simp only [sem] at hside ⊢
    have : (execOp ρ o).run P w = .ok (.value (den E x)) w := by simp [execOp, hop, one (X := X) rfl rfl]
    rw [this]; exact Good.pure hs rfl rfl rfl
  | alloc T =>
    have ha : args = [] := by
      have := congrArg List.length hρ
      rw [denL_length] at this
      exact List.eq_nil_of_length_eq_zero (by simpa [Op.operands] using this.symm)
    subst ha
    simp only [sem] at hside ⊢
    have := alloc_good (E := E) hs hK hk hside
    simpa only [execOp, hop] using this
  | box T X =>
    obtain ⟨x, rfl⟩ := len1 (X := X) rfl
    simp only [sem] at hside ⊢
    have := box_good (P := P) (T := T) hs hK hk (fun k hk => hx k (by simpa [keysL] using hk))
    simpa only [execOp, hop, one (X := X) rfl rfl] using this
  | build T ps =>
    simp only [sem] at hside ⊢
    have := build_good (E := E) (κ := κ) hs hside
    have e : ps.map (fun (i, x) => (i, ρ x)) = ((ps.toList.map (·.1)).zip (denL E args)).toArray := by
      rw [← hρ]
      apply Array.ext'
      simpa [Op.operands] using pairs_zip ps.toList ρ
    simp only [execOp, hop, e]
    exact this
  | buildSlice T n ps =>
    simp only [sem] at hside ⊢
    have := buildSlice_good (E := E) hs hK hk hx hside
    have e : ps.map (fun (i, x) => (i, ρ x)) = ((ps.toList.map (·.1)).zip (denL E args)).toArray := by
      rw [← hρ]
      apply Array.ext'
      simpa [Op.operands] using pairs_zip ps.toList ρ
    simp only [execOp, hop, e]
    exact this
  | load T X =>
    obtain ⟨x, rfl⟩ := len1 (X := X) rfl
    simp only [sem] at hside ⊢
    have := load_good (P := P) (κ := κ) hs hside
    simpa only [execOp, hop, one (X := X) rfl rfl] using this
  | store T X Y =>
    obtain ⟨x, y, rfl, h1, h2⟩ := len2 (X := X) (Y := Y) rfl
    simp only [sem] at hside ⊢
    have := store_good (P := P) (W := W) (bs := bs) (F := F) (κ := κ) (E := E) hs hside
    simpa only [execOp, hop, h1, h2] using this
  | nilCheck X =>
    obtain ⟨x, rfl⟩ := len1 (X := X) rfl
    simp only [sem] at hside ⊢
    exact nilCheck_good hop (one (X := X) rfl rfl) hs hside
  | binOp op T X Y T2 =>
    obtain ⟨x, y, rfl, h1, h2⟩ := len2 (X := X) (Y := Y) rfl
    simp only [sem] at hside ⊢
    have := bin_good (E := E) (κ := κ) (o1 := X) (o2 := Y) hs hside
    simpa only [execOp, hop, h1, h2] using this
  | unOp op T X =>
    obtain ⟨x, rfl⟩ := len1 (X := X) rfl
    simp only [sem] at hside ⊢
    have := un_good (P := P) (E := E) (κ := κ) hs hside
    simpa only [execOp, hop, one (X := X) rfl rfl] using this
  | convert s d X =>
    obtain ⟨x, rfl⟩ := len1 (X := X) rfl
    simp only [sem] at hside ⊢
    have := convert_good (P := P) (E := E) (κ := κ) hs hside
    simpa only [execOp, hop, one (X := X) rfl rfl] using this
  | makeInterface T X =>
    obtain ⟨x, rfl⟩ := len1 (X := X) rfl
    simp only [sem] at hside ⊢
    have := mkI_good (P := P) (E := E) (κ := κ) hs hside
    simpa only [execOp, hop, one (X := X) rfl rfl] using this
  | makeFunc fn first cap =>
    simp only [sem] at hside ⊢
    have h1 : first.map ρ = (denL E (args.take first.size)).toArray := by
      rw [denL_take, ← hρ]
      apply Array.ext'
      simp [Op.operands]
    have h2 : cap.map ρ = (denL E (args.drop first.size)).toArray := by
      rw [denL_drop, ← hρ]
      apply Array.ext'
      simp [Op.operands]
    have : (execOp ρ o).run P w = .ok (.value (den E (.fn fn (args.take first.size) (args.drop first.size)))) w := by
      simp [execOp, hop, h1, h2, den, Instr.makeFunc]
    rw [this]; exact Good.pure hs rfl rfl rfl
  | makeSlice T X Y =>
    obtain ⟨x, y, rfl, h1, h2⟩ := len2 (X := X) (Y := Y) rfl
    simp only [sem] at hside ⊢
    have := make_good (E := E) hs hK hk hside
    simpa only [execOp, hop, h1, h2] using this
  | slice T X lo hi mx =>
    simp only [sem] at hside ⊢
    cases mx with
    | some m =>
      exfalso
      revert hside
      unfold semSlice
      split
      · split
        · rename_i e _; simp at e
        · exact fun hf => hf.elim
      · split
        · rename_i e _; simp at e
        · exact fun hf => hf.elim
      · exact fun hf => hf.elim
    | none =>
      match args, hρ, hside with
      | [], hρ, hside => simp [Op.operands, denL] at hρ
      | x :: rest, hρ, hside =>
        have hg := slice_good (P := P) (E := E) (κ := κ) hs hside
        have h1 : ρ X = den E x := by simp [Op.operands, denL] at hρ; exact hρ.1
        have h2 : ((lo.toList ++ hi.toList).map ρ) = denL E rest := by
          simp [Op.operands, denL] at hρ
          simpa using hρ.2
        have e1 : lo.map ρ = (if lo.isSome then argOf rest 0 E else none) := by
          cases lo with
          | none => rfl
          | some a =>
            simp only [Option.isSome_some, if_true, argOf]
            cases rest with
            | nil => simp [denL] at h2
            | cons r rs => simp [denL] at h2; simp [h2.1]
        have e2 : hi.map ρ = (if hi.isSome then argOf rest (if lo.isSome then 1 else 0) E else none) := by
          cases hi with
          | none => rfl
          | some a =>
            simp only [Option.isSome_some, if_true, argOf]
            cases lo with
            | none =>
              cases rest with
              | nil => simp [denL] at h2
              | cons r rs => simp [denL] at h2; simp [h2.1]
            | some b =>
              match rest, h2 with
              | [], h2 => simp [denL] at h2
              | [r], h2 => simp [denL] at h2
              | r :: r' :: rs, h2 => simp [denL] at h2; simp [h2.2.1]
        have e3 : execOp ρ o = (do pure (.value (← Instr.sliceAt T (den E x) (if lo.isSome then argOf rest 0 E else none) (if hi.isSome then argOf rest (if lo.isSome then 1 else 0) E else none) none)) : Sem Next) := by
          simp only [execOp, hop, h1, e1, e2, Option.map_none]
        rw [e3]
        exact hg
  | fieldAddr S X f =>
    obtain ⟨x, rfl⟩ := len1 (X := X) rfl
    simp only [sem] at hside ⊢
    have := fieldAddr_good (P := P) (E := E) (κ := κ) hs hside
    simpa only [execOp, hop, one (X := X) rfl rfl] using this
  | field S X f =>
    obtain ⟨x, rfl⟩ := len1 (X := X) rfl
    simp only [sem] at hside ⊢
    have := field_good (P := P) (E := E) (κ := κ) hs hside
    simpa only [execOp, hop, one (X := X) rfl rfl] using this
  | indexAddr T X Y =>
    obtain ⟨x, y, rfl, h1, h2⟩ := len2 (X := X) (Y := Y) rfl
    simp only [sem] at hside ⊢
    have := indexAddr_good (P := P) (E := E) (κ := κ) hs hside
    simpa only [execOp, hop, h1, h2] using this
  | index T X Y =>
    obtain ⟨x, y, rfl, h1, h2⟩ := len2 (X := X) (Y := Y) rfl
    simp only [sem] at hside ⊢
    have := index_good (P := P) (E := E) (κ := κ) hs hside
    simpa only [execOp, hop, h1, h2] using this
  | extract X i =>
    obtain ⟨x, rfl⟩ := len1 (X := X) rfl
    simp only [sem] at hside ⊢
    have := extract_good (P := P) (E := E) (κ := κ) hs hside
    simpa only [execOp, hop, one (X := X) rfl rfl] using this
  | typeAssert X xT T ok =>
    obtain ⟨x, rfl⟩ := len1 (X := X) rfl
    simp only [sem] at hside ⊢
    have := assert_good (P := P) (E := E) (κ := κ) (xT := xT) hs hside
    simpa only [execOp, hop, one (X := X) rfl rfl] using this
  | panic X =>
    obtain ⟨x, rfl⟩ := len1 (X := X) rfl
    simp only [sem] at hside ⊢
    have := panic_good (P := P) (E := E) (κ := κ) hs hside
    simpa only [execOp, hop, one (X := X) rfl rfl] using this
  | call c =>
    obtain ⟨callee, as_, tys⟩ := c
    have hce : ∀ b : Builtin, callee = .builtin b → as_.map ρ = (denL E args).toArray := fun b hb => by
      subst hb
      rw [← hρ]
      apply Array.ext'
      simp [Op.operands, Call.operands]
    cases callee with
    | value fo =>
      simp only [sem] at hside ⊢
      refine semCall_good Γ hop ?_ hs hK hk hx hside
      rw [← hρ]
      simp [Op.operands, Call.operands]
    | invoke ro name =>
      simp only [sem] at hside ⊢
      refine semInvoke_good Γ hop ?_ hs hK hk hx hside
      rw [← hρ]
      simp [Op.operands, Call.operands]
    | builtin b =>
      have harr := hce b rfl
      cases b <;> simp only [sem] at hside ⊢ <;> first | exact hside.elim | skip
      case append =>
        match args, hside, hρ with
        | [x, y], hside, hρ =>
          have := app_good (P := P) (E := E) (tys := tys.toList) (ty := o.type) hs hK hk hside
          simp only [denL] at harr
          simp only [execOp, hop, resolve, invoke, builtin, Sem.run_bind, Sem.run_pure, Result.andThen_ok, harr]
          simpa using this
        | [], hside, hρ => simp [semApp, R.bad] at hside
        | [x], hside, hρ => simp [semApp, R.bad] at hside
        | x :: y :: z :: r, hside, hρ => simp [semApp, R.bad] at hside
      case len =>
        revert hside
        split
        · rename_i T hT
          intro hside
          match args, hside, hρ with
          | [x], hside, hρ =>
            have ht : tys[0]? = some T := by rw [← Array.getElem?_toList, hT]; rfl
            have := len_good (P := P) (E := E) (κ := κ) (ty := o.type) hs ht hside
            simp only [denL] at harr
            simp only [execOp, hop, resolve, invoke, builtin, Sem.run_bind, Sem.run_pure, Result.andThen_ok, harr]
            simpa using this
          | [], hside, hρ => simp [semLen, R.bad] at hside
          | x :: y :: r, hside, hρ => cases x <;> simp [semLen, R.bad] at hside
        · exact fun hf => hf.elim
      case min =>
        have := min_good (P := P) (E := E) (κ := κ) (tys := tys) (ty := o.type) hs hside
        simp only [execOp, hop, resolve, invoke, builtin, Sem.run_bind, Sem.run_pure, Result.andThen_ok, harr]
        simpa using this
      case max =>
        have := max_good (P := P) (E := E) (κ := κ) (tys := tys) (ty := o.type) hs hside
        simp only [execOp, hop, resolve, invoke, builtin, Sem.run_bind, Sem.run_pure, Result.andThen_ok, harr]
        simpa using this
  | _ => simp only [sem] at hside; exact hside.elim
end
end Go.LE
