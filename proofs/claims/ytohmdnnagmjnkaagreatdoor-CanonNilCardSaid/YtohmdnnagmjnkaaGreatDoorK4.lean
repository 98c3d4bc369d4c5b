/-
  Part 4 of the proof.
-/
import Derived.Test.YtohmdnnagmjnkaaGreatDoorK1
import Derived.Laws.BytesString
import Derived.Test.YtohmdnnagmjnkaaGreatDoorK3
import Derived.Orders
set_option linter.unusedSimpArgs false
set_option linter.unusedVariables false
set_option linter.defProp false
section
namespace Go.LE
open Go.RowKit
def KeysOk (K : Nat → Prop) (κ : Nat) (r : R) : Prop :=
  (∀ k ∈ r.val.keys, K k ∨ k / 8 = κ) ∧ ∀ p ∈ r.upd, (K p.1 ∨ p.1 / 8 = κ) ∧ ∀ e, p.2 = some e → ∀ k ∈ e.keys, K k ∨ k / 8 = κ
theorem KeysOk.plain {K : Nat → Prop} {κ : Nat} {r : R} (h : ∀ k ∈ r.val.keys, K k) (hu : r.upd = []) : KeysOk K κ r :=
  ⟨fun k hk => .inl (h k hk), by rw [hu]; simp⟩
structure Spec (P : Program) (f : FuncId) where
  ev : World → List Nat → Nat → (Nat → Option Ent) → List SV → R
  good : ∀ (W : World) (bs : List Nat) (κ : Nat) (E : Nat → Value) (F : Nat → List Nat) (h : Nat → Option Ent) (w : World) (K : Nat → Prop) (args : List SV),
    HeapSat W bs E F h w → KeysIn K h → (∀ k, k / 8 = κ → ¬ K k) → (∀ k ∈ keysL args, K k) → (ev W bs κ h args).side →
    Good P W bs κ E h (ev W bs κ h args) ((callFunc f (denL E args).toArray).run P w)
  keys : ∀ (W : World) (bs : List Nat) (κ : Nat) (h : Nat → Option Ent) (K : Nat → Prop) (args : List SV), KeysIn K h → (∀ k ∈ keysL args, K k) → (ev W bs κ h args).side → KeysOk K κ (ev W bs κ h args)
  loc : ∀ (W : World) (bs : List Nat) (κ : Nat) (h h' : Nat → Option Ent) (args : List SV), (ev W bs κ h args).side → (∀ k ∈ (ev W bs κ h args).reads, h' k = h k) → ev W bs κ h' args = ev W bs κ h args
structure MethSpec (P : Program) (t : TypeId) (name : String) where
  f : FuncId
  ok : ∀ v w, (method (P.types.size + Made.depth) t v name).run P w = .ok (f, v) w
structure Env (P : Program) where
  sp : (f : FuncId) → Option (Spec P f)
  eqs : (T : TypeId) → Option (EqSpec P T)
  mt : (t : TypeId) → (name : String) → Option (MethSpec P t name)
section
variable {P : Program} {W : World} {bs : List Nat} {κ : Nat} {E : Nat → Value} {F : Nat → List Nat} {h : Nat → Option Ent} {w : World} {K : Nat → Prop} (Γ : Env P)
def semF (W : World) (bs : List Nat) (κ : Nat) (h : Nat → Option Ent) (f : FuncId) (args : List SV) : R :=
  match Γ.sp f with
  | some s => s.ev W bs κ h args
  | none => .bad
def semCall (W : World) (bs : List Nat) (κ : Nat) (h : Nat → Option Ent) : List SV → R
  | .fn (.func f) first cap :: rest => semF Γ W bs κ h f (first ++ rest ++ cap)
  | .v (.func (.func f) first cap) :: rest => semF Γ W bs κ h f (first.toList.map .v ++ rest ++ cap.toList.map .v)
  | _ => .bad
def semInvoke (W : World) (bs : List Nat) (κ : Nat) (h : Nat → Option Ent) (name : String) : List SV → R
  | .ifc t x :: rest => match Γ.mt t name with
    | some m => semF Γ W bs κ h m.f (x :: rest)
    | none => .bad
  | .v (.iface t x) :: rest => match Γ.mt t name with
    | some m => semF Γ W bs κ h m.f (.v x :: rest)
    | none => .bad
  | _ => .bad
def isIface (P : Program) (T : TypeId) : Option Bool := (P.underlying T).map fun | .interface _ => true | _ => false
theorem isIface_run {T : TypeId} (ht : isIface P T = some false) : ∃ d, P.underlying T = some d ∧ ∀ ms, d ≠ .interface ms := by
  obtain ⟨d, hd, hda⟩ := Option.map_eq_some_iff.1 ht
  exact ⟨d, hd, fun ms e => by subst e; simp at hda⟩
def isPtr (P : Program) (T : TypeId) : Option Bool := (P.underlying T).map fun | .pointer _ => true | _ => false
theorem isIface_true {T : TypeId} (ht : isIface P T = some true) : ∃ ms, P.underlying T = some (.interface ms) := by
  obtain ⟨d, hd, hda⟩ := Option.map_eq_some_iff.1 ht
  cases d <;> simp at hda
  exact ⟨_, hd⟩
theorem isPtr_true {T : TypeId} (ht : isPtr P T = some true) : ∃ e, P.underlying T = some (.pointer e) := by
  obtain ⟨d, hd, hda⟩ := Option.map_eq_some_iff.1 ht
  cases d <;> simp at hda
  exact ⟨_, hd⟩
def isConstO : Operand → Bool
  | .const _ => true
  | _ => false
def eqRes (op : BinOp) (p : Prop) (b : Bool) (rd : List Nat) : R := match op with
  | .eql => { side := p, val := .v (.bool b), reads := rd }
  | .neq => { side := p, val := .v (.bool (!b)), reads := rd }
  | _ => .bad
def semBinN (P : Program) (eqs : (T : TypeId) → Option (EqSpec P T)) (h : Nat → Option Ent) (op : BinOp) (T : TypeId) (X Y : Operand) : List SV → R
  | [.v .nilIface, .v .nilIface] => eqRes op (isIface P T = some true ∧ (isConstO X || isConstO Y) = true) true []
  | [.v .nilIface, .v (.iface _ _)] => eqRes op (isIface P T = some true) false []
  | [.v (.iface _ _), .v .nilIface] => eqRes op (isIface P T = some true) false []
  | [.v .nilIface, .ifc _ _] => eqRes op (isIface P T = some true) false []
  | [.ifc _ _, .v .nilIface] => eqRes op (isIface P T = some true) false []
  | [.v (.pointer none), .v (.pointer none)] => eqRes op (isPtr P T = some true) true []
  | [.v (.pointer none), .v (.pointer (some _))] => eqRes op (isPtr P T = some true) false []
  | [.v (.pointer (some _)), .v (.pointer none)] => eqRes op (isPtr P T = some true) false []
  | [.own k o, .v (.pointer none)] => match entVs (h k) with
    | some vs => eqRes op (isPtr P T = some true ∧ o < vs.length) false [k]
    | none => .bad
  | [.v (.pointer none), .own k o] => match entVs (h k) with
    | some vs => eqRes op (isPtr P T = some true ∧ o < vs.length) false [k]
    | none => .bad
  | l => semBin P eqs op T l
theorem equal_nil {T : TypeId} {a b : Value} {r : Bool} {op : BinOp} {X Y : Operand} (w : World) (hop : op = .eql ∨ op = .neq)
    (hg : (eqGuard op T X Y a b).run P w = .ok () w) (he : (Op.equal T a b).run P w = .ok r w) (h1 : ∀ k n, a ≠ .int k n) (h2 : ∀ k n, a ≠ .float k n) (h3 : ∀ k n m, a ≠ .complex k n m) (h4 : ∀ s, a ≠ .string s) :
    ((do eqGuard op T X Y a b; binOp op T a b) : Sem Value).run P w = .ok (.bool (if op = .eql then r else !r)) w := by
  rw [Sem.run_bind, hg]
  simp only [Result.andThen_ok]
  rcases hop with rfl | rfl
  · cases a <;> first | exact absurd rfl (h1 _ _) | exact absurd rfl (h2 _ _) | exact absurd rfl (h3 _ _ _) | exact absurd rfl (h4 _) | (simp [binOp, he])
  · cases a <;> first | exact absurd rfl (h1 _ _) | exact absurd rfl (h2 _ _) | exact absurd rfl (h3 _ _ _) | exact absurd rfl (h4 _) | (simp [binOp, he])
theorem eqRes_good {op : BinOp} {T : TypeId} {p : Prop} {b : Bool} {rd : List Nat} {X Y : Operand} {x y : Value} (hs : HeapSat W bs E F h w) (hside : (eqRes op p b rd).side)
    (hr : p → ∀ op, op = .eql ∨ op = .neq → ((do eqGuard op T X Y x y; binOp op T x y) : Sem Value).run P w = .ok (.bool (if op = .eql then b else !b)) w) :
    Good P W bs κ E h (eqRes op p b rd) ((do pure (.value (← (do eqGuard op T X Y x y; binOp op T x y))) : Sem Next).run P w) := by
  cases op <;> first
    | exact hside.elim
    | (refine good_value hs rfl rfl ?_
       have := hr hside .eql (.inl rfl)
       simpa [eqRes, den] using this)
    | (refine good_value hs rfl rfl ?_
       have := hr hside .neq (.inr rfl)
       simpa [eqRes, den] using this)
theorem eqGuard_const {op : BinOp} {T : TypeId} {X Y : Operand} {w : World} (h : (isConstO X || isConstO Y) = true) : (eqGuard op T X Y .nilIface .nilIface).run P w = .ok () w := by
  cases X <;> cases Y <;> first | (cases h; done) | (cases op <;> simp [eqGuard])
theorem eqGuard_other {op : BinOp} {T : TypeId} {X Y : Operand} {w : World} {a b : Value} (h1 : ¬ (a = .nilIface ∧ b = .nilIface)) (h2 : ∀ x, a ≠ .agg x) : (eqGuard op T X Y a b).run P w = .ok () w := by
  unfold eqGuard
  cases (!(op matches .eql | .neq)) with
  | true => rfl
  | false =>
    simp only [Bool.false_eq_true, if_false]
    split
    · exact absurd ⟨rfl, rfl⟩ h1
    · exact absurd rfl (h2 _)
    · rfl
section
variable {T : TypeId} (w : World)
theorem equal_nn {ms : Array (String × TypeId)} (hm : P.underlying T = some (.interface ms)) : (Op.equal T .nilIface .nilIface).run P w = .ok true w := by
  have : ∀ d, (Op.equalIn (d + 1) T .nilIface .nilIface).run P w = .ok true w := fun d => by simp [Op.equalIn, run_underlying hm]
  exact this 9999
theorem equal_ni {ms : Array (String × TypeId)} {t : TypeId} {x : Value} (hm : P.underlying T = some (.interface ms)) : (Op.equal T .nilIface (.iface t x)).run P w = .ok false w := by
  have : ∀ d, (Op.equalIn (d + 1) T .nilIface (.iface t x)).run P w = .ok false w := fun d => by simp [Op.equalIn, run_underlying hm]
  exact this 9999
theorem equal_in {ms : Array (String × TypeId)} {t : TypeId} {x : Value} (hm : P.underlying T = some (.interface ms)) : (Op.equal T (.iface t x) .nilIface).run P w = .ok false w := by
  have : ∀ d, (Op.equalIn (d + 1) T (.iface t x) .nilIface).run P w = .ok false w := fun d => by simp [Op.equalIn, run_underlying hm]
  exact this 9999
theorem equal_pp {e : TypeId} {b : Option Addr} (hm : P.underlying T = some (.pointer e)) : (Op.equal T (.pointer none) (.pointer b)).run P w = .ok b.isNone w := by
  have : ∀ d, (Op.equalIn (d + 1) T (.pointer none) (.pointer b)).run P w = .ok b.isNone w := fun d => by simp [Op.equalIn, run_underlying hm]
  exact this 9999
theorem equal_ap {e : TypeId} {a : Addr} (hm : P.underlying T = some (.pointer e)) : (Op.equal T (.pointer (some a)) (.pointer none)).run P w = .ok false w := by
  have : ∀ d, (Op.equalIn (d + 1) T (.pointer (some a)) (.pointer none)).run P w = .ok false w := fun d => by simp [Op.equalIn, run_underlying hm]
  exact this 9999
end
theorem binN_good {eqs : (T : TypeId) → Option (EqSpec P T)} {op : BinOp} {T : TypeId} {X Y : Operand} {x y : SV} (hs : HeapSat W bs E F h w) (hside : (semBinN P eqs h op T X Y [x, y]).side) :
    Good P W bs κ E h (semBinN P eqs h op T X Y [x, y]) ((do pure (.value (← (do eqGuard op T X Y (den E x) (den E y); binOp op T (den E x) (den E y)))) : Sem Next).run P w) := by
  revert hside
  unfold semBinN
  split
  · rename_i heq
    simp only [List.cons.injEq, and_true] at heq
    obtain ⟨rfl, rfl⟩ := heq
    refine fun hside => eqRes_good hs hside fun hp op hop => equal_nil w hop (eqGuard_const hp.2) ?_ (by simp [den]) (by simp [den]) (by simp [den]) (by simp [den])
    obtain ⟨ms, hm⟩ := isIface_true hp.1
    first | exact equal_nn w hm | exact equal_ni w hm | exact equal_in w hm | exact equal_pp w hm | exact equal_ap w hm
  · rename_i heq
    simp only [List.cons.injEq, and_true] at heq
    obtain ⟨rfl, rfl⟩ := heq
    refine fun hside => eqRes_good hs hside fun hp op hop => equal_nil w hop (eqGuard_other (by simp [den]) (by simp [den])) ?_ (by simp [den]) (by simp [den]) (by simp [den]) (by simp [den])
    obtain ⟨ms, hm⟩ := isIface_true hp
    first | exact equal_nn w hm | exact equal_ni w hm | exact equal_in w hm | exact equal_pp w hm | exact equal_ap w hm
  · rename_i heq
    simp only [List.cons.injEq, and_true] at heq
    obtain ⟨rfl, rfl⟩ := heq
    refine fun hside => eqRes_good hs hside fun hp op hop => equal_nil w hop (eqGuard_other (by simp [den]) (by simp [den])) ?_ (by simp [den]) (by simp [den]) (by simp [den]) (by simp [den])
    obtain ⟨ms, hm⟩ := isIface_true hp
    first | exact equal_nn w hm | exact equal_ni w hm | exact equal_in w hm | exact equal_pp w hm | exact equal_ap w hm
  · rename_i heq
    simp only [List.cons.injEq, and_true] at heq
    obtain ⟨rfl, rfl⟩ := heq
    refine fun hside => eqRes_good hs hside fun hp op hop => equal_nil w hop (eqGuard_other (by simp [den]) (by simp [den])) ?_ (by simp [den]) (by simp [den]) (by simp [den]) (by simp [den])
    obtain ⟨ms, hm⟩ := isIface_true hp
    first | exact equal_nn w hm | exact equal_ni w hm | exact equal_in w hm | exact equal_pp w hm | exact equal_ap w hm
  · rename_i heq
    simp only [List.cons.injEq, and_true] at heq
    obtain ⟨rfl, rfl⟩ := heq
    refine fun hside => eqRes_good hs hside fun hp op hop => equal_nil w hop (eqGuard_other (by simp [den]) (by simp [den])) ?_ (by simp [den]) (by simp [den]) (by simp [den]) (by simp [den])
    obtain ⟨ms, hm⟩ := isIface_true hp
    first | exact equal_nn w hm | exact equal_ni w hm | exact equal_in w hm | exact equal_pp w hm | exact equal_ap w hm
  · rename_i heq
    simp only [List.cons.injEq, and_true] at heq
    obtain ⟨rfl, rfl⟩ := heq
    refine fun hside => eqRes_good hs hside fun hp op hop => equal_nil w hop (eqGuard_other (by simp [den]) (by simp [den])) ?_ (by simp [den]) (by simp [den]) (by simp [den]) (by simp [den])
    obtain ⟨ms, hm⟩ := isPtr_true hp
    first | exact equal_nn w hm | exact equal_ni w hm | exact equal_in w hm | exact equal_pp w hm | exact equal_ap w hm
  · rename_i heq
    simp only [List.cons.injEq, and_true] at heq
    obtain ⟨rfl, rfl⟩ := heq
    refine fun hside => eqRes_good hs hside fun hp op hop => equal_nil w hop (eqGuard_other (by simp [den]) (by simp [den])) ?_ (by simp [den]) (by simp [den]) (by simp [den]) (by simp [den])
    obtain ⟨ms, hm⟩ := isPtr_true hp
    first | exact equal_nn w hm | exact equal_ni w hm | exact equal_in w hm | exact equal_pp w hm | exact equal_ap w hm
  · rename_i heq
    simp only [List.cons.injEq, and_true] at heq
    obtain ⟨rfl, rfl⟩ := heq
    refine fun hside => eqRes_good hs hside fun hp op hop => equal_nil w hop (eqGuard_other (by simp [den]) (by simp [den])) ?_ (by simp [den]) (by simp [den]) (by simp [den]) (by simp [den])
    obtain ⟨ms, hm⟩ := isPtr_true hp
    first | exact equal_nn w hm | exact equal_ni w hm | exact equal_in w hm | exact equal_pp w hm | exact equal_ap w hm
  · rename_i k off heq
    simp only [List.cons.injEq, and_true] at heq
    obtain ⟨rfl, rfl⟩ := heq
    split
    · rename_i vs hvs
      refine fun hside => eqRes_good hs hside fun hp op hop => ?_
      obtain ⟨b, hb, _⟩ := ent_cells hs hvs (Nat.zero_lt_of_lt hp.2)
      obtain ⟨ms, hm⟩ := isPtr_true hp.1
      refine equal_nil w hop (eqGuard_other (by simp [den]) (by simp [den, hb, ptrAt])) ?_ (by simp [den, hb, ptrAt]) (by simp [den, hb, ptrAt]) (by simp [den, hb, ptrAt]) (by simp [den, hb, ptrAt])
      simp only [den, hb, ptrAt]
      first | exact equal_pp w hm | exact equal_ap w hm
    · exact fun hf => hf.elim
  · rename_i k off heq
    simp only [List.cons.injEq, and_true] at heq
    obtain ⟨rfl, rfl⟩ := heq
    split
    · rename_i vs hvs
      refine fun hside => eqRes_good hs hside fun hp op hop => ?_
      obtain ⟨b, hb, _⟩ := ent_cells hs hvs (Nat.zero_lt_of_lt hp.2)
      obtain ⟨ms, hm⟩ := isPtr_true hp.1
      refine equal_nil w hop (eqGuard_other (by simp [den]) (by simp [den])) ?_ (by simp [den]) (by simp [den]) (by simp [den]) (by simp [den])
      simp only [den, hb, ptrAt]
      first | exact equal_pp w hm | exact equal_ap w hm
    · exact fun hf => hf.elim
  · exact fun hside => bin_good hs hside
def slRow2 (κ k : Nat) (b : Int) (e s n : Nat) (vs : List SV) : Option Nat → R
  | some s' => { side := s' = s ∧ 0 ≤ b ∧ b.toNat ≤ n, val := .hd (nk κ), upd := [(k, none), (nk κ, some (.row e s b.toNat (vs.take (b.toNat * s))))], reads := [k] }
  | none => .bad
def slRow (P : Program) (κ k : Nat) (b : Int) : Option TypeDesc → Option Ent → R
  | some (.slice e), some (.row e' s n vs) => slRow2 κ k b e' s n vs (ts P e)
  | _, _ => .bad
def slHd (P : Program) (κ : Nat) (h : Nat → Option Ent) (T : TypeId) (k : Nat) : Bool → Bool → List SV → R
  | false, true, [.v (.int _ b)] => slRow P κ k b (P.underlying T) (h k)
  | _, _, _ => .bad
def slMx (x : R) : Bool → R
  | true => .bad
  | false => x
def semSliceN (P : Program) (κ : Nat) (h : Nat → Option Ent) (T : TypeId) (lo hi mx : Bool) : List SV → R
  | .hd k :: r => slMx (slHd P κ h T k lo hi r) mx
  | l => semSlice P T lo hi mx l
theorem sliceN_good {T : TypeId} {lo hi mx : Bool} {x : SV} {rest : List SV} (hs : HeapSat W bs E F h w) (hK : KeysIn K h) (hkk : ∀ k, k / 8 = κ → ¬ K k) (hside : (semSliceN P κ h T lo hi mx (x :: rest)).side) :
    Good P W bs κ E h (semSliceN P κ h T lo hi mx (x :: rest)) ((do pure (.value (← Instr.sliceAt T (den E x) (if lo then argOf rest 0 E else none) (if hi then argOf rest (if lo then 1 else 0) E else none) none)) : Sem Next).run P w) := by
  revert hside
  unfold semSliceN
  split
  · rename_i k r heq
    obtain ⟨rfl, rfl⟩ := List.cons.inj heq
    cases mx with
    | true => exact fun hf => hf.elim
    | false =>
    unfold slMx slHd
    simp only
    split
    · rename_i ik b
      unfold slRow
      split
      · rename_i e e' s n vs hu hk
        unfold slRow2
        split
        · rename_i s' hsz
          rintro ⟨rfl, h0, h1⟩
          obtain ⟨⟨hl, hor⟩, hF⟩ := hs.ent k _ hk
          have hKk : K k := (hK k _ hk).1
          have hne : k ≠ nk κ := fun e => hkk k (by rw [e]; exact nk_div0 κ) hKk
          have hvl : vs.length = n * s' := by rw [← denL_length E, hl]
          have hle : b.toNat * s' ≤ n * s' := Nat.mul_le_mul_right _ h1
          have key : ∀ (ao : Option Addr) (cap : Nat), E k = .slice ao n cap → n ≤ cap →
              (w.ownsRow 0 e' s' (.slice ao b.toNat cap) b.toNat (denL E (vs.take (b.toNat * s')))) → (Value.slice ao b.toNat cap).ownBlock = (E k).ownBlock →
              Good P W bs κ E h ({ side := s' = s' ∧ 0 ≤ b ∧ b.toNat ≤ n, val := .hd (nk κ), upd := [(k, none), (nk κ, some (.row e' s' b.toNat (vs.take (b.toNat * s'))))], reads := [k] } : R) ((do pure (.value (← Instr.sliceAt T (den E (.hd k)) none (argOf [.v (.int ik b)] 0 E) none)) : Sem Next).run P w) := by
            intro ao cap hE hnc hown hob
            have hv : den E (.hd k) = .slice ao n cap := by simp [den, hE, hv, Value.oneCell']
            have hbc : b ≤ (cap : Int) := by
              have e1 : (b.toNat : Int) = b := Int.toNat_of_nonneg h0
              rw [← e1]
              exact Int.ofNat_le.2 (Nat.le_trans h1 hnc)
            have hb := sliceBounds_run (P := P) (lo := false) (hi := true) (rest := [.v (.int ik b)]) (a := none) (b := some b) true n cap rfl E (by simp) (by simpa using h0) (by simpa using hbc) w
            have hA : (if cap = 0 then ao else ao.map (·.add (0 * s'))) = ao := by
              split
              · rfl
              · cases ao with
                | none => rfl
                | some a => simp [Addr.add]
            simp only [Bool.false_eq_true, if_false, if_true] at hb
            rw [hv]
            simp only [Instr.sliceAt, Sem.run_bind, run_underlying hu, Result.andThen_ok, Instr.slice, hb, run_ts hsz, Sem.run_pure]
            simp only [Option.getD_none, Option.getD_some, show ((0 : Int).toNat) = 0 from rfl, Nat.sub_zero, hA, Good, Runs]
            refine ⟨trivial, upd E (nk κ) (.slice ao b.toNat cap), upd F (nk κ) (F k), fun j hj => upd_ne _ _ fun e => hj (by rw [e]; exact nk_div0 κ), ?_, ?_⟩
            · simp [den, upd_same, LE.hv, Value.oneCell']
            · refine hs.trade hK [k] (upd (fun _ => none) (nk κ) (some (.row e' s' b.toNat (vs.take (b.toNat * s'))))) (fun j hj => ?_) (fun j hj => upd_ne _ _ fun e => hkk j (by rw [e]; exact nk_div0 κ) hj) (fun j e he => ?_) (fun i j e e' hij hi hj c hc => ?_) (fun j x hx hj => ?_) (fun j => ?_) (Keeps.refl w _)
              · simp at hj; subst hj; exact ⟨_, hk⟩
              · by_cases hj : j = nk κ
                · subst hj
                  rw [upd_same] at he
                  obtain rfl := Option.some.inj he
                  rw [upd_same, upd_same]
                  refine ⟨⟨?_, by rw [hF, hob]⟩, fun c hc => .inl ⟨k, by simp, hc⟩, fun c hc => hs.lt k _ hk c hc⟩
                  have : denL (upd E (nk κ) (.slice ao b.toNat cap)) (vs.take (b.toNat * s')) = denL E (vs.take (b.toNat * s')) := denL_congr _ fun i hi => upd_ne _ _ fun e => by
                    have hiv : i ∈ keysL vs := by
                      obtain ⟨y, hy, hiy⟩ := keysL_mem.1 hi
                      exact keysL_mem.2 ⟨y, List.mem_of_mem_take hy, hiy⟩
                    exact hkk i (by rw [e]; exact nk_div0 κ) ((hK k _ hk).2 i hiv)
                  rw [this]
                  exact hown
                · rw [upd_ne _ _ hj] at he; cases he
              · by_cases hi' : i = nk κ
                · by_cases hj' : j = nk κ
                  · exact absurd (hi'.trans hj'.symm) hij
                  · rw [upd_ne _ _ hj'] at hj; cases hj
                · rw [upd_ne _ _ hi'] at hi; cases hi
              · by_cases hj' : j = nk κ
                · rw [hj', upd_same] at hj; cases hj
                · exact upd_ne _ _ hj'
              · simp only [updL]
                by_cases hj' : j = nk κ
                · subst hj'; rw [upd_same, upd_same]
                · rw [upd_ne _ _ hj', upd_ne _ _ hj']
                  by_cases hjk : j = k
                  · subst hjk; simp [upd_same]
                  · rw [upd_ne _ _ hjk]; simp [hjk]
          have hlen : (denL E (vs.take (b.toNat * s'))).length = b.toNat * s' := by
            rw [denL_length, List.length_take]; omega
          rcases hor with ⟨hEk, hn⟩ | ⟨g, cap, cur, hEk, hb0, hh, hnc, hcm, hcs, htk⟩
          · subst hn
            have hb0 : b.toNat = 0 := by omega
            refine key none 0 hEk (Nat.le_refl _) ⟨hlen, .inl ⟨by rw [hb0], hb0⟩⟩ ?_
            rw [hEk]; rfl
          · refine key _ cap hEk hnc ⟨hlen, .inr ⟨g, cap, cur, rfl, hb0, hh, by omega, hcm, hcs, ?_⟩⟩ ?_
            · have : (cur.toList.take (n * s')).take (b.toNat * s') = denL E (vs.take (b.toNat * s')) := by
                rw [htk, denL_eq_map, denL_eq_map, List.map_take]
              rw [← this, List.take_take, Nat.min_eq_left hle]
            · rw [hEk]; rfl
        · exact fun hf => hf.elim
      · exact fun hf => hf.elim
    · exact fun hf => hf.elim
  · exact fun hside => slice_good hs hside
def bytesL : List SV → Option (List Int)
  | [] => some []
  | .v (.int .u8 n) :: r => (bytesL r).map (n :: ·)
  | _ => none
def strI (ns : List Int) : ByteArray := ⟨(ns.map fun n => UInt8.ofNat n.toNat).toArray⟩
def cvB (P : Program) (k n : Nat) : Option TypeDesc → Option TypeDesc → Option (List Int) → R
  | some (.slice e), some .string, some ns => { side := P.underlying e = some (.int .u8) ∧ ns.length = n, val := .v (.string (strI ns)), reads := [k] }
  | _, _, _ => .bad
def cvH (P : Program) (src dst : TypeId) (k : Nat) : Option Ent → R
  | some (.row _ 1 n vs) => cvB P k n (P.underlying src) (P.underlying dst) (bytesL vs)
  | _ => .bad
def semConvN (P : Program) (h : Nat → Option Ent) (src dst : TypeId) : List SV → R
  | [.hd k] => cvH P src dst k (h k)
  | l => semConvert P src dst l
theorem bytesL_den (E : Nat → Value) : ∀ {vs : List SV} {ns : List Int}, bytesL vs = some ns → denL E vs = ns.map (Value.int .u8)
  | [], ns, h => by simp [bytesL] at h; subst h; rfl
  | x :: r, ns, h => by
    unfold bytesL at h
    split at h
    · rename_i heq; cases heq
    · rename_i n r' heq
      obtain ⟨rfl, rfl⟩ := List.cons.inj heq
      obtain ⟨m, hm, rfl⟩ := Option.map_eq_some_iff.1 h
      simp [denL, den, bytesL_den E hm]
    · cases h
theorem foldl_push_strI (ns : List Int) : ∀ s : ByteArray, ns.foldl (fun r n => r.push (UInt8.ofNat n.toNat)) s = ⟨s.data ++ (ns.map fun n => UInt8.ofNat n.toNat).toArray⟩ := by
  induction ns with
  | nil => intro s; simp
  | cons n r ih => intro s; rw [List.foldl_cons, ih]; simp [ByteArray.push]
theorem convN_good {src dst : TypeId} {x : SV} (hs : HeapSat W bs E F h w) (hside : (semConvN P h src dst [x]).side) :
    Good P W bs κ E h (semConvN P h src dst [x]) ((do pure (.value (← convert src dst (den E x))) : Sem Next).run P w) := by
  revert hside
  unfold semConvN
  split
  · rename_i k heq
    simp only [List.cons.injEq, and_true] at heq
    subst heq
    cases hk : h k with
    | none => exact fun hf => hf.elim
    | some e =>
      unfold cvH
      split
      · rename_i T n vs heq
        obtain rfl := Option.some.inj heq
        unfold cvB
        split
        · rename_i e ns h1 h2 h3
          rintro ⟨h4, h5⟩
          refine good_value hs rfl rfl ?_
          have hent := hs.ent k _ hk
          obtain ⟨⟨hl, hor⟩, _⟩ := hent
          have hd := bytesL_den E h3
          rw [hd] at hl hor
          have fin : strI ns = ns.foldl (fun r n => r.push (UInt8.ofNat n.toNat)) ByteArray.empty := by
            rw [foldl_push_strI]; simp [strI, ByteArray.empty, ByteArray.emptyWithCapacity]; rfl
          rcases hor with ⟨hu, hn⟩ | ⟨g, cap, cur, hu, _, hh, hnc, _, hcs, htake⟩
          · have : ns = [] := by
              cases ns with
              | nil => rfl
              | cons _ _ => simp at h5; omega
            subst this
            have hv : den E (.hd k) = .slice none 0 0 := by simp [den, hu, hv, Value.oneCell']
            rw [hv, run_convert_bytes_string w src dst _ none 0 0 h1 h4 h2]
            simp [Conv.bytesToString, den, strI, ByteArray.empty, ByteArray.emptyWithCapacity]
            rfl
          · have hv : den E (.hd k) = .slice (some ⟨g, 0, none⟩) n cap := by simp [den, hu, hv, Value.oneCell']
            rw [hv, run_convert_bytes_string w src dst _ _ n cap h1 h4 h2]
            have hlc : (loadCells ⟨g, 0, none⟩ n).run P w = .ok (ns.map (Value.int .u8)).toArray w := by
              have := run_loadCells_list (P := P) w ⟨g, 0, none⟩ (ns.map (Value.int .u8)) (fun j v hj => by
                rw [Addr.add_lit, Nat.zero_add]
                have hjl : j < ns.length := by
                  have := (List.getElem?_eq_some_iff.1 hj).1
                  simpa using this
                rw [← htake, List.getElem?_take, if_pos (by omega)] at hj
                simp only [World.cell?, hh]
                simpa using hj)
              simpa [h5] using this
            rw [run_bytesToString w _ n cap ns hlc, fin]
            rfl
        · exact fun hf => hf.elim
      · exact fun hf => hf.elim
  · exact fun hside => convert_good hs hside
def tzv (P : Program) (T : TypeId) : Option Value := (P.info? T).bind (·.zero)
theorem run_tzv {T : TypeId} {z : Value} (ht : tzv P T = some z) (w : World) : (zeroValue T).run P w = .ok z w := by
  unfold tzv at ht
  cases hi : P.info? T with
  | none => simp [hi] at ht
  | some i =>
    simp only [hi, Option.bind_some] at ht
    simp [zeroValue, typeInfo, hi, ht]
def semAssert (P : Program) (T : TypeId) (ok : Bool) : List SV → R
  | [.ifc t x] => match isIface P T, tzv P T with
    | some false, some z =>
      match ok with
      | true => .ok (if t = T then .tup [x, .v (.bool true)] else .tup [.v z, .v (.bool false)])
      | false => .req (t = T) x
    | _, _ => .bad
  | [.v (.iface t x)] => match isIface P T, tzv P T with
    | some false, some z =>
      match ok with
      | true => .ok (if t = T then .tup [.v x, .v (.bool true)] else .tup [.v z, .v (.bool false)])
      | false => .req (t = T) (.v x)
    | _, _ => .bad
  | [.v .nilIface] => match isIface P T, tzv P T with
    | some false, some z =>
      match ok with
      | true => .ok (.tup [.v z, .v (.bool false)])
      | false => .bad
    | _, _ => .bad
  | _ => .bad
def mapI (et : TypeId) : Option TypeDesc → Option TypeId
  | some .string => some et
  | _ => none
def mapJ (P : Program) : Option TypeDesc → Option TypeId
  | some (.map kt et) => mapI et (P.underlying kt)
  | _ => none
theorem mapJ_run {T et : TypeId} (hj : mapJ P (P.underlying T) = some et) : ∃ kt, P.underlying T = some (.map kt et) ∧ P.underlying kt = some .string := by
  revert hj
  unfold mapJ
  split
  · rename_i kt et' hu
    unfold mapI
    split
    · rename_i hk
      intro he
      cases he
      exact ⟨kt, hu, hk⟩
    · intro he; cases he
  · intro he; cases he
def lkF : List ByteArray → List SV → ByteArray → Option SV
  | k :: ks, v :: vs, s => if k = s then some v else lkF ks vs s
  | _, _, _ => none
def lkV : Bool → Value → Option SV → SV
  | true, _, some x => .tup [x, .v (.bool true)]
  | true, z, none => .tup [.v z, .v (.bool false)]
  | false, _, some x => x
  | false, z, none => .v z
def lkE (k : Nat) (ok : Bool) (o : Option SV) : Option Value → R
  | some z => ⟨True, lkV ok z o, [], none, [], [k]⟩
  | none => .bad
def lkM (P : Program) (k : Nat) (ok : Bool) (s : ByteArray) : Option TypeId → Option Ent → R
  | some et, some (.mp ks vs) => lkE k ok (lkF ks vs s) (tzv P et)
  | _, _ => .bad
def semLookup (P : Program) (h : Nat → Option Ent) (T : TypeId) (ok : Bool) : List SV → R
  | [.hd k, .v (.string s)] => lkM P k ok s (mapJ P (P.underlying T)) (h k)
  | _ => .bad
def upM (k : Nat) (s : ByteArray) (x : SV) : Option TypeId → Option Ent → R
  | some _, some (.mp ks vs) => ⟨s ∉ ks, .v undef, [(k, some (.mp (ks ++ [s]) (vs ++ [x])))], none, [], [k]⟩
  | _, _ => .bad
def semMapUpd (P : Program) (h : Nat → Option Ent) (T : TypeId) : List SV → R
  | [.hd k, .v (.string s), x] => upM k s x (mapJ P (P.underlying T)) (h k)
  | _ => .bad
def semMakeMap (κ : Nat) : List SV → R
  | [] => .new (nk κ) (.mp [] []) (.hd (nk κ))
  | _ => .bad
theorem lkF_keys {k : Nat} {s : ByteArray} {x : SV} : ∀ {ks : List ByteArray} {vs : List SV}, lkF ks vs s = some x → k ∈ x.keys → k ∈ keysL vs
  | [], _, h, _ => by simp [lkF] at h
  | _ :: _, [], h, _ => by simp [lkF] at h
  | a :: ks, v :: vs, h, hk => by
    simp only [lkF] at h
    simp only [keysL, List.mem_append]
    split at h
    · cases h; exact .inl hk
    · exact .inr (lkF_keys h hk)
theorem lkV_keys {k : Nat} {ok : Bool} {z : Value} {s : ByteArray} {ks : List ByteArray} {vs : List SV} (hk : k ∈ (lkV ok z (lkF ks vs s)).keys) : k ∈ keysL vs := by
  cases hl : lkF ks vs s with
  | none =>
    rw [hl] at hk
    cases ok with
    | true => simp [lkV, SV.keys, keysL] at hk
    | false => simp [lkV, SV.keys] at hk
  | some x =>
    rw [hl] at hk
    refine lkF_keys hl ?_
    cases ok with
    | true => simpa [lkV, SV.keys, keysL] using hk
    | false => simpa [lkV] using hk
theorem ba_beq (a b : ByteArray) : (a == b) = decide (a = b) := by
  cases a; cases b
  rename_i x y
  show (x == y) = _
  by_cases h : x = y
  · subst h; simp
  · simp [h]
theorem findNow_lk {E : Nat → Value} {s : ByteArray} : ∀ {ks : List ByteArray} {vs : List SV} {es : List MapEntry} {i : Nat}, es.map (·.key) = ks.map .string → es.map (·.val) = denL E vs →
    ∃ r, Instr.findNow .string (.string s) es i = some r ∧ r.map (·.2) = (lkF ks vs s).map (den E)
  | [], vs, es, i, h1, h2 => by
    simp at h1; subst h1
    exact ⟨none, rfl, by cases vs <;> rfl⟩
  | a :: ks, vs, [], i, h1, h2 => by simp at h1
  | a :: ks, [], e :: es, i, h1, h2 => by simp [denL] at h2
  | a :: ks, v :: vs, e :: es, i, h1, h2 => by
    simp only [List.map_cons, List.cons.injEq] at h1
    simp only [List.map_cons, denL, List.cons.injEq] at h2
    simp only [Instr.findNow, h1.1, Instr.sameNow, lkF]
    by_cases hs : a = s
    · subst hs
      simp [h2.1, ba_beq]
    · have hb : (s == a) = false := by rw [ba_beq]; exact decide_eq_false fun e => hs e.symm
      rw [hb, if_neg hs]
      exact findNow_lk h1.2 h2.2
theorem makeMap_good {T : TypeId} (hs : HeapSat W bs E F h w) (hK : KeysIn K h) (hk : ∀ k, k / 8 = κ → ¬ K k) :
    Good P W bs κ E h (semMakeMap κ []) ((do pure (.value (← Instr.makeMap T none)) : Sem Next).run P w) := by
  have hnk := hk _ (nk_div0 κ)
  have : (do pure (.value (← Instr.makeMap T none)) : Sem Next).run P w = .ok (.value (.map (some w.heap.size))) (w.alloc (.map #[] 0)) := by
    simp [Instr.makeMap]
  rw [this]
  refine ⟨rfl, upd E (nk κ) (.map (some w.heap.size)), upd F (nk κ) [w.heap.size], fun k hkk => upd_ne _ _ fun e => hkk (by subst e; exact nk_div0 κ), ?_, ?_⟩
  · simp [semMakeMap, R.new, den, upd_same, hv, Value.oneCell']
  · refine hs.new hK hnk ⟨w.heap.size, #[], 0, rfl, rfl, heap_alloc_new w _, rfl, rfl⟩ (fun b hb => ?_) (keeps_alloc w _)
    simp at hb; subst hb; simp
theorem lookup_good {T : TypeId} {ok : Bool} {x y : SV} (hs : HeapSat W bs E F h w) (hside : (semLookup P h T ok [x, y]).side) :
    Good P W bs κ E h (semLookup P h T ok [x, y]) ((do pure (.value (← Instr.lookup T (den E x) (den E y) ok)) : Sem Next).run P w) := by
  revert hside
  unfold semLookup
  split
  · rename_i k s heq
    simp only [List.cons.injEq, and_true] at heq
    obtain ⟨rfl, rfl⟩ := heq
    unfold lkM
    split
    · rename_i et ks vs hj hkk
      unfold lkE
      split
      · rename_i z hz
        intro _
        obtain ⟨kt, hu, hku⟩ := mapJ_run hj
        obtain ⟨b, es, c, h1, _, h3, h4, h5⟩ := hs.ent k _ hkk
        obtain ⟨r, hr, hrr⟩ := findNow_lk (s := s) (i := 0) h4 h5
        have hg : (getObj b).run P w = .ok (.map es c) w := by simp [getObj, Sem.run, h3]
        have hc : (Instr.checkKey es.isEmpty 10000 kt (.string s)).run P w = .ok () w := by
          unfold Instr.checkKey
          simp [run_underlying hku]
        have hf : (Instr.findKey kt (.string s) es.toList).run P w = .ok r w := by
          simp [Instr.findKey, run_underlying hku, hr]
        refine good_value hs rfl rfl ?_
        simp only [den, h1, LE.hv, Value.oneCell', if_true, Instr.lookup, Sem.run_bind, run_underlying hu, Result.andThen_ok, hg, Sem.run_pure, hc, hf]
        cases r with
        | none =>
          have : lkF ks vs s = none := by
            cases hl : lkF ks vs s with
            | none => rfl
            | some x => rw [hl] at hrr; cases hrr
          rw [this]
          cases ok <;> simp [run_tzv hz, lkV, den, denL]
        | some p =>
          obtain ⟨i, v⟩ := p
          obtain ⟨x, hx, rfl⟩ : ∃ x, lkF ks vs s = some x ∧ v = den E x := by
            cases hl : lkF ks vs s with
            | none => rw [hl] at hrr; cases hrr
            | some x => rw [hl] at hrr; exact ⟨x, rfl, by simpa using hrr⟩
          rw [hx]
          cases ok <;> simp [lkV, den, denL]
      · exact fun hf => hf.elim
    · exact fun hf => hf.elim
  · exact fun hf => hf.elim
theorem lkF_none {s : ByteArray} : ∀ {ks : List ByteArray} {vs : List SV}, s ∉ ks → lkF ks vs s = none
  | [], _, _ => by cases ‹List SV› <;> rfl
  | _ :: _, [], _ => rfl
  | a :: ks, v :: vs, hn => by
    simp only [List.mem_cons, not_or] at hn
    simp only [lkF]
    rw [if_neg fun e => hn.1 e.symm]
    exact lkF_none hn.2
theorem mapUpd_good {T : TypeId} {p q x : SV} (hs : HeapSat W bs E F h w) (hside : (semMapUpd P h T [p, q, x]).side) :
    Good P W bs κ E h (semMapUpd P h T [p, q, x]) ((do Instr.mapUpdate T (den E p) (den E q) (den E x); pure .skip : Sem Next).run P w) := by
  revert hside
  unfold semMapUpd
  split
  · rename_i k s x' heq
    simp only [List.cons.injEq, and_true] at heq
    obtain ⟨rfl, rfl, rfl⟩ := heq
    unfold upM
    split
    · rename_i et ks vs hj hkk
      intro hn
      obtain ⟨kt, hu, hku⟩ := mapJ_run hj
      obtain ⟨b, es, c, h1, h2, h3, h4, h5⟩ := hs.ent k _ hkk
      obtain ⟨r, hr, hrr⟩ := findNow_lk (s := s) (i := 0) h4 h5
      rw [lkF_none hn] at hrr
      have : r = none := by cases r with | none => rfl | some p => cases hrr
      subst this
      have hg : (getObj b).run P w = .ok (.map es c) w := by simp [getObj, Sem.run, h3]
      have hc : (Instr.checkKey false 10000 kt (.string s)).run P w = .ok () w := by
        unfold Instr.checkKey
        simp [run_underlying hku]
      have hf : (Instr.findKey kt (.string s) es.toList).run P w = .ok none w := by
        simp [Instr.findKey, run_underlying hku, hr]
      have hst : ∀ o, (setObj b o).run P w = .ok () { w with heap := w.heap.setIfInBounds b o } := fun o => by simp [setObj, Sem.run, h3]
      have hlt : b < w.heap.size := (Array.getElem?_eq_some_iff.1 h3).1
      have hrun : (do Instr.mapUpdate T (den E (.hd k)) (den E (.v (.string s))) (den E x); pure .skip : Sem Next).run P w = .ok .skip { w with heap := w.heap.setIfInBounds b (.map (es.push { key := .string s, val := den E x, born := c }) (c + 1)) } := by
        simp only [den, h1, LE.hv, Value.oneCell', if_true, Instr.mapUpdate, Sem.run_bind, run_underlying hu, Result.andThen_ok, hg, hc, hf, hst, Sem.run_pure]
      rw [hrun]
      simp only [Good, Runs, updL]
      refine ⟨trivial, E, upd F k [b], fun _ _ => rfl, rfl, ?_⟩
      refine hs.turn hkk ⟨b, es.push { key := .string s, val := den E x, born := c }, c + 1, h1, rfl, by simp [Array.getElem?_setIfInBounds, hlt], ?_, ?_⟩ (fun b' hb => ?_) (fun b' hb => ?_) ⟨rfl, rfl, rfl, by simp, fun b' hb' hn' => ?_⟩
      · simp [h4]
      · simp [h5, denL_append, denL]
      · left; rw [h2]; exact hb
      · simp at hb; subst hb; simpa using hlt
      · rw [h2] at hn'
        have : b ≠ b' := fun e => hn' (by simp [e])
        simp [Array.getElem?_setIfInBounds, this]
    · exact fun hf => hf.elim
  · exact fun hf => hf.elim
def semPanic : List SV → R
  | [.v (.iface t x)] => { side := True, val := .v undef, pan := some [{ v := .iface t x, recovered := false }] }
  | _ => .bad
def sem (W : World) (bs : List Nat) (κ : Nat) (h : Nat → Option Ent) : Op → List SV → R
  | .move _, [x] => .ok x
  | .assign _, [x] => .ok x
  | .alloc T, [] => semAlloc P κ T
  | .box T _, args => semBox κ T args
  | .build T ps, args => semBuild P T (ps.toList.map (·.1)) args
  | .buildSlice T n ps, args => semBuildSlice P κ T n (ps.toList.map (·.1)) args
  | .load T _, args => semLoad P W bs h T args
  | .store T _ _, args => semStore P h T args
  | .nilCheck _, args => semNilCheck h args
  | .binOp op T X Y _, args => semBinN P Γ.eqs h op T X Y args
  | .unOp op _ _, args => semUn op args
  | .convert s d _, args => semConvN P h s d args
  | .makeInterface T _, args => semMkI P T args
  | .makeFunc fn first _, args => .ok (.fn fn (args.take first.size) (args.drop first.size))
  | .makeSlice T _ _, args => semMake P κ T args
  | .slice T _ lo hi mx, args => semSliceN P κ h T lo.isSome hi.isSome mx.isSome args
  | .fieldAddr S _ f, args => semFieldAddr P h S f args
  | .field S _ f, args => semField P S f args
  | .indexAddr T _ _, args => semIndexAddr P h T args
  | .index T _ _, args => semIndex P T args
  | .extract _ i, args => semExtract i args
  | .typeAssert _ _ T ok, args => semAssert P T ok args
  | .panic _, args => semPanic args
  | .call { callee := .builtin .len, args := _, argTypes := tys }, args => match tys.toList with
    | [T] => semLen P h T args
    | _ => .bad
  | .call { callee := .builtin .append, args := _, argTypes := tys }, args => semApp P W bs κ h tys.toList args
  | .call { callee := .builtin .min, args := _, argTypes := _ }, args => semMin args
  | .call { callee := .builtin .max, args := _, argTypes := _ }, args => semMax args
  | .call { callee := .value _, args := _, argTypes := _ }, args => semCall Γ W bs κ h args
  | .call { callee := .invoke _ name, args := _, argTypes := _ }, args => semInvoke Γ W bs κ h name args
  | .makeMap _ none, args => semMakeMap κ args
  | .lookup T _ _ ok, args => semLookup P h T ok args
  | .mapUpdate T _ _ _, args => semMapUpd P h T args
  | .insert T _ _ _, args => semMapUpd P h T args
  | _, _ => .bad
theorem semF_good {f : FuncId} {args : List SV} (hs : HeapSat W bs E F h w) (hK : KeysIn K h) (hk : ∀ k, k / 8 = κ → ¬ K k) (hx : ∀ k ∈ keysL args, K k) (hside : (semF Γ W bs κ h f args).side) :
    Good P W bs κ E h (semF Γ W bs κ h f args) ((callFunc f (denL E args).toArray).run P w) := by
  revert hside
  unfold semF
  split
  · rename_i s hsp
    intro hside
    exact s.good W bs κ E F h w K args hs hK hk hx hside
  · exact fun hf => hf.elim
theorem semCall_good {o : Oper} {ρ : Operand → Value} {fo : Operand} {as_ : Array Operand} {tys : Array TypeId} {args : List SV} (hop : o.op = .call { callee := .value fo, args := as_, argTypes := tys })
    (hρ : (fo :: as_.toList).map ρ = denL E args) (hs : HeapSat W bs E F h w) (hK : KeysIn K h) (hk : ∀ k, k / 8 = κ → ¬ K k) (hx : ∀ k ∈ keysL args, K k) (hside : (semCall Γ W bs κ h args).side) :
    Good P W bs κ E h (semCall Γ W bs κ h args) ((execOp ρ o).run P w) := by
  revert hside
  unfold semCall
  split
  · rename_i f first cap rest
    intro hside
    simp only [denL, List.map_cons, List.cons.injEq] at hρ
    obtain ⟨h1, h2⟩ := hρ
    have harr : as_.map ρ = (denL E rest).toArray := by apply Array.ext'; simpa using h2
    have hx' : ∀ k ∈ keysL (first ++ rest ++ cap), K k := fun k hk => hx k (by
      simp only [keysL_append, List.mem_append] at hk
      simp only [keysL, SV.keys, List.mem_append]
      rcases hk with (hk | hk) | hk
      · exact .inl (.inl hk)
      · exact .inr hk
      · exact .inl (.inr hk))
    have := semF_good Γ (f := f) hs hK hk hx' hside
    rw [denL_append, denL_append] at this
    simp only [execOp, hop, resolve, h1, den, Deferred.ofValue, Sem.run_bind, Sem.run_pure, Result.andThen_ok, invoke, harr]
    simpa using this
  · rename_i f first cap rest
    intro hside
    simp only [denL, List.map_cons, List.cons.injEq] at hρ
    obtain ⟨h1, h2⟩ := hρ
    have harr : as_.map ρ = (denL E rest).toArray := by apply Array.ext'; simpa using h2
    have hx' : ∀ k ∈ keysL (first.toList.map .v ++ rest ++ cap.toList.map .v), K k := fun k hk => hx k (by
      simp only [keysL_append, List.mem_append, keysL_map_v] at hk
      simp only [keysL, SV.keys, List.mem_append]
      rcases hk with (hk | hk) | hk
      · cases hk
      · exact .inr hk
      · cases hk)
    have := semF_good Γ (f := f) hs hK hk hx' hside
    rw [denL_append, denL_append, denL_map_v, denL_map_v] at this
    have e2 : (first.toList ++ denL E rest ++ cap.toList).toArray = first ++ (denL E rest).toArray ++ cap := by apply Array.ext'; simp
    rw [e2] at this
    simp only [execOp, hop, resolve, h1, den, Deferred.ofValue, Sem.run_bind, Sem.run_pure, Result.andThen_ok, invoke, harr]
    exact this
  · exact fun hf => hf.elim
theorem semInvoke_good {o : Oper} {ρ : Operand → Value} {ro : Operand} {name : String} {as_ : Array Operand} {tys : Array TypeId} {args : List SV} (hop : o.op = .call { callee := .invoke ro name, args := as_, argTypes := tys })
    (hρ : (ro :: as_.toList).map ρ = denL E args) (hs : HeapSat W bs E F h w) (hK : KeysIn K h) (hk : ∀ k, k / 8 = κ → ¬ K k) (hx : ∀ k ∈ keysL args, K k) (hside : (semInvoke Γ W bs κ h name args).side) :
    Good P W bs κ E h (semInvoke Γ W bs κ h name args) ((execOp ρ o).run P w) := by
  revert hside
  unfold semInvoke
  split
  · rename_i t x rest
    split
    · rename_i m hm
      intro hside
      simp only [denL, List.map_cons, List.cons.injEq] at hρ
      obtain ⟨h1, h2⟩ := hρ
      have harr : as_.map ρ = (denL E rest).toArray := by apply Array.ext'; simpa using h2
      have := semF_good Γ (f := m.f) (args := x :: rest) hs hK hk (by simpa [keysL, SV.keys] using hx) hside
      simp only [denL] at this
      simp only [execOp, hop, resolve, h1, den, Sem.run_bind, Sem.run_pure, Result.andThen_ok, invoke, harr, callMethod]
      simp [m.ok, callMethod]
      simpa using this
    · exact fun hf => hf.elim
  · rename_i t x rest
    split
    · rename_i m hm
      intro hside
      simp only [denL, List.map_cons, List.cons.injEq] at hρ
      obtain ⟨h1, h2⟩ := hρ
      have harr : as_.map ρ = (denL E rest).toArray := by apply Array.ext'; simpa using h2
      have := semF_good Γ (f := m.f) (args := .v x :: rest) hs hK hk (by simpa [keysL, SV.keys] using hx) hside
      simp only [denL] at this
      simp only [execOp, hop, resolve, h1, den, Sem.run_bind, Sem.run_pure, Result.andThen_ok, invoke, harr]
      simp [m.ok, callMethod]
      simpa [den] using this
    · exact fun hf => hf.elim
  · exact fun hf => hf.elim
theorem run_assert_iface {T xT t : TypeId} {y z : Value} {ok : Bool} (hif : isIface P T = some false) (hz : tzv P T = some z) (hok : ok = true ∨ t = T) (w : World) :
    (Instr.typeAssert (.iface t y) xT T ok).run P w = .ok (if t = T then (if ok then .tuple #[y, .bool true] else y) else .tuple #[z, .bool false]) w := by
  obtain ⟨d, hd, hdi⟩ := isIface_run hif
  have hz' := run_tzv hz
  by_cases ht : t = T
  · subst ht
    simp only [Instr.typeAssert, Sem.run_bind, run_underlying hd, Result.andThen_ok]
    cases d <;> first | exact absurd rfl (hdi _) | simp
  · have hk : ok = true := hok.resolve_right ht
    subst hk
    simp only [Instr.typeAssert, Sem.run_bind, run_underlying hd, Result.andThen_ok]
    cases d <;> first | exact absurd rfl (hdi _) | simp [ht, hz']
theorem run_assert_nil {T xT : TypeId} {z : Value} (hif : isIface P T = some false) (hz : tzv P T = some z) (w : World) :
    (Instr.typeAssert .nilIface xT T true).run P w = .ok (.tuple #[z, .bool false]) w := by
  obtain ⟨d, hd, hdi⟩ := isIface_run hif
  have hz' := run_tzv hz
  simp only [Instr.typeAssert, Sem.run_bind, run_underlying hd, Result.andThen_ok]
  cases d <;> first | exact absurd rfl (hdi _) | simp [hz']
theorem assert_good {xT T : TypeId} {ok : Bool} {x : SV} (hs : HeapSat W bs E F h w) (hside : (semAssert P T ok [x]).side) :
    Good P W bs κ E h (semAssert P T ok [x]) ((do pure (.value (← Instr.typeAssert (den E x) xT T ok)) : Sem Next).run P w) := by
  revert hside
  unfold semAssert
  split
  · rename_i t y heq
    simp only [List.cons.injEq, and_true] at heq
    subst heq
    split
    · rename_i z hif hz
      split
      · intro _
        refine good_value hs rfl rfl ?_
        simp only [R.ok, den]
        rw [run_assert_iface hif hz (.inl rfl)]
        by_cases ht : t = T <;> simp [ht, den, denL]
      · intro ht
        refine good_value hs rfl rfl ?_
        have ht' : t = T := ht
        simp only [R.req, den]
        rw [run_assert_iface hif hz (.inr ht')]
        simp [ht']
    · exact fun hf => hf.elim
  · rename_i t y heq
    simp only [List.cons.injEq, and_true] at heq
    subst heq
    split
    · rename_i z hif hz
      split
      · intro _
        refine good_value hs rfl rfl ?_
        simp only [R.ok, den]
        rw [run_assert_iface hif hz (.inl rfl)]
        by_cases ht : t = T <;> simp [ht, den, denL]
      · intro ht
        refine good_value hs rfl rfl ?_
        have ht' : t = T := ht
        simp only [R.req, den]
        rw [run_assert_iface hif hz (.inr ht')]
        simp [ht']
    · exact fun hf => hf.elim
  · rename_i heq
    simp only [List.cons.injEq, and_true] at heq
    subst heq
    split
    · rename_i z hif hz
      split
      · intro _
        refine good_value hs rfl rfl ?_
        simp only [R.ok, den]
        rw [run_assert_nil hif hz]
        simp [denL, den]
      · exact fun hf => hf.elim
    · exact fun hf => hf.elim
  · exact fun hf => hf.elim
theorem panic_good {x : SV} (hs : HeapSat W bs E F h w) (hside : (semPanic [x]).side) :
    Good P W bs κ E h (semPanic [x]) ((do pure (.value (← Instr.panic (den E x))) : Sem Next).run P w) := by
  revert hside
  unfold semPanic
  split
  · rename_i t y heq
    simp only [List.cons.injEq, and_true] at heq
    subst heq
    intro _
    have : (do pure (.value (← Instr.panic (den E (.v (.iface t y))))) : Sem Next).run P w = .halt (.panic (.iface t y)) w := by simp [den, Instr.panic]
    rw [this]
    exact ⟨rfl, F, hs.drop fun k e he => by simpa [dropKeys] using he⟩
  · exact fun hf => hf.elim
theorem denL_take (E : Nat → Value) (l : List SV) (n : Nat) : denL E (l.take n) = (denL E l).take n := by simp [denL_eq_map, List.map_take]
theorem denL_drop (E : Nat → Value) (l : List SV) (n : Nat) : denL E (l.drop n) = (denL E l).drop n := by simp [denL_eq_map, List.map_drop]
theorem pairs_zip (ps : List (Nat × Operand)) (ρ : Operand → Value) : ps.map (fun p => (p.1, ρ p.2)) = (ps.map (·.1)).zip ((ps.map (·.2)).map ρ) := zip_map_fst ρ ps
theorem sem_good (o : Oper) (ρ : Operand → Value) (args : List SV) (hρ : o.op.operands.toList.map ρ = denL E args) (hs : HeapSat W bs E F h w) (hK : KeysIn K h) (hk : ∀ k, k / 8 = κ → ¬ K k) (hx : ∀ k ∈ keysL args, K k)
    (hside : (sem Γ W bs κ h o.op args).side) : Good P W bs κ E h (sem Γ W bs κ h o.op args) ((execOp ρ o).run P w) := by
  have one : ∀ {x : SV} {X : Operand}, o.op.operands.toList = [X] → args = [x] → ρ X = den E x := fun {x X} h1 h2 => by
    rw [h1, h2] at hρ; simpa [denL] using hρ
  have len1 : ∀ {X : Operand}, o.op.operands.toList = [X] → ∃ x, args = [x] := fun {X} h1 => by
    have := congrArg List.length hρ
    rw [h1, denL_length] at this
    exact List.length_eq_one_iff.1 (by simpa using this.symm)
  have len2 : ∀ {X Y : Operand}, o.op.operands.toList = [X, Y] → ∃ x y, args = [x, y] ∧ ρ X = den E x ∧ ρ Y = den E y := fun {X Y} h1 => by
    rw [h1] at hρ
    match args, hρ with
    | [x, y], hρ => simp [denL] at hρ; exact ⟨x, y, rfl, hρ.1, hρ.2⟩
    | [], hρ => simp [denL] at hρ
    | [x], hρ => simp [denL] at hρ
    | x :: y :: z :: r, hρ => simp [denL] at hρ
  have len3 : ∀ {X Y Z : Operand}, o.op.operands.toList = [X, Y, Z] → ∃ x y z, args = [x, y, z] ∧ ρ X = den E x ∧ ρ Y = den E y ∧ ρ Z = den E z := fun {X Y Z} h1 => by
    rw [h1] at hρ
    match args, hρ with
    | [x, y, z], hρ => simp [denL] at hρ; exact ⟨x, y, z, rfl, hρ.1, hρ.2.1, hρ.2.2⟩
    | [], hρ => simp [denL] at hρ
    | [x], hρ => simp [denL] at hρ
    | [x, y], hρ => simp [denL] at hρ
    | x :: y :: z :: a :: r, hρ => simp [denL] at hρ
  generalize hop : o.op = op at *
  cases op with
  | move X =>
    obtain ⟨x, rfl⟩ := len1 (X := X) rfl
    simp only [sem] at hside ⊢
    have : (execOp ρ o).run P w = .ok (.value (den E x)) w := by simp [execOp, hop, one (X := X) rfl rfl]
    rw [this]; exact Good.pure hs rfl rfl rfl
  | assign X =>
    obtain ⟨x, rfl⟩ := len1 (X := X) rfl
    simp only [sem] at hside ⊢
    have : (execOp ρ o).run P w = .ok (.value (den E x)) w := by simp [execOp, hop, one (X := X) rfl rfl]
    rw [this]; exact Good.pure hs rfl rfl rfl
  | alloc T =>
    have ha : args = [] := by
      have := congrArg List.length hρ
      rw [denL_length] at this
      exact List.eq_nil_of_length_eq_zero (by simpa [Op.operands] using this.symm)
    subst ha
    simp only [sem] at hside ⊢
    have := alloc_good (E := E) hs hK hk hside
    simpa only [execOp, hop] using this
  | box T X =>
    obtain ⟨x, rfl⟩ := len1 (X := X) rfl
    simp only [sem] at hside ⊢
    have := box_good (P := P) (T := T) hs hK hk (fun k hk => hx k (by simpa [keysL] using hk))
    simpa only [execOp, hop, one (X := X) rfl rfl] using this
  | build T ps =>
    simp only [sem] at hside ⊢
    have := build_good (E := E) (κ := κ) hs hside
    have e : ps.map (fun (i, x) => (i, ρ x)) = ((ps.toList.map (·.1)).zip (denL E args)).toArray := by
      rw [← hρ]
      apply Array.ext'
      simpa [Op.operands] using pairs_zip ps.toList ρ
    simp only [execOp, hop, e]
    exact this
  | buildSlice T n ps =>
    simp only [sem] at hside ⊢
    have := buildSlice_good (E := E) hs hK hk hx hside
    have e : ps.map (fun (i, x) => (i, ρ x)) = ((ps.toList.map (·.1)).zip (denL E args)).toArray := by
      rw [← hρ]
      apply Array.ext'
      simpa [Op.operands] using pairs_zip ps.toList ρ
    simp only [execOp, hop, e]
    exact this
  | load T X =>
    obtain ⟨x, rfl⟩ := len1 (X := X) rfl
    simp only [sem] at hside ⊢
    have := load_good (P := P) (κ := κ) hs hside
    simpa only [execOp, hop, one (X := X) rfl rfl] using this
  | store T X Y =>
    obtain ⟨x, y, rfl, h1, h2⟩ := len2 (X := X) (Y := Y) rfl
    simp only [sem] at hside ⊢
    have := store_good (P := P) (W := W) (bs := bs) (F := F) (κ := κ) (E := E) hs hside
    simpa only [execOp, hop, h1, h2] using this
  | nilCheck X =>
    obtain ⟨x, rfl⟩ := len1 (X := X) rfl
    simp only [sem] at hside ⊢
    exact nilCheck_good hop (one (X := X) rfl rfl) hs hside
  | binOp op T X Y T2 =>
    obtain ⟨x, y, rfl, h1, h2⟩ := len2 (X := X) (Y := Y) rfl
    simp only [sem] at hside ⊢
    have := binN_good (E := E) (κ := κ) (X := X) (Y := Y) hs hside
    simpa only [execOp, hop, h1, h2] using this
  | unOp op T X =>
    obtain ⟨x, rfl⟩ := len1 (X := X) rfl
    simp only [sem] at hside ⊢
    have := un_good (P := P) (E := E) (κ := κ) hs hside
    simpa only [execOp, hop, one (X := X) rfl rfl] using this
  | convert s d X =>
    obtain ⟨x, rfl⟩ := len1 (X := X) rfl
    simp only [sem] at hside ⊢
    have := convN_good (P := P) (E := E) (κ := κ) hs hside
    simpa only [execOp, hop, one (X := X) rfl rfl] using this
  | makeInterface T X =>
    obtain ⟨x, rfl⟩ := len1 (X := X) rfl
    simp only [sem] at hside ⊢
    have := mkI_good (P := P) (E := E) (κ := κ) hs hside
    simpa only [execOp, hop, one (X := X) rfl rfl] using this
  | makeFunc fn first cap =>
    simp only [sem] at hside ⊢
    have h1 : first.map ρ = (denL E (args.take first.size)).toArray := by
      rw [denL_take, ← hρ]
      apply Array.ext'
      simp [Op.operands]
    have h2 : cap.map ρ = (denL E (args.drop first.size)).toArray := by
      rw [denL_drop, ← hρ]
      apply Array.ext'
      simp [Op.operands]
    have : (execOp ρ o).run P w = .ok (.value (den E (.fn fn (args.take first.size) (args.drop first.size)))) w := by
      simp [execOp, hop, h1, h2, den, Instr.makeFunc]
    rw [this]; exact Good.pure hs rfl rfl rfl
  | makeSlice T X Y =>
    obtain ⟨x, y, rfl, h1, h2⟩ := len2 (X := X) (Y := Y) rfl
    simp only [sem] at hside ⊢
    have := make_good (E := E) hs hK hk hside
    simpa only [execOp, hop, h1, h2] using this
  | slice T X lo hi mx =>
    simp only [sem] at hside ⊢
    cases mx with
    | some m =>
      exfalso
      revert hside
      unfold semSliceN
      split
      · exact fun hf => hf.elim
      unfold semSlice
      split
      · split
        · rename_i e _; simp at e
        · exact fun hf => hf.elim
      · split
        · rename_i e _; simp at e
        · exact fun hf => hf.elim
      · exact fun hf => hf.elim
    | none =>
      match args, hρ, hside with
      | [], hρ, hside => simp [Op.operands, denL] at hρ
      | x :: rest, hρ, hside =>
        have hg := sliceN_good (P := P) (E := E) (κ := κ) hs hK hk hside
        have h1 : ρ X = den E x := by simp [Op.operands, denL] at hρ; exact hρ.1
        have h2 : ((lo.toList ++ hi.toList).map ρ) = denL E rest := by
          simp [Op.operands, denL] at hρ
          simpa using hρ.2
        have e1 : lo.map ρ = (if lo.isSome then argOf rest 0 E else none) := by
          cases lo with
          | none => rfl
          | some a =>
            simp only [Option.isSome_some, if_true, argOf]
            cases rest with
            | nil => simp [denL] at h2
            | cons r rs => simp [denL] at h2; simp [h2.1]
        have e2 : hi.map ρ = (if hi.isSome then argOf rest (if lo.isSome then 1 else 0) E else none) := by
          cases hi with
          | none => rfl
          | some a =>
            simp only [Option.isSome_some, if_true, argOf]
            cases lo with
            | none =>
              cases rest with
              | nil => simp [denL] at h2
              | cons r rs => simp [denL] at h2; simp [h2.1]
            | some b =>
              match rest, h2 with
              | [], h2 => simp [denL] at h2
              | [r], h2 => simp [denL] at h2
              | r :: r' :: rs, h2 => simp [denL] at h2; simp [h2.2.1]
        have e3 : execOp ρ o = (do pure (.value (← Instr.sliceAt T (den E x) (if lo.isSome then argOf rest 0 E else none) (if hi.isSome then argOf rest (if lo.isSome then 1 else 0) E else none) none)) : Sem Next) := by
          simp only [execOp, hop, h1, e1, e2, Option.map_none]
        rw [e3]
        exact hg
  | fieldAddr S X f =>
    obtain ⟨x, rfl⟩ := len1 (X := X) rfl
    simp only [sem] at hside ⊢
    have := fieldAddr_good (P := P) (E := E) (κ := κ) hs hside
    simpa only [execOp, hop, one (X := X) rfl rfl] using this
  | field S X f =>
    obtain ⟨x, rfl⟩ := len1 (X := X) rfl
    simp only [sem] at hside ⊢
    have := field_good (P := P) (E := E) (κ := κ) hs hside
    simpa only [execOp, hop, one (X := X) rfl rfl] using this
  | indexAddr T X Y =>
    obtain ⟨x, y, rfl, h1, h2⟩ := len2 (X := X) (Y := Y) rfl
    simp only [sem] at hside ⊢
    have := indexAddr_good (P := P) (E := E) (κ := κ) hs hside
    simpa only [execOp, hop, h1, h2] using this
  | index T X Y =>
    obtain ⟨x, y, rfl, h1, h2⟩ := len2 (X := X) (Y := Y) rfl
    simp only [sem] at hside ⊢
    have := index_good (P := P) (E := E) (κ := κ) hs hside
    simpa only [execOp, hop, h1, h2] using this
  | extract X i =>
    obtain ⟨x, rfl⟩ := len1 (X := X) rfl
    simp only [sem] at hside ⊢
    have := extract_good (P := P) (E := E) (κ := κ) hs hside
    simpa only [execOp, hop, one (X := X) rfl rfl] using this
  | typeAssert X xT T ok =>
    obtain ⟨x, rfl⟩ := len1 (X := X) rfl
    simp only [sem] at hside ⊢
    have := assert_good (P := P) (E := E) (κ := κ) (xT := xT) hs hside
    simpa only [execOp, hop, one (X := X) rfl rfl] using this
  | makeMap T r =>
    cases r with
    | some r => simp only [sem] at hside; exact hside.elim
    | none =>
      have ha : args = [] := by
        have := congrArg List.length hρ
        rw [denL_length] at this
        exact List.eq_nil_of_length_eq_zero (by simpa [Op.operands] using this.symm)
      subst ha
      simp only [sem] at hside ⊢
      have := makeMap_good (P := P) (W := W) (bs := bs) (E := E) (T := T) hs hK hk
      simpa only [execOp, hop, Option.map_none] using this
  | lookup T X Y ok =>
    obtain ⟨x, y, rfl, h1, h2⟩ := len2 (X := X) (Y := Y) rfl
    simp only [sem] at hside ⊢
    have := lookup_good (P := P) (W := W) (bs := bs) (F := F) (κ := κ) (E := E) hs hside
    simpa only [execOp, hop, h1, h2] using this
  | mapUpdate T X Y Z =>
    obtain ⟨x, y, z, rfl, h1, h2, h3⟩ := len3 (X := X) (Y := Y) (Z := Z) rfl
    simp only [sem] at hside ⊢
    have := mapUpd_good (P := P) (W := W) (bs := bs) (F := F) (κ := κ) (E := E) hs hside
    simpa only [execOp, hop, h1, h2, h3] using this
  | insert T X Y Z =>
    obtain ⟨x, y, z, rfl, h1, h2, h3⟩ := len3 (X := X) (Y := Y) (Z := Z) rfl
    simp only [sem] at hside ⊢
    have := mapUpd_good (P := P) (W := W) (bs := bs) (F := F) (κ := κ) (E := E) hs hside
    simpa only [execOp, hop, h1, h2, h3] using this
  | panic X =>
    obtain ⟨x, rfl⟩ := len1 (X := X) rfl
    simp only [sem] at hside ⊢
    have := panic_good (P := P) (E := E) (κ := κ) hs hside
    simpa only [execOp, hop, one (X := X) rfl rfl] using this
  | call c =>
    obtain ⟨callee, as_, tys⟩ := c
    have hce : ∀ b : Builtin, callee = .builtin b → as_.map ρ = (denL E args).toArray := fun b hb => by
      subst hb
      rw [← hρ]
      apply Array.ext'
      simp [Op.operands, Call.operands]
    cases callee with
    | value fo =>
      simp only [sem] at hside ⊢
      refine semCall_good Γ hop ?_ hs hK hk hx hside
      rw [← hρ]
      simp [Op.operands, Call.operands]
    | invoke ro name =>
      simp only [sem] at hside ⊢
      refine semInvoke_good Γ hop ?_ hs hK hk hx hside
      rw [← hρ]
      simp [Op.operands, Call.operands]
    | builtin b =>
      have harr := hce b rfl
      cases b <;> simp only [sem] at hside ⊢ <;> first | exact hside.elim | skip
      case append =>
        match args, hside, hρ with
        | [x, y], hside, hρ =>
          have := app_good (P := P) (E := E) (tys := tys.toList) (ty := o.type) hs hK hk hside
          simp only [denL] at harr
          simp only [execOp, hop, resolve, invoke, builtin, Sem.run_bind, Sem.run_pure, Result.andThen_ok, harr]
          simpa using this
        | [], hside, hρ => simp [semApp, R.bad] at hside
        | [x], hside, hρ => simp [semApp, R.bad] at hside
        | x :: y :: z :: r, hside, hρ => simp [semApp, R.bad] at hside
      case len =>
        revert hside
        split
        · rename_i T hT
          intro hside
          match args, hside, hρ with
          | [x], hside, hρ =>
            have ht : tys[0]? = some T := by rw [← Array.getElem?_toList, hT]; rfl
            have := len_good (P := P) (E := E) (κ := κ) (ty := o.type) hs ht hside
            simp only [denL] at harr
            simp only [execOp, hop, resolve, invoke, builtin, Sem.run_bind, Sem.run_pure, Result.andThen_ok, harr]
            simpa using this
          | [], hside, hρ => simp [semLen, R.bad] at hside
          | x :: y :: r, hside, hρ => cases x <;> simp [semLen, R.bad] at hside
        · exact fun hf => hf.elim
      case min =>
        have := min_good (P := P) (E := E) (κ := κ) (tys := tys) (ty := o.type) hs hside
        simp only [execOp, hop, resolve, invoke, builtin, Sem.run_bind, Sem.run_pure, Result.andThen_ok, harr]
        simpa using this
      case max =>
        have := max_good (P := P) (E := E) (κ := κ) (tys := tys) (ty := o.type) hs hside
        simp only [execOp, hop, resolve, invoke, builtin, Sem.run_bind, Sem.run_pure, Result.andThen_ok, harr]
        simpa using this
  | _ => simp only [sem] at hside; exact hside.elim
end
end Go.LE
end
section
namespace Go.CE
open Go.RowKit
section
variable {P : Program} {C : Cfg} {U : Nat → Value} {E E' : Env} {H H' : HP} {n n' : Nat} {B : Nat → Prop} {W w w' : World} {F : FR} {a : Act} {S T tx ty K e : Nat} {d : TI} {q m : Nat}
theorem toBy_sound : ∀ {l : List V} {bs : List UInt8} {xs : List Value}, toBy l = some bs → DenL U E l xs → ∃ ns : List Int, xs = ns.map (Value.int .u8) ∧ bs = ns.map fun n => UInt8.ofNat n.toNat
  | [], bs, xs, h, hx => by
    simp only [toBy, Option.some.injEq] at h
    subst h
    exact ⟨[], by simpa using hx.nil_inv, rfl⟩
  | a :: r, bs, xs, h, hx => by
    obtain ⟨y, ys, rfl, h1, h2⟩ := hx.cons_inv
    simp only [toBy] at h
    cases ha : toU8 a with
    | none => rw [ha] at h; cases h
    | some c =>
      rw [ha] at h
      cases hb : toBy r with
      | none => rw [hb] at h; cases h
      | some t =>
        rw [hb] at h
        simp only [conO, Option.some.injEq] at h
        subst h
        obtain ⟨ns, rfl, rfl⟩ := toBy_sound hb h2
        unfold toU8 at ha
        split at ha
        · rename_i i
          simp only [Option.some.injEq] at ha
          subst ha
          exact ⟨(i : Int) :: ns, by rw [h1.v_inv]; rfl, rfl⟩
        · cases ha
theorem conv_sound (hC : COk P C U B W) (h : HR U E H n B W w) {x : Option V} {vx : Value} (hx : Kn U E x vx) : GE P U E B W w (oCnv (u8S C (C.ty S)) x (C.ty T) H n) (convert S T vx) := by
  intro v H' n' hr
  cases hu : u8S C (C.ty S) with
  | false => rw [hu] at hr; cases hr
  | true =>
    rw [hu] at hr
    have hsrc : ∃ e, P.underlying S = some (.slice e) ∧ P.underlying e = some (.int .u8) := by
      cases hi : C.ty S with
      | none => rw [hi] at hu; cases hu
      | some i =>
        rw [hi] at hu
        obtain ⟨sz, ag, z, b, k⟩ := i
        cases k <;> first | (cases hu; done) | skip
        rename_i e
        refine ⟨e, ty_sl hC hi, ?_⟩
        simp only [u8S] at hu
        cases he : C.ty e with
        | none => rw [he] at hu; cases hu
        | some d =>
          rw [he] at hu
          obtain ⟨sz, ag, z, b, k⟩ := d
          cases k <;> first | (cases hu; done) | skip
          rename_i kk
          cases kk <;> first | (cases hu; done) | skip
          exact ty_int hC he
    obtain ⟨e, hS, hE⟩ := hsrc
    cases x with
    | none => cases hr
    | some x =>
      replace hx := hx x rfl
      simp only [oCnv, oConv] at hr
      cases hi : C.ty T with
      | none => rw [hi] at hr; cases hr
      | some i =>
        rw [hi] at hr
        obtain ⟨sz, ag, z, b, k⟩ := i
        cases k <;> first | (cases hr; done) | skip
        have hD := ty_str hC hi
        simp only [conv2] at hr
        unfold conv3 at hr
        split at hr
        · simp only [R.ok.injEq] at hr
          obtain ⟨rfl, rfl, rfl⟩ := hr
          cases hx.v_inv
          exact ⟨_, w, E, by simp [convert, run_underlying hS, run_underlying hD], Env.le.refl E, hx, h⟩
        · simp only [R.ok.injEq] at hr
          obtain ⟨rfl, rfl, rfl⟩ := hr
          cases hx.v_inv
          exact ⟨.string ⟨#[]⟩, w, E, by simp [convert, run_underlying hS, run_underlying hD, run_underlying hE, Conv.bytesToString]; rfl, Env.le.refl E, by simp only [Den], h⟩
        · rename_i k o m c
          cases hc : cellsOf H k with
          | none => rw [hc] at hr; cases hr
          | some us =>
            rw [hc] at hr
            simp only [conv4, conv6, tak_eq, drp_eq, lng_eq] at hr
            cases hb : Nat.beq ((us.drop o).take m).length m with
            | false => rw [hb] at hr; cases hq : toBy ((us.drop o).take m) <;> (rw [hq] at hr; cases hr)
            | true =>
              rw [hb] at hr
              have hl := Nat.eq_of_beq_eq_true hb
              cases ht : toBy ((us.drop o).take m) with
              | none => rw [ht] at hr; cases hr
              | some bs =>
                rw [ht] at hr
                simp only [strV, R.ok.injEq] at hr
                obtain ⟨rfl, rfl, rfl⟩ := hr
                obtain ⟨l, T0, e1, hcs, zs, g1, g2, g3⟩ := slice_cells (sz := 1) (m := m) h hc rfl (by rw [Nat.mul_one]; exact hl)
                rw [Nat.mul_one] at g1 g2
                obtain ⟨ns, rfl, rfl⟩ := toBy_sound ht g1
                simp only [Den] at hx
                obtain ⟨l', e2, hn, rfl⟩ := hx
                rw [e1] at e2
                cases e2
                have hld := run_loadCells_list (P := P) w ⟨l.b, l.d + o, none⟩ (ns.map (Value.int .u8)) (fun j v hv => by rw [Addr.add_lit]; exact g3 j v hv)
                rw [g2] at hld
                have hbs := run_bytesToString (P := P) w ⟨l.b, l.d + o, none⟩ m (capOf l o c) ns hld
                rw [Go.LE.foldl_push_strI] at hbs
                refine ⟨.string ⟨⟨ns.map fun n => UInt8.ofNat n.toNat⟩⟩, w, E, ?_, Env.le.refl E, by simp only [Den], h⟩
                simp [convert, run_underlying hS, run_underlying hD, run_underlying hE, hbs]
                try rfl
        · cases hr
end
end Go.CE
end
section
namespace Go.CE
open Go.RowKit
section
variable {P : Program} {C : Cfg} {U : Nat → Value} {E E' : Env} {H H' : HP} {n n' : Nat} {D D' : DL} {B : Nat → Prop} {W w w' : World} {F : FR} {a : Act} {L : List Nat} {rec : Rec} {r : RS} {x : V} {o : Oper} {K : Act → World → Prop} {Q : Exit → Act → World → Prop} {s : Sem Value}
def COL : FuncId := 99999
inductive DfOk (U : Nat → Value) (E : Env) : DL → List Deferred → Prop where
  | nil : DfOk U E [] []
  | col {k : Nat} {l : Loc} {D : DL} {ds : List Deferred} (he : E k = some l) (h' : DfOk U E D ds) : DfOk U E ((COL, [.s k 0 1 (.ex 0)]) :: D) (⟨.collected l.b, #[]⟩ :: ds)
  | cons {f : FuncId} {l : List V} {D : DL} {args cap : Array Value} {ds : List Deferred} (h : DenL U E l (args ++ cap).toList) (h' : DfOk U E D ds) : DfOk U E ((f, l) :: D) (⟨.fn (.func f) cap, args⟩ :: ds)
theorem DfOk.mono (h : E.le E') {ds : List Deferred} (hd : DfOk U E D ds) : DfOk U E' D ds := by
  induction hd with
  | nil => exact .nil
  | col h1 _ ih => exact .col (h _ _ h1) ih
  | cons h1 _ ih => exact .cons (h1.mono h) ih
def CallRes (P : Program) (f : FuncId) (xs : Array Value) (w : World) (R : Value → World → Prop) : Prop :=
  (∃ v w', (callFunc f xs).run P w = .ok (.value v) w' ∧ R v w') ∨ ((callFunc f xs).run P w = .ok (.enter f xs) w ∧ Calls P f xs w fun | .returned v, w' => R v w' | _, _ => False)
def CallPan (P : Program) (f : FuncId) (xs : Array Value) (w : World) (R : Value → World → Prop) : Prop :=
  (callFunc f xs).run P w = .ok (.enter f xs) w ∧ Calls P f xs w fun | .panicked c, w' => ∃ y, c = [{ v := y, recovered := false }] ∧ R y w' | _, _ => False
def CallsOk (P : Program) (C : Cfg) (U : Nat → Value) (B : Nat → Prop) (W : World) (rec : Rec) : Prop :=
  (∀ f l H n x H' n', callF rec C f l H n = .ok x H' n' → ∀ E w xs, HR U E H n B W w → DenL U E l xs → CallRes P f xs.toArray w fun v w' => ∃ E', E.le E' ∧ HR U E' H' n' B W w' ∧ Den U E' x v) ∧
  (∀ f l H n x H' n', callF rec C f l H n = .pan x H' n' → ∀ E w xs, HR U E H n B W w → DenL U E l xs → CallPan P f xs.toArray w fun v w' => ∃ E', E.le E' ∧ HR U E' H' n' B W w' ∧ Den U E' x v)
def MeOk (P : Program) (C : Cfg) : Prop := ∀ T name f, C.me T name = some (f, false) → ∀ v w, (method (P.types.size + Made.depth) T v name).run P w = .ok (f, v) w
def Nx (U : Nat → Value) (E : Env) (B : Nat → Prop) (W : World) (o : Oper) (a : Act) (w : World) (pu : Prop) (x : V) (H' : HP) (n' : Nat) (D' : DL) (K : Act → World → Prop) : Prop :=
  ∀ E' y w' ds, E.le E' → HR U E' H' n' B W w' → Den U E' x y → DfOk U E' D' ds → (pu → E' = E ∧ w' = w ∧ ds = a.defers) → K ({ a with defers := ds }.put o.dst y) w'
def vS (s : Sem Value) : Sem Next := do pure (.value (← s))
def uS (s : Sem Unit) : Sem Next := do s; pure .skip
theorem wp_val {y : Value} (hr : (execOp a.eval o).run P w = .ok (.value y) w') (hk : K (a.put o.dst y) w') : o.wp P a w K Q := by
  unfold Oper.wp
  rw [hr]
  exact hk
theorem nx_pure (hop : (execOp a.eval o).run P w = (vS s).run P w) (hg : GP P U E w (some x) s) (hh : HR U E H n B W w) (hd : DfOk U E D a.defers) {pu : Prop} (hK : Nx U E B W o a w pu x H n D K) : o.wp P a w K Q := by
  obtain ⟨y, h1, h2⟩ := hg x rfl
  refine wp_val (y := y) (w' := w) ?_ (hK E y w a.defers (.refl E) hh h2 hd fun _ => ⟨rfl, rfl, rfl⟩)
  rw [hop]
  simp [vS, h1]
theorem nx_eff (hop : (execOp a.eval o).run P w = (vS s).run P w) (hg : GE P U E B W w (.ok x H' n') s) (hd : DfOk U E D a.defers) {pu : Prop} (hpu : ¬ pu) (hK : Nx U E B W o a w pu x H' n' D K) : o.wp P a w K Q := by
  obtain ⟨y, w', E', h1, h2, h3, h4⟩ := hg x H' n' rfl
  refine wp_val (y := y) (w' := w') ?_ (hK E' y w' a.defers h2 h4 h3 (hd.mono h2) fun h => absurd h hpu)
  rw [hop]
  simp [vS, h1]
theorem nx_skip {s : Sem Unit} (hop : (execOp a.eval o).run P w = (uS s).run P w) (hs : ∃ w', s.run P w = .ok () w' ∧ HR U E H' n B W w') (hd : DfOk U E D a.defers) {pu : Prop} (hpu : ¬ pu) (hK : Nx U E B W o a w pu .un H' n D K) : o.wp P a w K Q := by
  obtain ⟨w', h1, h2⟩ := hs
  unfold Oper.wp
  rw [hop]
  simp only [uS, Sem.run_bind, h1, Result.andThen_ok, Sem.run_pure]
  exact hK E undef w' a.defers (.refl E) h2 (by simp only [V.un, Den]) hd fun h => absurd h hpu
theorem nx_pan {f : FuncId} {xs : Array Value} {v : V} (hr : (execOp a.eval o).run P w = (callFunc f xs).run P w) (hc : CallPan P f xs w fun y w' => ∃ E', E.le E' ∧ HR U E' H' n' B W w' ∧ Den U E' v y)
    (hQ : ∀ E' y w', E.le E' → HR U E' H' n' B W w' → Den U E' v y → Q (.panic [{ v := y, recovered := false }]) a w') : o.wp P a w K Q := by
  unfold Oper.wp
  rw [hr, hc.1]
  refine hc.2.mono fun e w' he => ?_
  cases e with
  | returned v => exact he.elim
  | panicked c => obtain ⟨y, rfl, E', g2, g3, g4⟩ := he; exact hQ E' y w' g2 g3 g4
  | outgrown => exact he.elim
theorem nx_res {f : FuncId} {xs : Array Value} (hr : (execOp a.eval o).run P w = (callFunc f xs).run P w) (hc : CallRes P f xs w fun v w' => ∃ E', E.le E' ∧ HR U E' H' n' B W w' ∧ Den U E' x v) (hd : DfOk U E D a.defers) {pu : Prop} (hpu : ¬ pu) (hK : Nx U E B W o a w pu x H' n' D K) : o.wp P a w K Q := by
  unfold Oper.wp
  rw [hr]
  rcases hc with ⟨v, w', h1, E', h2, h3, h4⟩ | ⟨h1, h2⟩
  · rw [h1]
    exact hK E' v w' a.defers h2 h3 h4 (hd.mono h2) fun h => absurd h hpu
  · rw [h1]
    refine h2.mono fun e w' he => ?_
    cases e with
    | returned v => obtain ⟨E', g2, g3, g4⟩ := he; exact hK E' v w' a.defers g2 g3 g4 (hd.mono g2) fun h => absurd h hpu
    | panicked c => exact he.elim
    | outgrown => exact he.elim
def rO : R → DL → Option (V × HP × Nat × DL)
  | .ok x H n, D => some (x, H, n, D)
  | _, _ => none
def rP : R → DL → Option (V × HP × Nat × DL)
  | .pan v H n, D => some (v, H, n, D)
  | _, _ => none
def dO : TG → HP → Nat → DL → Option (V × HP × Nat × DL)
  | .to f l, H, n, D => some (.un, H, n, (f, l) :: D)
  | .no, _, _, _ => none
noncomputable def stp1 (rec : Rec) (C : Cfg) (F : FR) (H : HP) (n : Nat) (D : DL) : CO → Option (V × HP × Nat × DL)
  | .p _ f _ => (f F H).map fun x => (x, H, n, D)
  | .q f _ => (f F H).map fun x => (x, H, n, D)
  | .e _ f _ => rO (f F H n) D
  | .call _ c as_ _ => rO (exCL c as_ rec C F H n) D
  | .df _ f as_ => dO (target (ev f F) (evL as_ F)) H n D
  | .g _ _ _ _ => none
  | .bad _ => none
  | .pn _ _ _ => none
noncomputable def stpP1 (rec : Rec) (C : Cfg) (F : FR) (H : HP) (n : Nat) (D : DL) : CO → Option (V × HP × Nat × DL)
  | .pn _ x _ => rP (panO (ev x F) H n) D
  | .call _ c as_ _ => rP (exCL c as_ rec C F H n) D
  | _ => none
theorem rP_inv {g : R} {q : V × HP × Nat × DL} (h : rP g D = some q) : ∃ v H' n', g = .pan v H' n' ∧ q = (v, H', n', D) := by
  cases g with
  | no s => cases h
  | ok x H n => cases h
  | pan v H' n' => simp only [rP, Option.some.injEq] at h; exact ⟨v, H', n', rfl, h.symm⟩
theorem stp1_pd {f : FR → HP → Option V} {p : String} {d : Option Tmp} : stp1 rec C F H n D (pd f p d) = (f F H).map fun x => (x, H, n, D) := by cases d <;> rfl
theorem pd_inv {g : Option V} {q : V × HP × Nat × DL} (h : g.map (fun x => (x, H, n, D)) = some q) : ∃ x, g = some x ∧ q = (x, H, n, D) := by
  obtain ⟨x, h1, h2⟩ := Option.map_eq_some_iff.1 h
  exact ⟨x, h1, h2.symm⟩
theorem rO_inv {g : R} {q : V × HP × Nat × DL} (h : rO g D = some q) : ∃ x H' n', g = .ok x H' n' ∧ q = (x, H', n', D) := by
  cases g with
  | no s => cases h
  | pan v H n => cases h
  | ok x H' n' => simp only [rO, Option.some.injEq] at h; exact ⟨x, H', n', rfl, h.symm⟩
theorem ru_inv {g : Option HP} {x : V} (h : ru g n = .ok x H' n') : g = some H' ∧ x = .un ∧ n' = n := by
  cases g with
  | none => cases h
  | some G => simp only [ru, R.ok.injEq] at h; exact ⟨by rw [h.2.1], h.1.symm, h.2.2.symm⟩
def FitL (U : Nat → Value) (E : Env) (F : FR) (a : Act) (L : List Nat) : Prop := ∀ t ∈ L, ∀ v, F.get t = some v → Den U E v (a.tmps.getD t undef)
theorem tmpsO_mem {t : Nat} : ∀ {l : List Operand}, t ∈ tmpsO l ↔ Operand.tmp t ∈ l
  | [] => by simp [tmpsO]
  | x :: r => by
    have := tmpsO_mem (t := t) (l := r)
    cases x <;> simp [tmpsO, this]
theorem ev_knL (h : FitL U E F a L) (x : Operand) (hx : ∀ t, x = .tmp t → t ∈ L) : Kn U E (ev x F) (a.eval x) := by
  intro v hv
  cases x with
  | tmp t => exact h t (hx t rfl) v hv
  | const y => simp only [ev, opd, gtX, Option.some.injEq] at hv; subst hv; simp only [Den]; rfl
  | global g => simp only [ev, opd, gtX, Option.some.injEq] at hv; subst hv; simp only [Den]; rfl
  | func f => simp only [ev, opd, gtX, Option.some.injEq] at hv; subst hv; simp only [Den]; rfl
abbrev Ops (U : Nat → Value) (E : Env) (F : FR) (a : Act) (l : List Operand) : Prop := ∀ x ∈ l, Kn U E (ev x F) (a.eval x)
theorem evL_kn : ∀ {l : List Operand}, Ops U E F a l → ∀ us, evL l F = some us → DenL U E us (l.map a.eval)
  | [], _, us, hu => by simp only [evL, Option.some.injEq] at hu; subst hu; exact .nil
  | x :: r, h, us, hu => by
    rw [evL] at hu
    obtain ⟨v, l', h1, h2, rfl⟩ := conO_inv hu
    exact .cons (h x (by simp) v h1) (evL_kn (fun y hy => h y (by simp [hy])) l' h2)
theorem evP_kn : ∀ {l : List (Nat × Operand)}, Ops U E F a (l.map (·.2)) → ∀ us, evP l F = some us → PDen U E us (l.map fun p => (p.1, a.eval p.2))
  | [], _, us, hu => by simp only [evP, Option.some.injEq] at hu; subst hu; rfl
  | (i, x) :: r, h, us, hu => by
    rw [evP] at hu
    obtain ⟨v, l', h1, h2, rfl⟩ := conO_inv hu
    obtain ⟨v', g1, rfl⟩ := Option.map_eq_some_iff.1 h1
    exact ⟨a.eval x, _, rfl, h x (by simp) v' g1, evP_kn (fun y hy => h y (by simp at hy ⊢; exact .inr hy)) l' h2⟩
theorem evO_kn {x : Option Operand} (h : ∀ y, x = some y → Kn U E (ev y F) (a.eval y)) : (evO x F = .bad ∨ (evO x F = .none ∧ x = none) ∨ ∃ v y, evO x F = .is v ∧ x = some y ∧ Den U E v (a.eval y)) := by
  cases x with
  | none => exact .inr (.inl ⟨rfl, rfl⟩)
  | some y =>
    cases hv : ev y F with
    | none => simp only [evO, hv, oOV]; exact .inl trivial
    | some v => simp only [evO, hv, oOV]; exact .inr (.inr ⟨v, y, rfl, rfl, h y rfl v hv⟩)
theorem okn_some {v : V} {y : Value} (h : Den U E v y) : OKn U E (some v) (some y) := h
theorem oSlice_kn (hC : COk P C U B W) {T : Nat} {x : Operand} {lo hi mx : Option Operand} (hx : Kn U E (ev x F) (a.eval x)) (hl : ∀ y, lo = some y → Kn U E (ev y F) (a.eval y)) (hh : ∀ y, hi = some y → Kn U E (ev y F) (a.eval y)) (hm : ∀ y, mx = some y → Kn U E (ev y F) (a.eval y)) :
    GP P U E w (oSlice (ev x F) (evO lo F) (evO hi F) (evO mx F) (C.ty T) C) (Instr.sliceAt T (a.eval x) (lo.map a.eval) (hi.map a.eval) (mx.map a.eval)) := by
  cases hv : ev x F with
  | none => intro v h; simp [oSlice] at h
  | some u =>
    have hu := hx u hv
    rcases evO_kn hm with h3 | ⟨h3, rfl⟩ | ⟨v3, y3, h3, rfl, g3⟩ <;> rw [h3]
    · intro v h; simp [oSlice] at h
    · rcases evO_kn hl with h1 | ⟨h1, rfl⟩ | ⟨v1, y1, h1, rfl, g1⟩ <;> rw [h1] <;> rcases evO_kn hh with h2 | ⟨h2, rfl⟩ | ⟨v2, y2, h2, rfl, g2⟩ <;> rw [h2] <;> simp only [oSlice, Option.map_none, Option.map_some] <;> first
        | (exact GP.none)
        | (exact oSlice_sound hC (vl := none) (vh := none) hu trivial trivial)
        | (exact oSlice_sound hC (vl := none) hu trivial (okn_some g2))
        | (exact oSlice_sound hC (vh := none) hu (okn_some g1) trivial)
        | (exact oSlice_sound hC hu (okn_some g1) (okn_some g2))
    · intro v h; simp [oSlice] at h
end
end Go.CE
end
section
namespace Go.CE
open Go.RowKit
section
variable {P : Program} {C : Cfg} {U : Nat → Value} {E E' : Env} {H H' : HP} {n n' : Nat} {D D' : DL} {B : Nat → Prop} {W w w' : World} {F : FR} {a : Act} {L : List Nat} {rec : Rec} {r : RS} {x : V} {o : Oper} {K : Act → World → Prop} {Q : Exit → Act → World → Prop} {s : Sem Value}
theorem target_inv {f : Option V} {l : Option (List V)} {g : FuncId} {ls : List V} (h : target f l = .to g ls) {y : Value} {xs : List Value} (hf : ∀ v, f = some v → Den U E v y) (hl : ∀ us, l = some us → DenL U E us xs) :
    ∃ first cap : Array Value, y = .func (.func g) first cap ∧ DenL U E ls ((first ++ xs.toArray) ++ cap).toList := by
  cases f with
  | none => cases h
  | some v =>
    cases l with
    | none => cases h
    | some us =>
      replace hf := hf v rfl
      replace hl := hl us rfl
      simp only [target] at h
      unfold target2 at h
      split at h
      · simp only [TG.to.injEq] at h
        obtain ⟨rfl, rfl⟩ := h
        simp only [Den] at hf
        subst hf
        refine ⟨_, _, rfl, ?_⟩
        simp only [Array.toList_append]
        exact ((DenL.vals _).app hl).app (DenL.vals _)
      · simp only [TG.to.injEq] at h
        obtain ⟨rfl, rfl⟩ := h
        simp only [Den] at hf
        obtain ⟨p, q, h1, h2, rfl⟩ := hf
        refine ⟨_, _, rfl, ?_⟩
        simp only [Array.toList_append]
        exact (h1.app hl).app h2
      · cases h
theorem callT_inv {t : TG} {H' : HP} {n' : Nat} (h : callT t rec C H n = .ok x H' n') : ∃ f l, t = .to f l ∧ callF rec C f l H n = .ok x H' n' := by
  cases t with
  | no => cases h
  | to f l => exact ⟨f, l, rfl, h⟩
theorem invT_inv {f : Option V} {l : Option (List V)} {name : String} {g : FuncId} {ls : List V} (h : invT f l name C = .to g ls) : ∃ T v us, f = some (.i T v) ∧ l = some us ∧ C.me T name = some (g, false) ∧ ls = v :: us := by
  unfold invT at h
  split at h
  · rename_i T v us
    unfold invT2 at h
    split at h
    · rename_i f' hm
      simp only [TG.to.injEq] at h
      obtain ⟨rfl, rfl⟩ := h
      exact ⟨T, _, _, rfl, rfl, by assumption, rfl⟩
    · cases h
  · cases h
theorem call_sound (hme : MeOk P C) (hrec : CallsOk P C U B W rec) {dst : Option Tmp} {c : Callee} {as_ : Array Operand} {tys : Array TypeId} {ty : TypeId} {pos : String} {aft : Array Edge} {g : Option (Nat × Bool)} {cl : CL} (hcl : (∃ f, c = .value f ∧ cl = .v f) ∨ ∃ f name, c = .invoke f name ∧ cl = .i f name)
    (kn : Ops U E F a (Call.operands ⟨c, as_, tys⟩).toList) (h : HR U E H n B W w) (hd : DfOk U E D a.defers) (hs : exCL cl as_.toList rec C F H n = .ok x H' n') {pu : Prop} (hpu : ¬ pu) (hK : Nx U E B W ⟨dst, .call ⟨c, as_, tys⟩, ty, pos, aft, g⟩ a w pu x H' n' D K) :
    Oper.wp P ⟨dst, .call ⟨c, as_, tys⟩, ty, pos, aft, g⟩ a w K Q := by
  have el : ∀ l : List Value, l = as_.toList.map a.eval → as_.map a.eval = l.toArray := fun l hl => by subst hl; apply Array.ext'; simp
  rcases hcl with ⟨f, rfl, rfl⟩ | ⟨f, name, rfl, rfl⟩
  · simp only [exCL] at hs
    obtain ⟨gf, ls, h1, h2⟩ := callT_inv hs
    obtain ⟨first, cap, h3, h4⟩ := target_inv h1 (kn f (by simp [Call.operands])) (evL_kn (l := as_.toList) fun y hy => kn y (by simp [Call.operands]; simp at hy; exact .inr hy))
    refine nx_res (f := gf) (xs := first ++ (as_.toList.map a.eval).toArray ++ cap) ?_ ?_ hd hpu hK
    · simp only [execOp, resolve, h3, Deferred.ofValue, Sem.run_bind, Sem.run_pure, Result.andThen_ok, invoke, el _ rfl]
    · have := hrec.1 gf ls H n x H' n' h2 E w _ h h4
      rwa [Array.toArray_toList] at this
  · simp only [exCL] at hs
    obtain ⟨gf, ls, h1, h2⟩ := callT_inv hs
    obtain ⟨T, v, us, h3, h4, h5, rfl⟩ := invT_inv h1
    have hv := kn f (by simp [Call.operands]) _ h3
    simp only [Den] at hv
    obtain ⟨y, h6, h7⟩ := hv
    have hus := evL_kn (l := as_.toList) (fun y hy => kn y (by simp [Call.operands]; simp at hy; exact .inr hy)) us h4
    refine nx_res (f := gf) (xs := (y :: as_.toList.map a.eval).toArray) ?_ ?_ hd hpu hK
    · simp only [execOp, resolve, h7, Sem.run_bind, Sem.run_pure, Result.andThen_ok, invoke, el _ rfl, callMethod]
      simp [hme T name gf h5, callMethod]
      rw [List.take_of_length_le (by simp)]
    · exact hrec.1 gf (v :: us) H n x H' n' h2 E w _ h (.cons h6 hus)
theorem callT_pan {t : TG} {v : V} {H' : HP} {n' : Nat} (h : callT t rec C H n = .pan v H' n') : ∃ f l, t = .to f l ∧ callF rec C f l H n = .pan v H' n' := by
  cases t with
  | no => cases h
  | to f l => exact ⟨f, l, rfl, h⟩
theorem call_pan (hme : MeOk P C) (hrec : CallsOk P C U B W rec) {dst : Option Tmp} {c : Callee} {as_ : Array Operand} {tys : Array TypeId} {ty : TypeId} {pos : String} {aft : Array Edge} {g : Option (Nat × Bool)} {cl : CL} {v : V} (hcl : (∃ f, c = .value f ∧ cl = .v f) ∨ ∃ f name, c = .invoke f name ∧ cl = .i f name)
    (kn : Ops U E F a (Call.operands ⟨c, as_, tys⟩).toList) (h : HR U E H n B W w) (hs : exCL cl as_.toList rec C F H n = .pan v H' n') (hQ : ∀ E' y w', E.le E' → HR U E' H' n' B W w' → Den U E' v y → Q (.panic [{ v := y, recovered := false }]) a w') :
    Oper.wp P ⟨dst, .call ⟨c, as_, tys⟩, ty, pos, aft, g⟩ a w K Q := by
  have el : ∀ l : List Value, l = as_.toList.map a.eval → as_.map a.eval = l.toArray := fun l hl => by subst hl; apply Array.ext'; simp
  rcases hcl with ⟨f, rfl, rfl⟩ | ⟨f, name, rfl, rfl⟩
  · simp only [exCL] at hs
    obtain ⟨gf, ls, h1, h2⟩ := callT_pan hs
    obtain ⟨first, cap, h3, h4⟩ := target_inv h1 (kn f (by simp [Call.operands])) (evL_kn (l := as_.toList) fun y hy => kn y (by simp [Call.operands]; simp at hy; exact .inr hy))
    refine nx_pan (f := gf) (xs := first ++ (as_.toList.map a.eval).toArray ++ cap) ?_ ?_ hQ
    · simp only [execOp, resolve, h3, Deferred.ofValue, Sem.run_bind, Sem.run_pure, Result.andThen_ok, invoke, el _ rfl]
    · have := hrec.2 gf ls H n v H' n' h2 E w _ h h4
      rwa [Array.toArray_toList] at this
  · simp only [exCL] at hs
    obtain ⟨gf, ls, h1, h2⟩ := callT_pan hs
    obtain ⟨T, v, us, h3, h4, h5, rfl⟩ := invT_inv h1
    have hv := kn f (by simp [Call.operands]) _ h3
    simp only [Den] at hv
    obtain ⟨y, h6, h7⟩ := hv
    have hus := evL_kn (l := as_.toList) (fun y hy => kn y (by simp [Call.operands]; simp at hy; exact .inr hy)) us h4
    refine nx_pan (f := gf) (xs := (y :: as_.toList.map a.eval).toArray) ?_ ?_ hQ
    · simp only [execOp, resolve, h7, Sem.run_bind, Sem.run_pure, Result.andThen_ok, invoke, el _ rfl, callMethod]
      simp [hme T name gf h5, callMethod]
      rw [List.take_of_length_le (by simp)]
    · exact hrec.2 gf (v :: us) H n _ H' n' h2 E w _ h (.cons h6 hus)
theorem store_kn (hC : COk P C U B W) (h : HR U E H n B W w) {T : Nat} {p x : Option V} {vp vx : Value} (hp : Kn U E p vp) (hx : Kn U E x vx) {y : V} (hs : ru (oStore p x (C.ty T) H) n = .ok y H' n') : y = .un ∧ n' = n ∧ ∃ w', (Instr.storeAt T vp vx).run P w = .ok () w' ∧ HR U E H' n B W w' := by
  obtain ⟨h1, rfl, rfl⟩ := ru_inv hs
  exact ⟨rfl, rfl, oStore_sound hC h hp hx h1⟩
theorem load_kn (hC : COk P C U B W) (h : HR U E H n B W w) {T : Nat} {p : Option V} {vp : Value} (hp : Kn U E p vp) : GP P U E w (oLoad p (C.ty T) C H) (Instr.loadAt T vp) := by
  intro v hv
  cases p with
  | none => cases hv
  | some u => exact load_sound hC h (hp u rfl) hv
theorem fa_kn (hC : COk P C U B W) {S f : Nat} {p : Option V} {vp : Value} (hp : Kn U E p vp) : GP P U E w (oFA p (fldO (fieldsOf (C.ty S)) f)) (Instr.fieldAt S vp f) := by
  cases p with
  | none => exact GP.none
  | some u => exact fieldAddr_sound hC (hp u rfl)
theorem fld_kn (hC : COk P C U B W) {S f : Nat} {p : Option V} {vp : Value} (hp : Kn U E p vp) : GP P U E w (oFld p (fldO (fieldsOf (C.ty S)) f)) (Instr.field S vp f) := by
  cases p with
  | none => exact GP.none
  | some u => exact field_sound hC (hp u rfl)
theorem ia_kn (hC : COk P C U B W) {T : Nat} {p i : Option V} {vp vi : Value} (hp : Kn U E p vp) (hi : Kn U E i vi) : GP P U E w (oIA p i (C.ty T) C) (Instr.indexAt T vp vi) := by
  cases p with
  | none => intro v hv; simp [oIA] at hv
  | some u => cases i with
    | none => intro v hv; simp [oIA] at hv
    | some j => exact indexAddr_sound hC (hp u rfl) (hi j rfl)
theorem ix_kn (hC : COk P C U B W) {T : Nat} {p i : Option V} {vp vi : Value} (hp : Kn U E p vp) (hi : Kn U E i vi) : GP P U E w (oIx p i (C.ty T) C) (Instr.index T vp vi) := by
  cases p with
  | none => intro v hv; simp [oIx] at hv
  | some u => cases i with
    | none => intro v hv; simp [oIx] at hv
    | some j => exact index_sound hC (hp u rfl) (hi j rfl)
theorem pick_kn {c p q : Operand} (hc : Kn U E (ev c F) (a.eval c)) (hp : Kn U E (ev p F) (a.eval p)) (hq : Kn U E (ev q F) (a.eval q)) : GP P U E w (pick2 (pickB (ev c F)) p q F) (do pure (if ← asBool (a.eval c) then a.eval p else a.eval q)) := by
  intro v hv
  unfold pickB at hv
  split at hv
  · rename_i b hb
    have := hc _ hb
    simp only [Den] at this
    cases b
    · simp only [pick2] at hv
      refine ⟨a.eval q, ?_, hq v hv⟩
      simp [this, asBool]
    · simp only [pick2] at hv
      refine ⟨a.eval p, ?_, hp v hv⟩
      simp [this, asBool]
  · simp [pick2] at hv
end
end Go.CE
end
section
namespace Go.CE
open Go.RowKit
section
variable {P : Program} {C : Cfg} {U : Nat → Value} {E E' : Env} {H H' : HP} {n n' : Nat} {D D' : DL} {B : Nat → Prop} {W w w' : World} {F : FR} {a : Act} {L : List Nat} {rec : Rec} {r : RS} {x : V} {o : Oper} {K : Act → World → Prop} {Q : Exit → Act → World → Prop} {s : Sem Value}
theorem isU8_inv {i : Option TI} (h : isU8 i = true) : ∃ sz ag z b, i = some ⟨sz, ag, z, b, .int .u8⟩ := by
  unfold isU8 at h
  split at h
  · exact ⟨_, _, _, _, rfl⟩
  · cases h
theorem rdyLen_sound (hC : COk P C U B W) {T ty : TypeId} {y : Operand} {d : Option Tmp} {p : String} {q : V × HP × Nat × DL} (hy : Kn U E (ev y F) (a.eval y)) (h : HR U E H n B W w) (hs : stp1 rec C F H n D (rdyLen (C.ty T) y d p) = some q) :
    ∃ x, q = (x, H, n, D) ∧ GP P U E w (some x) (Builtin.len_ #[T] ty #[a.eval y]) := by
  unfold rdyLen at hs
  split at hs
  · rename_i hT
    rw [stp1_pd] at hs
    obtain ⟨x, h1, rfl⟩ := pd_inv hs
    refine ⟨x, rfl, ?_⟩
    have := oLenM_sound hC h hT (ty := ty) hy
    rw [h1] at this
    exact this
  · rw [stp1_pd] at hs
    obtain ⟨x, h1, rfl⟩ := pd_inv hs
    refine ⟨x, rfl, ?_⟩
    have := oLen_sound hC (T := T) (ty := ty) (w := w) hy
    rw [h1] at this
    exact this
theorem oMx_sound {mx : Bool} {l : Option (List V)} {xs : List Value} {v : V} (hl : ∀ us, l = some us → DenL U E us xs) (h : oMx mx l = some v) : ∃ y ys, xs = y :: ys ∧ ∃ z, (ys.foldlM (if mx then Builtin.max2 else Builtin.min2) y).run P w = .ok z w ∧ Den U E v z := by
  unfold oMx at h
  split at h
  · rename_i u us
    obtain ⟨y, ys, rfl, h1, h2⟩ := (hl _ rfl).cons_inv
    exact ⟨y, ys, rfl, maxL_sound h1 h2 h⟩
  · cases h
theorem rdy_sound (hC : COk P C U B W) (hme : MeOk P C) (hrec : CallsOk P C U B W rec) {dst : Option Tmp} {op : Op} {ty : TypeId} {pos p : String} {aft : Array Edge} {g : Option (Nat × Bool)}
    (kn : Ops U E F a op.operands.toList) (h : HR U E H n B W w) (hd : DfOk U E D a.defers) (hs : stp1 rec C F H n D (rdy op C dst p) = some (x, H', n', D')) (hK : Nx U E B W ⟨dst, op, ty, pos, aft, g⟩ a w (kdOf op C = .p ∨ kdOf op C = .l) x H' n' D' K) :
    Oper.wp P ⟨dst, op, ty, pos, aft, g⟩ a w K Q := by
  have el : ∀ (as_ : Array Operand) (l : List Value), l = as_.toList.map a.eval → as_.map a.eval = l.toArray := fun as_ l hl => by subst hl; apply Array.ext'; simp
  have pr : ∀ {f : Option V} {s : Sem Value}, GP P U E w f s → f.map (fun x => (x, H, n, D)) = some (x, H', n', D') → (execOp a.eval ⟨dst, op, ty, pos, aft, g⟩).run P w = (vS s).run P w → Oper.wp P ⟨dst, op, ty, pos, aft, g⟩ a w K Q := fun {f s} hg hm hop => by
    obtain ⟨y, h1, h2⟩ := pd_inv hm
    simp only [Prod.mk.injEq] at h2
    obtain ⟨rfl, rfl, rfl, rfl⟩ := h2
    subst h1
    exact nx_pure hop hg h hd hK
  have ef : ∀ {f : R} {s : Sem Value}, ¬ (kdOf op C = .p ∨ kdOf op C = .l) → GE P U E B W w f s → rO f D = some (x, H', n', D') → (execOp a.eval ⟨dst, op, ty, pos, aft, g⟩).run P w = (vS s).run P w → Oper.wp P ⟨dst, op, ty, pos, aft, g⟩ a w K Q := fun {f s} hpu hg hm hop => by
    obtain ⟨y, H2, n2, h1, h2⟩ := rO_inv hm
    simp only [Prod.mk.injEq] at h2
    obtain ⟨rfl, rfl, rfl, rfl⟩ := h2
    subst h1
    exact nx_eff hop hg hd hpu hK
  have sk : ∀ {f : Option HP} {s : Sem Unit}, ¬ (kdOf op C = .p ∨ kdOf op C = .l) → (∀ G, f = some G → ∃ w', s.run P w = .ok () w' ∧ HR U E G n B W w') → rO (ru f n) D = some (x, H', n', D') → (execOp a.eval ⟨dst, op, ty, pos, aft, g⟩).run P w = (uS s).run P w → Oper.wp P ⟨dst, op, ty, pos, aft, g⟩ a w K Q := fun {f s} hpu hg hm hop => by
    obtain ⟨y, H2, n2, h1, h2⟩ := rO_inv hm
    simp only [Prod.mk.injEq] at h2
    obtain ⟨rfl, rfl, rfl, rfl⟩ := h2
    obtain ⟨h3, rfl, rfl⟩ := ru_inv h1
    exact nx_skip hop (hg _ h3) hd hpu hK
  have mv : ∀ y : Operand, Kn U E (ev y F) (a.eval y) → (ev y F).map (fun x => (x, H, n, D)) = some (x, H', n', D') → (execOp a.eval ⟨dst, op, ty, pos, aft, g⟩).run P w = .ok (.value (a.eval y)) w → Oper.wp P ⟨dst, op, ty, pos, aft, g⟩ a w K Q := fun y hy hm hop => by
    obtain ⟨z, h1, h2⟩ := pd_inv hm
    simp only [Prod.mk.injEq] at h2
    obtain ⟨rfl, rfl, rfl, rfl⟩ := h2
    exact wp_val hop (hK E _ w a.defers (.refl E) h (hy _ h1) hd fun _ => ⟨rfl, rfl, rfl⟩)
  cases op <;> simp only [rdy] at hs <;> try (cases hs; done)
  case move y => rw [stp1_pd] at hs; exact mv y (kn y (by simp [Op.operands])) hs rfl
  case assign y => rw [stp1_pd] at hs; exact mv y (kn y (by simp [Op.operands])) hs rfl
  case pick c y z =>
    rw [stp1_pd] at hs
    obtain ⟨v, h1, h2⟩ := pd_inv hs
    simp only [Prod.mk.injEq] at h2
    obtain ⟨rfl, rfl, rfl, rfl⟩ := h2
    have := pick_kn (P := P) (w := w) (kn c (by simp [Op.operands])) (kn y (by simp [Op.operands])) (kn z (by simp [Op.operands])) _ h1
    obtain ⟨q, g1, g2⟩ := this
    refine wp_val (y := q) ?_ (hK E _ w a.defers (.refl E) h g2 hd fun _ => ⟨rfl, rfl, rfl⟩)
    simp only [Sem.run_bind] at g1
    simp only [execOp, Sem.run_bind]
    cases hb : (asBool (a.eval c)).run P w with
    | halt e w2 => rw [hb] at g1; cases g1
    | ok b w2 => rw [hb] at g1; simp at g1 ⊢; exact g1
  case alloc T => exact ef (by simp [kdOf]) (alloc_sound hC h) hs rfl
  case box T y => exact ef (by simp [kdOf]) (box_sound hC h (kn y (by simp [Op.operands]))) hs rfl
  case build T ps =>
    rw [stp1_pd] at hs
    have hq := evP_kn (U := U) (E := E) (F := F) (a := a) (l := ps.toList) (by simpa [Op.operands] using kn)
    refine pr (s := Instr.build T ((ps.toList.map fun p => (p.1, a.eval p.2)).toArray)) (fun v hv => build_sound hC hq hv) hs ?_
    have e : ps.map (fun p => (p.1, a.eval p.2)) = ((ps.toList.map fun p => (p.1, a.eval p.2)).toArray) := by apply Array.ext'; simp
    rw [← e]
    rfl
  case buildSlice T len ps =>
    have hq := evP_kn (U := U) (E := E) (F := F) (a := a) (l := ps.toList) (by simpa [Op.operands] using kn)
    refine ef (by simp [kdOf]) (s := Instr.buildSlice T len ((ps.toList.map fun p => (p.1, a.eval p.2)).toArray)) (buildSlice_sound hC h hq) hs ?_
    have e : ps.map (fun p => (p.1, a.eval p.2)) = ((ps.toList.map fun p => (p.1, a.eval p.2)).toArray) := by apply Array.ext'; simp
    rw [← e]
    rfl
  case load T y => rw [stp1_pd] at hs; exact pr (load_kn hC h (kn y (by simp [Op.operands]))) hs rfl
  case store T p y => exact sk (by simp [kdOf]) (fun G hG => oStore_sound hC h (kn p (by simp [Op.operands])) (kn y (by simp [Op.operands])) hG) hs rfl
  case nilCheck y =>
    rw [stp1_pd] at hs
    obtain ⟨v, h1, h2⟩ := pd_inv hs
    simp only [Prod.mk.injEq] at h2
    obtain ⟨rfl, rfl, rfl, rfl⟩ := h2
    obtain ⟨g1, g2⟩ := nilC_sound (kn y (by simp [Op.operands])) h1
    refine wp_val (y := a.eval y) ?_ (hK E _ w a.defers (.refl E) h g1 hd fun _ => ⟨rfl, rfl, rfl⟩)
    rcases g2 with ⟨p, hp⟩ | ⟨T, z, hp⟩ | ⟨f, p, q, hp⟩ <;> simp [execOp, hp]
  case binOp op T y z ty2 =>
    rw [stp1_pd] at hs
    have hy := kn y (by simp [Op.operands])
    have hz := kn z (by simp [Op.operands])
    unfold rdyBin at hs
    split at hs
    · exact pr (oShl_sound hy hz) hs rfl
    · exact pr (oShr_sound hy hz) hs rfl
    · exact pr (oBin_sound hC hy hz) hs rfl
  case unOp op T y => rw [stp1_pd] at hs; exact pr (oUn_sound (kn y (by simp [Op.operands]))) hs rfl
  case convert S T y =>
    have hy := kn y (by simp [Op.operands])
    unfold rdyConv at hs
    split at hs
    · rename_i hS hT
      rw [stp1_pd] at hs
      exact pr (convI_sound (ty_int hC hT) (by obtain ⟨D, h1, _⟩ := ty_inv hC hS; exact ⟨D, h1⟩) hy) hs rfl
    · rename_i hS hT
      rw [stp1_pd] at hs
      exact pr (convS_sound (ty_str hC hT) (ty_str hC hS) hy) hs rfl
    · rename_i h1 h2
      refine ef ?_ (conv_sound hC h hy (S := S) (T := T)) hs rfl
      simp only [kdOf]
      unfold kdConv
      split
      · rename_i hS hT; exact (h1 _ _ _ _ _ _ hS hT).elim
      · rename_i hS hT; exact (h2 _ _ _ _ _ _ _ _ hS hT).elim
      · simp
  case makeInterface T y => rw [stp1_pd] at hs; exact pr (oIfc_sound hC (kn y (by simp [Op.operands]))) hs rfl
  case makeFunc fn p q =>
    rw [stp1_pd] at hs
    have h1 := evL_kn (U := U) (E := E) (F := F) (a := a) (l := p.toList) fun y hy => kn y (by simp only [Op.operands, Array.toList_append, List.mem_append]; exact .inl hy)
    have h2 := evL_kn (U := U) (E := E) (F := F) (a := a) (l := q.toList) fun y hy => kn y (by simp only [Op.operands, Array.toList_append, List.mem_append]; exact .inr hy)
    exact pr (oFn_sound (xs := p.map a.eval) (ys := q.map a.eval) (by simpa using h1) (by simpa using h2)) hs rfl
  case makeMap T q =>
    cases q with
    | none => exact ef (by simp [kdOf]) (makeMap_sound h (.inl rfl)) hs rfl
    | some y =>
      have hy := kn y (by simp [Op.operands])
      simp only at hs
      refine ef (by simp [kdOf]) (s := Instr.makeMap T (some (a.eval y))) (f := oMap (hint (C.ty T) (ev y F)) H n) ?_ hs rfl
      unfold hint
      split
      · rename_i hT hv
        intro v H2 n2 he
        revert he
        rename_i v2
        cases hn : v2.toN with
        | none => intro he; cases he
        | some j =>
          intro he
          obtain ⟨k, rfl⟩ := toN_inv hn
          have := hy _ hv
          exact makeMap_sound h (.inr ⟨_, _, _, _, _, rfl, ty_mp hC hT, this.v_inv⟩) v H2 n2 he
      · exact GE.no
  case makeSlice T l c => exact ef (by simp [kdOf]) (makeSlice_sound hC h (kn l (by simp [Op.operands])) (kn c (by simp [Op.operands]))) hs rfl
  case slice T y lo hi mx =>
    rw [stp1_pd] at hs
    exact pr (oSlice_kn hC (kn y (by simp [Op.operands])) (fun z hz => kn z (by simp [Op.operands, hz])) (fun z hz => kn z (by simp [Op.operands, hz])) (fun z hz => kn z (by simp [Op.operands, hz]))) hs rfl
  case fieldAddr S y f => rw [stp1_pd] at hs; exact pr (fa_kn hC (kn y (by simp [Op.operands]))) hs rfl
  case field S y f => rw [stp1_pd] at hs; exact pr (fld_kn hC (kn y (by simp [Op.operands]))) hs rfl
  case indexAddr T y i => rw [stp1_pd] at hs; exact pr (ia_kn hC (kn y (by simp [Op.operands])) (kn i (by simp [Op.operands]))) hs rfl
  case index T y i => rw [stp1_pd] at hs; exact pr (ix_kn hC (kn y (by simp [Op.operands])) (kn i (by simp [Op.operands]))) hs rfl
  case lookup T y i ok => rw [stp1_pd] at hs; exact pr (fun v hv => lookup_sound hC h (kn y (by simp [Op.operands])) (kn i (by simp [Op.operands])) hv) hs rfl
  case mapUpdate T m k v => exact sk (by simp [kdOf]) (fun G hG => mapUpdate_sound hC h (kn m (by simp [Op.operands])) (kn k (by simp [Op.operands])) (kn v (by simp [Op.operands])) hG) hs rfl
  case insert T m k v => exact sk (by simp [kdOf]) (fun G hG => mapUpdate_sound hC h (kn m (by simp [Op.operands])) (kn k (by simp [Op.operands])) (kn v (by simp [Op.operands])) hG) hs rfl
  case mapEntry T m k => exact ef (by simp [kdOf]) (mapEntry_sound hC h (kn m (by simp [Op.operands])) (kn k (by simp [Op.operands]))) hs rfl
  case entryStore T m k v => exact sk (by simp [kdOf]) (fun G hG => entryStore_sound hC h (kn m (by simp [Op.operands])) (kn k (by simp [Op.operands])) (kn v (by simp [Op.operands])) hG) hs rfl
  case range T y => exact ef (by simp [kdOf]) (range_sound hC h (kn y (by simp [Op.operands]))) hs rfl
  case next y b =>
    cases b with
    | true => simp only [stp1, oNextB, rO] at hs; cases hs
    | false => exact ef (by simp [kdOf]) (next_sound (ty := ty) h (kn y (by simp [Op.operands]))) hs rfl
  case entry y => rw [stp1_pd] at hs; exact pr (entry_sound h (kn y (by simp [Op.operands]))) hs rfl
  case typeAssert y T A ok => rw [stp1_pd] at hs; exact pr (oAs_sound hC (kn y (by simp [Op.operands]))) hs rfl
  case extract y i => rw [stp1_pd] at hs; exact pr (oEx_sound (kn y (by simp [Op.operands]))) hs rfl
  case call c =>
    obtain ⟨c, as_, tys⟩ := c
    simp only [rdyCall2] at hs
    cases c with
    | value f =>
      simp only [rdyCall, stp1] at hs
      obtain ⟨y, H2, n2, h1, h2⟩ := rO_inv hs
      simp only [Prod.mk.injEq] at h2
      obtain ⟨rfl, rfl, rfl, rfl⟩ := h2
      exact call_sound hme hrec (.inl ⟨f, rfl, rfl⟩) (by simpa [Op.operands] using kn) h hd h1 (by simp [kdOf]) hK
    | invoke f name =>
      simp only [rdyCall, stp1] at hs
      obtain ⟨y, H2, n2, h1, h2⟩ := rO_inv hs
      simp only [Prod.mk.injEq] at h2
      obtain ⟨rfl, rfl, rfl, rfl⟩ := h2
      exact call_sound hme hrec (.inr ⟨f, name, rfl, rfl⟩) (by simpa [Op.operands] using kn) h hd h1 (by simp [kdOf]) hK
    | builtin b =>
      have hxs := evL_kn (U := U) (E := E) (F := F) (a := a) (l := as_.toList) fun y hy => kn y (by simpa [Op.operands, Call.operands] using hy)
      have hop : ∀ {s : Sem Value}, (∀ cs, builtin b tys ty cs ((as_.toList.map a.eval).toArray) = vS s) → (execOp a.eval ⟨dst, .call ⟨.builtin b, as_, tys⟩, ty, pos, aft, g⟩).run P w = (vS s).run P w := fun {s} hb => by
        simp only [execOp, resolve, el as_ _ rfl, Sem.run_bind, Sem.run_pure, Result.andThen_ok, invoke, hb]
      simp only [rdyCall] at hs
      unfold rdyBlt at hs
      split at hs
      · rename_i y T h1 h2
        obtain ⟨v, g1, g2⟩ := rdyLen_sound (ty := ty) hC (kn y (by simp [Op.operands, Call.operands, h1])) h hs
        simp only [Prod.mk.injEq] at g1
        obtain ⟨rfl, rfl, rfl, rfl⟩ := g1
        refine nx_pure (s := Builtin.len_ #[T] ty #[a.eval y]) (hop fun cs => ?_) g2 h hd hK
        rw [h1, show tys = #[T] from by apply Array.ext'; simpa using h2]
        rfl
      · rw [stp1_pd] at hs
        obtain ⟨v, h1, h2⟩ := pd_inv hs
        simp only [Prod.mk.injEq] at h2
        obtain ⟨rfl, rfl, rfl, rfl⟩ := h2
        obtain ⟨y, ys, g1, z, g2, g3⟩ := oMx_sound (mx := true) (P := P) (w := w) hxs h1
        refine nx_pure (s := Builtin.max_ tys ty ((as_.toList.map a.eval).toArray)) (hop fun cs => rfl) (fun u hu => ?_) h hd hK
        cases hu
        refine ⟨z, ?_, g3⟩
        rw [g1]
        exact g2
      · rw [stp1_pd] at hs
        obtain ⟨v, h1, h2⟩ := pd_inv hs
        simp only [Prod.mk.injEq] at h2
        obtain ⟨rfl, rfl, rfl, rfl⟩ := h2
        obtain ⟨y, ys, g1, z, g2, g3⟩ := oMx_sound (mx := false) (P := P) (w := w) hxs h1
        refine nx_pure (s := Builtin.min_ tys ty ((as_.toList.map a.eval).toArray)) (hop fun cs => rfl) (fun u hu => ?_) h hd hK
        cases hu
        refine ⟨z, ?_, g3⟩
        rw [g1]
        exact g2
      · obtain ⟨y, H2, n2, h1, h2⟩ := rO_inv hs
        simp only [Prod.mk.injEq] at h2
        obtain ⟨rfl, rfl, rfl, rfl⟩ := h2
        dsimp only at h1
        cases hl : evL as_.toList F with
        | none => rw [hl] at h1; cases h1
        | some us =>
          rw [hl] at h1
          have hd2 := hxs us hl
          simp only [bltO] at h1
          unfold exBuiltin at h1
          split at h1
          · rename_i T Tx u1 u2 ht _ _ _
            obtain ⟨y1, ys, g1, g2, g3⟩ := hd2.cons_inv
            obtain ⟨y2, zs, rfl, g4, g5⟩ := g3.cons_inv
            cases g5.nil_inv
            refine nx_eff (s := Builtin.append_ #[T, Tx] ty #[y1, y2]) (hop fun cs => ?_) (h1 ▸ append_sound hC h g2 g4) hd (by simp [kdOf, kdBlt]) hK
            rw [g1, show tys = #[T, Tx] from by apply Array.ext'; simpa using ht]
            rfl
          · rename_i T tx u1 u2 ht _ _ _
            obtain ⟨y1, ys, g1, g2, g3⟩ := hd2.cons_inv
            obtain ⟨y2, zs, rfl, g4, g5⟩ := g3.cons_inv
            cases g5.nil_inv
            refine nx_eff (s := Builtin.copy_ #[T, tx] ty #[y1, y2]) (hop fun cs => ?_) (by have := copy_sound (T := T) (tx := tx) (ty := ty) hC h g2 g4; unfold exCopy at h1; rwa [h1] at this) hd (by simp [kdOf, kdBlt]) hK
            rw [g1, show tys = #[T, tx] from by apply Array.ext'; simpa using ht]
            rfl
          · cases h1
  case defer c =>
    obtain ⟨c, as_, tys⟩ := c
    cases c with
    | value f =>
      simp only [rdyDf, stp1] at hs
      cases ht : target (ev f F) (evL as_.toList F) with
      | no => rw [ht] at hs; cases hs
      | to gf ls =>
        rw [ht] at hs
        simp only [dO, Option.some.injEq, Prod.mk.injEq] at hs
        obtain ⟨rfl, rfl, rfl, rfl⟩ := hs
        obtain ⟨first, cap, h3, h4⟩ := target_inv ht (kn f (by simp [Op.operands, Call.operands])) (evL_kn (l := as_.toList) fun y hy => kn y (by simp [Op.operands, Call.operands]; simp at hy; exact .inr hy))
        unfold Oper.wp
        simp only [execOp, resolve, h3, Deferred.ofValue, el _ _ rfl, Sem.run_bind, Sem.run_pure, Result.andThen_ok]
        exact hK E undef w _ (.refl E) h (by simp only [V.un, Den]) (.cons h4 hd) (by simp [kdOf])
    | invoke f name => cases hs
    | builtin b => cases hs
end
end Go.CE
end
section
namespace Go.CE
open Go.RowKit
section
variable {P : Program} {C : Cfg} {U : Nat → Value} {E E' : Env} {H H' : HP} {n n' : Nat} {D D' : DL} {B : Nat → Prop} {W w w' : World} {F : FR} {a : Act} {L : List Nat} {rec : Rec} {r : RS} {x : V} {o : Oper} {K : Act → World → Prop} {Q : Exit → Act → World → Prop} {s : Sem Value} {nt i : Nat} {ops : Array Oper}
def gv : Option V → Bool → Option Bool
  | some (.v (.bool true)), true => some true
  | some (.v (.bool false)), false => some true
  | some (.v _), _ => some false
  | _, _ => none
def gS : Option Bool → Option (V × HP × Nat × DL) → HP → Nat → DL → Option (V × HP × Nat × DL)
  | some true, q, _, _, _ => q
  | some false, _, H, n, D => some (.un, H, n, D)
  | none, _, _, _, _ => none
noncomputable def stp (rec : Rec) (C : Cfg) (F : FR) (H : HP) (n : Nat) (D : DL) : CO → Option (V × HP × Nat × DL)
  | .g t b _ o => gS (gv (F.get t) b) (stp1 rec C F H n D o) H n D
  | o => stp1 rec C F H n D o
def gP : Option Bool → Option (V × HP × Nat × DL) → Option (V × HP × Nat × DL)
  | some true, q => q
  | _, _ => none
noncomputable def stpP (rec : Rec) (C : Cfg) (F : FR) (H : HP) (n : Nat) (D : DL) : CO → Option (V × HP × Nat × DL)
  | .g t b _ o => gP (gv (F.get t) b) (stpP1 rec C F H n D o)
  | o => stpP1 rec C F H n D o
noncomputable def putT : Option Tmp → V → FR → FR
  | some t, x, F => F.set t (some x)
  | none, _, F => F
def DstOk (d : Option Tmp) : CO → Prop
  | .p d' _ _ => ∃ t, d = some t ∧ d' = ds t
  | .q _ _ => d = none
  | .e d' _ _ => d' = d
  | .call d' _ _ _ => d' = d
  | .df d' _ _ => d' = d
  | .g _ _ _ _ => False
  | .bad _ => True
  | .pn d' _ _ => d = d'
theorem dst_pd {d : Option Tmp} {f : FR → HP → Option V} {p : String} : DstOk d (pd f p d) := by
  cases d with
  | none => exact rfl
  | some t => exact ⟨t, rfl, rfl⟩
theorem dst_rdy (op : Op) (d : Option Tmp) (p : String) : DstOk d (rdy op C d p) := by
  cases op <;> simp only [rdy] <;> first
    | exact dst_pd
    | exact trivial
    | exact rfl
    | skip
  case convert => unfold rdyConv; split <;> first | exact dst_pd | exact rfl
  case makeMap T q => cases q <;> exact rfl
  case call c =>
    obtain ⟨c, as_, tys⟩ := c
    simp only [rdyCall2]
    cases c with
    | value f => exact rfl
    | invoke f name => exact rfl
    | builtin b =>
      simp only [rdyCall]
      unfold rdyBlt
      split
      · unfold rdyLen; split <;> exact dst_pd
      · exact dst_pd
      · exact dst_pd
      · exact rfl
  case defer c => unfold rdyDf; split <;> first | exact rfl | exact trivial
theorem exCO_1 {d : Option Tmp} {o : CO} (hd : DstOk d o) (rec : Rec) (C : Cfg) (r : RS) (F : FR) (H : HP) (n : Nat) (D : DL) :
    (∃ s, exCO o rec C r F H n D = .no s) ∨ (∃ x H' n' D', stp1 rec C F H n D o = some (x, H', n', D') ∧ exCO o rec C r F H n D = r (putT d x F) H' n' D') ∨ ∃ v H' n' D', stpP1 rec C F H n D o = some (v, H', n', D') ∧ exCO o rec C r F H n D = panK v F H' n' D' (r (putT d .pv F) H' n' D') := by
  cases o with
  | p d' f pos =>
    obtain ⟨t, rfl, rfl⟩ := hd
    show (∃ s, putP (f F H) (ds t) r pos F H n D = .no s) ∨ (∃ x H' n' D', (f F H).map (fun x => (x, H, n, D)) = some (x, H', n', D') ∧ putP (f F H) (ds t) r pos F H n D = _) ∨ _
    cases f F H with
    | none => exact .inl ⟨_, rfl⟩
    | some x => exact .inr (.inl ⟨x, H, n, D, rfl, rfl⟩)
  | q f pos =>
    cases hd
    show (∃ s, putQ (f F H) r pos F H n D = .no s) ∨ (∃ x H' n' D', (f F H).map (fun x => (x, H, n, D)) = some (x, H', n', D') ∧ putQ (f F H) r pos F H n D = _) ∨ _
    cases f F H with
    | none => exact .inl ⟨_, rfl⟩
    | some x => exact .inr (.inl ⟨x, H, n, D, rfl, rfl⟩)
  | e d' f pos =>
    cases hd
    show (∃ s, afterE (f F H n) d r pos F D = .no s) ∨ (∃ x H' n' D', rO (f F H n) D = some (x, H', n', D') ∧ afterE (f F H n) d r pos F D = _) ∨ _
    cases f F H n with
    | no s => exact .inl ⟨_, rfl⟩
    | ok x H' n' => cases d <;> exact .inr (.inl ⟨x, H', n', D, rfl, rfl⟩)
    | pan v H' n' => exact .inl ⟨_, rfl⟩
  | call d' c as_ pos =>
    cases hd
    show (∃ s, after (exCL c as_ rec C F H n) d r pos F D = .no s) ∨ (∃ x H' n' D', rO (exCL c as_ rec C F H n) D = some (x, H', n', D') ∧ after (exCL c as_ rec C F H n) d r pos F D = _) ∨ ∃ v H' n' D', rP (exCL c as_ rec C F H n) D = some (v, H', n', D') ∧ after (exCL c as_ rec C F H n) d r pos F D = _
    cases exCL c as_ rec C F H n with
    | no s => exact .inl ⟨_, rfl⟩
    | ok x H' n' => cases d <;> exact .inr (.inl ⟨x, H', n', D, rfl, rfl⟩)
    | pan v H' n' => cases d <;> exact .inr (.inr ⟨v, H', n', D, rfl, rfl⟩)
  | df d' f as_ =>
    cases hd
    show (∃ s, deferO (target (ev f F) (evL as_ F)) d r F H n D = .no s) ∨ (∃ x H' n' D', dO (target (ev f F) (evL as_ F)) H n D = some (x, H', n', D') ∧ deferO (target (ev f F) (evL as_ F)) d r F H n D = _) ∨ _
    cases target (ev f F) (evL as_ F) with
    | no => exact .inl ⟨["defer"], by cases d <;> rfl⟩
    | to g l => cases d <;> exact .inr (.inl ⟨.un, H, n, _, rfl, rfl⟩)
  | g t b d' o => exact hd.elim
  | bad p => exact .inl ⟨_, rfl⟩
  | pn d' y pos =>
    cases hd
    show (∃ s, after (panO (ev y F) H n) d r pos F D = .no s) ∨ (∃ x H' n' D', none = some (x, H', n', D') ∧ _) ∨ ∃ v H' n' D', rP (panO (ev y F) H n) D = some (v, H', n', D') ∧ after (panO (ev y F) H n) d r pos F D = _
    cases hp : panO (ev y F) H n with
    | no s => exact .inl ⟨_, rfl⟩
    | ok x H' n' => unfold panO at hp; split at hp <;> cases hp
    | pan v H' n' => cases d <;> exact .inr (.inr ⟨v, H', n', D, rfl, rfl⟩)
theorem exG_inv (v : Option V) (b : Bool) (d : Option Tmp) (y r : RS) (F : FR) (H : HP) (n : Nat) (D : DL) :
    (gv v b = some true ∧ exG v b d y r F H n D = y F H n D) ∨ (gv v b = some false ∧ exG v b d y r F H n D = r (putT d .un F) H n D) ∨ exG v b d y r F H n D = .no ["guard"] := by
  unfold exG
  split
  · exact .inl ⟨rfl, rfl⟩
  · exact .inl ⟨rfl, rfl⟩
  · rename_i z b t h1 h2
    refine .inr (.inl ⟨?_, rfl⟩)
    unfold gv
    split <;> rename_i he <;> simp_all
  · rename_i z b h1 h2
    refine .inr (.inl ⟨?_, rfl⟩)
    unfold gv
    split <;> rename_i he <;> simp_all
  · exact .inr (.inr rfl)
theorem rdyO_cases (nt : Nat) (ops : List Oper) (o : Oper) : (∃ p, rdyO C nt ops o = .bad p) ∨ (dstLt o.dst nt = true ∧ ((o.guard = none ∧ rdyO C nt ops o = rdy o.op C o.dst o.pos) ∨ ∃ j b t, o.guard = some (j, b) ∧ dstO ops[j]? = some t ∧ rdyO C nt ops o = .g t b o.dst (rdy o.op C o.dst o.pos))) := by
  obtain ⟨d, op, ty, p, aft, g⟩ := o
  simp only [rdyO]
  cases hd : dstLt d nt with
  | false => exact .inl ⟨p, rfl⟩
  | true =>
    simp only [chkD]
    cases g with
    | none => exact .inr ⟨trivial, .inl ⟨rfl, rfl⟩⟩
    | some q =>
      obtain ⟨j, b⟩ := q
      simp only [rdyG, nth_eq]
      cases hj : dstO ops[j]? with
      | none => exact .inl ⟨p, rfl⟩
      | some t => exact .inr ⟨trivial, .inr ⟨j, b, t, rfl, hj, rfl⟩⟩
theorem stpP_plain (o : Oper) : stpP rec C F H n D (rdy o.op C o.dst o.pos) = stpP1 rec C F H n D (rdy o.op C o.dst o.pos) := by
  have := dst_rdy (C := C) o.op o.dst o.pos
  revert this
  cases rdy o.op C o.dst o.pos with
  | g _ _ _ _ => exact fun h => h.elim
  | _ => exact fun _ => rfl
theorem stp_plain (o : Oper) : stp rec C F H n D (rdy o.op C o.dst o.pos) = stp1 rec C F H n D (rdy o.op C o.dst o.pos) := by
  have := dst_rdy (C := C) o.op o.dst o.pos
  revert this
  cases rdy o.op C o.dst o.pos with
  | g _ _ _ _ => exact fun h => h.elim
  | _ => exact fun _ => rfl
theorem exCO_inv (nt : Nat) (ops : List Oper) (o : Oper) (rec : Rec) (C : Cfg) (r : RS) (F : FR) (H : HP) (n : Nat) (D : DL) :
    (∃ s, exCO (rdyO C nt ops o) rec C r F H n D = .no s) ∨ (∃ x H' n' D', stp rec C F H n D (rdyO C nt ops o) = some (x, H', n', D') ∧ exCO (rdyO C nt ops o) rec C r F H n D = r (putT o.dst x F) H' n' D') ∨
      ∃ v H' n' D', stpP rec C F H n D (rdyO C nt ops o) = some (v, H', n', D') ∧ exCO (rdyO C nt ops o) rec C r F H n D = panK v F H' n' D' (r (putT o.dst .pv F) H' n' D') := by
  have one := exCO_1 (dst_rdy (C := C) o.op o.dst o.pos) rec C r F H n D
  rcases rdyO_cases (C := C) nt ops o with ⟨p, h⟩ | ⟨_, ⟨_, h⟩ | ⟨j, b, t, _, _, h⟩⟩ <;> rw [h]
  · exact .inl ⟨_, rfl⟩
  · rw [stp_plain, stpP_plain]
    exact one
  · show (∃ s, exG (F.get t) b o.dst (exCO (rdy o.op C o.dst o.pos) rec C r) r F H n D = .no s) ∨ (∃ x H' n' D', gS (gv (F.get t) b) (stp1 rec C F H n D (rdy o.op C o.dst o.pos)) H n D = some (x, H', n', D') ∧ exG (F.get t) b o.dst (exCO (rdy o.op C o.dst o.pos) rec C r) r F H n D = _) ∨
      ∃ v H' n' D', gP (gv (F.get t) b) (stpP1 rec C F H n D (rdy o.op C o.dst o.pos)) = some (v, H', n', D') ∧ exG (F.get t) b o.dst (exCO (rdy o.op C o.dst o.pos) rec C r) r F H n D = _
    rcases exG_inv (F.get t) b o.dst (exCO (rdy o.op C o.dst o.pos) rec C r) r F H n D with ⟨h1, h2⟩ | ⟨h1, h2⟩ | h2 <;> rw [h2]
    · rw [h1]; exact one
    · rw [h1]; exact .inr (.inl ⟨.un, H, n, D, rfl, rfl⟩)
    · exact .inl ⟨_, rfl⟩
theorem gTmp_mem {ops : List Oper} {j t : Nat} {b : Bool} (h : dstO ops[j]? = some t) : t ∈ gTmp (some (j, b)) ops := by simp [gTmp, h]
def isB (b : Bool) : Value → Bool
  | .bool c => c == b
  | _ => false
theorem yield_eq {ops : Array Oper} {j t : Nat} (h : dstO ops.toList[j]? = some t) {y : Value} (hy : a.tmps.getD t undef = y) (b : Bool) : (yielded ops a.tmps j == some b) = isB b y := by
  have hd : (ops[j]?).bind (·.dst) = some t := by
    rw [Array.getElem?_toList] at h
    cases hj : ops[j]? with
    | none => rw [hj] at h; cases h
    | some o => rw [hj] at h; exact h
  unfold yielded
  rw [hd]
  simp only [Option.bind_some]
  rw [Array.getD_eq_getD_getElem?] at hy
  cases ht : a.tmps[t]? with
  | none => rw [ht] at hy; subst hy; rfl
  | some z =>
    rw [ht] at hy
    simp only [Option.getD_some] at hy
    subst hy
    cases z <;> rfl
theorem gv_false {v : Option V} {b : Bool} (hgv : gv v b = some false) : ∃ y, v = some (.v y) ∧ isB b y = false := by
  unfold gv at hgv
  split at hgv
  · cases hgv
  · cases hgv
  · rename_i y h1 h2
    refine ⟨y, rfl, ?_⟩
    cases y <;> first | rfl | skip
    rename_i c
    cases c <;> cases b <;> first | rfl | exact (h1 rfl rfl).elim | exact (h2 rfl rfl).elim
  · cases hgv
theorem op_step (hC : COk P C U B W) (hme : MeOk P C) (hrec : CallsOk P C U B W rec) (hi : ops[i]? = some o) (hfit : FitL U E F a (looks ops.toList o)) (h : HR U E H n B W w) (hd : DfOk U E D a.defers)
    (hs : stp rec C F H n D (rdyO C nt ops.toList o) = some (x, H', n', D')) (hK : Nx U E B W o a w (kdOf o.op C = .p ∨ kdOf o.op C = .l) x H' n' D' K) : wpOp P ops Q i K a w := by
  have kn : Ops U E F a o.op.operands.toList := fun y hy => ev_knL hfit y fun t ht => by
    subst ht
    simp only [looks, List.mem_append]
    exact .inl (tmpsO_mem.2 hy)
  unfold wpOp
  rw [hi]
  simp only
  rcases rdyO_cases (C := C) nt ops.toList o with ⟨p, hh⟩ | ⟨_, ⟨hg, hh⟩ | ⟨j, b, t, hg, hj, hh⟩⟩ <;> rw [hh] at hs
  · cases hs
  · have hw : Region.wanted o (yielded ops a.tmps) = true := by simp only [Region.wanted, hg]
    rw [if_pos hw]
    have hst : stp rec C F H n D (rdy o.op C o.dst o.pos) = stp1 rec C F H n D (rdy o.op C o.dst o.pos) := by
      have := dst_rdy (C := C) o.op o.dst o.pos
      revert this
      cases rdy o.op C o.dst o.pos with
      | g _ _ _ _ => exact fun h => h.elim
      | _ => exact fun _ => rfl
    rw [hst] at hs
    exact .inl (rdy_sound hC hme hrec kn h hd hs hK)
  · change gS (gv (F.get t) b) (stp1 rec C F H n D (rdy o.op C o.dst o.pos)) H n D = _ at hs
    have hw : ∀ y, F.get t = some (.v y) → Region.wanted o (yielded ops a.tmps) = isB b y := fun y hy => by
      simp only [Region.wanted, hg]
      refine yield_eq hj ?_ b
      have := hfit t (by simp only [looks, List.mem_append, hg]; exact .inr (gTmp_mem hj)) _ hy
      exact this.v_inv
    cases hgv : gv (F.get t) b with
    | none => rw [hgv] at hs; cases hs
    | some c =>
      rw [hgv] at hs
      cases c with
      | true =>
        have : Region.wanted o (yielded ops a.tmps) = true := by
          unfold gv at hgv
          split at hgv
          · rename_i hy; rw [hw _ hy]; rfl
          · rename_i hy; rw [hw _ hy]; rfl
          · cases hgv
          · cases hgv
        rw [if_pos this]
        exact .inl (rdy_sound hC hme hrec kn h hd hs hK)
      | false =>
        obtain ⟨y, hy, hb⟩ := gv_false hgv
        rw [if_neg (by rw [hw y hy, hb]; exact Bool.false_ne_true)]
        simp only [gS, Option.some.injEq, Prod.mk.injEq] at hs
        obtain ⟨rfl, rfl, rfl, rfl⟩ := hs
        exact hK E undef w a.defers (.refl E) h (by simp only [V.un, Den]) hd fun _ => ⟨rfl, rfl, rfl⟩
theorem rdy_pk {d : Option Tmp} {op : Op} {p : String} {q : V × HP × Nat × DL} (hs : stpP1 rec C F H n D (rdy op C d p) = some q) : (∃ y, op = .panic y ∧ rP (panO (ev y F) H n) D = some q) ∨ ∃ c as_ tys cl, op = .call ⟨c, as_, tys⟩ ∧ ((∃ f, c = .value f ∧ cl = .v f) ∨ ∃ f name, c = .invoke f name ∧ cl = .i f name) ∧ rP (exCL cl as_.toList rec C F H n) D = some q := by
  have pdn : ∀ {f : FR → HP → Option V} {p : String}, stpP1 rec C F H n D (pd f p d) = some q → False := fun {f p} h => by cases d <;> cases h
  cases op <;> simp only [rdy] at hs <;> first
    | exact (pdn hs).elim
    | (cases hs; done)
    | skip
  case convert => unfold rdyConv at hs; split at hs <;> first | exact (pdn hs).elim | (cases hs; done)
  case makeMap T q => cases q <;> cases hs
  case call c =>
    obtain ⟨c, as_, tys⟩ := c
    simp only [rdyCall2] at hs
    cases c with
    | value f => exact .inr ⟨_, _, _, _, rfl, .inl ⟨f, rfl, rfl⟩, hs⟩
    | invoke f name => exact .inr ⟨_, _, _, _, rfl, .inr ⟨f, name, rfl, rfl⟩, hs⟩
    | builtin b =>
      exfalso
      simp only [rdyCall] at hs
      unfold rdyBlt at hs
      split at hs
      · unfold rdyLen at hs; split at hs <;> exact pdn hs
      all_goals first | exact pdn hs | (cases hs; done)
  case defer c => unfold rdyDf at hs; split at hs <;> cases hs
  case panic y => exact .inl ⟨y, rfl, hs⟩
theorem rdy_pan (hme : MeOk P C) (hrec : CallsOk P C U B W rec) {dst : Option Tmp} {op : Op} {ty : TypeId} {pos p : String} {aft : Array Edge} {g : Option (Nat × Bool)} {v : V}
    (kn : Ops U E F a op.operands.toList) (h : HR U E H n B W w) (hs : stpP1 rec C F H n D (rdy op C dst p) = some (v, H', n', D')) (hQ : ∀ E' y w', E.le E' → HR U E' H' n' B W w' → Den U E' v y → Q (.panic [{ v := y, recovered := false }]) a w') :
    Oper.wp P ⟨dst, op, ty, pos, aft, g⟩ a w K Q := by
  rcases rdy_pk hs with ⟨y, rfl, h1⟩ | ⟨c, as_, tys, cl, rfl, hcl, h1⟩
  · obtain ⟨v2, H2, n2, h2, h3⟩ := rP_inv h1
    cases h3
    unfold panO at h2
    split at h2
    · rename_i T u he
      simp only [R.pan.injEq] at h2
      obtain ⟨rfl, rfl, rfl⟩ := h2
      have := kn y (by simp [Op.operands]) _ he
      have hden := this
      simp only [Den] at this
      obtain ⟨z, _, hz⟩ := this
      unfold Oper.wp
      simp only [execOp, hz, Instr.panic, Sem.run_bind, goPanic]
      exact hQ E _ w (.refl E) h (hz ▸ hden)
    · cases h2
  · obtain ⟨v2, H2, n2, h2, h3⟩ := rP_inv h1
    cases h3
    exact call_pan hme hrec hcl kn h h2 hQ
theorem stpP_facts {nt : Nat} {l : List Oper} {v : V} (hs : stpP rec C F H n D (rdyO C nt l o) = some (v, H', n', D')) : D' = D ∧ kdOf o.op C = .s ∧ dstLt o.dst nt = true := by
  have key : ∀ {q}, stpP1 rec C F H n D (rdy o.op C o.dst o.pos) = some q → q.2.2.2 = D ∧ kdOf o.op C = .s := fun {q} h => by
    rcases rdy_pk h with ⟨y, e, h1⟩ | ⟨c, as_, tys, cl, e, hcl, h1⟩
    · obtain ⟨v2, H2, n2, _, rfl⟩ := rP_inv h1
      exact ⟨rfl, by rw [e]; rfl⟩
    · obtain ⟨v2, H2, n2, _, rfl⟩ := rP_inv h1
      refine ⟨rfl, ?_⟩
      rw [e]
      rcases hcl with ⟨f, rfl, _⟩ | ⟨f, name, rfl, _⟩ <;> rfl
  rcases rdyO_cases (C := C) nt l o with ⟨p, hh⟩ | ⟨hdl, ⟨hg, hh⟩ | ⟨j, b, t, hg, hj, hh⟩⟩ <;> rw [hh] at hs
  · cases hs
  · rw [stpP_plain] at hs
    exact ⟨(key hs).1, (key hs).2, hdl⟩
  · change gP (gv (F.get t) b) (stpP1 rec C F H n D (rdy o.op C o.dst o.pos)) = _ at hs
    cases hgv : gv (F.get t) b with
    | none => rw [hgv] at hs; cases hs
    | some c =>
      rw [hgv] at hs
      cases c with
      | false => cases hs
      | true => exact ⟨(key hs).1, (key hs).2, hdl⟩
theorem op_pan (hme : MeOk P C) (hrec : CallsOk P C U B W rec) {v : V} (hi : ops[i]? = some o) (hfit : FitL U E F a (looks ops.toList o)) (h : HR U E H n B W w)
    (hs : stpP rec C F H n D (rdyO C nt ops.toList o) = some (v, H', n', D')) (hQ : ∀ E' y w', E.le E' → HR U E' H' n' B W w' → Den U E' v y → Q (.panic [{ v := y, recovered := false }]) a w') : wpOp P ops Q i K a w := by
  have kn : Ops U E F a o.op.operands.toList := fun y hy => ev_knL hfit y fun t ht => by
    subst ht
    simp only [looks, List.mem_append]
    exact .inl (tmpsO_mem.2 hy)
  unfold wpOp
  rw [hi]
  simp only
  rcases rdyO_cases (C := C) nt ops.toList o with ⟨p, hh⟩ | ⟨hdl, ⟨hg, hh⟩ | ⟨j, b, t, hg, hj, hh⟩⟩ <;> rw [hh] at hs
  · cases hs
  · have hw : Region.wanted o (yielded ops a.tmps) = true := by simp only [Region.wanted, hg]
    rw [if_pos hw]
    rw [stpP_plain] at hs
    exact .inl (rdy_pan hme hrec kn h hs hQ)
  · change gP (gv (F.get t) b) (stpP1 rec C F H n D (rdy o.op C o.dst o.pos)) = _ at hs
    cases hgv : gv (F.get t) b with
    | none => rw [hgv] at hs; cases hs
    | some c =>
      rw [hgv] at hs
      cases c with
      | false => cases hs
      | true =>
        have hw : ∀ y, F.get t = some (.v y) → Region.wanted o (yielded ops a.tmps) = isB b y := fun y hy => by
          simp only [Region.wanted, hg]
          refine yield_eq hj ?_ b
          have := hfit t (by simp only [looks, List.mem_append, hg]; exact .inr (gTmp_mem hj)) _ hy
          exact this.v_inv
        have : Region.wanted o (yielded ops a.tmps) = true := by
          unfold gv at hgv
          split at hgv
          · rename_i hy; rw [hw _ hy]; rfl
          · rename_i hy; rw [hw _ hy]; rfl
          · cases hgv
          · cases hgv
        rw [if_pos this]
        exact .inl (rdy_pan hme hrec kn h hs hQ)
structure SS (U : Nat → Value) (E : Env) (F : FR) (H : HP) (n : Nat) (D : DL) (B : Nat → Prop) (W : World) (nt : Nat) (a : Act) (w : World) : Prop where
  fr : FrSat U E F a
  sz : nt ≤ a.tmps.size
  hr : HR U E H n B W w
  df : DfOk U E D a.defers
def Post (U : Nat → Value) (E : Env) (B : Nat → Prop) (W : World) (nt : Nat) (Q : Exit → Act → World → Prop) : X → Prop
  | .nor F H n D => ∀ E' a w, E.le E' → SS U E' F H n D B W nt a w → Q .normal a w
  | .exit j F H n D => ∀ E' a w, E.le E' → SS U E' F H n D B W nt a w → Q (.exit j) a w
  | .ret F H n D => ∀ E' a w, E.le E' → SS U E' F H n D B W nt a w → Q .ret a w
  | .pan v F H n D => ∀ E' a w y, E.le E' → SS U E' F H n D B W nt a w → Den U E' v y → Q (.panic [{ v := y, recovered := false }]) a w
  | .no _ => False
theorem Post.mono (h : E.le E') {X : X} (hp : Post U E B W nt Q X) : Post U E' B W nt Q X := by
  cases X with
  | no s => exact hp.elim
  | nor F H n D => exact fun E2 a w he => hp E2 a w (h.trans he)
  | exit j F H n D => exact fun E2 a w he => hp E2 a w (h.trans he)
  | ret F H n D => exact fun E2 a w he => hp E2 a w (h.trans he)
  | pan v F H n D => exact fun E2 a w y he => hp E2 a w y (h.trans he)
theorem dst_lt {t : Tmp} {d : Option Tmp} (h : dstLt d nt = true) (ht : d = some t) : t < nt := by subst ht; simpa [dstLt] using h
theorem put_size (a : Act) (d : Option Tmp) (y : Value) : (a.put d y).tmps.size = a.tmps.size := by cases d <;> simp [Act.put]
theorem put_def (a : Act) (d : Option Tmp) (y : Value) : (a.put d y).defers = a.defers := by cases d <;> rfl
theorem fr_put {y : Value} (h : FrSat U E F a) (hx : Den U E x y) {d : Option Tmp} (hd : ∀ t, d = some t → t < a.tmps.size) : FrSat U E (putT d x F) (a.put d y) := by
  cases d with
  | none => exact h
  | some t =>
    intro j v hv
    simp only [Act.put, Array.getD_eq_getD_getElem?, Array.getElem?_setIfInBounds]
    rcases FR.get_set F t j _ v hv with ⟨rfl, h1⟩ | ⟨h1, h2⟩
    · cases h1
      simp [hd j rfl, hx]
    · rw [if_neg (Ne.symm h1)]
      have := h j v h2
      rwa [Array.getD_eq_getD_getElem?] at this
theorem SS.put (h : FrSat U E F a) (hsz : nt ≤ a.tmps.size) (he : E.le E') {ds : List Deferred} {y : Value} (hr : HR U E' H' n' B W w') (hx : Den U E' x y) (hd : DfOk U E' D' ds) {d : Option Tmp} (hdl : dstLt d nt = true) :
    SS U E' (putT d x F) H' n' D' B W nt ({ a with defers := ds }.put d y) w' := by
  refine ⟨fr_put (a := { a with defers := ds }) (h.mono he) hx fun t ht => Nat.lt_of_lt_of_le (dst_lt hdl ht) hsz, ?_, hr, ?_⟩
  · rw [put_size]; exact hsz
  · rw [put_def]; exact hd
theorem stp_dst {q : V × HP × Nat × DL} {l : List Oper} (hs : stp rec C F H n D (rdyO C nt l o) = some q) : dstLt o.dst nt = true := by
  rcases rdyO_cases (C := C) nt l o with ⟨p, hh⟩ | ⟨h, _⟩
  · rw [hh] at hs; cases hs
  · exact h
theorem region_list (hC : COk P C U B W) (hme : MeOk P C) (hrec : CallsOk P C U B W rec) : ∀ (m i : Nat), i + m = ops.size → ∀ (E : Env) (F : FR) (H : HP) (n : Nat) (D : DL) (a : Act) (w : World), SS U E F H n D B W nt a w →
    Post U E B W nt Q (exCOs (rdyL C nt ops.toList (ops.toList.drop i)) rec C F H n D) → wpOps P ops Q (List.range' i m) a w
  | 0, i, hi, E, F, H, n, D, a, w, hss, hp => by
    rw [List.drop_of_length_le (by simp; omega)] at hp
    exact hp E a w (.refl E) hss
  | m + 1, i, hi, E, F, H, n, D, a, w, hss, hp => by
    have hlt : i < ops.toList.length := by simp; omega
    rw [List.drop_eq_getElem_cons hlt] at hp
    rw [List.range'_succ, wpOps_cons]
    change Post U E B W nt Q (exCO (rdyO C nt ops.toList ops.toList[i]) rec C (exCOs (rdyL C nt ops.toList (ops.toList.drop (i + 1))) rec C) F H n D) at hp
    rcases exCO_inv nt ops.toList ops.toList[i] rec C (exCOs (rdyL C nt ops.toList (ops.toList.drop (i + 1))) rec C) F H n D with ⟨s, h1⟩ | ⟨x, H', n', D', h1, h2⟩ | ⟨v, H', n', D', h1, h2⟩
    · rw [h1] at hp; exact hp.elim
    rotate_left
    · rw [h2] at hp
      cases hX : exCOs (rdyL C nt ops.toList (ops.toList.drop (i + 1))) rec C (putT ops.toList[i].dst .pv F) H' n' D' with
      | nor F2 H2 n2 D2 =>
        rw [hX] at hp
        obtain ⟨rfl, _, _⟩ := stpP_facts h1
        refine op_pan hme hrec (o := ops.toList[i]) (by simp at hlt; simp [hlt]) (fun t _ v hv => hss.fr t v hv) hss.hr h1 fun E' y w' he hr hy => ?_
        exact hp E' a w' y he ⟨hss.fr.mono he, hss.sz, hr, hss.df.mono he⟩ hy
      | _ => rw [hX] at hp; exact hp.elim
    · rw [h2] at hp
      refine op_step hC hme hrec (o := ops.toList[i]) (by simp at hlt; simp [hlt]) (fun t _ v hv => hss.fr t v hv) hss.hr hss.df h1 fun E' y w' ds he hr hx hd _ => ?_
      exact region_list hC hme hrec m (i + 1) (by omega) E' _ H' n' D' _ w' (SS.put hss.fr hss.sz he hr hx hd (stp_dst h1)) (hp.mono he)
end
end Go.CE
end
