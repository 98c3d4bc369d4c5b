/-
  LE, the engine, part 5: fields, parts, numbers, texts, slices: operations that turn nothing.
-/
import Derived.Test.YtoglkgbjehbcpaaE4
namespace Go.LE
open Go.RowKit
set_option linter.unusedSimpArgs false
set_option linter.unusedVariables false

section
variable {P : Program} {W : World} {bs : List Nat} {κ : Nat} {E : Nat → Value} {F : Nat → List Nat} {h : Nat → Option Ent} {w : World} {K : Nat → Prop}

/-- a plain operation: its run yields this value and turns nothing -/
theorem good_value {r : R} {s : Sem Value} (hs : HeapSat W bs E F h w) (hu : r.upd = []) (hp : r.pan = none) (hrun : s.run P w = .ok (den E r.val) w) :
    Good P W bs κ E h r ((do pure (.value (← s)) : Sem Next).run P w) := by
  have : (do pure (.value (← s)) : Sem Next).run P w = .ok (.value (den E r.val)) w := by simp [hrun]
  rw [this]
  exact Good.pure hs rfl hu hp

/-! ### fieldAddr, field, extract -/
def semFieldAddr (P : Program) (h : Nat → Option Ent) (S : TypeId) (f : Nat) : List SV → R
  | [.own k o] => match tf P S f, entVs (h k) with
    | some (off, sz, _), some vs => { side := 0 < sz ∧ o < vs.length, val := .own k (o + off), reads := [k] }
    | _, _ => .bad
  | [.v (.pointer (some ⟨b, o, none⟩))] => match tf P S f with
    | some (off, sz, _) => .req (0 < sz) (.v (.pointer (some ⟨b, o + off, none⟩)))
    | none => .bad
  | _ => .bad

theorem tf_parts {S f off sz : Nat} {ag : Bool} (ht : tf P S f = some (off, sz, ag)) : ∃ (fs : Array Field) (d : Field), P.underlying S = some (.struct fs) ∧ fs[f]? = some d ∧ ts P d.type = some sz ∧ ta P d.type = some ag ∧ d.offset = off := by
  unfold tf at ht
  split at ht
  · rename_i fs hu
    obtain ⟨d, hd, ht⟩ := Option.bind_eq_some_iff.1 ht
    obtain ⟨s, hs, ht⟩ := Option.bind_eq_some_iff.1 ht
    obtain ⟨a, ha, ht⟩ := Option.map_eq_some_iff.1 ht
    simp only [Prod.mk.injEq] at ht
    obtain ⟨h1, h2, h3⟩ := ht
    exact ⟨fs, d, hu, hd, h2 ▸ hs, h3 ▸ ha, h1⟩
  · cases ht

theorem run_fieldAt {S f off sz : Nat} {ag : Bool} (ht : tf P S f = some (off, sz, ag)) (hpos : 0 < sz) (b o : Nat) (w : World) :
    (Instr.fieldAt S (.pointer (some ⟨b, o, none⟩)) f).run P w = .ok (.pointer (some ⟨b, o + off, none⟩)) w := by
  obtain ⟨fs, d, hu, hd, hts, hta, ho⟩ := tf_parts ht
  subst ho
  have hne : sz ≠ 0 := by omega
  have hadd : (⟨b, o, none⟩ : Addr).add d.offset = ⟨b, o + d.offset, none⟩ := by unfold Addr.add; split <;> simp_all
  simp [Instr.fieldAt, run_underlying hu, hd, Instr.sureAddr, fieldPlace, run_ts hts, hne, hadd]

theorem fieldAddr_good {S f : Nat} {x : SV} (hs : HeapSat W bs E F h w) (hside : (semFieldAddr P h S f [x]).side) :
    Good P W bs κ E h (semFieldAddr P h S f [x]) ((do pure (.value (← Instr.fieldAt S (den E x) f)) : Sem Next).run P w) := by
  revert hside
  unfold semFieldAddr
  split
  · rename_i k o heq
    simp only [List.cons.injEq, and_true] at heq
    subst heq
    split
    · rename_i off sz ag vs ht hvs
      rintro ⟨hpos, hlt⟩
      obtain ⟨b, hb, _⟩ := ent_cells hs hvs (Nat.zero_lt_of_lt hlt)
      refine good_value hs rfl rfl ?_
      simp only [den, hb, ptrAt, Nat.zero_add]
      exact run_fieldAt ht hpos b o w
    · exact fun hf => hf.elim
  · rename_i b o heq
    simp only [List.cons.injEq, and_true] at heq
    subst heq
    split
    · rename_i off sz ag ht
      intro hpos
      refine good_value hs rfl rfl ?_
      simp only [den]
      exact run_fieldAt ht hpos b o w
    · exact fun hf => hf.elim
  · exact fun hf => hf.elim

def partSV (ag : Bool) (off sz : Nat) (ps : List SV) : R :=
  match ag with
  | true => .req (off + sz ≤ ps.length) (.agg ((ps.drop off).take sz))
  | false => .req (off < ps.length) (ps.getD off (.v undef))

def semField (P : Program) (S : TypeId) (f : Nat) : List SV → R
  | [.agg l] => match tf P S f with
    | some (off, sz, ag) => partSV ag off sz l
    | none => .bad
  | [.v (.agg cs)] => match tf P S f with
    | some (off, sz, ag) => partSV ag off sz (cs.toList.map .v)
    | none => .bad
  | _ => .bad

theorem run_part {T sz : Nat} {ag : Bool} (hts : ts P T = some sz) (hta : ta P T = some ag) (l : List SV) (off : Nat) (w : World) (E : Nat → Value) (hside : (partSV ag off sz l).side) :
    (part T (denL E l).toArray off).run P w = .ok (den E (partSV ag off sz l).val) w := by
  cases ag with
  | true =>
    simp only [partSV, R.req] at hside ⊢
    simp only [part, Sem.run_bind, run_ta hta, Result.andThen_ok, if_true, run_ts hts, Sem.run_pure, den]
    congr 2
    apply Array.ext'
    simp [denL_eq_map, List.map_take, List.map_drop, Array.toList_extract, List.extract_eq_take_drop]
  | false =>
    simp only [partSV, R.req] at hside ⊢
    have hl : off < (denL E l).length := by rw [denL_length]; exact hside
    rw [denL_getD]
    simp [part, run_ta hta, List.getElem?_eq_getElem hl]

theorem partSV_upd (ag : Bool) (off sz : Nat) (l : List SV) : (partSV ag off sz l).upd = [] ∧ (partSV ag off sz l).pan = none := by cases ag <;> exact ⟨rfl, rfl⟩

theorem field_good {S f : Nat} {x : SV} (hs : HeapSat W bs E F h w) (hside : (semField P S f [x]).side) :
    Good P W bs κ E h (semField P S f [x]) ((do pure (.value (← Instr.field S (den E x) f)) : Sem Next).run P w) := by
  revert hside
  unfold semField
  split
  · rename_i l heq
    simp only [List.cons.injEq, and_true] at heq
    subst heq
    split
    · rename_i off sz ag ht
      intro hside
      obtain ⟨fs, d, hu, hd, hts, hta, ho⟩ := tf_parts ht
      refine good_value hs (partSV_upd _ _ _ _).1 (partSV_upd _ _ _ _).2 ?_
      simp only [Instr.field, Sem.run_bind, run_underlying hu, Result.andThen_ok, hd, asAgg, den, Sem.run_pure, ho]
      exact run_part hts hta l off w E hside
    · exact fun hf => hf.elim
  · rename_i cs heq
    simp only [List.cons.injEq, and_true] at heq
    subst heq
    split
    · rename_i off sz ag ht
      intro hside
      obtain ⟨fs, d, hu, hd, hts, hta, ho⟩ := tf_parts ht
      refine good_value hs (partSV_upd _ _ _ _).1 (partSV_upd _ _ _ _).2 ?_
      have hr := run_part hts hta (cs.toList.map .v) off w E hside
      rw [denL_map_v] at hr
      simp only [Instr.field, Sem.run_bind, run_underlying hu, Result.andThen_ok, hd, asAgg, den, Sem.run_pure, ho]
      simpa using hr
    · exact fun hf => hf.elim
  · exact fun hf => hf.elim

def semExtract (i : Nat) : List SV → R
  | [.tup l] => .req (i < l.length) (l.getD i (.v undef))
  | [.v (.tuple vs)] => .req (i < vs.size) (.v (vs.getD i undef))
  | _ => .bad
theorem extract_good {i : Nat} {x : SV} (hs : HeapSat W bs E F h w) (hside : (semExtract i [x]).side) :
    Good P W bs κ E h (semExtract i [x]) ((do pure (.value (← Instr.extract (den E x) i)) : Sem Next).run P w) := by
  revert hside
  unfold semExtract
  split
  · rename_i l heq
    simp only [List.cons.injEq, and_true] at heq
    subst heq
    intro hside
    refine good_value hs rfl rfl ?_
    have hl : i < (denL E l).length := by rw [denL_length]; exact hside
    simp only [R.req]
    rw [denL_getD]
    simp [Instr.extract, den, List.getElem?_eq_getElem hl]
  · rename_i vs heq
    simp only [List.cons.injEq, and_true] at heq
    subst heq
    intro hside
    refine good_value hs rfl rfl ?_
    have hl : i < vs.size := hside
    simp [Instr.extract, den, hl, R.req]
  · exact fun hf => hf.elim

/-! ### numbers, booleans, texts -/
def bitsV (op : BinOp) (k : IntKind) (a b : Int) : Int :=
  let x := BitVec.ofInt k.bits a
  let y := BitVec.ofInt k.bits b
  k.wrap ((match op with | .and => x &&& y | .or => x ||| y | .xor => x ^^^ y | _ => x &&& ~~~y).toNat : Int)

def binI (op : BinOp) (k : IntKind) (a b : Int) : Prop × Value :=
  match op with
  | .add => (True, .int k (k.wrap (a + b)))
  | .sub => (True, .int k (k.wrap (a - b)))
  | .mul => (True, .int k (k.wrap (a * b)))
  | .quo => (b ≠ 0, .int k (k.wrap (a.tdiv b)))
  | .rem => (b ≠ 0, .int k (a.tmod b))
  | .and => (True, .int k (bitsV .and k a b))
  | .or => (True, .int k (bitsV .or k a b))
  | .xor => (True, .int k (bitsV .xor k a b))
  | .andNot => (True, .int k (bitsV .andNot k a b))
  | .eql => (True, .bool (decide (a = b)))
  | .neq => (True, .bool (!decide (a = b)))
  | .lss => (True, .bool (decide (a < b)))
  | .leq => (True, .bool (decide (a ≤ b)))
  | .gtr => (True, .bool (decide (b < a)))
  | .geq => (True, .bool (decide (b ≤ a)))
  | .shl => (False, undef)
  | .shr => (False, undef)

def shiftI (op : BinOp) (k : IntKind) (a b : Int) : Prop × Value :=
  match op with
  | .shl => (0 ≤ b, .int k (k.wrap (a * 2 ^ (min b.toNat k.bits))))
  | _ => (0 ≤ b, .int k (a.fdiv (2 ^ (min b.toNat k.bits))))

def binS (op : BinOp) (a b : ByteArray) : Prop × Value :=
  match op with
  | .add => (a.size + b.size ≤ 9223372036854775807, .string (a ++ b))
  | .eql => (True, .bool (decide (a = b)))
  | .neq => (True, .bool (!decide (a = b)))
  | .lss => (True, .bool (Op.bytesLess a.toList b.toList))
  | .leq => (True, .bool (Op.bytesLess a.toList b.toList || decide (a = b)))
  | .gtr => (True, .bool (!(Op.bytesLess a.toList b.toList || decide (a = b))))
  | .geq => (True, .bool (!Op.bytesLess a.toList b.toList))
  | _ => (False, undef)

/-- What a seat knows of '==' between structs and arrays of one type: the cells on both sides, and what comes out. -/
structure EqSpec (P : Program) (T : TypeId) where
  f : List Value → List Value → Option Bool
  ok : ∀ xs ys b (w : World), f xs ys = some b → (eqGuard .eql T (.tmp 0) (.tmp 0) (.agg xs.toArray) (.agg ys.toArray)).run P w = .ok () w ∧ (Op.equal T (.agg xs.toArray) (.agg ys.toArray)).run P w = .ok b w

def valsOf : SV → Option (List Value)
  | .v (.agg cs) => some cs.toList
  | .agg l => l.mapM fun | .v x => some x | _ => none
  | _ => none

def semBin (P : Program) (eqs : (T : TypeId) → Option (EqSpec P T)) (op : BinOp) (T : TypeId) : List SV → R
  | [.v (.int k a), .v (.int k' b)] =>
    match op with
    | .shl => .req (shiftI .shl k a b).1 (.v (shiftI .shl k a b).2)
    | .shr => .req (shiftI .shr k a b).1 (.v (shiftI .shr k a b).2)
    | op => .req (k = k' ∧ (binI op k a b).1) (.v (binI op k a b).2)
  | [.v (.string a), .v (.string b)] => .req (binS op a b).1 (.v (binS op a b).2)
  | [.v (.bool a), .v (.bool b)] =>
    match op with
    | .eql => .req (P.underlying T = some .bool) (.v (.bool (a == b)))
    | .neq => .req (P.underlying T = some .bool) (.v (.bool (!(a == b))))
    | _ => .bad
  | [x, y] =>
    match op, valsOf x, valsOf y, eqs T with
    | .eql, some xs, some ys, some e => .req ((e.f xs ys).isSome = true) (.v (.bool ((e.f xs ys).getD false)))
    | .neq, some xs, some ys, some e => .req ((e.f xs ys).isSome = true) (.v (.bool (!(e.f xs ys).getD false)))
    | _, _, _, _ => .bad
  | _ => .bad

theorem bytes_eq (a b : ByteArray) : (a.toList == b.toList) = decide (a = b) := by
  rw [Bool.eq_iff_iff]
  simp only [beq_iff_eq, decide_eq_true_eq]
  constructor
  · intro hh
    have : ∀ x : ByteArray, x.toList = x.data.toList := fun x => by exact ByteArray.toList_eq x
    rw [this, this] at hh
    cases a; cases b
    simpa using hh
  · intro hh; rw [hh]

theorem run_binI (op : BinOp) (T : TypeId) (k : IntKind) (a b : Int) (w : World) (h1 : op ≠ .shl) (h2 : op ≠ .shr) (hside : (binI op k a b).1) :
    (binOp op T (.int k a) (.int k b)).run P w = .ok (binI op k a b).2 w := by
  cases op <;> first
    | exact absurd rfl h1
    | exact absurd rfl h2
    | (simp [binOp, binI, Op.intArith]; done)
    | (simp [binOp, binI, Op.intBits, bitsV]; done)
    | (simp only [binI] at hside; simp [binOp, binI, Op.intDiv, hside]; done)
    | (simp only [binOp, binI, Op.intCmp, ne_eq, not_true_eq_false, if_false]; first | rfl | (simp; done) | (simp only [Sem.run_pure, ite_false]; congr 2; rw [Bool.eq_iff_iff]; simp))

theorem eqGuard_int (op : BinOp) (T : TypeId) (x y : Operand) (k : IntKind) (a : Int) (b : Value) (w : World) : (eqGuard op T x y (.int k a) b).run P w = .ok () w := by
  unfold eqGuard; cases op <;> simp
theorem eqGuard_string (op : BinOp) (T : TypeId) (x y : Operand) (a : ByteArray) (b : Value) (w : World) : (eqGuard op T x y (.string a) b).run P w = .ok () w := by
  unfold eqGuard; cases op <;> simp
theorem eqGuard_bool (op : BinOp) (T : TypeId) (x y : Operand) (a : Bool) (b : Value) (w : World) : (eqGuard op T x y (.bool a) b).run P w = .ok () w := by
  unfold eqGuard; cases op <;> simp

theorem run_binS (op : BinOp) (T : TypeId) (a b : ByteArray) (w : World) (hside : (binS op a b).1) :
    (binOp op T (.string a) (.string b)).run P w = .ok (binS op a b).2 w := by
  have he := bytes_eq a b
  cases op <;> first
    | (simp [binOp, binS, Op.stringOp, he]; done)
    | exact (id hside : False).elim
    | exact run_string_add_sum _ a b hside

theorem eqGuard_agg (op : BinOp) (T : TypeId) (x y x' y' : Operand) (a b : Value) (w : World) (h : (eqGuard .eql T x y a b).run P w = .ok () w) (ha : ∃ cs, a = .agg cs) : (eqGuard op T x' y' a b).run P w = .ok () w := by
  obtain ⟨cs, rfl⟩ := ha
  cases b <;> cases op <;> first | (simp [eqGuard]; done) | (simpa [eqGuard] using h)

theorem valsOf_den (E : Nat → Value) {x : SV} {xs : List Value} (hx : valsOf x = some xs) : den E x = .agg xs.toArray := by
  unfold valsOf at hx
  split at hx
  · simp only [Option.some.injEq] at hx; subst hx; simp [den]
  · rename_i l
    simp only [den]
    congr 2
    induction l generalizing xs with
    | nil => simp at hx; subst hx; rfl
    | cons y r ih =>
      rw [List.mapM_cons] at hx
      obtain ⟨a, ha, hx⟩ := Option.bind_eq_some_iff.1 hx
      obtain ⟨l', hl', hx⟩ := Option.bind_eq_some_iff.1 hx
      simp at hx; subst hx
      split at ha
      · simp at ha; subst ha; simp [denL, den, ih hl']
      · cases ha
  · cases hx

theorem bin_good {eqs : (T : TypeId) → Option (EqSpec P T)} {op : BinOp} {T : TypeId} {o1 o2 : Operand} {x y : SV} (hs : HeapSat W bs E F h w) (hside : (semBin P eqs op T [x, y]).side) :
    Good P W bs κ E h (semBin P eqs op T [x, y]) ((do pure (.value (← (do eqGuard op T o1 o2 (den E x) (den E y); binOp op T (den E x) (den E y)))) : Sem Next).run P w) := by
  revert hside
  unfold semBin
  split
  · rename_i k a k' b heq
    simp only [List.cons.injEq, and_true] at heq
    obtain ⟨rfl, rfl⟩ := heq
    split
    · intro hside
      refine good_value hs rfl rfl ?_
      have h0 : ¬ b < 0 := by simp only [R.req, shiftI] at hside; omega
      simp only [R.req, den, Sem.run_bind, eqGuard_int, eqGuard_string, eqGuard_bool, Result.andThen_ok]
      simp [binOp, Op.shift, h0, shiftI]
    · intro hside
      refine good_value hs rfl rfl ?_
      have h0 : ¬ b < 0 := by simp only [R.req, shiftI] at hside; omega
      simp only [R.req, den, Sem.run_bind, eqGuard_int, eqGuard_string, eqGuard_bool, Result.andThen_ok]
      simp [binOp, Op.shift, h0, shiftI]
    · rename_i h1 h2
      rintro ⟨rfl, hside⟩
      refine good_value hs rfl rfl ?_
      simp only [R.req, den, Sem.run_bind, eqGuard_int, eqGuard_string, eqGuard_bool, Result.andThen_ok]
      exact run_binI op T k a b w (by intro e; exact h1 e) (by intro e; exact h2 e) hside
  · rename_i a b heq
    simp only [List.cons.injEq, and_true] at heq
    obtain ⟨rfl, rfl⟩ := heq
    intro hside
    refine good_value hs rfl rfl ?_
    simp only [R.req, den, Sem.run_bind, eqGuard_int, eqGuard_string, eqGuard_bool, Result.andThen_ok]
    exact run_binS op T a b w hside
  · rename_i a b heq
    simp only [List.cons.injEq, and_true] at heq
    obtain ⟨rfl, rfl⟩ := heq
    split
    · intro hside
      refine good_value hs rfl rfl ?_
      simp only [R.req, den, Sem.run_bind, eqGuard_int, eqGuard_string, eqGuard_bool, Result.andThen_ok]
      exact run_eql_bool w T a b hside
    · intro hside
      refine good_value hs rfl rfl ?_
      simp only [R.req, den, Sem.run_bind, eqGuard_int, eqGuard_string, eqGuard_bool, Result.andThen_ok]
      exact run_neq_bool w T a b hside
    · exact fun hf => hf.elim
  · rename_i x' y' _ _ _ heq
    simp only [List.cons.injEq, and_true] at heq
    obtain ⟨rfl, rfl⟩ := heq
    split
    · rename_i xs ys e hx hy he
      intro hside
      obtain ⟨b, hb⟩ := Option.isSome_iff_exists.1 hside
      obtain ⟨h1, h2⟩ := e.ok xs ys b w hb
      refine good_value hs rfl rfl ?_
      rw [valsOf_den E hx, valsOf_den E hy]
      simp only [R.req, den, Sem.run_bind, eqGuard_agg .eql T _ _ o1 o2 _ _ w h1 ⟨_, rfl⟩, Result.andThen_ok, binOp, h2, hb]
      rfl
    · rename_i xs ys e hx hy he
      intro hside
      obtain ⟨b, hb⟩ := Option.isSome_iff_exists.1 hside
      obtain ⟨h1, h2⟩ := e.ok xs ys b w hb
      refine good_value hs rfl rfl ?_
      rw [valsOf_den E hx, valsOf_den E hy]
      simp only [R.req, den, Sem.run_bind, eqGuard_agg .neq T _ _ o1 o2 _ _ w h1 ⟨_, rfl⟩, Result.andThen_ok, binOp, h2, hb]
      rfl
    · exact fun hf => hf.elim
  · exact fun hf => hf.elim

def semUn (op : UnOp) : List SV → R
  | [.v (.bool b)] => match op with | .not => .ok (.v (.bool (!b))) | _ => .bad
  | [.v (.int k n)] => match op with
    | .neg => .ok (.v (.int k (k.wrap (0 - n))))
    | .xor => .ok (.v (.int k (bitsV .xor k (if k.signed then -1 else k.max) n)))
    | _ => .bad
  | _ => .bad
theorem un_good {op : UnOp} {x : SV} (hs : HeapSat W bs E F h w) (hside : (semUn op [x]).side) :
    Good P W bs κ E h (semUn op [x]) ((do pure (.value (← Op.unary op (den E x))) : Sem Next).run P w) := by
  revert hside
  unfold semUn
  split
  · rename_i b heq
    simp only [List.cons.injEq, and_true] at heq
    subst heq
    split
    · intro _; exact good_value hs rfl rfl (by simp [R.ok, den, Op.unary])
    · exact fun hf => hf.elim
  · rename_i k n heq
    simp only [List.cons.injEq, and_true] at heq
    subst heq
    split
    · intro _; exact good_value hs rfl rfl (by simp [R.ok, den, Op.unary, Op.intArith])
    · intro _; exact good_value hs rfl rfl (by simp [R.ok, den, Op.unary, Op.intBits, bitsV])
    · exact fun hf => hf.elim
  · exact fun hf => hf.elim
end
end Go.LE
