/-
  Edits as data, their cells in memory, and what (Edit).end gives.
-/
import Derived.Test.YtoglkgbjehbcpaaTypes
import Derived.Test.YtoglkgbjehbcpaaE25
namespace Go.Proofs.Ytoglkgbjehbcpaa
open Go.RowKit Go.LE
set_option linter.unusedSimpArgs false
set_option linter.unusedVariables false

def Γ : Env Try.prog := ⟨fun _ => none, fun _ => none, fun _ _ => none⟩

theorem wrapN (n : Nat) (h : n ≤ 9223372036854775806) : IntKind.i64.wrap ((n : Int) + 1) = ((n + 1 : Nat) : Int) := by
  rw [wrap64_id (by omega) (by omega)]; rfl

/-- An edit as data. -/
structure Ed where
  at_ : Int
  del : Int
  put : ByteArray
deriving DecidableEq
def Ed.cells (e : Ed) : List Value := [.int .i64 e.at_, .int .i64 e.del, .string e.put]

theorem Ed.cells_length (e : Ed) : e.cells.length = 3 := rfl
theorem cells_len (l : List Ed) : (l.flatMap Ed.cells).length = l.length * 3 := by
  induction l with
  | nil => rfl
  | cons e r ih => simp only [List.flatMap_cons, List.length_append, ih, Ed.cells_length, List.length_cons]; omega
theorem cells_get : ∀ (l : List Ed) (k j : Nat) (hk : k < l.length) (hj : j < 3), (l.flatMap Ed.cells)[k * 3 + j]? = some (l[k].cells[j]'(by rw [Ed.cells_length]; exact hj))
  | e :: r, 0, j, _, hj => by
    rw [List.flatMap_cons, List.getElem?_append_left (by rw [Ed.cells_length]; omega), List.getElem?_eq_getElem (by rw [Ed.cells_length]; omega)]
    simp
  | e :: r, k + 1, j, hk, hj => by
    rw [List.flatMap_cons, List.getElem?_append_right (by rw [Ed.cells_length]; omega), Ed.cells_length, show (k + 1) * 3 + j - 3 = k * 3 + j by omega]
    have := cells_get r k j (by simpa using hk) hj
    simpa using this
/-- the three cells of the k-th -/
theorem SlIs.ed {w : World} {ao : Option Addr} {l : List Ed} (h : SlIs w ao (l.flatMap Ed.cells)) {k : Nat} (hk : k < l.length) : ∃ b o, ao = some ⟨b, o, none⟩ ∧
    w.cell? ⟨b, o + k * 3, none⟩ = some (.int .i64 l[k].at_) ∧ w.cell? ⟨b, o + k * 3 + 1, none⟩ = some (.int .i64 l[k].del) ∧ w.cell? ⟨b, o + k * 3 + 2, none⟩ = some (.string l[k].put) := by
  have hl := cells_len l
  rcases h with h | ⟨b, o, rfl, hc⟩
  · rw [h] at hl; simp at hl; omega
  · refine ⟨b, o, rfl, ?_, ?_, ?_⟩
    · have := hc (k * 3 + 0) (by omega)
      rw [List.getElem_eq_getElem?_get, Option.some_get, cells_get l k 0 hk (by omega)] at this
      exact this
    · have := hc (k * 3 + 1) (by omega)
      rw [List.getElem_eq_getElem?_get, Option.some_get, cells_get l k 1 hk (by omega)] at this
      exact this
    · have := hc (k * 3 + 2) (by omega)
      rw [List.getElem_eq_getElem?_get, Option.some_get, cells_get l k 2 hk (by omega)] at this
      exact this

def decE : List Value → List Ed
  | .int _ a :: .int _ d :: .string p :: r => ⟨a, d, p⟩ :: decE r
  | _ => []
theorem decE_cells : ∀ l : List Ed, decE (l.flatMap Ed.cells) = l
  | [] => rfl
  | e :: r => by
    rw [List.flatMap_cons]
    show decE (.int .i64 e.at_ :: .int .i64 e.del :: .string e.put :: r.flatMap Ed.cells) = _
    rw [decE, decE_cells r]

/-- a fault as a value -/
def faultV (c : Int × Int) : Value := .agg #[.int .i64 c.1, .int .i64 c.2, .string ⟨#[]⟩]

theorem end_any (x y : Int) (s : ByteArray) (w : World) : Calls Try.prog 20 #[.agg #[.int .i64 x, .int .i64 y, .string s]] w fun e w' => e = .returned (.int .i64 (IntKind.i64.wrap (x + y))) ∧ Keeps w [] w' := by
  refine calls_pure (nt := 8) [.tmp 2] Try.func20 rfl rfl rfl ?_
  refine Wp.sreg Γ hmix (by simp only [if_true, if_false, List.toList_toArray, Option.isNone_none, Option.isNone_some, Option.isSome_none, Option.isSome_some, and_true, true_and, and_self, true_imp_iff, forall_const, List.append_nil, List.nil_append, List.cons_append, cond_true, cond_false, List.map_cons, List.map_nil, Bool.true_and, Bool.and_true, beq_false, beq_true, imp_self, implies_true, Bool.cond_self, Option.bind_some, List.getElem?_toArray, List.getElem?_cons_zero, List.getElem?_cons_succ, List.length_cons, List.length_nil, List.getD_cons_zero, List.getD_cons_succ, List.take_succ_cons, List.take_zero, List.drop_succ_cons, List.drop_zero, List.zip_cons_cons, List.zip_nil_right, Option.getD_some, List.all_cons, List.all_nil, Bool.cond_true_left, Bool.cond_false_right, Bool.cond_true_right, Bool.cond_false_left, ev1, ev2, ev3, ev4, ev5, ev6, tyF0, tyF1, tyF2, tyF3, tyF4, tyF5, tyF6, tyF7, tyF8, tyF9, Op.operands, Value.cells, semBuild_eq, σ0, Option.map_some, List.not_mem_nil, Int.toNat_natCast, Option.toArray_none, Option.toArray_some, List.append_toArray, Nat.reduceEqDiff, Nat.reduceAdd, Nat.reduceMul, Nat.reduceLT, Nat.reduceLeDiff, Nat.add_zero, Nat.zero_add, Nat.reduceBEq, decide_true, decide_false, Bool.not_true, Bool.not_false, List.flatten_cons, List.flatten_nil, List.replicate_succ, List.replicate_zero, List.append_nil, setRange, List.toList_toArray, List.isEmpty_nil, ne_eq, not_true_eq_false, not_false_eq_true]; exact rfl) rfl ?_ ?_
  · trivial
  refine Wp.sreg Γ hmix (by simp only [if_true, if_false, List.toList_toArray, Option.isNone_none, Option.isNone_some, Option.isSome_none, Option.isSome_some, and_true, true_and, and_self, true_imp_iff, forall_const, List.append_nil, List.nil_append, List.cons_append, cond_true, cond_false, List.map_cons, List.map_nil, Bool.true_and, Bool.and_true, beq_false, beq_true, imp_self, implies_true, Bool.cond_self, Option.bind_some, List.getElem?_toArray, List.getElem?_cons_zero, List.getElem?_cons_succ, List.length_cons, List.length_nil, List.getD_cons_zero, List.getD_cons_succ, List.take_succ_cons, List.take_zero, List.drop_succ_cons, List.drop_zero, List.zip_cons_cons, List.zip_nil_right, Option.getD_some, List.all_cons, List.all_nil, Bool.cond_true_left, Bool.cond_false_right, Bool.cond_true_right, Bool.cond_false_left, ev1, ev2, ev3, ev4, ev5, ev6, tyF0, tyF1, tyF2, tyF3, tyF4, tyF5, tyF6, tyF7, tyF8, tyF9, Op.operands, Value.cells, semBuild_eq, σ0, Option.map_some, List.not_mem_nil, Int.toNat_natCast, Option.toArray_none, Option.toArray_some, List.append_toArray, Nat.reduceEqDiff, Nat.reduceAdd, Nat.reduceMul, Nat.reduceLT, Nat.reduceLeDiff, Nat.add_zero, Nat.zero_add, Nat.reduceBEq, decide_true, decide_false, Bool.not_true, Bool.not_false, List.flatten_cons, List.flatten_nil, List.replicate_succ, List.replicate_zero, List.append_nil, setRange, List.toList_toArray, List.isEmpty_nil, ne_eq, not_true_eq_false, not_false_eq_true]; exact rfl) rfl ?_ ?_
  · trivial
  refine Wp.ret ?_
  simp only [if_true, if_false, List.toList_toArray, Option.isNone_none, Option.isNone_some, Option.isSome_none, Option.isSome_some, and_true, true_and, and_self, true_imp_iff, forall_const, List.append_nil, List.nil_append, List.cons_append, cond_true, cond_false, List.map_cons, List.map_nil, Bool.true_and, Bool.and_true, beq_false, beq_true, imp_self, implies_true, Bool.cond_self, Option.bind_some, List.getElem?_toArray, List.getElem?_cons_zero, List.getElem?_cons_succ, List.length_cons, List.length_nil, List.getD_cons_zero, List.getD_cons_succ, List.take_succ_cons, List.take_zero, List.drop_succ_cons, List.drop_zero, List.zip_cons_cons, List.zip_nil_right, Option.getD_some, List.all_cons, List.all_nil, Bool.cond_true_left, Bool.cond_false_right, Bool.cond_true_right, Bool.cond_false_left, ev1, ev2, ev3, ev4, ev5, ev6, tyF0, tyF1, tyF2, tyF3, tyF4, tyF5, tyF6, tyF7, tyF8, tyF9, Op.operands, Value.cells, semBuild_eq, σ0, Option.map_some, List.not_mem_nil, Int.toNat_natCast, Option.toArray_none, Option.toArray_some, List.append_toArray, Nat.reduceEqDiff, Nat.reduceAdd, Nat.reduceMul, Nat.reduceLT, Nat.reduceLeDiff, Nat.add_zero, Nat.zero_add, Nat.reduceBEq, decide_true, decide_false, Bool.not_true, Bool.not_false, List.flatten_cons, List.flatten_nil, List.replicate_succ, List.replicate_zero, List.append_nil, setRange, List.toList_toArray, List.isEmpty_nil, ne_eq, not_true_eq_false, not_false_eq_true, Fin_ret]
  exact fun E => rfl

def endC : PureC Try.prog 20 where
  pre := fun _ _ => fun | [.val (.agg ⟨[.int .i64 _, .int .i64 _, .string _]⟩)] => True | _ => False
  res := fun _ => fun | [.val (.agg ⟨[.int .i64 x, .int .i64 y, .string _]⟩)] => .int .i64 (IntKind.i64.wrap (x + y)) | _ => undef
  enters := Try.call20
  ok := by
    intro W w bs us as_ hk hu hp
    split at hp
    · rename_i x y s
      match us, hu with
      | [u], hu =>
        obtain ⟨rfl, _⟩ := hu
        exact end_any x y s w
    · exact hp.elim
theorem endC_pre (W : World) (bs : List Nat) (x y : Int) (s : ByteArray) : endC.pre W bs [.val (.agg #[.int .i64 x, .int .i64 y, .string s])] = True := rfl
theorem endC_res (W : World) (x y : Int) (s : ByteArray) : endC.res W [.val (.agg #[.int .i64 x, .int .i64 y, .string s])] = .int .i64 (IntKind.i64.wrap (x + y)) := rfl

def Γ1 : Env Try.prog := ⟨fun | 20 => some endC.spec | _ => none, fun _ => none, fun _ _ => none⟩
theorem Gt1c20 : Γ1.sp 20 = some endC.spec := rfl
end Go.Proofs.Ytoglkgbjehbcpaa
