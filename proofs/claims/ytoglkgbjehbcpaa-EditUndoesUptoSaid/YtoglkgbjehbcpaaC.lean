/-
  Apply, same, Diff and its twin as callees of a walk; the walk of speaks.
-/
import Derived.Test.YtoglkgbjehbcpaaM
namespace Go.Proofs.Ytoglkgbjehbcpaa
open Go.RowKit Go.LE
set_option linter.unusedSimpArgs false
set_option linter.unusedVariables false
-- G: Γ3
-- S+: arr_getD, List.size_toArray, Gt3c9, Gt3c15, Gt3c16, Gt3c17, Gt2ceq29', eq29_f, semF_K, semFK_some, pureC_ev, makeC_ev, applyC_res, sameC_res, diffC_T, diffC_s, diffC_n, diffC_vs, diffC_tm, diffC_pre, rdiffC_T, rdiffC_s, rdiffC_n, rdiffC_vs, rdiffC_tm, rdiffC_pre, applyC_row, sameC_row, faultV, avVals_row, decE_cells

theorem arr_getD (l : List Value) (i : Nat) (d : Value) : l.toArray.getD i d = l.getD i d := by simp [Array.getD_eq_getD_getElem?, List.getD_eq_getElem?_getD]

def applyC : PureC Try.prog 9 where
  pre := fun W bs => fun | [.val (.string s), a] => ∃ l : List Ed, avIs W bs 3 l.length (l.flatMap Ed.cells) a ∧ s.size ≤ 140737488351232 ∧ ∀ e ∈ l, e.put.size ≤ 140737488351232 | _ => False
  res := fun W => fun | [.val (.string s), a] => .tuple #[.string (apply s (decE (avVals W 3 a))).1, faultV (apply s (decE (avVals W 3 a))).2] | _ => undef
  enters := Try.call9
  ok := by
    intro W w bs us as_ hk hu hp
    split at hp
    · rename_i s a
      obtain ⟨l, h1, h2, h3⟩ := hp
      match us, hu with
      | [u, v], hu =>
        obtain ⟨rfl, hv, _⟩ := hu
        obtain ⟨ao, c, rfl, hsl⟩ := avIs_sl hk hv h1
        simp only [avVals_eq h1, decE_cells]
        exact apply_any s l ao c w h2 h3 hsl
    · exact hp.elim
theorem avVals_row (W : World) (sz : Nat) (T : TypeId) (s n : Nat) (us : List Value) : avVals W sz (.row T s n us) = us := rfl
theorem applyC_res (W : World) (s : ByteArray) (a : AV) : applyC.res W [.val (.string s), a] = .tuple #[.string (apply s (decE (avVals W 3 a))).1, faultV (apply s (decE (avVals W 3 a))).2] := rfl
theorem applyC_row (W : World) (bs : List Nat) (s : ByteArray) (l : List Ed) (T : TypeId) : applyC.pre W bs [.val (.string s), .row T 3 l.length (l.flatMap Ed.cells)] = (s.size ≤ 140737488351232 ∧ ∀ e ∈ l, e.put.size ≤ 140737488351232) := by
  apply propext
  constructor
  · rintro ⟨l', ⟨_, h1, h2⟩, h3, h4⟩
    have : l = l' := by rw [← decE_cells l, h2, decE_cells l']
    subst this
    exact ⟨h3, h4⟩
  · rintro ⟨h1, h2⟩
    exact ⟨l, ⟨rfl, rfl, rfl⟩, h1, h2⟩

def sameC : PureC Try.prog 15 where
  pre := fun W bs => fun | [a, b] => ∃ l m : List Ed, avIs W bs 3 l.length (l.flatMap Ed.cells) a ∧ avIs W bs 3 m.length (m.flatMap Ed.cells) b ∧ l.length ≤ 9223372036854775806 | _ => False
  res := fun W => fun | [a, b] => .bool (decide (decE (avVals W 3 a) = decE (avVals W 3 b))) | _ => undef
  enters := Try.call15
  ok := by
    intro W w bs us as_ hk hu hp
    split at hp
    · rename_i a b
      obtain ⟨l, m, h1, h2, h3⟩ := hp
      match us, hu with
      | [u, v], hu =>
        obtain ⟨hu, hv, _⟩ := hu
        obtain ⟨ao, c, rfl, hsl⟩ := avIs_sl hk hu h1
        obtain ⟨ao', c', rfl, hsm⟩ := avIs_sl hk hv h2
        simp only [avVals_eq h1, avVals_eq h2, decE_cells]
        exact same_any l m ao ao' c c' w h3 hsl hsm
    · exact hp.elim
theorem sameC_res (W : World) (a b : AV) : sameC.res W [a, b] = .bool (decide (decE (avVals W 3 a) = decE (avVals W 3 b))) := rfl
theorem sameC_row (W : World) (bs : List Nat) (l m : List Ed) (T T' : TypeId) : sameC.pre W bs [.row T 3 l.length (l.flatMap Ed.cells), .row T' 3 m.length (m.flatMap Ed.cells)] = (l.length ≤ 9223372036854775806) := by
  apply propext
  constructor
  · rintro ⟨l', m', ⟨_, h1, h2⟩, _, h3⟩
    rw [h1]; exact h3
  · intro h
    exact ⟨l, m, ⟨rfl, rfl, rfl⟩, ⟨rfl, rfl, rfl⟩, h⟩

def diffC : MakeC Try.prog 16 where
  pre := fun _ _ => fun | [.val (.string a), .val (.string b)] => a.size ≤ 140737488351232 ∧ b.size ≤ 140737488351232 | _ => False
  T := 44
  s := 3
  n := fun _ => fun | [.val (.string a), .val (.string b)] => (diffV a b).length | _ => 0
  vs := fun _ => fun | [.val (.string a), .val (.string b)] => (diffV a b).flatMap Ed.cells | _ => []
  tm := fun _ _ x => x
  g := fun _ _ v => v
  tmg := fun _ _ _ _ => rfl
  tmk := fun _ _ _ _ h => h
  enters := Try.call16
  ok := by
    intro W w bs us as_ hk hu hp
    split at hp
    · rename_i a b
      match us, hu with
      | [u, v], hu =>
        obtain ⟨rfl, rfl, _⟩ := hu
        exact diff_any a b w hp.1 hp.2
    · exact hp.elim
theorem diffC_pre (W : World) (bs : List Nat) (a b : ByteArray) : diffC.pre W bs [.val (.string a), .val (.string b)] = (a.size ≤ 140737488351232 ∧ b.size ≤ 140737488351232) := rfl
theorem diffC_T : diffC.T = 44 := rfl
theorem diffC_s : diffC.s = 3 := rfl
theorem diffC_n (W : World) (a b : ByteArray) : diffC.n W [.val (.string a), .val (.string b)] = (diffV a b).length := rfl
theorem diffC_vs (W : World) (a b : ByteArray) : diffC.vs W [.val (.string a), .val (.string b)] = (diffV a b).flatMap Ed.cells := rfl
theorem diffC_tm (W : World) (as_ : List AV) (x : SV) : diffC.tm W as_ x = x := rfl

def rdiffC : MakeC Try.prog 17 where
  pre := fun _ _ => fun | [.val (.string a), .val (.string b)] => a.size ≤ 140737488351232 ∧ b.size ≤ 140737488351232 | _ => False
  T := 62
  s := 3
  n := fun _ => fun | [.val (.string a), .val (.string b)] => (diffV a b).length | _ => 0
  vs := fun _ => fun | [.val (.string a), .val (.string b)] => (diffV a b).flatMap Ed.cells | _ => []
  tm := fun _ _ x => x
  g := fun _ _ v => v
  tmg := fun _ _ _ _ => rfl
  tmk := fun _ _ _ _ h => h
  enters := Try.call17
  ok := by
    intro W w bs us as_ hk hu hp
    split at hp
    · rename_i a b
      match us, hu with
      | [u, v], hu =>
        obtain ⟨rfl, rfl, _⟩ := hu
        exact rdiff_any a b w hp.1 hp.2
    · exact hp.elim
theorem rdiffC_pre (W : World) (bs : List Nat) (a b : ByteArray) : rdiffC.pre W bs [.val (.string a), .val (.string b)] = (a.size ≤ 140737488351232 ∧ b.size ≤ 140737488351232) := rfl
theorem rdiffC_T : rdiffC.T = 62 := rfl
theorem rdiffC_s : rdiffC.s = 3 := rfl
theorem rdiffC_n (W : World) (a b : ByteArray) : rdiffC.n W [.val (.string a), .val (.string b)] = (diffV a b).length := rfl
theorem rdiffC_vs (W : World) (a b : ByteArray) : rdiffC.vs W [.val (.string a), .val (.string b)] = (diffV a b).flatMap Ed.cells := rfl
theorem rdiffC_tm (W : World) (as_ : List AV) (x : SV) : rdiffC.tm W as_ x = x := rfl

def Γ3 : Env Try.prog := ⟨fun | 9 => some applyC.spec | 15 => some sameC.spec | 16 => some diffC.spec | 17 => some rdiffC.spec | _ => none, fun | 29 => some eq29 | _ => none, fun _ _ => none⟩
theorem Gt3c9 : Γ3.sp 9 = some applyC.spec := rfl
theorem Gt3c15 : Γ3.sp 15 = some sameC.spec := rfl
theorem Gt3c16 : Γ3.sp 16 = some diffC.spec := rfl
theorem Gt3c17 : Γ3.sp 17 = some rdiffC.spec := rfl
theorem Gt2ceq29' : Γ3.eqs 29 = some eq29 := rfl

set_option maxHeartbeats 1000000 in
theorem speaks_any (w : World) : Calls Try.prog 7 #[] w fun e w' => e = .returned (.bool true) ∧ Keeps w [] w' := by
  have hr1 : applyC.pre w [] [.val (.string ⟨#[97, 98, 99]⟩), .row 44 3 1 [.int .i64 1, .int .i64 1, .string ⟨#[120, 121]⟩]] := ⟨[⟨1, 1, ⟨#[120, 121]⟩⟩], ⟨rfl, rfl, rfl⟩, by decide, by intro e he; simp at he; subst he; decide⟩
  have hr2 : applyC.res w [.val (.string ⟨#[97, 98, 99]⟩), .row 44 3 1 [.int .i64 1, .int .i64 1, .string ⟨#[120, 121]⟩]] = .tuple #[.string ⟨#[97, 120, 121, 99]⟩, faultV (0, 0)] := by
    rw [applyC_res]
    have : decE (avVals w 3 (.row 44 3 1 [.int .i64 1, .int .i64 1, .string ⟨#[120, 121]⟩])) = [⟨1, 1, ⟨#[120, 121]⟩⟩] := rfl
    rw [this]
    have : apply ⟨#[97, 98, 99]⟩ [⟨1, 1, ⟨#[120, 121]⟩⟩] = (⟨#[97, 120, 121, 99]⟩, (0, 0)) := by decide +kernel
    rw [this]
  refine calls_pure (nt := 16) [.tmp 0] Try.func7 rfl rfl rfl ?_
  refine Wp.sreg Γ3 hmix (by simp only [if_true, if_false, List.toList_toArray, Option.isNone_none, Option.isNone_some, Option.isSome_none, Option.isSome_some, and_true, true_and, and_self, true_imp_iff, forall_const, List.append_nil, List.nil_append, List.cons_append, cond_true, cond_false, List.map_cons, List.map_nil, Bool.true_and, Bool.and_true, beq_false, beq_true, imp_self, implies_true, Bool.cond_self, Option.bind_some, List.getElem?_toArray, List.getElem?_cons_zero, List.getElem?_cons_succ, List.length_cons, List.length_nil, List.getD_cons_zero, List.getD_cons_succ, List.take_succ_cons, List.take_zero, List.drop_succ_cons, List.drop_zero, List.zip_cons_cons, List.zip_nil_right, Option.getD_some, List.all_cons, List.all_nil, Bool.cond_true_left, Bool.cond_false_right, Bool.cond_true_right, Bool.cond_false_left, ev1, ev2, ev3, ev4, ev5, ev6, tyF0, tyF1, tyF2, tyF3, tyF4, tyF5, tyF6, tyF7, tyF8, tyF9, Op.operands, Value.cells, semBuild_eq, σ0, Option.map_some, List.not_mem_nil, Int.toNat_natCast, Option.toArray_none, Option.toArray_some, List.append_toArray, Nat.reduceEqDiff, Nat.reduceAdd, Nat.reduceMul, Nat.reduceLT, Nat.reduceLeDiff, Nat.add_zero, Nat.zero_add, Nat.reduceBEq, decide_true, decide_false, Bool.not_true, Bool.not_false, List.flatten_cons, List.flatten_nil, List.replicate_succ, List.replicate_zero, List.append_nil, setRange, List.toList_toArray, List.isEmpty_nil, ne_eq, not_true_eq_false, not_false_eq_true, arr_getD, List.size_toArray, Gt3c9, Gt3c15, Gt3c16, Gt3c17, Gt2ceq29', eq29_f, semF_K, semFK_some, pureC_ev, makeC_ev, applyC_res, sameC_res, diffC_T, diffC_s, diffC_n, diffC_vs, diffC_tm, diffC_pre, rdiffC_T, rdiffC_s, rdiffC_n, rdiffC_vs, rdiffC_tm, rdiffC_pre, applyC_row, sameC_row, faultV, avVals_row, decE_cells]; exact rfl) rfl ?_ ?_
  · trivial
  refine Wp.sreg Γ3 hmix (by simp only [if_true, if_false, List.toList_toArray, Option.isNone_none, Option.isNone_some, Option.isSome_none, Option.isSome_some, and_true, true_and, and_self, true_imp_iff, forall_const, List.append_nil, List.nil_append, List.cons_append, cond_true, cond_false, List.map_cons, List.map_nil, Bool.true_and, Bool.and_true, beq_false, beq_true, imp_self, implies_true, Bool.cond_self, Option.bind_some, List.getElem?_toArray, List.getElem?_cons_zero, List.getElem?_cons_succ, List.length_cons, List.length_nil, List.getD_cons_zero, List.getD_cons_succ, List.take_succ_cons, List.take_zero, List.drop_succ_cons, List.drop_zero, List.zip_cons_cons, List.zip_nil_right, Option.getD_some, List.all_cons, List.all_nil, Bool.cond_true_left, Bool.cond_false_right, Bool.cond_true_right, Bool.cond_false_left, ev1, ev2, ev3, ev4, ev5, ev6, tyF0, tyF1, tyF2, tyF3, tyF4, tyF5, tyF6, tyF7, tyF8, tyF9, Op.operands, Value.cells, semBuild_eq, σ0, Option.map_some, List.not_mem_nil, Int.toNat_natCast, Option.toArray_none, Option.toArray_some, List.append_toArray, Nat.reduceEqDiff, Nat.reduceAdd, Nat.reduceMul, Nat.reduceLT, Nat.reduceLeDiff, Nat.add_zero, Nat.zero_add, Nat.reduceBEq, decide_true, decide_false, Bool.not_true, Bool.not_false, List.flatten_cons, List.flatten_nil, List.replicate_succ, List.replicate_zero, List.append_nil, setRange, List.toList_toArray, List.isEmpty_nil, ne_eq, not_true_eq_false, not_false_eq_true, arr_getD, List.size_toArray, Gt3c9, Gt3c15, Gt3c16, Gt3c17, Gt2ceq29', eq29_f, semF_K, semFK_some, pureC_ev, makeC_ev, applyC_res, sameC_res, diffC_T, diffC_s, diffC_n, diffC_vs, diffC_tm, diffC_pre, rdiffC_T, rdiffC_s, rdiffC_n, rdiffC_vs, rdiffC_tm, rdiffC_pre, applyC_row, sameC_row, faultV, avVals_row, decE_cells, hr1, hr2]; exact rfl) rfl ?_ ?_
  · simp
  refine Wp.sreg Γ3 hmix (by simp only [if_true, if_false, List.toList_toArray, Option.isNone_none, Option.isNone_some, Option.isSome_none, Option.isSome_some, and_true, true_and, and_self, true_imp_iff, forall_const, List.append_nil, List.nil_append, List.cons_append, cond_true, cond_false, List.map_cons, List.map_nil, Bool.true_and, Bool.and_true, beq_false, beq_true, imp_self, implies_true, Bool.cond_self, Option.bind_some, List.getElem?_toArray, List.getElem?_cons_zero, List.getElem?_cons_succ, List.length_cons, List.length_nil, List.getD_cons_zero, List.getD_cons_succ, List.take_succ_cons, List.take_zero, List.drop_succ_cons, List.drop_zero, List.zip_cons_cons, List.zip_nil_right, Option.getD_some, List.all_cons, List.all_nil, Bool.cond_true_left, Bool.cond_false_right, Bool.cond_true_right, Bool.cond_false_left, ev1, ev2, ev3, ev4, ev5, ev6, tyF0, tyF1, tyF2, tyF3, tyF4, tyF5, tyF6, tyF7, tyF8, tyF9, Op.operands, Value.cells, semBuild_eq, σ0, Option.map_some, List.not_mem_nil, Int.toNat_natCast, Option.toArray_none, Option.toArray_some, List.append_toArray, Nat.reduceEqDiff, Nat.reduceAdd, Nat.reduceMul, Nat.reduceLT, Nat.reduceLeDiff, Nat.add_zero, Nat.zero_add, Nat.reduceBEq, decide_true, decide_false, Bool.not_true, Bool.not_false, List.flatten_cons, List.flatten_nil, List.replicate_succ, List.replicate_zero, List.append_nil, setRange, List.toList_toArray, List.isEmpty_nil, ne_eq, not_true_eq_false, not_false_eq_true, arr_getD, List.size_toArray, Gt3c9, Gt3c15, Gt3c16, Gt3c17, Gt2ceq29', eq29_f, semF_K, semFK_some, pureC_ev, makeC_ev, applyC_res, sameC_res, diffC_T, diffC_s, diffC_n, diffC_vs, diffC_tm, diffC_pre, rdiffC_T, rdiffC_s, rdiffC_n, rdiffC_vs, rdiffC_tm, rdiffC_pre, applyC_row, sameC_row, faultV, avVals_row, decE_cells, eq29_f]; exact rfl) rfl ?_ ?_
  · simp
  refine Wp.ret ?_
  simp only [if_true, if_false, List.toList_toArray, Option.isNone_none, Option.isNone_some, Option.isSome_none, Option.isSome_some, and_true, true_and, and_self, true_imp_iff, forall_const, List.append_nil, List.nil_append, List.cons_append, cond_true, cond_false, List.map_cons, List.map_nil, Bool.true_and, Bool.and_true, beq_false, beq_true, imp_self, implies_true, Bool.cond_self, Option.bind_some, List.getElem?_toArray, List.getElem?_cons_zero, List.getElem?_cons_succ, List.length_cons, List.length_nil, List.getD_cons_zero, List.getD_cons_succ, List.take_succ_cons, List.take_zero, List.drop_succ_cons, List.drop_zero, List.zip_cons_cons, List.zip_nil_right, Option.getD_some, List.all_cons, List.all_nil, Bool.cond_true_left, Bool.cond_false_right, Bool.cond_true_right, Bool.cond_false_left, ev1, ev2, ev3, ev4, ev5, ev6, tyF0, tyF1, tyF2, tyF3, tyF4, tyF5, tyF6, tyF7, tyF8, tyF9, Op.operands, Value.cells, semBuild_eq, σ0, Option.map_some, List.not_mem_nil, Int.toNat_natCast, Option.toArray_none, Option.toArray_some, List.append_toArray, Nat.reduceEqDiff, Nat.reduceAdd, Nat.reduceMul, Nat.reduceLT, Nat.reduceLeDiff, Nat.add_zero, Nat.zero_add, Nat.reduceBEq, decide_true, decide_false, Bool.not_true, Bool.not_false, List.flatten_cons, List.flatten_nil, List.replicate_succ, List.replicate_zero, List.append_nil, setRange, List.toList_toArray, List.isEmpty_nil, ne_eq, not_true_eq_false, not_false_eq_true, arr_getD, List.size_toArray, Gt3c9, Gt3c15, Gt3c16, Gt3c17, Gt2ceq29', eq29_f, semF_K, semFK_some, pureC_ev, makeC_ev, applyC_res, sameC_res, diffC_T, diffC_s, diffC_n, diffC_vs, diffC_tm, diffC_pre, rdiffC_T, rdiffC_s, rdiffC_n, rdiffC_vs, rdiffC_tm, rdiffC_pre, applyC_row, sameC_row, faultV, avVals_row, decE_cells, Fin_ret]
  exact fun E => rfl

def speaksC : PureC Try.prog 7 where
  pre := fun _ _ => fun | [] => True | _ => False
  res := fun _ _ => .bool true
  enters := Try.call7
  ok := by
    intro W w bs us as_ hk hu hp
    split at hp
    · match us, hu with
      | [], _ => exact speaks_any w
    · exact hp.elim
theorem speaksC_pre (W : World) (bs : List Nat) : speaksC.pre W bs [] = True := rfl
theorem speaksC_res (W : World) (l : List AV) : speaksC.res W l = .bool true := rfl
end Go.Proofs.Ytoglkgbjehbcpaa
