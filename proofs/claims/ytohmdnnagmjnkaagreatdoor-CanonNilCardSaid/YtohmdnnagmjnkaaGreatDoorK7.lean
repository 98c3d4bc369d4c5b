/-
  Part 7 of the proof.
-/
import Derived.Test.YtohmdnnagmjnkaaGreatDoorK6
set_option linter.unusedSimpArgs false
set_option linter.unusedVariables false
set_option linter.defProp false
section
namespace Go.Proofs.YtohmdnnagmjnkaaGreatDoor
open Go.RowKit Go.LE
abbrev CS := BitVec 256
def wd (S : CS) (j : Nat) : Int := ((S.extractLsb' (64 * j) 64).toNat : Int)
def wds (S : CS) : List Value := [.int .u64 (wd S 0), .int .u64 (wd S 1), .int .u64 (wd S 2), .int .u64 (wd S 3)]
theorem wrapu64 (x : BitVec 64) : IntKind.u64.wrap ((x.toNat : Nat) : Int) = ((x.toNat : Nat) : Int) := by
  have := x.isLt
  simp only [IntKind.wrap, IntKind.bits, IntKind.signed, Bool.false_and, Bool.false_eq_true, if_false, decide_false, show (2 : Int) ^ 64 = 18446744073709551616 from rfl]
  omega
theorem ofInt_nat (x : BitVec 64) : BitVec.ofInt 64 ((x.toNat : Nat) : Int) = x := by simp
theorem or64 (x y : BitVec 64) : bitsV .or .u64 (x.toNat : Nat) (y.toNat : Nat) = ((x ||| y).toNat : Nat) := by
  show IntKind.u64.wrap (((BitVec.ofInt 64 ((x.toNat : Nat) : Int) ||| BitVec.ofInt 64 ((y.toNat : Nat) : Int) : BitVec 64).toNat : Nat) : Int) = _
  rw [ofInt_nat, ofInt_nat, wrapu64]
theorem and64 (x y : BitVec 64) : bitsV .and .u64 (x.toNat : Nat) (y.toNat : Nat) = ((x &&& y).toNat : Nat) := by
  show IntKind.u64.wrap (((BitVec.ofInt 64 ((x.toNat : Nat) : Int) &&& BitVec.ofInt 64 ((y.toNat : Nat) : Int) : BitVec 64).toNat : Nat) : Int) = _
  rw [ofInt_nat, ofInt_nat, wrapu64]
theorem xor64 (x y : BitVec 64) : bitsV .xor .u64 (x.toNat : Nat) (y.toNat : Nat) = ((x ^^^ y).toNat : Nat) := by
  show IntKind.u64.wrap (((BitVec.ofInt 64 ((x.toNat : Nat) : Int) ^^^ BitVec.ofInt 64 ((y.toNat : Nat) : Int) : BitVec 64).toNat : Nat) : Int) = _
  rw [ofInt_nat, ofInt_nat, wrapu64]
theorem wd_or (S T : CS) (j : Nat) : bitsV .or .u64 (wd S j) (wd T j) = wd (S ||| T) j := by
  rw [wd, wd, or64, wd, BitVec.extractLsb'_or]
theorem wd_and (S T : CS) (j : Nat) : bitsV .and .u64 (wd S j) (wd T j) = wd (S &&& T) j := by
  rw [wd, wd, and64, wd, BitVec.extractLsb'_and]
theorem wd_not (S : CS) (j : Nat) (hj : j < 4) : bitsV .xor .u64 (if IntKind.u64.signed = true then -1 else IntKind.u64.max) (wd S j) = wd (~~~S) j := by
  have e : (if IntKind.u64.signed = true then -1 else IntKind.u64.max) = (((BitVec.allOnes 64).toNat : Nat) : Int) := by decide
  rw [e, wd, xor64, wd]
  congr 2
  apply BitVec.eq_of_getLsbD_eq
  intro i hi
  have h2 : 64 * j + i < 256 := by omega
  rw [BitVec.getLsbD_xor, BitVec.getLsbD_allOnes, BitVec.getLsbD_extractLsb', BitVec.getLsbD_extractLsb', BitVec.getLsbD_not]
  simp [hi, h2]
def addB (S : CS) (b : Nat) : CS := S ||| (1#256 <<< b)
theorem addB_bit (S : CS) (b i : Nat) (hb : b < 256) : (addB S b).getLsbD i = (S.getLsbD i || decide (i = b)) := by
  simp only [addB, BitVec.getLsbD_or, BitVec.getLsbD_shiftLeft, BitVec.getLsbD_one]
  by_cases hi : i = b
  · subst hi; simp [hb]
  · have h : ¬(i < 256 ∧ b ≤ i ∧ i - b = 0) := by omega
    by_cases h1 : i < 256 <;> by_cases h2 : i < b <;> simp [h1, h2, hi] <;> omega
theorem shl64 (b : Nat) (hb : b < 64) : IntKind.u64.wrap (1 * 2 ^ (min b 64)) = (((1#64 <<< b).toNat : Nat) : Int) := by
  rw [Nat.min_eq_left (by omega)]
  have h : (1#64 <<< b).toNat = 2 ^ b := by
    rw [BitVec.toNat_shiftLeft, Nat.shiftLeft_eq]
    have : 2 ^ b < 2 ^ 64 := Nat.pow_lt_pow_right (by omega) hb
    simp
    omega
  rw [← wrapu64, h]
  simp
theorem wd_add (S : CS) (b : Nat) (hb : b < 256) : bitsV .or .u64 (wd S (b / 64)) (IntKind.u64.wrap (1 * 2 ^ (min (b % 64) 64))) = wd (addB S b) (b / 64) := by
  rw [shl64 _ (Nat.mod_lt _ (by omega)), wd, or64, wd]
  congr 2
  apply BitVec.eq_of_getLsbD_eq
  intro i hi
  have hdm := Nat.div_add_mod b 64
  rw [BitVec.getLsbD_or, BitVec.getLsbD_extractLsb', BitVec.getLsbD_extractLsb', addB_bit _ _ _ hb, BitVec.getLsbD_shiftLeft, BitVec.getLsbD_one]
  have e : decide (64 * (b / 64) + i = b) = decide (i = b % 64) := by rw [decide_eq_decide]; omega
  rw [e]
  by_cases h1 : i = b % 64
  · subst h1; simp [hi]
  · by_cases h2 : i < b % 64 <;> simp [hi, h1, h2] <;> omega
theorem wd_add_ne (S : CS) (b j : Nat) (hb : b < 256) (hj : j ≠ b / 64) : wd (addB S b) j = wd S j := by
  rw [wd, wd]
  congr 2
  apply BitVec.eq_of_getLsbD_eq
  intro i hi
  rw [BitVec.getLsbD_extractLsb', BitVec.getLsbD_extractLsb', addB_bit _ _ _ hb]
  have : decide (64 * j + i = b) = false := by rw [decide_eq_false_iff_not]; omega
  rw [this, Bool.or_false]
theorem wds_get (S : CS) (j : Nat) (hj : j < 4) : (wds S).getD j undef = .int .u64 (wd S j) := by
  match j, hj with
  | 0, _ => rfl
  | 1, _ => rfl
  | 2, _ => rfl
  | 3, _ => rfl
theorem wds_add (S : CS) (b : Nat) (hb : b < 256) : (wds S).take (b / 64) ++ .int .u64 (wd (addB S b) (b / 64)) :: (wds S).drop (b / 64 + 1) = wds (addB S b) := by
  have hq : b / 64 < 4 := by omega
  have ne : ∀ j, j ≠ b / 64 → wd S j = wd (addB S b) j := fun j hj => (wd_add_ne S b j hb hj).symm
  generalize hqe : b / 64 = q at *
  match q, hq with
  | 0, _ => simp [wds, ne 1, ne 2, ne 3]
  | 1, _ => simp [wds, ne 0, ne 2, ne 3]
  | 2, _ => simp [wds, ne 0, ne 1, ne 3]
  | 3, _ => simp [wds, ne 0, ne 1, ne 2]
theorem wd_has (S : CS) (b : Nat) (hb : b < 256) : decide (bitsV .and .u64 ((wd S (b / 64)).fdiv (2 ^ (min (b % 64) 64))) 1 = 1) = S.getLsbD b := by
  have hm : b % 64 < 64 := Nat.mod_lt _ (by omega)
  rw [Nat.min_eq_left (by omega)]
  have e1 : (wd S (b / 64)).fdiv (2 ^ (b % 64)) = (((S.extractLsb' (64 * (b / 64)) 64) >>> (b % 64)).toNat : Nat) := by
    rw [wd, BitVec.toNat_ushiftRight, Nat.shiftRight_eq_div_pow]
    have : (2 : Int) ^ (b % 64) = ((2 ^ (b % 64) : Nat) : Int) := by simp
    rw [this, Int.fdiv_eq_ediv_of_nonneg _ (Int.natCast_nonneg _)]
    rfl
  rw [e1, show (1 : Int) = (((1#64).toNat : Nat) : Int) from rfl, and64]
  rw [Bool.eq_iff_iff, decide_eq_true_eq]
  have hdm := Nat.div_add_mod b 64
  constructor
  · intro h
    have h' : (S.extractLsb' (64 * (b / 64)) 64 >>> (b % 64)) &&& 1#64 = 1#64 := BitVec.eq_of_toNat_eq (by exact_mod_cast h)
    have := congrArg (fun x => x.getLsbD 0) h'
    simp only [BitVec.getLsbD_and, BitVec.getLsbD_ushiftRight, BitVec.getLsbD_extractLsb', BitVec.getLsbD_one] at this
    simpa [hm, hdm] using this
  · intro h
    have h' : (S.extractLsb' (64 * (b / 64)) 64 >>> (b % 64)) &&& 1#64 = 1#64 := by
      apply BitVec.eq_of_getLsbD_eq
      intro i hi
      simp only [BitVec.getLsbD_and, BitVec.getLsbD_ushiftRight, BitVec.getLsbD_extractLsb', BitVec.getLsbD_one]
      by_cases h0 : i = 0
      · subst h0; simp [hm, hdm, h]
      · simp [h0]
    rw [h']
theorem fdiv64 (b : Nat) : ((b : Int)).fdiv 64 = ((b / 64 : Nat) : Int) := by
  rw [Int.fdiv_eq_ediv_of_nonneg _ (by omega)]
  omega
theorem and63_u8 (b : Nat) (hb : b < 256) : bitsV .and .u8 (b : Int) 63 = ((b % 64 : Nat) : Int) := by
  have : ∀ b : Fin 256, bitsV .and .u8 ((b.val : Nat) : Int) 63 = ((b.val % 64 : Nat) : Int) := by decide +kernel
  exact this ⟨b, hb⟩
theorem and63_i64 (b : Nat) (hb : b < 256) : bitsV .and .i64 (b : Int) 63 = ((b % 64 : Nat) : Int) := by
  have : ∀ b : Fin 256, bitsV .and .i64 ((b.val : Nat) : Int) 63 = ((b.val % 64 : Nat) : Int) := by decide +kernel
  exact this ⟨b, hb⟩
theorem wds_getSV (S : CS) (j : Nat) (hj : j < 4) : (List.map SV.v (wds S)).getD j (.v undef) = .v (.int .u64 (wd S j)) := by
  match j, hj with
  | 0, _ => rfl
  | 1, _ => rfl
  | 2, _ => rfl
  | 3, _ => rfl
theorem wds_setSV (S : CS) (b : Nat) (hb : b < 256) : List.take (b / 64) (List.map SV.v (wds S)) ++ [SV.v (.int .u64 (wd (addB S b) (b / 64)))] ++ List.drop (b / 64 + 1) (List.map SV.v (wds S)) = List.map SV.v (wds (addB S b)) := by
  rw [← wds_add S b hb]
  simp
theorem wds_len (S : CS) : (List.map SV.v (wds S)).length = 4 := rfl
end Go.Proofs.YtohmdnnagmjnkaaGreatDoor
end
section
namespace Go.Proofs.YtohmdnnagmjnkaaGreatDoor
open Go.RowKit Go.LE
set_option maxRecDepth 10000
def Γ0 : Env Tryz.prog := ⟨fun _ => none, fun _ => none, fun _ _ => none⟩
def setV (S : CS) : Value := .agg (wds S).toArray
theorem setV_fold (S : CS) : Value.agg (wds S).toArray = setV S := rfl
theorem wds_length (S : CS) : (wds S).length = 4 := rfl
theorem wds_take (S : CS) : List.take 4 ((wds S).map SV.v) = (wds S).map SV.v := rfl
theorem wds_drop (S : CS) : List.drop 4 ((wds S).map SV.v) = [] := rfl
theorem wds_valsL (S : CS) : valsL ((wds S).map SV.v) = some (wds S) := rfl
theorem wds_all (S : CS) : ((wds S).map SV.v).all oneSV = true := rfl
theorem wds_den (E : Nat → Value) (S : CS) : den E (.agg ((wds S).map SV.v)) = setV S := rfl
theorem wds_maplen (S : CS) : ((wds S).map SV.v).length = 4 := rfl
theorem setV_parts (S : CS) : partsOf (.v (setV S)) = (wds S).map SV.v := rfl
theorem wd_bit (S : CS) (j i : Nat) (hi : i < 64) : (BitVec.ofInt 64 (wd S j)).getLsbD i = S.getLsbD (64 * j + i) := by
  rw [wd, ofInt_nat, BitVec.getLsbD_extractLsb']
  simp [hi]
theorem setV_inj (S T : CS) (h : setV S = setV T) : S = T := by
  have h : (wds S) = wds T := congrArg (fun v => match v with | Value.agg a => a.toList | _ => []) h
  simp only [wds, List.cons.injEq, Value.int.injEq, true_and, and_true] at h
  have e0 := h.1
  have e1 := h.2.1
  have e2 := h.2.2.1
  have e3 := h.2.2.2
  apply BitVec.eq_of_getLsbD_eq
  intro i hi
  have key : ∀ j, wd S j = wd T j → i / 64 = j → S.getLsbD i = T.getLsbD i := fun j e hj => by
    have h1 := wd_bit S j (i % 64) (by omega)
    have h2 := wd_bit T j (i % 64) (by omega)
    rw [e] at h1
    have : 64 * j + i % 64 = i := by omega
    rw [this] at h1 h2
    rw [← h1, ← h2]
  have : i / 64 = 0 ∨ i / 64 = 1 ∨ i / 64 = 2 ∨ i / 64 = 3 := by omega
  rcases this with h | h | h | h
  · exact key 0 e0 h
  · exact key 1 e1 h
  · exact key 2 e2 h
  · exact key 3 e3 h
set_option maxHeartbeats 1000000 in
theorem union_any (S T : CS) (w : World) : Calls Tryz.prog 172 #[setV S, setV T] w fun e w' => e = .returned (setV (S ||| T)) ∧ Keeps w [] w' := by
  refine calls_pure (nt := 26) [.cell 4 209] Tryz.func172 rfl rfl rfl ?_
  refine Wp.sreg Γ0 hmix (by simp only [if_true, if_false, List.toList_toArray, Option.isNone_none, Option.isNone_some, Option.isSome_none, Option.isSome_some, and_true, true_and, and_self, true_imp_iff, forall_const, List.append_nil, List.nil_append, List.cons_append, cond_true, cond_false, List.map_cons, List.map_nil, Bool.true_and, Bool.and_true, beq_false, beq_true, imp_self, implies_true, Bool.cond_self, Option.bind_some, List.getElem?_toArray, List.getElem?_cons_zero, List.getElem?_cons_succ, List.length_cons, List.length_nil, List.getD_cons_zero, List.getD_cons_succ, List.take_succ_cons, List.take_zero, List.drop_succ_cons, List.drop_zero, List.zip_cons_cons, List.zip_nil_right, Option.getD_some, List.all_cons, List.all_nil, Bool.cond_true_left, Bool.cond_false_right, Bool.cond_true_right, Bool.cond_false_left, ev1, ev2, ev3, ev4, ev5, ev6, ev7, ev8, ev9, Op.operands, Value.cells, semBuild_eq, semBuildSlice_eq, σ0, σB, Option.map_some, List.not_mem_nil, Int.toNat_natCast, Option.toArray_none, Option.toArray_some, List.append_toArray, Nat.reduceEqDiff, Nat.reduceAdd, Nat.reduceMul, Nat.reduceLT, Nat.reduceLeDiff, Nat.add_zero, Nat.zero_add, Nat.reduceBEq, decide_true, decide_false, Bool.not_true, Bool.not_false, List.flatten_cons, List.flatten_nil, List.replicate_succ, List.replicate_zero, List.append_nil, setRange, List.toList_toArray, List.isEmpty_nil, ne_eq, not_true_eq_false, not_false_eq_true, Int.reduceToNat, Nat.mul_one, Nat.one_mul, Nat.zero_mul, Nat.sub_zero, Int.reduceLT, Int.reduceLE, Nat.reduceDiv, Nat.reduceMod, Nat.reduceSub, slAt_zero, Array.getD_eq_getD_getElem?, List.size_toArray, bitsN, minN, Int.reducePow, Nat.reducePow, ty0, ty1, ty2, ty3, ty4, ty5, ty6, ty7, ty8, ty9, ty10, ty11, ty12, ty13, ty14, ty15, ty16, ty17, ty18, ty19, ty20, ty21, setV, List.toList_toArray, wd_or, wd_and, wds]; exact rfl) rfl ?_ ?_
  · first | trivial | omega | exact ⟨_, rfl⟩ | (simp; done) | (unfold maxLen; omega) | (simp <;> omega) | (simp <;> unfold maxLen <;> omega)
  refine Wp.sreg Γ0 hmix (by simp only [if_true, if_false, List.toList_toArray, Option.isNone_none, Option.isNone_some, Option.isSome_none, Option.isSome_some, and_true, true_and, and_self, true_imp_iff, forall_const, List.append_nil, List.nil_append, List.cons_append, cond_true, cond_false, List.map_cons, List.map_nil, Bool.true_and, Bool.and_true, beq_false, beq_true, imp_self, implies_true, Bool.cond_self, Option.bind_some, List.getElem?_toArray, List.getElem?_cons_zero, List.getElem?_cons_succ, List.length_cons, List.length_nil, List.getD_cons_zero, List.getD_cons_succ, List.take_succ_cons, List.take_zero, List.drop_succ_cons, List.drop_zero, List.zip_cons_cons, List.zip_nil_right, Option.getD_some, List.all_cons, List.all_nil, Bool.cond_true_left, Bool.cond_false_right, Bool.cond_true_right, Bool.cond_false_left, ev1, ev2, ev3, ev4, ev5, ev6, ev7, ev8, ev9, Op.operands, Value.cells, semBuild_eq, semBuildSlice_eq, σ0, σB, Option.map_some, List.not_mem_nil, Int.toNat_natCast, Option.toArray_none, Option.toArray_some, List.append_toArray, Nat.reduceEqDiff, Nat.reduceAdd, Nat.reduceMul, Nat.reduceLT, Nat.reduceLeDiff, Nat.add_zero, Nat.zero_add, Nat.reduceBEq, decide_true, decide_false, Bool.not_true, Bool.not_false, List.flatten_cons, List.flatten_nil, List.replicate_succ, List.replicate_zero, List.append_nil, setRange, List.toList_toArray, List.isEmpty_nil, ne_eq, not_true_eq_false, not_false_eq_true, Int.reduceToNat, Nat.mul_one, Nat.one_mul, Nat.zero_mul, Nat.sub_zero, Int.reduceLT, Int.reduceLE, Nat.reduceDiv, Nat.reduceMod, Nat.reduceSub, slAt_zero, Array.getD_eq_getD_getElem?, List.size_toArray, bitsN, minN, Int.reducePow, Nat.reducePow, ty0, ty1, ty2, ty3, ty4, ty5, ty6, ty7, ty8, ty9, ty10, ty11, ty12, ty13, ty14, ty15, ty16, ty17, ty18, ty19, ty20, ty21, setV, List.toList_toArray, wd_or, wd_and, wds]; exact rfl) rfl ?_ ?_
  · first | trivial | omega | exact ⟨_, rfl⟩ | (simp; done) | (unfold maxLen; omega) | (simp <;> omega) | (simp <;> unfold maxLen <;> omega)
  refine Wp.ret ?_
  with_reducible repeat (first | refine Th_normal ?_ | refine Bl_normal ?_ | refine Th_exit ?_ | refine Bl_exit ?_ | refine Bl_exit_ne (by decide) ?_ | refine Th_ret ?_ | refine Bl_ret ?_ | refine Th_panic ?_ | refine Bl_panic ?_)
  simp only [if_true, if_false, List.toList_toArray, Option.isNone_none, Option.isNone_some, Option.isSome_none, Option.isSome_some, and_true, true_and, and_self, true_imp_iff, forall_const, List.append_nil, List.nil_append, List.cons_append, cond_true, cond_false, List.map_cons, List.map_nil, Bool.true_and, Bool.and_true, beq_false, beq_true, imp_self, implies_true, Bool.cond_self, Option.bind_some, List.getElem?_toArray, List.getElem?_cons_zero, List.getElem?_cons_succ, List.length_cons, List.length_nil, List.getD_cons_zero, List.getD_cons_succ, List.take_succ_cons, List.take_zero, List.drop_succ_cons, List.drop_zero, List.zip_cons_cons, List.zip_nil_right, Option.getD_some, List.all_cons, List.all_nil, Bool.cond_true_left, Bool.cond_false_right, Bool.cond_true_right, Bool.cond_false_left, ev1, ev2, ev3, ev4, ev5, ev6, ev7, ev8, ev9, Op.operands, Value.cells, semBuild_eq, semBuildSlice_eq, σ0, σB, Option.map_some, List.not_mem_nil, Int.toNat_natCast, Option.toArray_none, Option.toArray_some, List.append_toArray, Nat.reduceEqDiff, Nat.reduceAdd, Nat.reduceMul, Nat.reduceLT, Nat.reduceLeDiff, Nat.add_zero, Nat.zero_add, Nat.reduceBEq, decide_true, decide_false, Bool.not_true, Bool.not_false, List.flatten_cons, List.flatten_nil, List.replicate_succ, List.replicate_zero, List.append_nil, setRange, List.toList_toArray, List.isEmpty_nil, ne_eq, not_true_eq_false, not_false_eq_true, Int.reduceToNat, Nat.mul_one, Nat.one_mul, Nat.zero_mul, Nat.sub_zero, Int.reduceLT, Int.reduceLE, Nat.reduceDiv, Nat.reduceMod, Nat.reduceSub, slAt_zero, Array.getD_eq_getD_getElem?, List.size_toArray, bitsN, minN, Int.reducePow, Nat.reducePow, ty0, ty1, ty2, ty3, ty4, ty5, ty6, ty7, ty8, ty9, ty10, ty11, ty12, ty13, ty14, ty15, ty16, ty17, ty18, ty19, ty20, ty21, setV, List.toList_toArray, wd_or, wd_and, Fin_ret]
  exact fun E => rfl
set_option maxHeartbeats 1000000 in
theorem meet_any (S T : CS) (w : World) : Calls Tryz.prog 211 #[setV S, setV T] w fun e w' => e = .returned (setV (S &&& T)) ∧ Keeps w [] w' := by
  refine calls_pure (nt := 26) [.cell 4 209] Tryz.func211 rfl rfl rfl ?_
  refine Wp.sreg Γ0 hmix (by simp only [if_true, if_false, List.toList_toArray, Option.isNone_none, Option.isNone_some, Option.isSome_none, Option.isSome_some, and_true, true_and, and_self, true_imp_iff, forall_const, List.append_nil, List.nil_append, List.cons_append, cond_true, cond_false, List.map_cons, List.map_nil, Bool.true_and, Bool.and_true, beq_false, beq_true, imp_self, implies_true, Bool.cond_self, Option.bind_some, List.getElem?_toArray, List.getElem?_cons_zero, List.getElem?_cons_succ, List.length_cons, List.length_nil, List.getD_cons_zero, List.getD_cons_succ, List.take_succ_cons, List.take_zero, List.drop_succ_cons, List.drop_zero, List.zip_cons_cons, List.zip_nil_right, Option.getD_some, List.all_cons, List.all_nil, Bool.cond_true_left, Bool.cond_false_right, Bool.cond_true_right, Bool.cond_false_left, ev1, ev2, ev3, ev4, ev5, ev6, ev7, ev8, ev9, Op.operands, Value.cells, semBuild_eq, semBuildSlice_eq, σ0, σB, Option.map_some, List.not_mem_nil, Int.toNat_natCast, Option.toArray_none, Option.toArray_some, List.append_toArray, Nat.reduceEqDiff, Nat.reduceAdd, Nat.reduceMul, Nat.reduceLT, Nat.reduceLeDiff, Nat.add_zero, Nat.zero_add, Nat.reduceBEq, decide_true, decide_false, Bool.not_true, Bool.not_false, List.flatten_cons, List.flatten_nil, List.replicate_succ, List.replicate_zero, List.append_nil, setRange, List.toList_toArray, List.isEmpty_nil, ne_eq, not_true_eq_false, not_false_eq_true, Int.reduceToNat, Nat.mul_one, Nat.one_mul, Nat.zero_mul, Nat.sub_zero, Int.reduceLT, Int.reduceLE, Nat.reduceDiv, Nat.reduceMod, Nat.reduceSub, slAt_zero, Array.getD_eq_getD_getElem?, List.size_toArray, bitsN, minN, Int.reducePow, Nat.reducePow, ty0, ty1, ty2, ty3, ty4, ty5, ty6, ty7, ty8, ty9, ty10, ty11, ty12, ty13, ty14, ty15, ty16, ty17, ty18, ty19, ty20, ty21, setV, List.toList_toArray, wd_or, wd_and, wds]; exact rfl) rfl ?_ ?_
  · first | trivial | omega | exact ⟨_, rfl⟩ | (simp; done) | (unfold maxLen; omega) | (simp <;> omega) | (simp <;> unfold maxLen <;> omega)
  refine Wp.sreg Γ0 hmix (by simp only [if_true, if_false, List.toList_toArray, Option.isNone_none, Option.isNone_some, Option.isSome_none, Option.isSome_some, and_true, true_and, and_self, true_imp_iff, forall_const, List.append_nil, List.nil_append, List.cons_append, cond_true, cond_false, List.map_cons, List.map_nil, Bool.true_and, Bool.and_true, beq_false, beq_true, imp_self, implies_true, Bool.cond_self, Option.bind_some, List.getElem?_toArray, List.getElem?_cons_zero, List.getElem?_cons_succ, List.length_cons, List.length_nil, List.getD_cons_zero, List.getD_cons_succ, List.take_succ_cons, List.take_zero, List.drop_succ_cons, List.drop_zero, List.zip_cons_cons, List.zip_nil_right, Option.getD_some, List.all_cons, List.all_nil, Bool.cond_true_left, Bool.cond_false_right, Bool.cond_true_right, Bool.cond_false_left, ev1, ev2, ev3, ev4, ev5, ev6, ev7, ev8, ev9, Op.operands, Value.cells, semBuild_eq, semBuildSlice_eq, σ0, σB, Option.map_some, List.not_mem_nil, Int.toNat_natCast, Option.toArray_none, Option.toArray_some, List.append_toArray, Nat.reduceEqDiff, Nat.reduceAdd, Nat.reduceMul, Nat.reduceLT, Nat.reduceLeDiff, Nat.add_zero, Nat.zero_add, Nat.reduceBEq, decide_true, decide_false, Bool.not_true, Bool.not_false, List.flatten_cons, List.flatten_nil, List.replicate_succ, List.replicate_zero, List.append_nil, setRange, List.toList_toArray, List.isEmpty_nil, ne_eq, not_true_eq_false, not_false_eq_true, Int.reduceToNat, Nat.mul_one, Nat.one_mul, Nat.zero_mul, Nat.sub_zero, Int.reduceLT, Int.reduceLE, Nat.reduceDiv, Nat.reduceMod, Nat.reduceSub, slAt_zero, Array.getD_eq_getD_getElem?, List.size_toArray, bitsN, minN, Int.reducePow, Nat.reducePow, ty0, ty1, ty2, ty3, ty4, ty5, ty6, ty7, ty8, ty9, ty10, ty11, ty12, ty13, ty14, ty15, ty16, ty17, ty18, ty19, ty20, ty21, setV, List.toList_toArray, wd_or, wd_and, wds]; exact rfl) rfl ?_ ?_
  · first | trivial | omega | exact ⟨_, rfl⟩ | (simp; done) | (unfold maxLen; omega) | (simp <;> omega) | (simp <;> unfold maxLen <;> omega)
  refine Wp.ret ?_
  with_reducible repeat (first | refine Th_normal ?_ | refine Bl_normal ?_ | refine Th_exit ?_ | refine Bl_exit ?_ | refine Bl_exit_ne (by decide) ?_ | refine Th_ret ?_ | refine Bl_ret ?_ | refine Th_panic ?_ | refine Bl_panic ?_)
  simp only [if_true, if_false, List.toList_toArray, Option.isNone_none, Option.isNone_some, Option.isSome_none, Option.isSome_some, and_true, true_and, and_self, true_imp_iff, forall_const, List.append_nil, List.nil_append, List.cons_append, cond_true, cond_false, List.map_cons, List.map_nil, Bool.true_and, Bool.and_true, beq_false, beq_true, imp_self, implies_true, Bool.cond_self, Option.bind_some, List.getElem?_toArray, List.getElem?_cons_zero, List.getElem?_cons_succ, List.length_cons, List.length_nil, List.getD_cons_zero, List.getD_cons_succ, List.take_succ_cons, List.take_zero, List.drop_succ_cons, List.drop_zero, List.zip_cons_cons, List.zip_nil_right, Option.getD_some, List.all_cons, List.all_nil, Bool.cond_true_left, Bool.cond_false_right, Bool.cond_true_right, Bool.cond_false_left, ev1, ev2, ev3, ev4, ev5, ev6, ev7, ev8, ev9, Op.operands, Value.cells, semBuild_eq, semBuildSlice_eq, σ0, σB, Option.map_some, List.not_mem_nil, Int.toNat_natCast, Option.toArray_none, Option.toArray_some, List.append_toArray, Nat.reduceEqDiff, Nat.reduceAdd, Nat.reduceMul, Nat.reduceLT, Nat.reduceLeDiff, Nat.add_zero, Nat.zero_add, Nat.reduceBEq, decide_true, decide_false, Bool.not_true, Bool.not_false, List.flatten_cons, List.flatten_nil, List.replicate_succ, List.replicate_zero, List.append_nil, setRange, List.toList_toArray, List.isEmpty_nil, ne_eq, not_true_eq_false, not_false_eq_true, Int.reduceToNat, Nat.mul_one, Nat.one_mul, Nat.zero_mul, Nat.sub_zero, Int.reduceLT, Int.reduceLE, Nat.reduceDiv, Nat.reduceMod, Nat.reduceSub, slAt_zero, Array.getD_eq_getD_getElem?, List.size_toArray, bitsN, minN, Int.reducePow, Nat.reducePow, ty0, ty1, ty2, ty3, ty4, ty5, ty6, ty7, ty8, ty9, ty10, ty11, ty12, ty13, ty14, ty15, ty16, ty17, ty18, ty19, ty20, ty21, setV, List.toList_toArray, wd_or, wd_and, Fin_ret]
  exact fun E => rfl
set_option maxHeartbeats 1000000 in
theorem not_any (S : CS) (w : World) : Calls Tryz.prog 144 #[setV S] w fun e w' => e = .returned (setV (~~~S)) ∧ Keeps w [] w' := by
  have h0 := wd_not S 0 (by omega)
  have h1 := wd_not S 1 (by omega)
  have h2 := wd_not S 2 (by omega)
  have h3 := wd_not S 3 (by omega)
  refine calls_pure (nt := 16) [.cell 2 209] Tryz.func144 rfl rfl rfl ?_
  refine Wp.sreg Γ0 hmix (by simp only [if_true, if_false, List.toList_toArray, Option.isNone_none, Option.isNone_some, Option.isSome_none, Option.isSome_some, and_true, true_and, and_self, true_imp_iff, forall_const, List.append_nil, List.nil_append, List.cons_append, cond_true, cond_false, List.map_cons, List.map_nil, Bool.true_and, Bool.and_true, beq_false, beq_true, imp_self, implies_true, Bool.cond_self, Option.bind_some, List.getElem?_toArray, List.getElem?_cons_zero, List.getElem?_cons_succ, List.length_cons, List.length_nil, List.getD_cons_zero, List.getD_cons_succ, List.take_succ_cons, List.take_zero, List.drop_succ_cons, List.drop_zero, List.zip_cons_cons, List.zip_nil_right, Option.getD_some, List.all_cons, List.all_nil, Bool.cond_true_left, Bool.cond_false_right, Bool.cond_true_right, Bool.cond_false_left, ev1, ev2, ev3, ev4, ev5, ev6, ev7, ev8, ev9, Op.operands, Value.cells, semBuild_eq, semBuildSlice_eq, σ0, σB, Option.map_some, List.not_mem_nil, Int.toNat_natCast, Option.toArray_none, Option.toArray_some, List.append_toArray, Nat.reduceEqDiff, Nat.reduceAdd, Nat.reduceMul, Nat.reduceLT, Nat.reduceLeDiff, Nat.add_zero, Nat.zero_add, Nat.reduceBEq, decide_true, decide_false, Bool.not_true, Bool.not_false, List.flatten_cons, List.flatten_nil, List.replicate_succ, List.replicate_zero, List.append_nil, setRange, List.toList_toArray, List.isEmpty_nil, ne_eq, not_true_eq_false, not_false_eq_true, Int.reduceToNat, Nat.mul_one, Nat.one_mul, Nat.zero_mul, Nat.sub_zero, Int.reduceLT, Int.reduceLE, Nat.reduceDiv, Nat.reduceMod, Nat.reduceSub, slAt_zero, Array.getD_eq_getD_getElem?, List.size_toArray, bitsN, minN, Int.reducePow, Nat.reducePow, ty0, ty1, ty2, ty3, ty4, ty5, ty6, ty7, ty8, ty9, ty10, ty11, ty12, ty13, ty14, ty15, ty16, ty17, ty18, ty19, ty20, ty21, setV, List.toList_toArray, wd_or, wd_and, wds]; exact rfl) rfl ?_ ?_
  · first | trivial | omega | exact ⟨_, rfl⟩ | (simp; done) | (unfold maxLen; omega) | (simp <;> omega) | (simp <;> unfold maxLen <;> omega)
  refine Wp.sreg Γ0 hmix (by simp only [if_true, if_false, List.toList_toArray, Option.isNone_none, Option.isNone_some, Option.isSome_none, Option.isSome_some, and_true, true_and, and_self, true_imp_iff, forall_const, List.append_nil, List.nil_append, List.cons_append, cond_true, cond_false, List.map_cons, List.map_nil, Bool.true_and, Bool.and_true, beq_false, beq_true, imp_self, implies_true, Bool.cond_self, Option.bind_some, List.getElem?_toArray, List.getElem?_cons_zero, List.getElem?_cons_succ, List.length_cons, List.length_nil, List.getD_cons_zero, List.getD_cons_succ, List.take_succ_cons, List.take_zero, List.drop_succ_cons, List.drop_zero, List.zip_cons_cons, List.zip_nil_right, Option.getD_some, List.all_cons, List.all_nil, Bool.cond_true_left, Bool.cond_false_right, Bool.cond_true_right, Bool.cond_false_left, ev1, ev2, ev3, ev4, ev5, ev6, ev7, ev8, ev9, Op.operands, Value.cells, semBuild_eq, semBuildSlice_eq, σ0, σB, Option.map_some, List.not_mem_nil, Int.toNat_natCast, Option.toArray_none, Option.toArray_some, List.append_toArray, Nat.reduceEqDiff, Nat.reduceAdd, Nat.reduceMul, Nat.reduceLT, Nat.reduceLeDiff, Nat.add_zero, Nat.zero_add, Nat.reduceBEq, decide_true, decide_false, Bool.not_true, Bool.not_false, List.flatten_cons, List.flatten_nil, List.replicate_succ, List.replicate_zero, List.append_nil, setRange, List.toList_toArray, List.isEmpty_nil, ne_eq, not_true_eq_false, not_false_eq_true, Int.reduceToNat, Nat.mul_one, Nat.one_mul, Nat.zero_mul, Nat.sub_zero, Int.reduceLT, Int.reduceLE, Nat.reduceDiv, Nat.reduceMod, Nat.reduceSub, slAt_zero, Array.getD_eq_getD_getElem?, List.size_toArray, bitsN, minN, Int.reducePow, Nat.reducePow, ty0, ty1, ty2, ty3, ty4, ty5, ty6, ty7, ty8, ty9, ty10, ty11, ty12, ty13, ty14, ty15, ty16, ty17, ty18, ty19, ty20, ty21, setV, List.toList_toArray, wd_or, wd_and, wds, h0, h1, h2, h3]; exact rfl) rfl ?_ ?_
  · first | trivial | omega | exact ⟨_, rfl⟩ | (simp; done) | (unfold maxLen; omega) | (simp <;> omega) | (simp <;> unfold maxLen <;> omega)
  refine Wp.ret ?_
  with_reducible repeat (first | refine Th_normal ?_ | refine Bl_normal ?_ | refine Th_exit ?_ | refine Bl_exit ?_ | refine Bl_exit_ne (by decide) ?_ | refine Th_ret ?_ | refine Bl_ret ?_ | refine Th_panic ?_ | refine Bl_panic ?_)
  simp only [if_true, if_false, List.toList_toArray, Option.isNone_none, Option.isNone_some, Option.isSome_none, Option.isSome_some, and_true, true_and, and_self, true_imp_iff, forall_const, List.append_nil, List.nil_append, List.cons_append, cond_true, cond_false, List.map_cons, List.map_nil, Bool.true_and, Bool.and_true, beq_false, beq_true, imp_self, implies_true, Bool.cond_self, Option.bind_some, List.getElem?_toArray, List.getElem?_cons_zero, List.getElem?_cons_succ, List.length_cons, List.length_nil, List.getD_cons_zero, List.getD_cons_succ, List.take_succ_cons, List.take_zero, List.drop_succ_cons, List.drop_zero, List.zip_cons_cons, List.zip_nil_right, Option.getD_some, List.all_cons, List.all_nil, Bool.cond_true_left, Bool.cond_false_right, Bool.cond_true_right, Bool.cond_false_left, ev1, ev2, ev3, ev4, ev5, ev6, ev7, ev8, ev9, Op.operands, Value.cells, semBuild_eq, semBuildSlice_eq, σ0, σB, Option.map_some, List.not_mem_nil, Int.toNat_natCast, Option.toArray_none, Option.toArray_some, List.append_toArray, Nat.reduceEqDiff, Nat.reduceAdd, Nat.reduceMul, Nat.reduceLT, Nat.reduceLeDiff, Nat.add_zero, Nat.zero_add, Nat.reduceBEq, decide_true, decide_false, Bool.not_true, Bool.not_false, List.flatten_cons, List.flatten_nil, List.replicate_succ, List.replicate_zero, List.append_nil, setRange, List.toList_toArray, List.isEmpty_nil, ne_eq, not_true_eq_false, not_false_eq_true, Int.reduceToNat, Nat.mul_one, Nat.one_mul, Nat.zero_mul, Nat.sub_zero, Int.reduceLT, Int.reduceLE, Nat.reduceDiv, Nat.reduceMod, Nat.reduceSub, slAt_zero, Array.getD_eq_getD_getElem?, List.size_toArray, bitsN, minN, Int.reducePow, Nat.reducePow, ty0, ty1, ty2, ty3, ty4, ty5, ty6, ty7, ty8, ty9, ty10, ty11, ty12, ty13, ty14, ty15, ty16, ty17, ty18, ty19, ty20, ty21, setV, List.toList_toArray, wd_or, wd_and, Fin_ret]
  exact fun E => rfl
set_option maxHeartbeats 1000000 in
theorem has_any (S : CS) (b : Nat) (hb : b < 256) (w : World) : Calls Tryz.prog 171 #[setV S, .int .u8 b] w fun e w' => e = .returned (.bool (S.getLsbD b)) ∧ Keeps w [] w' := by
  have hq : b / 64 < 4 := by omega
  refine calls_pure (nt := 14) [.tmp 4] Tryz.func171 rfl rfl rfl ?_
  refine Wp.sreg Γ0 hmix (by simp only [if_true, if_false, List.toList_toArray, Option.isNone_none, Option.isNone_some, Option.isSome_none, Option.isSome_some, and_true, true_and, and_self, true_imp_iff, forall_const, List.append_nil, List.nil_append, List.cons_append, cond_true, cond_false, List.map_cons, List.map_nil, Bool.true_and, Bool.and_true, beq_false, beq_true, imp_self, implies_true, Bool.cond_self, Option.bind_some, List.getElem?_toArray, List.getElem?_cons_zero, List.getElem?_cons_succ, List.length_cons, List.length_nil, List.getD_cons_zero, List.getD_cons_succ, List.take_succ_cons, List.take_zero, List.drop_succ_cons, List.drop_zero, List.zip_cons_cons, List.zip_nil_right, Option.getD_some, List.all_cons, List.all_nil, Bool.cond_true_left, Bool.cond_false_right, Bool.cond_true_right, Bool.cond_false_left, ev1, ev2, ev3, ev4, ev5, ev6, ev7, ev8, ev9, Op.operands, Value.cells, semBuild_eq, semBuildSlice_eq, σ0, σB, Option.map_some, List.not_mem_nil, Int.toNat_natCast, Option.toArray_none, Option.toArray_some, List.append_toArray, Nat.reduceEqDiff, Nat.reduceAdd, Nat.reduceMul, Nat.reduceLT, Nat.reduceLeDiff, Nat.add_zero, Nat.zero_add, Nat.reduceBEq, decide_true, decide_false, Bool.not_true, Bool.not_false, List.flatten_cons, List.flatten_nil, List.replicate_succ, List.replicate_zero, List.append_nil, setRange, List.toList_toArray, List.isEmpty_nil, ne_eq, not_true_eq_false, not_false_eq_true, Int.reduceToNat, Nat.mul_one, Nat.one_mul, Nat.zero_mul, Nat.sub_zero, Int.reduceLT, Int.reduceLE, Nat.reduceDiv, Nat.reduceMod, Nat.reduceSub, slAt_zero, Array.getD_eq_getD_getElem?, List.size_toArray, bitsN, minN, Int.reducePow, Nat.reducePow, ty0, ty1, ty2, ty3, ty4, ty5, ty6, ty7, ty8, ty9, ty10, ty11, ty12, ty13, ty14, ty15, ty16, ty17, ty18, ty19, ty20, ty21, setV, List.toList_toArray, wd_or, wd_and]; exact rfl) rfl ?_ ?_
  · first | trivial | omega | exact ⟨_, rfl⟩ | (simp; done) | (unfold maxLen; omega) | (simp <;> omega) | (simp <;> unfold maxLen <;> omega)
  refine Wp.sreg Γ0 hmix (by simp only [if_true, if_false, List.toList_toArray, Option.isNone_none, Option.isNone_some, Option.isSome_none, Option.isSome_some, and_true, true_and, and_self, true_imp_iff, forall_const, List.append_nil, List.nil_append, List.cons_append, cond_true, cond_false, List.map_cons, List.map_nil, Bool.true_and, Bool.and_true, beq_false, beq_true, imp_self, implies_true, Bool.cond_self, Option.bind_some, List.getElem?_toArray, List.getElem?_cons_zero, List.getElem?_cons_succ, List.length_cons, List.length_nil, List.getD_cons_zero, List.getD_cons_succ, List.take_succ_cons, List.take_zero, List.drop_succ_cons, List.drop_zero, List.zip_cons_cons, List.zip_nil_right, Option.getD_some, List.all_cons, List.all_nil, Bool.cond_true_left, Bool.cond_false_right, Bool.cond_true_right, Bool.cond_false_left, ev1, ev2, ev3, ev4, ev5, ev6, ev7, ev8, ev9, Op.operands, Value.cells, semBuild_eq, semBuildSlice_eq, σ0, σB, Option.map_some, List.not_mem_nil, Int.toNat_natCast, Option.toArray_none, Option.toArray_some, List.append_toArray, Nat.reduceEqDiff, Nat.reduceAdd, Nat.reduceMul, Nat.reduceLT, Nat.reduceLeDiff, Nat.add_zero, Nat.zero_add, Nat.reduceBEq, decide_true, decide_false, Bool.not_true, Bool.not_false, List.flatten_cons, List.flatten_nil, List.replicate_succ, List.replicate_zero, List.append_nil, setRange, List.toList_toArray, List.isEmpty_nil, ne_eq, not_true_eq_false, not_false_eq_true, Int.reduceToNat, Nat.mul_one, Nat.one_mul, Nat.zero_mul, Nat.sub_zero, Int.reduceLT, Int.reduceLE, Nat.reduceDiv, Nat.reduceMod, Nat.reduceSub, slAt_zero, Array.getD_eq_getD_getElem?, List.size_toArray, bitsN, minN, Int.reducePow, Nat.reducePow, ty0, ty1, ty2, ty3, ty4, ty5, ty6, ty7, ty8, ty9, ty10, ty11, ty12, ty13, ty14, ty15, ty16, ty17, ty18, ty19, ty20, ty21, setV, List.toList_toArray, wd_or, wd_and, fdiv64, and63_u8 b hb, wds_getSV S _ hq, wd_has S b hb, wds_len]; exact rfl) rfl ?_ ?_
  · first | trivial | omega | exact ⟨_, rfl⟩ | (simp; done) | (unfold maxLen; omega) | (simp <;> omega) | (simp <;> unfold maxLen <;> omega)
  refine Wp.ret ?_
  with_reducible repeat (first | refine Th_normal ?_ | refine Bl_normal ?_ | refine Th_exit ?_ | refine Bl_exit ?_ | refine Bl_exit_ne (by decide) ?_ | refine Th_ret ?_ | refine Bl_ret ?_ | refine Th_panic ?_ | refine Bl_panic ?_)
  simp only [if_true, if_false, List.toList_toArray, Option.isNone_none, Option.isNone_some, Option.isSome_none, Option.isSome_some, and_true, true_and, and_self, true_imp_iff, forall_const, List.append_nil, List.nil_append, List.cons_append, cond_true, cond_false, List.map_cons, List.map_nil, Bool.true_and, Bool.and_true, beq_false, beq_true, imp_self, implies_true, Bool.cond_self, Option.bind_some, List.getElem?_toArray, List.getElem?_cons_zero, List.getElem?_cons_succ, List.length_cons, List.length_nil, List.getD_cons_zero, List.getD_cons_succ, List.take_succ_cons, List.take_zero, List.drop_succ_cons, List.drop_zero, List.zip_cons_cons, List.zip_nil_right, Option.getD_some, List.all_cons, List.all_nil, Bool.cond_true_left, Bool.cond_false_right, Bool.cond_true_right, Bool.cond_false_left, ev1, ev2, ev3, ev4, ev5, ev6, ev7, ev8, ev9, Op.operands, Value.cells, semBuild_eq, semBuildSlice_eq, σ0, σB, Option.map_some, List.not_mem_nil, Int.toNat_natCast, Option.toArray_none, Option.toArray_some, List.append_toArray, Nat.reduceEqDiff, Nat.reduceAdd, Nat.reduceMul, Nat.reduceLT, Nat.reduceLeDiff, Nat.add_zero, Nat.zero_add, Nat.reduceBEq, decide_true, decide_false, Bool.not_true, Bool.not_false, List.flatten_cons, List.flatten_nil, List.replicate_succ, List.replicate_zero, List.append_nil, setRange, List.toList_toArray, List.isEmpty_nil, ne_eq, not_true_eq_false, not_false_eq_true, Int.reduceToNat, Nat.mul_one, Nat.one_mul, Nat.zero_mul, Nat.sub_zero, Int.reduceLT, Int.reduceLE, Nat.reduceDiv, Nat.reduceMod, Nat.reduceSub, slAt_zero, Array.getD_eq_getD_getElem?, List.size_toArray, bitsN, minN, Int.reducePow, Nat.reducePow, ty0, ty1, ty2, ty3, ty4, ty5, ty6, ty7, ty8, ty9, ty10, ty11, ty12, ty13, ty14, ty15, ty16, ty17, ty18, ty19, ty20, ty21, setV, List.toList_toArray, wd_or, wd_and, Fin_ret]
  exact fun E => rfl
end Go.Proofs.YtohmdnnagmjnkaaGreatDoor
end
