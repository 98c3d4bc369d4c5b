/-
  The walk of loupelaw24.EditApplies.
-/
import Derived.Test.YtoglkgbjehbcpaaHD
import Derived.Test.YtoglkgbjehbcpaaN
namespace Go.Proofs.Ytoglkgbjehbcpaa
open Go.RowKit Go.LE
set_option linter.unusedSimpArgs false
set_option linter.unusedVariables false
-- G: (Γ7 l)
-- S+: arr_getD, List.size_toArray, Gt7c7, Gt7c8, Gt7c9, Gt7c10, Gt7c11, Gt7c12, Gt7ceq29, eq29_f, semF_K, semFK_some, pureC_ev, makeC_ev, speaksC_pre, speaksC_res, faultV, applyC_res, docC_T, docC_s, docC_n, docC_vs, docC_tm, handC_tm, handTm

/-- edits, as an argument -/
theorem ed_av {W : World} {bs : List Nat} {ao : Option Addr} {c : Nat} {l : List Ed} (h : SlX W (Out bs) ao (l.flatMap Ed.cells)) : avIs W bs 3 l.length (l.flatMap Ed.cells) (.val (.slice ao l.length c)) := h.av (cells_len l)

def handC (l : List Ed) : FactC Try.prog 8 where
  pre := fun as_ W S => match as_ with | [.val (.slice ao n c)] => n = l.length ∧ l.length ≤ 1048576 ∧ SlX W S ao (l.flatMap Ed.cells) | _ => False
  tm := handTm
  Φ := fun _ => handΦ l
  premono := fun as_ W S W' S' hs h => by
    split at h
    · exact ⟨h.1, h.2.1, h.2.2.mono hs⟩
    · exact h.elim
  mono := fun _ cs W S W' S' hs h => handΦ_mono l cs W S W' S' hs h
  tmg := fun E k => rfl
  tmk := fun k j hj => by simpa [handTm, SV.keys, keysL] using hj
  enters := Try.call8
  ok := fun w S us as_ hu hp => by
    split at hp
    · rename_i ao n c
      obtain ⟨rfl, h1, h2⟩ := hp
      match us, hu with
      | [u], hu =>
        obtain ⟨rfl, _⟩ := hu
        exact handed_any l ao c w S h1 h2.is
    · exact hp.elim
theorem handC_tm (l : List Ed) : (handC l).tm = handTm := rfl

def docC : MakeC Try.prog 11 where
  pre := fun W bs => fun | [a] => ∃ l : List Ed, avIs W bs 3 l.length (l.flatMap Ed.cells) a ∧ l.length ≤ 1048576 | _ => False
  T := 62
  s := 3
  n := fun W => fun | [a] => (decE (avVals W 3 a)).length | _ => 0
  vs := fun W => fun | [a] => (decE (avVals W 3 a)).flatMap Ed.cells | _ => []
  tm := fun _ _ x => x
  g := fun _ _ v => v
  tmg := fun _ _ _ _ => rfl
  tmk := fun _ _ _ _ h => h
  enters := Try.call11
  ok := by
    intro W w bs us as_ hk hu hp
    split at hp
    · rename_i a
      obtain ⟨l, h1, h2⟩ := hp
      match us, hu with
      | [u], hu =>
        obtain ⟨ao, c, rfl, hsl⟩ := avIs_sl hk hu.1 h1
        simp only [avVals_eq h1, decE_cells]
        exact doc_any l ao c w h2 hsl
    · exact hp.elim
theorem docC_T : docC.T = 62 := rfl
theorem docC_s : docC.s = 3 := rfl
theorem docC_n (W : World) (a : AV) : docC.n W [a] = (decE (avVals W 3 a)).length := rfl
theorem docC_vs (W : World) (a : AV) : docC.vs W [a] = (decE (avVals W 3 a)).flatMap Ed.cells := rfl
theorem docC_tm (W : World) (as_ : List AV) (x : SV) : docC.tm W as_ x = x := rfl

def rapplyC : PureC Try.prog 10 where
  pre := fun W bs => fun | [.val (.string s), a] => ∃ l : List Ed, avIs W bs 3 l.length (l.flatMap Ed.cells) a ∧ s.size ≤ 140737488351232 ∧ ∀ e ∈ l, e.put.size ≤ 140737488351232 | _ => False
  res := fun W => fun | [.val (.string s), a] => .tuple #[.string (rapply s (decE (avVals W 3 a))).1, .int .i64 (rapply s (decE (avVals W 3 a))).2.1, .int .i64 (rapply s (decE (avVals W 3 a))).2.2] | _ => undef
  enters := Try.call10
  ok := by
    intro W w bs us as_ hk hu hp
    split at hp
    · rename_i s a
      obtain ⟨l, h1, h2, h3⟩ := hp
      match us, hu with
      | [u, v], hu =>
        obtain ⟨rfl, hv, _⟩ := hu
        obtain ⟨ao, c, rfl, hsl⟩ := avIs_sl hk hv h1
        simp only [avVals_eq h1, decE_cells]
        exact rapply_any s l ao c w h2 h3 hsl
    · exact hp.elim

def keptC (l : List Ed) : PureC Try.prog 12 where
  pre := fun W bs => fun | [.val (.slice ao m c), .val (.slice ao' n c')] => m = l.length + 1 ∧ n = l.length ∧ l.length ≤ 1048576 ∧ SlX W (Out bs) ao ((l ++ [mark]).flatMap Ed.cells) ∧ SlX W (Out bs) ao' (l.flatMap Ed.cells) | _ => False
  res := fun W _ => .bool true
  enters := Try.call12
  ok := by
    intro W w bs us as_ hk hu hp
    split at hp
    · rename_i ao m c ao' n c'
      obtain ⟨rfl, rfl, h1, h2, h3⟩ := hp
      match us, hu with
      | [u, v], hu =>
        obtain ⟨rfl, rfl, _⟩ := hu
        exact kept_any l ao ao' c c' w h1 (h2.mono hk.sees).is (h3.mono hk.sees).is
    · exact hp.elim

def Γ7 (l : List Ed) : Env Try.prog := ⟨fun | 7 => some speaksC.spec | 8 => some (handC l).spec | 9 => some applyC.spec | 10 => some rapplyC.spec | 11 => some docC.spec | 12 => some (keptC l).spec | _ => none, fun | 29 => some eq29 | _ => none, fun _ _ => none⟩
theorem Gt7c7 (l : List Ed) : (Γ7 l).sp 7 = some speaksC.spec := rfl
theorem Gt7c8 (l : List Ed) : (Γ7 l).sp 8 = some (handC l).spec := rfl
theorem Gt7c9 (l : List Ed) : (Γ7 l).sp 9 = some applyC.spec := rfl
theorem Gt7c10 (l : List Ed) : (Γ7 l).sp 10 = some rapplyC.spec := rfl
theorem Gt7c11 (l : List Ed) : (Γ7 l).sp 11 = some docC.spec := rfl
theorem Gt7c12 (l : List Ed) : (Γ7 l).sp 12 = some (keptC l).spec := rfl
theorem Gt7ceq29 (l : List Ed) : (Γ7 l).eqs 29 = some eq29 := rfl

set_option maxHeartbeats 2000000 in
theorem applies_any (s : ByteArray) (l : List Ed) (ao : Option Addr) (c : Nat) (w : World) (hs : s.size ≤ 140737488351232) (hp : ∀ e ∈ l, e.put.size ≤ 140737488351232) (hln : l.length ≤ 1048576) (hl : SlIs w ao (l.flatMap Ed.cells)) :
    Calls Try.prog 3 #[.string s, .slice ao l.length c] w fun e w' => e = .returned (.bool true) ∧ Keeps w [] w' := by
  have hlx : SlX w (Out []) ao (l.flatMap Ed.cells) := (SlX.of_is hl).out fun b _ => by simp [Out]
  refine calls_pure (nt := 48) [.tmp 4] Try.func3 rfl rfl rfl ?_
  refine Wp.sreg (Γ7 l) hmix (by simp only [if_true, if_false, List.toList_toArray, Option.isNone_none, Option.isNone_some, Option.isSome_none, Option.isSome_some, and_true, true_and, and_self, true_imp_iff, forall_const, List.append_nil, List.nil_append, List.cons_append, cond_true, cond_false, List.map_cons, List.map_nil, Bool.true_and, Bool.and_true, beq_false, beq_true, imp_self, implies_true, Bool.cond_self, Option.bind_some, List.getElem?_toArray, List.getElem?_cons_zero, List.getElem?_cons_succ, List.length_cons, List.length_nil, List.getD_cons_zero, List.getD_cons_succ, List.take_succ_cons, List.take_zero, List.drop_succ_cons, List.drop_zero, List.zip_cons_cons, List.zip_nil_right, Option.getD_some, List.all_cons, List.all_nil, Bool.cond_true_left, Bool.cond_false_right, Bool.cond_true_right, Bool.cond_false_left, ev1, ev2, ev3, ev4, ev5, ev6, tyF0, tyF1, tyF2, tyF3, tyF4, tyF5, tyF6, tyF7, tyF8, tyF9, Op.operands, Value.cells, semBuild_eq, σ0, Option.map_some, List.not_mem_nil, Int.toNat_natCast, Option.toArray_none, Option.toArray_some, List.append_toArray, Nat.reduceEqDiff, Nat.reduceAdd, Nat.reduceMul, Nat.reduceLT, Nat.reduceLeDiff, Nat.add_zero, Nat.zero_add, Nat.reduceBEq, decide_true, decide_false, Bool.not_true, Bool.not_false, List.flatten_cons, List.flatten_nil, List.replicate_succ, List.replicate_zero, List.append_nil, setRange, List.toList_toArray, List.isEmpty_nil, ne_eq, not_true_eq_false, not_false_eq_true, arr_getD, List.size_toArray, Gt7c7, Gt7c8, Gt7c9, Gt7c10, Gt7c11, Gt7c12, Gt7ceq29, eq29_f, semF_K, semFK_some, pureC_ev, makeC_ev, speaksC_pre, speaksC_res, faultV, applyC_res, docC_T, docC_s, docC_n, docC_vs, docC_tm, handC_tm, handTm]; exact rfl) rfl ?_ ?_
  · trivial
  refine Wp.seq ?_
  refine Wp.sreg (Γ7 l) hmix (by simp only [if_true, if_false, List.toList_toArray, Option.isNone_none, Option.isNone_some, Option.isSome_none, Option.isSome_some, and_true, true_and, and_self, true_imp_iff, forall_const, List.append_nil, List.nil_append, List.cons_append, cond_true, cond_false, List.map_cons, List.map_nil, Bool.true_and, Bool.and_true, beq_false, beq_true, imp_self, implies_true, Bool.cond_self, Option.bind_some, List.getElem?_toArray, List.getElem?_cons_zero, List.getElem?_cons_succ, List.length_cons, List.length_nil, List.getD_cons_zero, List.getD_cons_succ, List.take_succ_cons, List.take_zero, List.drop_succ_cons, List.drop_zero, List.zip_cons_cons, List.zip_nil_right, Option.getD_some, List.all_cons, List.all_nil, Bool.cond_true_left, Bool.cond_false_right, Bool.cond_true_right, Bool.cond_false_left, ev1, ev2, ev3, ev4, ev5, ev6, tyF0, tyF1, tyF2, tyF3, tyF4, tyF5, tyF6, tyF7, tyF8, tyF9, Op.operands, Value.cells, semBuild_eq, σ0, Option.map_some, List.not_mem_nil, Int.toNat_natCast, Option.toArray_none, Option.toArray_some, List.append_toArray, Nat.reduceEqDiff, Nat.reduceAdd, Nat.reduceMul, Nat.reduceLT, Nat.reduceLeDiff, Nat.add_zero, Nat.zero_add, Nat.reduceBEq, decide_true, decide_false, Bool.not_true, Bool.not_false, List.flatten_cons, List.flatten_nil, List.replicate_succ, List.replicate_zero, List.append_nil, setRange, List.toList_toArray, List.isEmpty_nil, ne_eq, not_true_eq_false, not_false_eq_true, arr_getD, List.size_toArray, Gt7c7, Gt7c8, Gt7c9, Gt7c10, Gt7c11, Gt7c12, Gt7ceq29, eq29_f, semF_K, semFK_some, pureC_ev, makeC_ev, speaksC_pre, speaksC_res, faultV, applyC_res, docC_T, docC_s, docC_n, docC_vs, docC_tm, handC_tm, handTm]; exact rfl) rfl ?_ ?_
  · trivial
  refine Wp.cond (by simp only [if_true, if_false, List.toList_toArray, Option.isNone_none, Option.isNone_some, Option.isSome_none, Option.isSome_some, and_true, true_and, and_self, true_imp_iff, forall_const, List.append_nil, List.nil_append, List.cons_append, cond_true, cond_false, List.map_cons, List.map_nil, Bool.true_and, Bool.and_true, beq_false, beq_true, imp_self, implies_true, Bool.cond_self, Option.bind_some, List.getElem?_toArray, List.getElem?_cons_zero, List.getElem?_cons_succ, List.length_cons, List.length_nil, List.getD_cons_zero, List.getD_cons_succ, List.take_succ_cons, List.take_zero, List.drop_succ_cons, List.drop_zero, List.zip_cons_cons, List.zip_nil_right, Option.getD_some, List.all_cons, List.all_nil, Bool.cond_true_left, Bool.cond_false_right, Bool.cond_true_right, Bool.cond_false_left, ev1, ev2, ev3, ev4, ev5, ev6, tyF0, tyF1, tyF2, tyF3, tyF4, tyF5, tyF6, tyF7, tyF8, tyF9, Op.operands, Value.cells, semBuild_eq, σ0, Option.map_some, List.not_mem_nil, Int.toNat_natCast, Option.toArray_none, Option.toArray_some, List.append_toArray, Nat.reduceEqDiff, Nat.reduceAdd, Nat.reduceMul, Nat.reduceLT, Nat.reduceLeDiff, Nat.add_zero, Nat.zero_add, Nat.reduceBEq, decide_true, decide_false, Bool.not_true, Bool.not_false, List.flatten_cons, List.flatten_nil, List.replicate_succ, List.replicate_zero, List.append_nil, setRange, List.toList_toArray, List.isEmpty_nil, ne_eq, not_true_eq_false, not_false_eq_true, arr_getD, List.size_toArray, Gt7c7, Gt7c8, Gt7c9, Gt7c10, Gt7c11, Gt7c12, Gt7ceq29, eq29_f, semF_K, semFK_some, pureC_ev, makeC_ev, speaksC_pre, speaksC_res, faultV, applyC_res, docC_T, docC_s, docC_n, docC_vs, docC_tm, handC_tm, handTm]; exact rfl) (by trivial) (fun hc => ?_) (fun hc => ?_)
  · cases hc
  refine Wp.skip ?_
  repeat (first | refine Th_normal ?_ | refine Bl_normal ?_ | refine Th_exit ?_ | refine Bl_exit ?_ | refine Bl_exit_ne (by decide) ?_ | refine Th_ret ?_ | refine Bl_ret ?_)
  refine Wp.sreg (Γ7 l) hmix (by simp only [if_true, if_false, List.toList_toArray, Option.isNone_none, Option.isNone_some, Option.isSome_none, Option.isSome_some, and_true, true_and, and_self, true_imp_iff, forall_const, List.append_nil, List.nil_append, List.cons_append, cond_true, cond_false, List.map_cons, List.map_nil, Bool.true_and, Bool.and_true, beq_false, beq_true, imp_self, implies_true, Bool.cond_self, Option.bind_some, List.getElem?_toArray, List.getElem?_cons_zero, List.getElem?_cons_succ, List.length_cons, List.length_nil, List.getD_cons_zero, List.getD_cons_succ, List.take_succ_cons, List.take_zero, List.drop_succ_cons, List.drop_zero, List.zip_cons_cons, List.zip_nil_right, Option.getD_some, List.all_cons, List.all_nil, Bool.cond_true_left, Bool.cond_false_right, Bool.cond_true_right, Bool.cond_false_left, ev1, ev2, ev3, ev4, ev5, ev6, tyF0, tyF1, tyF2, tyF3, tyF4, tyF5, tyF6, tyF7, tyF8, tyF9, Op.operands, Value.cells, semBuild_eq, σ0, Option.map_some, List.not_mem_nil, Int.toNat_natCast, Option.toArray_none, Option.toArray_some, List.append_toArray, Nat.reduceEqDiff, Nat.reduceAdd, Nat.reduceMul, Nat.reduceLT, Nat.reduceLeDiff, Nat.add_zero, Nat.zero_add, Nat.reduceBEq, decide_true, decide_false, Bool.not_true, Bool.not_false, List.flatten_cons, List.flatten_nil, List.replicate_succ, List.replicate_zero, List.append_nil, setRange, List.toList_toArray, List.isEmpty_nil, ne_eq, not_true_eq_false, not_false_eq_true, arr_getD, List.size_toArray, Gt7c7, Gt7c8, Gt7c9, Gt7c10, Gt7c11, Gt7c12, Gt7ceq29, eq29_f, semF_K, semFK_some, pureC_ev, makeC_ev, speaksC_pre, speaksC_res, faultV, applyC_res, docC_T, docC_s, docC_n, docC_vs, docC_tm, handC_tm, handTm]; exact rfl) rfl ?_ ?_
  · exact ⟨rfl, hln, hlx⟩
  refine Wp.freeze 0 [] (fun E => [(0, .is (.v (.string s))), (1, .is (.v (.slice ao l.length c))), (5, .is (.v (hv (partV (E 32) 0)))), (6, .is (.v (hv (partV (E 32) 1))))]) (fun E => []) (fun E => rfl) (fun E => ⟨by simp [FV.keys, SV.keys], by simp⟩) (fun E => ?_) (fun E => trivial) (by simp) ?_
  simp only [if_true, if_false, List.toList_toArray, Option.isNone_none, Option.isNone_some, Option.isSome_none, Option.isSome_some, and_true, true_and, and_self, true_imp_iff, forall_const, List.append_nil, List.nil_append, List.cons_append, cond_true, cond_false, List.map_cons, List.map_nil, Bool.true_and, Bool.and_true, beq_false, beq_true, imp_self, implies_true, Bool.cond_self, Option.bind_some, List.getElem?_toArray, List.getElem?_cons_zero, List.getElem?_cons_succ, List.length_cons, List.length_nil, List.getD_cons_zero, List.getD_cons_succ, List.take_succ_cons, List.take_zero, List.drop_succ_cons, List.drop_zero, List.zip_cons_cons, List.zip_nil_right, Option.getD_some, List.all_cons, List.all_nil, Bool.cond_true_left, Bool.cond_false_right, Bool.cond_true_right, Bool.cond_false_left, ev1, ev2, ev3, ev4, ev5, ev6, tyF0, tyF1, tyF2, tyF3, tyF4, tyF5, tyF6, tyF7, tyF8, tyF9, Op.operands, Value.cells, semBuild_eq, σ0, Option.map_some, List.not_mem_nil, Int.toNat_natCast, Option.toArray_none, Option.toArray_some, List.append_toArray, Nat.reduceEqDiff, Nat.reduceAdd, Nat.reduceMul, Nat.reduceLT, Nat.reduceLeDiff, Nat.add_zero, Nat.zero_add, Nat.reduceBEq, decide_true, decide_false, Bool.not_true, Bool.not_false, List.flatten_cons, List.flatten_nil, List.replicate_succ, List.replicate_zero, List.append_nil, setRange, List.toList_toArray, List.isEmpty_nil, ne_eq, not_true_eq_false, not_false_eq_true, arr_getD, List.size_toArray, Gt7c7, Gt7c8, Gt7c9, Gt7c10, Gt7c11, Gt7c12, Gt7ceq29, eq29_f, semF_K, semFK_some, pureC_ev, makeC_ev, speaksC_pre, speaksC_res, faultV, applyC_res, docC_T, docC_s, docC_n, docC_vs, docC_tm, handC_tm, handTm, frEq, fvEq, den]
  rintro W' bs' E F hx hs' hb1 hb2
  obtain ⟨cs, hE, ao', c', hcs, hsl⟩ := fact_stands (k := 32) hs' rfl hx.sees (hb2 32 _ rfl (by simp))
  subst hcs
  clear hs' hb1 hb2
  rw [hE, partV_bundle, partV_bundle, show hv ([Value.slice ao' l.length c', .slice ao' (l.length + 1) c'].getD 0 .nilIface) = .slice ao' l.length c' from rfl, show hv ([Value.slice ao' l.length c', .slice ao' (l.length + 1) c'].getD 1 .nilIface) = .slice ao' (l.length + 1) c' from rfl]
  have h1 : SlX W' (Out bs') ao' (l.flatMap Ed.cells) := by rw [List.flatMap_append] at hsl; exact hsl.take
  have h2 := hlx.mono hx.sees
  have hav : avIs W' bs' 3 l.length (l.flatMap Ed.cells) (.val (.slice ao' l.length c')) := ed_av h1
  have hav2 : avIs W' bs' 3 l.length (l.flatMap Ed.cells) (.val (.slice ao l.length c)) := ed_av h2
  have hp1 : applyC.pre W' bs' [.val (.string s), .val (.slice ao' l.length c')] := ⟨l, hav, hs, hp⟩
  have hr1 : decE (avVals W' 3 (.val (.slice ao' l.length c'))) = l := by rw [avVals_eq hav, decE_cells]
  have hp2 : docC.pre W' bs' [.val (.slice ao l.length c)] := ⟨l, hav2, hln⟩
  have hr2 : decE (avVals W' 3 (.val (.slice ao l.length c))) = l := by rw [avVals_eq hav2, decE_cells]
  have hp3 : rapplyC.pre W' bs' [.val (.string s), .row 62 3 l.length (l.flatMap Ed.cells)] := ⟨l, ⟨rfl, rfl, rfl⟩, hs, hp⟩
  have hr3 : rapplyC.res W' [.val (.string s), .row 62 3 l.length (l.flatMap Ed.cells)] = .tuple #[.string (rapply s l).1, .int .i64 (rapply s l).2.1, .int .i64 (rapply s l).2.2] := by
    show Value.tuple #[.string (rapply s (decE (l.flatMap Ed.cells))).1, .int .i64 (rapply s (decE (l.flatMap Ed.cells))).2.1, .int .i64 (rapply s (decE (l.flatMap Ed.cells))).2.2] = _
    rw [decE_cells]
  have hp4 : (keptC l).pre W' bs' [.val (.slice ao' (l.length + 1) c'), .val (.slice ao l.length c)] := ⟨rfl, rfl, hln, hsl, h2⟩
  have hr4 : ∀ as_, (keptC l).res W' as_ = .bool true := fun _ => rfl
  refine Wp.sreg (Γ7 l) hmix (by simp only [if_true, if_false, List.toList_toArray, Option.isNone_none, Option.isNone_some, Option.isSome_none, Option.isSome_some, and_true, true_and, and_self, true_imp_iff, forall_const, List.append_nil, List.nil_append, List.cons_append, cond_true, cond_false, List.map_cons, List.map_nil, Bool.true_and, Bool.and_true, beq_false, beq_true, imp_self, implies_true, Bool.cond_self, Option.bind_some, List.getElem?_toArray, List.getElem?_cons_zero, List.getElem?_cons_succ, List.length_cons, List.length_nil, List.getD_cons_zero, List.getD_cons_succ, List.take_succ_cons, List.take_zero, List.drop_succ_cons, List.drop_zero, List.zip_cons_cons, List.zip_nil_right, Option.getD_some, List.all_cons, List.all_nil, Bool.cond_true_left, Bool.cond_false_right, Bool.cond_true_right, Bool.cond_false_left, ev1, ev2, ev3, ev4, ev5, ev6, tyF0, tyF1, tyF2, tyF3, tyF4, tyF5, tyF6, tyF7, tyF8, tyF9, Op.operands, Value.cells, semBuild_eq, σ0, Option.map_some, List.not_mem_nil, Int.toNat_natCast, Option.toArray_none, Option.toArray_some, List.append_toArray, Nat.reduceEqDiff, Nat.reduceAdd, Nat.reduceMul, Nat.reduceLT, Nat.reduceLeDiff, Nat.add_zero, Nat.zero_add, Nat.reduceBEq, decide_true, decide_false, Bool.not_true, Bool.not_false, List.flatten_cons, List.flatten_nil, List.replicate_succ, List.replicate_zero, List.append_nil, setRange, List.toList_toArray, List.isEmpty_nil, ne_eq, not_true_eq_false, not_false_eq_true, arr_getD, List.size_toArray, Gt7c7, Gt7c8, Gt7c9, Gt7c10, Gt7c11, Gt7c12, Gt7ceq29, eq29_f, semF_K, semFK_some, pureC_ev, makeC_ev, speaksC_pre, speaksC_res, faultV, applyC_res, docC_T, docC_s, docC_n, docC_vs, docC_tm, handC_tm, handTm, hp1, hr1]; exact rfl) rfl ?_ ?_
  · simp
  refine Wp.sreg (Γ7 l) hmix (by simp only [if_true, if_false, List.toList_toArray, Option.isNone_none, Option.isNone_some, Option.isSome_none, Option.isSome_some, and_true, true_and, and_self, true_imp_iff, forall_const, List.append_nil, List.nil_append, List.cons_append, cond_true, cond_false, List.map_cons, List.map_nil, Bool.true_and, Bool.and_true, beq_false, beq_true, imp_self, implies_true, Bool.cond_self, Option.bind_some, List.getElem?_toArray, List.getElem?_cons_zero, List.getElem?_cons_succ, List.length_cons, List.length_nil, List.getD_cons_zero, List.getD_cons_succ, List.take_succ_cons, List.take_zero, List.drop_succ_cons, List.drop_zero, List.zip_cons_cons, List.zip_nil_right, Option.getD_some, List.all_cons, List.all_nil, Bool.cond_true_left, Bool.cond_false_right, Bool.cond_true_right, Bool.cond_false_left, ev1, ev2, ev3, ev4, ev5, ev6, tyF0, tyF1, tyF2, tyF3, tyF4, tyF5, tyF6, tyF7, tyF8, tyF9, Op.operands, Value.cells, semBuild_eq, σ0, Option.map_some, List.not_mem_nil, Int.toNat_natCast, Option.toArray_none, Option.toArray_some, List.append_toArray, Nat.reduceEqDiff, Nat.reduceAdd, Nat.reduceMul, Nat.reduceLT, Nat.reduceLeDiff, Nat.add_zero, Nat.zero_add, Nat.reduceBEq, decide_true, decide_false, Bool.not_true, Bool.not_false, List.flatten_cons, List.flatten_nil, List.replicate_succ, List.replicate_zero, List.append_nil, setRange, List.toList_toArray, List.isEmpty_nil, ne_eq, not_true_eq_false, not_false_eq_true, arr_getD, List.size_toArray, Gt7c7, Gt7c8, Gt7c9, Gt7c10, Gt7c11, Gt7c12, Gt7ceq29, eq29_f, semF_K, semFK_some, pureC_ev, makeC_ev, speaksC_pre, speaksC_res, faultV, applyC_res, docC_T, docC_s, docC_n, docC_vs, docC_tm, handC_tm, handTm, hp2, hr2, hp3, hr3]; exact rfl) rfl ?_ ?_
  · simp
  refine Wp.sreg (Γ7 l) hmix (by simp only [if_true, if_false, List.toList_toArray, Option.isNone_none, Option.isNone_some, Option.isSome_none, Option.isSome_some, and_true, true_and, and_self, true_imp_iff, forall_const, List.append_nil, List.nil_append, List.cons_append, cond_true, cond_false, List.map_cons, List.map_nil, Bool.true_and, Bool.and_true, beq_false, beq_true, imp_self, implies_true, Bool.cond_self, Option.bind_some, List.getElem?_toArray, List.getElem?_cons_zero, List.getElem?_cons_succ, List.length_cons, List.length_nil, List.getD_cons_zero, List.getD_cons_succ, List.take_succ_cons, List.take_zero, List.drop_succ_cons, List.drop_zero, List.zip_cons_cons, List.zip_nil_right, Option.getD_some, List.all_cons, List.all_nil, Bool.cond_true_left, Bool.cond_false_right, Bool.cond_true_right, Bool.cond_false_left, ev1, ev2, ev3, ev4, ev5, ev6, tyF0, tyF1, tyF2, tyF3, tyF4, tyF5, tyF6, tyF7, tyF8, tyF9, Op.operands, Value.cells, semBuild_eq, σ0, Option.map_some, List.not_mem_nil, Int.toNat_natCast, Option.toArray_none, Option.toArray_some, List.append_toArray, Nat.reduceEqDiff, Nat.reduceAdd, Nat.reduceMul, Nat.reduceLT, Nat.reduceLeDiff, Nat.add_zero, Nat.zero_add, Nat.reduceBEq, decide_true, decide_false, Bool.not_true, Bool.not_false, List.flatten_cons, List.flatten_nil, List.replicate_succ, List.replicate_zero, List.append_nil, setRange, List.toList_toArray, List.isEmpty_nil, ne_eq, not_true_eq_false, not_false_eq_true, arr_getD, List.size_toArray, Gt7c7, Gt7c8, Gt7c9, Gt7c10, Gt7c11, Gt7c12, Gt7ceq29, eq29_f, semF_K, semFK_some, pureC_ev, makeC_ev, speaksC_pre, speaksC_res, faultV, applyC_res, docC_T, docC_s, docC_n, docC_vs, docC_tm, handC_tm, handTm, hp4, hr4, apply_eq]; exact rfl) rfl ?_ ?_
  · simp
  refine Wp.ret ?_
  repeat (first | refine Th_normal ?_ | refine Bl_normal ?_ | refine Th_exit ?_ | refine Bl_exit ?_ | refine Bl_exit_ne (by decide) ?_ | refine Th_ret ?_ | refine Bl_ret ?_)
  simp only [if_true, if_false, List.toList_toArray, Option.isNone_none, Option.isNone_some, Option.isSome_none, Option.isSome_some, and_true, true_and, and_self, true_imp_iff, forall_const, List.append_nil, List.nil_append, List.cons_append, cond_true, cond_false, List.map_cons, List.map_nil, Bool.true_and, Bool.and_true, beq_false, beq_true, imp_self, implies_true, Bool.cond_self, Option.bind_some, List.getElem?_toArray, List.getElem?_cons_zero, List.getElem?_cons_succ, List.length_cons, List.length_nil, List.getD_cons_zero, List.getD_cons_succ, List.take_succ_cons, List.take_zero, List.drop_succ_cons, List.drop_zero, List.zip_cons_cons, List.zip_nil_right, Option.getD_some, List.all_cons, List.all_nil, Bool.cond_true_left, Bool.cond_false_right, Bool.cond_true_right, Bool.cond_false_left, ev1, ev2, ev3, ev4, ev5, ev6, tyF0, tyF1, tyF2, tyF3, tyF4, tyF5, tyF6, tyF7, tyF8, tyF9, Op.operands, Value.cells, semBuild_eq, σ0, Option.map_some, List.not_mem_nil, Int.toNat_natCast, Option.toArray_none, Option.toArray_some, List.append_toArray, Nat.reduceEqDiff, Nat.reduceAdd, Nat.reduceMul, Nat.reduceLT, Nat.reduceLeDiff, Nat.add_zero, Nat.zero_add, Nat.reduceBEq, decide_true, decide_false, Bool.not_true, Bool.not_false, List.flatten_cons, List.flatten_nil, List.replicate_succ, List.replicate_zero, List.append_nil, setRange, List.toList_toArray, List.isEmpty_nil, ne_eq, not_true_eq_false, not_false_eq_true, arr_getD, List.size_toArray, Gt7c7, Gt7c8, Gt7c9, Gt7c10, Gt7c11, Gt7c12, Gt7ceq29, eq29_f, semF_K, semFK_some, pureC_ev, makeC_ev, speaksC_pre, speaksC_res, faultV, applyC_res, docC_T, docC_s, docC_n, docC_vs, docC_tm, handC_tm, handTm, Fin_ret]
  exact fun E => rfl
end Go.Proofs.Ytoglkgbjehbcpaa
