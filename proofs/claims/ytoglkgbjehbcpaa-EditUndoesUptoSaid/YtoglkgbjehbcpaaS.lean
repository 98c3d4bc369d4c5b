/-
  What copyCheck and WriteString of strings.Builder do, told of the blocks that they write.
-/
import Derived.Shelf.Strings.Builder1
import Derived.Shelf.RegionOpenPlain
import Derived.Test.YtoglkgbjehbcpaaB
namespace Go.Proofs.Ytoglkgbjehbcpaa
open Go.RowKit
set_option linter.unusedSimpArgs false
set_option linter.unusedVariables false

theorem lies53 : liesAt Try.prog Try.prog.depth 53 (2 / Try.prog.cellsOf 53) 0 53 1 = true := by kernel_rfl
theorem size53 : (Try.prog.info? 53).map (·.size) = some 2 := by kernel_rfl
theorem byte5 : (Try.prog.info? 5).map (fun i => (i.zero, i.size, i.bytes)) = some (some (.int .u8 0), 1, 1) := by kernel_rfl

set_option maxHeartbeats 1000000 in
theorem copyCheck_used (b : Nat) (w : World) (h0 : w.cell? ⟨b, 0, none⟩ = some (.pointer (some ⟨b, 0, none⟩))) :
    Calls Try.prog 23 #[.pointer (some ⟨b, 0, none⟩)] w fun e w' => e = .returned (.tuple #[]) ∧ w' = w := by
  obtain ⟨j, hj, _⟩ := Option.map_eq_some_iff.1 size53
  go_enter Try.func23, Try.ntmps23
  go_wp2
  rw [Lib.run_neq_ptr_same w _ Try.underlying50 hj]
  go_wp2
  go_end0
  exact ⟨rfl, rfl⟩

set_option maxHeartbeats 1000000 in
theorem copyCheck_fresh (b : Nat) (w : World) (h0 : w.cell? ⟨b, 0, none⟩ = some (.pointer none)) (hsh : w.shape? b = some (53, 2)) (hfz : w.frozen? ⟨b, 0, none⟩ = false) :
    Calls Try.prog 23 #[.pointer (some ⟨b, 0, none⟩)] w fun e w' => e = .returned (.tuple #[]) ∧ w' = w.setCell ⟨b, 0, none⟩ (.pointer (some ⟨b, 0, none⟩)) := by
  obtain ⟨j, hj, hjs⟩ := Option.map_eq_some_iff.1 size53
  go_enter Try.func23, Try.ntmps23
  go_wp2
  rw [Lib.run_to_unsafe w ⟨b, 0, none⟩ Try.underlying50 Try.underlying64 hj (by rw [hjs]; decide) hsh (Nat.zero_lt_succ 1)]
  simp only [Result.andThen]
  rw [Oper.upon_value]
  go_wp2
  rw [run_callFunc_extern Try.func24 (by kernel_rfl) (by kernel_rfl) (by kernel_rfl) (e := Extern.AbiNoEscape.same) (by kernel_rfl)]
  rw [Lib.run_noEscape]
  simp only [Result.andThen]
  rw [Oper.upon_value]
  go_wp2
  rw [Lib.run_from_unsafe w ⟨b, 0, none⟩ Try.underlying64 Try.underlying50 hj hsh lies53]
  simp only [Result.andThen]
  rw [Oper.upon_value]
  go_wp2
  go_end0
  exact ⟨rfl, rfl⟩

theorem setCell_block {w : World} {b : Nat} {T : TypeId} {x y : Value} (h : w.heap[b]? = some (.cells #[x, y] T (0, 0))) (i : Nat) (v : Value) : (w.setCell ⟨b, i, none⟩ v).heap[b]? = some (.cells (#[x, y].setIfInBounds i v) T (0, 0)) := by
  have hlt : b < w.heap.size := (Array.getElem?_eq_some_iff.1 h).1
  have h' : w.heap[b] = .cells #[x, y] T (0, 0) := (Array.getElem?_eq_some_iff.1 h).2
  show (w.heap.modify b _)[b]? = _
  rw [Array.getElem?_eq_getElem (by simpa using hlt), Array.getElem_modify_self, h']
  rfl
theorem setCell_other {w : World} (a : Addr) (v : Value) (k : Nat) (hk : k ≠ a.block) : (w.setCell a v).heap[k]? = w.heap[k]? := Below.heap_setCell w a v k hk

theorem copyCheck_any (b : Nat) (p v : Value) (w : World) (hbk : w.heap[b]? = some (.cells #[p, v] 53 (0, 0))) (hp : p = .pointer none ∨ p = .pointer (some ⟨b, 0, none⟩)) :
    Calls Try.prog 23 #[.pointer (some ⟨b, 0, none⟩)] w fun e w' => e = .returned (.tuple #[]) ∧ w'.heap[b]? = some (.cells #[.pointer (some ⟨b, 0, none⟩), v] 53 (0, 0)) ∧ w'.heap.size = w.heap.size ∧ LE.Keeps w [b] w' := by
  rcases hp with rfl | rfl
  · refine (copyCheck_fresh b w (by rw [Lib.cell_of_heap hbk]; rfl) (by simp [World.shape?, hbk]) (Lib.frozen_of_heap hbk 0)).mono ?_
    rintro e w' ⟨rfl, rfl⟩
    exact ⟨rfl, setCell_block hbk 0 _, by simp, ⟨rfl, rfl, rfl, by simp, fun k _ hk => setCell_other _ _ k (by simpa using hk)⟩⟩
  · refine (copyCheck_used b w (by rw [Lib.cell_of_heap hbk]; rfl)).mono ?_
    rintro e w' ⟨rfl, rfl⟩
    exact ⟨rfl, hbk, rfl, LE.Keeps.refl _ _⟩

/-- what an append of a string does, told whole -/
theorem run_appendS_told {w : World} (t u ty e : TypeId) (i : TypeInfo) (ht : Try.prog.underlying t = some (.slice e)) (hu : Try.prog.underlying u = some .string) (hi : Try.prog.info? e = some i) (hz : i.zero = some (.int .u8 0))
    (hsize : i.size = 1) (hby : i.bytes = 1) (v : Value) (n : Nat) (xs : List Value) (hown : w.ownsRow 0 e 1 v n xs) (s : ByteArray) (h63 : n + s.size ≤ maxLen) (hbytes : n + s.size ≤ 140737488355328) :
    ∃ v' w', (Builtin.append_ #[t, u] ty #[v, .string s]).run Try.prog w = .ok v' w' ∧ w'.ownsRow 0 e 1 v' (n + s.size) (xs ++ Lib.strCells s) ∧ w.grownBy w' v.ownBlock ∧
      (v'.ownBlock = v.ownBlock ∨ v'.ownBlock = some w.heap.size) := by
  obtain ⟨v', w', hr, h1, h2, h3⟩ := Lib.run_append_own_string (P := Try.prog) w 0 t u ty e i ht hu hi hz hsize hby v n xs hown s h63 hbytes (Nat.zero_le _)
  refine ⟨v', w', hr, h1, h2, ?_⟩
  have hxl : xs.length = n := by simpa using hown.1
  rcases hown.2 with ⟨rfl, rfl⟩ | ⟨g, cap, cur, rfl, hbg, hg, hnc, hcm, hcs, htake⟩
  · by_cases hm : s.size = 0
    · rw [h3.2 ⟨rfl, hm⟩]; exact .inl rfl
    · have hr2 := run_append_nil_string (P := Try.prog) w t u ty e i (.int .u8 0) ht hu hi hz s (by omega) (by simp only [maxLen] at h63; omega) (by rw [hby]; omega)
      rw [hr] at hr2
      cases hr2
      exact .inr rfl
  · by_cases hroom : n + s.size ≤ cap
    · have hr2 := Lib.run_append_room_string (P := Try.prog) w t u ty e i ht hu hi hsize g n cap cur hg s hroom (by rw [hcs]; omega)
      rw [hr] at hr2
      cases hr2
      exact .inl rfl
    · have holds : ∀ j u, xs[j]? = some u → w.cell? ((⟨g, 0, none⟩ : Addr).add j) = some u := hown.cells (g := g) rfl
      have hr2 := Lib.run_append_grow_string (P := Try.prog) w t u ty e i (.int .u8 0) ht hu hi hz ⟨g, 0, none⟩ n cap xs (by rw [hsize]; simpa using hxl) holds s (by omega) (by simp only [maxLen] at h63; omega) (by rw [hby]; exact growslice_fits (by omega) (by omega))
      rw [hr] at hr2
      cases hr2
      exact .inr rfl

theorem wpList_appendS_told {ops : Array Oper} {rest : List Oper} {o : Oper} {a : Act} {w : World} {Q : Exit → Act → World → Prop} (hgd : o.guard = none) (sl x : Operand) (t u : TypeId)
    (ho : o.op = .call { callee := .builtin .append, args := #[sl, x], argTypes := #[t, u] })
    (e : TypeId) (i : TypeInfo) (ht : Try.prog.underlying t = some (.slice e)) (hu : Try.prog.underlying u = some .string) (hi : Try.prog.info? e = some i) (hz : i.zero = some (.int .u8 0))
    (hsize : i.size = 1) (hby : i.bytes = 1)
    (v : Value) (n : Nat) (xs : List Value) (hs : a.eval sl = v) (hown : w.ownsRow 0 e 1 v n xs) (s : ByteArray) (hx : a.eval x = .string s)
    (h63 : n + s.size ≤ maxLen) (hbytes : n + s.size ≤ 140737488355328)
    (h : ∀ v' w', w'.ownsRow 0 e 1 v' (n + s.size) (xs ++ Lib.strCells s) → w.grownBy w' v.ownBlock → (v'.ownBlock = v.ownBlock ∨ v'.ownBlock = some w.heap.size) → wpList Try.prog ops Q rest (a.put o.dst v') w') : wpList Try.prog ops Q (o :: rest) a w := by
  refine wpList_plain hgd fun K hK => ?_
  obtain ⟨v', w', hr, h2, h3, h4⟩ := run_appendS_told (w := w) t u o.type e i ht hu hi hz hsize hby v n xs hown s h63 hbytes
  unfold Oper.wp execOp
  simp only [ho, resolve, invoke, builtin, Sem.run_bind, Sem.run_pure, Result.andThen_ok, List.map_toArray, List.map_cons, List.map_nil, hs, hx, hr]
  exact hK _ _ (h v' w' h2 h3 h4)

/-- a builder that holds s: its two blocks -/
def BldR (d : List Value) (u : Value) (fp : List Nat) (w : World) : Prop :=
  ∃ s b v p, d = [.string s] ∧ u = .pointer (some ⟨b, 0, none⟩) ∧ fp = b :: v.ownBlock.toList ∧ w.heap[b]? = some (.cells #[p, v] 53 (0, 0)) ∧ w.ownsRow 0 5 1 v s.size (Lib.strCells s) ∧ v.ownBlock ≠ some b ∧
    (p = .pointer none ∨ p = .pointer (some ⟨b, 0, none⟩))

theorem BldR.local {d : List Value} {u : Value} {fp : List Nat} {w w' : World} (h : BldR d u fp w) (hl : ∀ b ∈ fp, w'.heap[b]? = w.heap[b]?) : BldR d u fp w' := by
  obtain ⟨s, b, v, p, h1, h2, h3, h4, h5, h6, h7⟩ := h
  refine ⟨s, b, v, p, h1, h2, h3, by rw [hl b (by simp [h3])]; exact h4, ⟨h5.1, ?_⟩, h6, h7⟩
  rcases h5.2 with h | ⟨g, cap, cur, hv, hb, hg, r⟩
  · exact .inl h
  · exact .inr ⟨g, cap, cur, hv, hb, by rw [hl g (by rw [h3, hv]; simp [Value.ownBlock])]; exact hg, r⟩

theorem own_lt {w : World} {v : Value} {n : Nat} {xs : List Value} (h : w.ownsRow 0 5 1 v n xs) : ∀ g, v.ownBlock = some g → g < w.heap.size := by
  intro g hg
  rcases h.2 with ⟨rfl, _⟩ | ⟨g', cap, cur, rfl, _, hh, _⟩
  · cases hg
  · cases hg
    exact (Array.getElem?_eq_some_iff.1 hh).1

set_option maxHeartbeats 2000000 in
theorem writeString_any (u : Value) (fp : List Nat) (s0 s : ByteArray) (w : World) (h : BldR [.string s0] u fp w) (hlen : s0.size + s.size ≤ 140737488355328) :
    Calls Try.prog 19 #[u, .string s] w fun e w' => ∃ fp', e = .returned (.tuple #[.int .i64 s.size, .nilIface]) ∧ BldR [.string (s0 ++ s)] u fp' w' ∧ (∀ b ∈ fp', b ∈ fp ∨ w.heap.size ≤ b) ∧ (∀ b ∈ fp', b < w'.heap.size) ∧ LE.Keeps w fp w' := by
  obtain ⟨s0', b, v, p, hd, rfl, rfl, hbk, hown, hne, hp⟩ := h
  cases hd
  obtain ⟨i0, hi, hz0, hz1, hz2⟩ := info_parts byte5
  have hbs : (Lib.strCells s0).length = s0.size := Lib.strCells_length s0
  have hcc := copyCheck_any b p v w hbk hp
  go_enter Try.func19, Try.ntmps19
  go_wp2_with (refine hcc.mono ?_)
  rintro e w1 ⟨rfl, hbk1, hs1, hk1⟩
  have hg1 : ∀ g, v.ownBlock = some g → w1.heap[g]? = w.heap[g]? := fun g hg => hk1.block g (own_lt hown g hg) (by rintro h; simp at h; subst h; exact hne hg)
  have hown1 : w1.ownsRow 0 5 1 v s0.size (Lib.strCells s0) := by
    refine ⟨hown.1, ?_⟩
    rcases hown.2 with h | ⟨g, cap, cur, hv, hb, hg, r⟩
    · exact .inl h
    · exact .inr ⟨g, cap, cur, hv, hb, by rw [hg1 g (by rw [hv]; rfl)]; exact hg, r⟩
  have c0 : w1.cell? ⟨b, 0, none⟩ = some (.pointer (some ⟨b, 0, none⟩)) := by rw [Lib.cell_of_heap hbk1]; rfl
  have c1 : w1.cell? ⟨b, 1, none⟩ = some v := by rw [Lib.cell_of_heap hbk1]; rfl
  clear hg1 hcc
  go_wp2_with (at_builtin; refine wpList_appendS_told rfl _ _ 51 9 rfl 5 i0 Try.underlying51 Try.underlying9 hi hz0 hz1 hz2 _ _ _ rfl hown1 s rfl ?c3 ?c4 ?_)
  case c3 => unfold maxLen; omega
  case c4 => omega
  intro v' w2 hown' hgrow htold
  have hlt : b < w1.heap.size := (Array.getElem?_eq_some_iff.1 hbk1).1
  have hb2 : w2.heap[b]? = some (.cells #[.pointer (some ⟨b, 0, none⟩), v] 53 (0, 0)) := by
    rw [hgrow.block b hlt (fun e => hne e.symm)]
    exact hbk1
  have d0 : w2.cell? ⟨b, 0, none⟩ = some (.pointer (some ⟨b, 0, none⟩)) := by rw [Lib.cell_of_heap hb2]; rfl
  have d1 : w2.cell? ⟨b, 1, none⟩ = some v := by rw [Lib.cell_of_heap hb2]; rfl
  have f1 : w2.frozen? ⟨b, 1, none⟩ = false := Lib.frozen_of_heap hb2 1
  obtain ⟨ao, n', cap, rfl⟩ : ∃ ao n' cap, v' = .slice ao n' cap := by
    rcases hown'.2 with ⟨hv, _⟩ | ⟨g, cap, cur, hv, _⟩
    · exact ⟨_, _, _, hv⟩
    · exact ⟨_, _, _, hv⟩
  have hgs := hgrow.size
  have hne' : (Value.slice ao n' cap).ownBlock ≠ some b := by
    rcases htold with h | h
    · rw [h]; exact hne
    · rw [h]; rintro h; cases h; omega
  have hkeep : LE.Keeps w (b :: v.ownBlock.toList) (w2.setCell ⟨b, 1, none⟩ (.slice ao n' cap)) := by
    refine ⟨hgrow.os.trans hk1.os, hgrow.tape.trans hk1.tape, hgrow.output.trans hk1.output, by simp; omega, fun k hk hkn => ?_⟩
    simp only [List.mem_cons, not_or] at hkn
    rw [setCell_other _ _ k hkn.1, hgrow.block k (by omega) (by rintro h; exact hkn.2 (by rw [← h]; simp)), hk1.block k hk (by simpa using hkn.1)]
  go_wp2
  go_ret2
  refine ⟨b :: (Value.slice ao n' cap).ownBlock.toList, rfl, ?_, fun k hk => ?_, fun k hk => ?_, hkeep⟩
  · refine ⟨s0 ++ s, b, .slice ao n' cap, _, rfl, rfl, rfl, setCell_block hb2 1 _, ?_, hne', .inr rfl⟩
    have e1 : Lib.strCells (s0 ++ s) = Lib.strCells s0 ++ Lib.strCells s := by simp [Lib.strCells, ByteArray.data_append]
    have e2 : (s0 ++ s).size = s0.size + s.size := ByteArray.size_append
    rw [e1, e2]
    refine ⟨hown'.1, ?_⟩
    rcases hown'.2 with h | ⟨g, c, cur, hv, hb, hg, r⟩
    · exact .inl h
    · refine .inr ⟨g, c, cur, hv, hb, ?_, r⟩
      rw [setCell_other _ _ g (by rintro h; rw [hv] at hne'; exact hne' (by rw [h]; rfl))]
      exact hg
  · simp only [List.mem_cons] at hk ⊢
    rcases hk with rfl | hk
    · exact .inl (.inl rfl)
    · rcases htold with h | h
      · rw [h] at hk; exact .inl (.inr hk)
      · rw [h] at hk; simp at hk; right; omega
  · simp only [List.mem_cons] at hk
    rcases hk with rfl | hk
    · simp; omega
    · have := own_lt hown' k (by simpa using hk)
      simpa using this

end Go.Proofs.Ytoglkgbjehbcpaa
