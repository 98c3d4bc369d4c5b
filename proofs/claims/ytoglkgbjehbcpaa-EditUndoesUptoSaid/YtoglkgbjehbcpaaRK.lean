/-
  A list of edits that came in, opened; what a bulk of at most 1048576 bounds.
-/
import Derived.Test.YtoglkgbjehbcpaaB
import Derived.Test.YtoglkgbjehbcpaaE26
namespace Go.Proofs.Ytoglkgbjehbcpaa
open Go.ChangeShapes Go.WideShapes Go.ChangeAt Go.RowKit Go.LE
open Go.ChangeMaps (open_string shut_string)
set_option linter.unusedVariables false

theorem own0 : ownKnob Try.prog.godebug = none := by kernel_rfl
theorem cells45' : Try.prog.cellsOf 45 = 3 := by kernel_rfl
theorem laid0 : laidOutB Try.prog = true := by kernel_rfl
theorem maps0 : mapsRowed Try.prog = true := by kernel_rfl
theorem full0 : ((List.range Try.prog.types.size).all fun t => match Try.prog.underlying t with | some (.slice e) => decide (0 < Try.prog.cellsOf e) | _ => true) = true := by kernel_rfl

section
variable {H : Type} {enc : TypeId × Value → H}

theorem bulk_pos (d : DataW H) : 1 ≤ Rows.uptoBulk d := by
  cases d with
  | lit x => cases x <;> simp [Rows.uptoBulk]
  | _ => simp [Rows.uptoBulk]
theorem bulk_mem : ∀ {l : List (DataW H)} {d : DataW H}, d ∈ l → Rows.uptoBulk d ≤ Rows.uptoBulkAll l
  | x :: r, d, h => by
    simp only [Rows.uptoBulkAll]
    rcases List.mem_cons.1 h with rfl | h
    · omega
    · have := bulk_mem h; omega
theorem bulk_len : ∀ (l : List (DataW H)), l.length ≤ Rows.uptoBulkAll l
  | [] => by simp
  | x :: r => by
    simp only [Rows.uptoBulkAll, List.length_cons]
    have := bulk_len r
    have := bulk_pos x
    omega

/-- AN EDIT's CELLS, READ. -/
theorem open_ed {W : World} {m : Nat} {cs : List Value} {d : DataW H} {pl : List MemPlace} (hl : cs.length = 3) (h : DataW.trod enc Try.prog W 0 (fun _ => true) true m 45 cs = some (d, pl)) :
    ∃ e : Ed, cs = e.cells ∧ d = .agg [.lit (.int .i64 e.at_), .lit (.int .i64 e.del), .lit (.string e.put.data.toList)] := by
  obtain ⟨y0, y1, y2, n, hx, hlen, h0, h1, h2⟩ := Go.Deep.trod_struct3 Try.underlying45 h
  match cs, hl with
  | [c0, c1, c2], _ =>
    have t0 : DataW.trod enc Try.prog W 0 (fun _ => true) true n 3 [c0] = some y0 := h0
    have t1 : DataW.trod enc Try.prog W 0 (fun _ => true) true n 3 [c1] = some y1 := h1
    have t2 : DataW.trod enc Try.prog W 0 (fun _ => true) true n 9 [c2] = some y2 := h2
    obtain ⟨x, hx0, rfl, _⟩ := DataW.trod_int Try.underlying3 t0
    obtain ⟨y, hy0, rfl, _⟩ := DataW.trod_int Try.underlying3 t1
    obtain ⟨s, hs0, rfl, _⟩ := DataW.trod_string Try.underlying9 t2
    simp only [List.cons.injEq, and_true] at hx0 hy0 hs0
    subst hx0 hy0 hs0
    simp only [Prod.mk.injEq] at hx
    exact ⟨⟨x, y, s⟩, rfl, hx.1⟩

instance : Inhabited Ed := ⟨⟨0, 0, ⟨#[]⟩⟩⟩

/-- A LIST OF EDITS. -/
theorem open_eds {W : World} {v : Value} {d : DataW H} {p : List MemPlace} (hok : Value.okWide Try.prog W .any 0 22 v) (h : DataW.Trod enc Try.prog W 0 (fun _ => true) true 22 v d p) (hb : Rows.uptoBulk d ≤ 1048576) :
    ∃ ao c, ∃ l : List Ed, v = .slice ao l.length c ∧ SlIs W ao (l.flatMap Ed.cells) ∧ l.length ≤ 1048576 ∧ ∀ e ∈ l, e.put.size ≤ 1048576 := by
  obtain ⟨ao, n, c, m, C, D, rest, rfl, hd, hi, hs⟩ := open_rows Try.underlying22 cells45' (okWide_slice Try.underlying22 hok) h
  have hE : ∀ i, i < n → ∃ e : Ed, C i = e.cells ∧ D i = .agg [.lit (.int .i64 e.at_), .lit (.int .i64 e.del), .lit (.string e.put.data.toList)] := fun i hin => by
    obtain ⟨h1, pl, h2⟩ := hi i hin
    exact open_ed h1 h2
  obtain ⟨f, hf⟩ := Go.Deep.choose_lt hE
  have hfm : ∀ k, k ≤ n → (List.range k).flatMap C = ((List.range k).map f).flatMap Ed.cells := fun k => by
    induction k with
    | zero => intro _; rfl
    | succ k ih =>
      intro hk
      rw [List.range_succ, List.flatMap_append, ih (by omega), List.map_append, List.flatMap_append]
      simp [(hf k (by omega)).1]
  rw [hfm n (Nat.le_refl _)] at hs
  have hbulk : ∀ i, i < n → Rows.uptoBulk (D i) ≤ 1048576 ∧ n ≤ 1048576 := fun i hin => by
    rcases hd with ⟨rfl, _⟩ | hd
    · omega
    · rw [hd] at hb
      simp only [Rows.uptoBulk] at hb
      have h1 := bulk_mem (List.mem_map_of_mem (f := D) (List.mem_range.2 hin))
      have h2 := bulk_len ((List.range n).map D)
      simp only [List.length_map, List.length_range] at h2
      omega
  refine ⟨ao, c, (List.range n).map f, by simp, hs, ?_, fun e he => ?_⟩
  · simp only [List.length_map, List.length_range]
    rcases Nat.eq_zero_or_pos n with h0 | h0
    · omega
    · exact (hbulk 0 h0).2
  · obtain ⟨i, hin, rfl⟩ := List.mem_map.1 he
    have hin := List.mem_range.1 hin
    have := (hbulk i hin).1
    rw [(hf i hin).2] at this
    simp only [Rows.uptoBulk, Rows.uptoBulkAll, Array.length_toList] at this
    have h2 : (f i).put.size = (f i).put.data.size := rfl
    omega
end
end Go.Proofs.Ytoglkgbjehbcpaa
