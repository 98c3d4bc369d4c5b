/-
  What String of strings.Builder gives, told of the blocks that it writes.
-/
import Derived.Test.YtoglkgbjehbcpaaS
namespace Go.Proofs.Ytoglkgbjehbcpaa
open Go.RowKit
set_option linter.unusedSimpArgs false
set_option linter.unusedVariables false

theorem keeps_drew (w : World) (bs : List Nat) : LE.Keeps w bs w.drew := ⟨rfl, rfl, rfl, Nat.le_refl _, fun _ _ _ => rfl⟩
theorem keeps_freeze (w : World) (g n : Nat) : LE.Keeps w [g] (w.drew.freeze ⟨g, 0, none⟩ n) := by
  unfold World.freeze
  split
  · exact keeps_drew w _
  · refine ⟨rfl, rfl, rfl, by simp, fun k hk hkn => ?_⟩
    have hne : g ≠ k := fun e => hkn (by simp [e])
    show (w.drew.heap.modify g _)[k]? = _
    rw [Array.getElem?_modify, if_neg hne]
    rfl

set_option maxHeartbeats 2000000 in
theorem string_some (b g cap : Nat) (p : Value) (cur : Array Value) (l : List UInt8) (w : World) (hbk : w.heap[b]? = some (.cells #[p, .slice (some ⟨g, 0, none⟩) l.length cap] 53 (0, 0))) (h0 : l ≠ [])
    (hg : w.heap[g]? = some (.cells cur 5 (0, 0))) (hcm : cap ≤ maxLen) (hcs : cur.size = cap) (hlc : l.length ≤ cap) (hcells : ∀ j x, l[j]? = some x → w.cell? ⟨g, j, none⟩ = some (.int .u8 x.toNat)) :
    Calls Try.prog 21 #[.pointer (some ⟨b, 0, none⟩)] w fun e w' => e = .returned (.string ⟨l.toArray⟩) ∧ LE.Keeps w [g] w' := by
  have hl0 : l.length ≠ 0 := by simpa using h0
  have c1 : w.drew.cell? ⟨b, 1, none⟩ = some (.slice (some ⟨g, 0, none⟩) l.length cap) := by
    have : w.drew.heap[b]? = some (.cells #[p, .slice (some ⟨g, 0, none⟩) l.length cap] 53 (0, 0)) := hbk
    rw [Lib.cell_of_heap this]; rfl
  have hSD : (Builtin.unsafeSliceData_ #[51] 63 #[.slice (some ⟨g, 0, none⟩) l.length cap]).run Try.prog w.drew = .ok (.pointer (some ⟨g, 0, none⟩)) w.drew :=
    Lib.run_unsafeSliceData_row _ _ _ _ _ _ (by omega)
  have hUS : (Builtin.unsafeString_ #[63, 3] 9 #[.pointer (some ⟨g, 0, none⟩), .int .i64 l.length]).run Try.prog w.drew = .ok (.string ⟨l.toArray⟩) (w.drew.freeze ⟨g, 0, none⟩ l.length) := by
    refine Lib.run_unsafeString_row w.drew 63 3 9 5 Try.underlying63 (by kernel_rfl) g cur.size (by have hg' : w.drew.heap[g]? = some (.cells cur 5 (0, 0)) := hg; simp [World.shape?, hg']) l h0 (by omega) (by unfold maxLen at hcm; omega) ?_
    intro j x hx
    rw [Addr.add_lit, Nat.zero_add]
    exact hcells j x hx
  clear hcells
  have mixed := hmix
  go_enter Try.func21, Try.ntmps21
  go_wp2
  go_region_o
  all_goals (go_wp2; go_ret; exact ⟨rfl, keeps_freeze w g _⟩)

set_option maxHeartbeats 2000000 in
theorem string_nil (b : Nat) (p : Value) (w : World) (hbk : w.heap[b]? = some (.cells #[p, .slice none 0 0] 53 (0, 0))) :
    Calls Try.prog 21 #[.pointer (some ⟨b, 0, none⟩)] w fun e w' => e = .returned (.string ⟨#[]⟩) ∧ LE.Keeps w [] w' := by
  have hUS := fun (W : World) (q : Option Addr) => Lib.run_unsafeString_none (P := Try.prog) W 63 3 9 q
  have c1 : w.drew.cell? ⟨b, 1, none⟩ = some (.slice none 0 0) := by
    have : w.drew.heap[b]? = some (.cells #[p, .slice none 0 0] 53 (0, 0)) := hbk
    rw [Lib.cell_of_heap this]; rfl
  have hSD : (Builtin.unsafeSliceData_ #[51] 63 #[.slice none 0 0]).run Try.prog w.drew = .ok (.pointer none) w.drew := rfl
  have mixed := hmix
  go_enter Try.func21, Try.ntmps21
  go_wp2
  go_region_o
  all_goals (go_wp2; go_ret; exact ⟨rfl, keeps_drew w _⟩)

set_option maxHeartbeats 2000000 in
theorem string_noroom (b g : Nat) (p : Value) (cur : Array Value) (w : World) (hbk : w.heap[b]? = some (.cells #[p, .slice (some ⟨g, 0, none⟩) 0 0] 53 (0, 0))) (hg : w.heap[g]? = some (.cells cur 5 (0, 0))) :
    Calls Try.prog 21 #[.pointer (some ⟨b, 0, none⟩)] w fun e w' => e = .returned (.string ⟨#[]⟩) ∧ LE.Keeps w [] w' := by
  have hUS := fun (W : World) (q : Option Addr) => Lib.run_unsafeString_none (P := Try.prog) W 63 3 9 q
  have hlt : b < w.heap.size := (Array.getElem?_eq_some_iff.1 hbk).1
  have c1 : w.drew.cell? ⟨b, 1, none⟩ = some (.slice (some ⟨g, 0, none⟩) 0 0) := by
    have : w.drew.heap[b]? = some (.cells #[p, .slice (some ⟨g, 0, none⟩) 0 0] 53 (0, 0)) := hbk
    rw [Lib.cell_of_heap this]; rfl
  have hSD : (Builtin.unsafeSliceData_ #[51] 63 #[.slice (some ⟨g, 0, none⟩) 0 0]).run Try.prog w.drew = .ok (.pointer (some ⟨w.drew.heap.size, 0, none⟩)) (w.drew.alloc (.view ⟨g, 0, none⟩ 5)) :=
    Lib.run_unsafeSliceData_zero w.drew _ _ 5 Try.underlying63 ⟨g, 0, none⟩ 0 (5, cur.size) (by have hg' : w.drew.heap[g]? = some (.cells cur 5 (0, 0)) := hg; simp [World.shape?, hg'])
  have c2 : (w.drew.alloc (.view ⟨g, 0, none⟩ 5)).cell? ⟨b, 1, none⟩ = some (.slice (some ⟨g, 0, none⟩) 0 0) := by
    have : (w.drew.alloc (.view ⟨g, 0, none⟩ 5)).heap[b]? = _ := (Lib.alloc_old w.drew _ b hlt).trans hbk
    rw [Lib.cell_of_heap this]; rfl
  have c3 : (w.alloc (.view ⟨g, 0, none⟩ 5)).drew.cell? ⟨b, 1, none⟩ = some (.slice (some ⟨g, 0, none⟩) 0 0) := c2
  have c0 : w.cell? ⟨b, 1, none⟩ = some (.slice (some ⟨g, 0, none⟩) 0 0) := c1
  have mixed := hmix
  go_enter Try.func21, Try.ntmps21
  go_wp2
  go_region_o
  all_goals (go_wp2; go_ret; exact ⟨rfl, ⟨rfl, rfl, rfl, by simp, fun k hk _ => Lib.alloc_old w.drew _ k hk⟩⟩)

set_option maxHeartbeats 2000000 in
theorem string_room (b g cap : Nat) (p : Value) (w : World) (hc0 : cap ≠ 0) (hbk : w.heap[b]? = some (.cells #[p, .slice (some ⟨g, 0, none⟩) 0 cap] 53 (0, 0))) :
    Calls Try.prog 21 #[.pointer (some ⟨b, 0, none⟩)] w fun e w' => e = .returned (.string ⟨#[]⟩) ∧ LE.Keeps w [] w' := by
  have hUS := fun (W : World) (q : Option Addr) => Lib.run_unsafeString_none (P := Try.prog) W 63 3 9 q
  have c1 : w.drew.cell? ⟨b, 1, none⟩ = some (.slice (some ⟨g, 0, none⟩) 0 cap) := by
    have : w.drew.heap[b]? = some (.cells #[p, .slice (some ⟨g, 0, none⟩) 0 cap] 53 (0, 0)) := hbk
    rw [Lib.cell_of_heap this]; rfl
  have hSD : (Builtin.unsafeSliceData_ #[51] 63 #[.slice (some ⟨g, 0, none⟩) 0 cap]).run Try.prog w.drew = .ok (.pointer (some ⟨g, 0, none⟩)) w.drew :=
    Lib.run_unsafeSliceData_row _ _ _ _ _ _ hc0
  clear hc0
  have mixed := hmix
  go_enter Try.func21, Try.ntmps21
  go_wp2
  go_region_o
  all_goals (go_wp2; go_ret; exact ⟨rfl, keeps_drew w _⟩)

theorem string_any (u : Value) (fp : List Nat) (s : ByteArray) (w : World) (h : BldR [.string s] u fp w) :
    Calls Try.prog 21 #[u] w fun e w' => e = .returned (.string s) ∧ LE.Keeps w fp w' := by
  obtain ⟨s', b, v, p, hd, rfl, rfl, hbk, hown, hne, hp⟩ := h
  cases hd
  rcases s with ⟨⟨l⟩⟩
  have hsz : (ByteArray.mk ⟨l⟩).size = l.length := rfl
  rw [hsz] at hown
  rcases hown.2 with ⟨rfl, hz⟩ | ⟨g, cap, cur, rfl, hbg, hg, hnc, hcm, hcs, htake⟩
  · have hl : l = [] := List.eq_nil_of_length_eq_zero hz
    subst hl
    exact (string_nil b p w hbk).mono fun e w' ⟨h1, h2⟩ => ⟨h1, h2.mono (by simp)⟩
  · by_cases hl : l = []
    · subst hl
      by_cases hc : cap = 0
      · subst hc
        exact (string_noroom b g p cur w hbk hg).mono fun e w' ⟨h1, h2⟩ => ⟨h1, h2.mono (by simp)⟩
      · exact (string_room b g cap p w hc hbk).mono fun e w' ⟨h1, h2⟩ => ⟨h1, h2.mono (by simp)⟩
    · refine (string_some b g cap p cur l w hbk hl hg hcm (by rw [hcs]; omega) hnc fun j x hx => ?_).mono fun e w' ⟨h1, h2⟩ => ⟨h1, h2.mono (by simp [Value.ownBlock])⟩
      have := hown.cells (g := g) rfl j (.int .u8 x.toNat) (by simp [Lib.strCells, hx])
      rwa [Addr.add_lit, Nat.zero_add] at this
end Go.Proofs.Ytoglkgbjehbcpaa
