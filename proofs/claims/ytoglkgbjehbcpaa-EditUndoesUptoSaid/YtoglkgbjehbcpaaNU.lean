/-
  The plain law: edits made and undone leave the text.
-/
import Derived.Test.YtoglkgbjehbcpaaNI
namespace Go.Proofs.Ytoglkgbjehbcpaa
open Go.RowKit Go.LE
set_option linter.unusedSimpArgs false
set_option linter.unusedVariables false

def bl (s : ByteArray) : List UInt8 := s.data.toList
theorem bl_len (s : ByteArray) : (bl s).length = s.size := by simp [bl]
theorem bl_ext (s : ByteArray) (i j : Nat) : bl (s.extract i j) = ((bl s).take j).drop i := by
  simp [bl, ByteArray.data_extract, List.extract_eq_take_drop, List.drop_take]
theorem bl_app (a b : ByteArray) : bl (a ++ b) = bl a ++ bl b := by simp [bl, ByteArray.data_append]
theorem bl_inj {a b : ByteArray} (h : bl a = bl b) : a = b := by
  apply ByteArray.ext
  exact Array.ext' h

def RL (S : List UInt8) : List Ed → Nat → List UInt8
  | [], f => S.drop f
  | e :: r, f => (S.take e.at_.toNat).drop f ++ (bl e.put ++ RL S r (e.at_ + e.del).toNat)
theorem loop_list (s : ByteArray) : ∀ (l : List Ed) (f : Nat) (acc : ByteArray), bl (applyLoop s l f acc) = bl acc ++ RL (bl s) l f
  | [], f, acc => by
    rw [applyLoop, bl_app, bl_ext, RL, ← bl_len, List.take_length]
  | e :: r, f, acc => by
    rw [applyLoop, loop_list s r, bl_app, bl_app, bl_ext, RL]
    simp

theorem undo_list (s : ByteArray) (T : List UInt8) : ∀ (l : List Ed) (i f sh : Int) (g : Nat), badAt s.size l i f = none → 0 ≤ f → f ≤ s.size → (g : Int) = f + sh → T.drop g = RL (bl s) l f.toNat → RL T (invLoop s l sh) g = (bl s).drop f.toNat
  | [], i, f, sh, g, hb, h0, hf, hg, hT => by rw [invLoop, RL, hT, RL]
  | e :: r, i, f, sh, g, hb, h0, hf, hg, hT => by
    rw [badAt] at hb
    split at hb
    · cases hb
    · rw [RL] at hT
      have hlen : (((bl s).take e.at_.toNat).drop f.toNat).length = e.at_.toNat - f.toNat := by
        rw [List.length_drop, List.length_take, bl_len]; omega
      have hpl : (bl e.put).length = e.put.size := bl_len _
      have ha : (e.at_ + sh).toNat = g + (e.at_.toNat - f.toNat) := by omega
      have ha2 : (e.at_ + sh + e.put.size).toNat = g + (e.at_.toNat - f.toNat + e.put.size) := by omega
      have ih := undo_list s T r (i + 1) (e.at_ + e.del) (sh + (e.put.size - e.del)) (e.at_ + sh + e.put.size).toNat hb (by omega) (by omega) (by omega) (by
        rw [ha2, ← List.drop_drop, hT, ← hlen, List.drop_append, List.drop_eq_nil_of_le (by omega), List.nil_append, Nat.add_sub_cancel_left, ← hpl, List.drop_left])
      rw [invLoop, RL]
      simp only [invOne]
      rw [ih, bl_ext, ha, List.drop_take, Nat.add_sub_cancel_left, hT, ← hlen, List.take_left]
      have e1 : ((bl s).take (e.at_ + e.del).toNat).drop e.at_.toNat ++ (bl s).drop (e.at_ + e.del).toNat = (bl s).drop e.at_.toNat := by
        have h1 : (bl s).drop (e.at_ + e.del).toNat = ((bl s).drop e.at_.toNat).drop ((e.at_ + e.del).toNat - e.at_.toNat) := by rw [List.drop_drop]; congr 1; omega
        rw [List.drop_take, h1, List.take_append_drop]
      have e2 : ((bl s).take e.at_.toNat).drop f.toNat ++ (bl s).drop e.at_.toNat = (bl s).drop f.toNat := by
        have h1 : (bl s).drop e.at_.toNat = ((bl s).drop f.toNat).drop (e.at_.toNat - f.toNat) := by rw [List.drop_drop]; congr 1; omega
        rw [List.drop_take, h1, List.take_append_drop]
      rw [e1, e2]

theorem undo_bad (s : ByteArray) (n N : Int) : ∀ (l : List Ed) (i f sh : Int), badAt n l i f = none → f ≤ n → N = n + sh + sumE l → badAt N (invLoop s l sh) i (f + sh) = none
  | [], i, f, sh, hb, hf, hN => rfl
  | e :: r, i, f, sh, hb, hf, hN => by
    rw [badAt] at hb
    split at hb
    · cases hb
    · have hroom := badAt_room n r _ _ hb (by omega)
      rw [sumE] at hN
      have ih := undo_bad s n N r (i + 1) (e.at_ + e.del) (sh + (e.put.size - e.del)) hb (by omega) (by omega)
      rw [invLoop, badAt, if_neg (by simp only [invOne]; omega)]
      simp only [invOne]
      rw [show e.at_ + sh + (e.put.size : Int) = e.at_ + e.del + (sh + (e.put.size - e.del)) by omega]
      exact ih
theorem undo_sum (s : ByteArray) : ∀ (l : List Ed) (i f sh : Int), badAt s.size l i f = none → 0 ≤ f → sumE (invLoop s l sh) = - sumE l
  | [], _, _, _, _, _ => rfl
  | e :: r, i, f, sh, hb, h0 => by
    rw [badAt] at hb
    split at hb
    · cases hb
    · have ih := undo_sum s r (i + 1) (e.at_ + e.del) (sh + (e.put.size - e.del)) hb (by omega)
      rw [invLoop, sumE, sumE, ih]
      simp only [invOne, size_ext s e.at_.toNat (e.at_ + e.del).toNat (by omega)]
      omega

/-- EDITS MADE AND UNDONE. -/
theorem undo (s : ByteArray) (l : List Ed) (h : fit s l = (0, 0)) : fit (apply s l).1 (invert s l).1 = (0, 0) ∧ (apply (apply s l).1 (invert s l).1).1 = s := by
  obtain ⟨h1, h2, h3, h4⟩ := (fit_zero s l).1 h
  have ha : (apply s l).1 = applyLoop s l 0 ⟨#[]⟩ := by rw [apply, if_pos h]
  have hi : (invert s l).1 = invLoop s l 0 := by rw [invert, if_pos h]
  have hsz : (((apply s l).1.size : Nat) : Int) = s.size + sumE l := by
    rw [apply_eq, rapply, if_pos (by rw [h])]
    exact backL_size s l 0 0 h3 (Int.le_refl _) (by omega)
  have hf : fit (apply s l).1 (invert s l).1 = (0, 0) := by
    rw [fit_zero, hsz, hi, invLoop_len, undo_sum s l 0 0 0 h3 (Int.le_refl _)]
    refine ⟨by omega, h2, ?_, by omega⟩
    have := undo_bad s s.size (s.size + sumE l) l 0 0 0 h3 (by omega) (by omega)
    simpa using this
  refine ⟨hf, bl_inj ?_⟩
  rw [apply, if_pos hf]
  simp only
  rw [loop_list, hi]
  have := undo_list s (bl (apply s l).1) l 0 0 0 0 h3 (Int.le_refl _) (by omega) rfl (by
    rw [ha, loop_list]
    simp [bl])
  rw [this]
  simp [bl]
end Go.Proofs.Ytoglkgbjehbcpaa
