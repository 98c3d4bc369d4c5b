/-
  The plain law: edits made from the front and from the back make one text.
-/
import Derived.Test.YtoglkgbjehbcpaaJ
import Derived.Test.YtoglkgbjehbcpaaL
namespace Go.Proofs.Ytoglkgbjehbcpaa
open Go.RowKit Go.LE
set_option linter.unusedSimpArgs false
set_option linter.unusedVariables false

theorem back_same (s : ByteArray) : ∀ (l : List Ed) (i f : Int), badAt s.size l i f = none → 0 ≤ f → f ≤ s.size → ∀ j : Nat, (j : Int) < f → bt (backL l s) j = bt s j
  | [], _, _, _, _, _, _, _ => rfl
  | e :: r, i, f, h, h0, hf, j, hj => by
    rw [badAt] at h
    split at h
    · cases h
    · have ih := back_same s r _ _ h (by omega) (by omega) j (by omega)
      have sz := back_size s r _ _ h (by omega) (by omega)
      have s1 := size_ext (backL r s) 0 e.at_.toNat (by omega)
      rw [backL, splice, bt_append, ByteArray.size_append, s1, if_pos (by omega), bt_append, s1, if_pos (by omega), bt_ext _ 0 e.at_.toNat j (by omega) (by omega), Nat.zero_add]
      exact ih

theorem loop_back (s : ByteArray) : ∀ (l : List Ed) (i f : Int) (acc : ByteArray), badAt s.size l i f = none → 0 ≤ f → f ≤ s.size → applyLoop s l f.toNat acc = acc ++ (backL l s).extract f.toNat (backL l s).size
  | [], _, _, _, _, _, _ => rfl
  | e :: r, i, f, acc, h, h0, hf => by
    rw [badAt] at h
    split at h
    · cases h
    · rename_i hc
      have ih := loop_back s r _ _ (acc ++ (s.extract f.toNat e.at_.toNat ++ e.put)) h (by omega) (by omega)
      have sz := back_size s r _ _ h (by omega) (by omega)
      have same := back_same s r _ _ h (by omega) (by omega)
      have s1 := size_ext (backL r s) 0 e.at_.toNat (by omega)
      have s2 := size_ext (backL r s) (e.at_ + e.del).toNat _ (Nat.le_refl _)
      have s3 := size_ext s f.toNat e.at_.toNat (by omega)
      have s4 : (splice e (backL r s)).size = e.at_.toNat + e.put.size + ((backL r s).size - (e.at_ + e.del).toNat) := by
        rw [splice, ByteArray.size_append, ByteArray.size_append, s1, s2]; omega
      have s5 := size_ext (splice e (backL r s)) f.toNat _ (Nat.le_refl _)
      rw [applyLoop, ih, backL, ByteArray.append_assoc]
      congr 1
      refine ext_bt (by rw [ByteArray.size_append, ByteArray.size_append, s2, s3, s5, s4]; omega) fun j hj => ?_
      rw [ByteArray.size_append, ByteArray.size_append, s2, s3] at hj
      rw [bt_ext (splice e (backL r s)) f.toNat _ j (Nat.le_refl _) (by rw [s4]; omega), splice, bt_append, bt_append, bt_append, bt_append, ByteArray.size_append, ByteArray.size_append, s1, s3]
      by_cases g1 : j < e.at_.toNat - f.toNat
      · rw [if_pos (by omega), if_pos (by omega), if_pos (by omega), if_pos (by omega), bt_ext s _ _ j (by omega) g1, bt_ext _ 0 _ _ (by omega) (by omega), Nat.zero_add]
        exact (same _ (by omega)).symm
      · by_cases g2 : j < e.at_.toNat - f.toNat + e.put.size
        · rw [if_pos (by omega), if_neg g1, if_pos (by omega), if_neg (by omega)]
          congr 1
          omega
        · rw [if_neg (by omega), if_neg (by omega)]
          congr 1
          omega

theorem apply_eq (s : ByteArray) (l : List Ed) : apply s l = rapply s l := by
  rw [apply, rapply]
  by_cases h : fit s l = (0, 0)
  · have hn : badAt s.size l 0 0 = none := by
      have h' := h
      rw [fit] at h'
      split at h'
      · cases h'
      · rw [fitLoop_eq] at h'
        cases hb : badAt s.size l 0 0 with
        | none => rfl
        | some j => rw [hb] at h'; cases h'
    rw [if_pos h, if_pos (by rw [h])]
    have := loop_back s l 0 0 ⟨#[]⟩ hn (Int.le_refl _) (by omega)
    rw [show (0 : Int).toNat = 0 from rfl] at this
    rw [this]
    congr 1
    apply ByteArray.ext
    simp [ByteArray.data_append, ByteArray.data_extract]
  · rw [if_neg h]
    by_cases h1 : (fit s l).1 = 0
    · exfalso
      apply h
      rw [fit] at h1 ⊢
      split at h1
      · cases h1
      · rename_i hc
        rw [if_neg hc]
        rw [fitLoop_eq] at h1 ⊢
        cases hb : badAt s.size l 0 0 with
        | none =>
          rw [hb] at h1
          simp only at h1 ⊢
          split at h1
          · cases h1
          · rename_i hz; rw [if_neg hz]
        | some j => rw [hb] at h1; cases h1
    · rw [if_neg h1]
end Go.Proofs.Ytoglkgbjehbcpaa
