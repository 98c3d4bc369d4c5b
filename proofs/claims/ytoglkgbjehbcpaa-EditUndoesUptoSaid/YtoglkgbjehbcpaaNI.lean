/-
  The plain law: the document's inverse edits are the program's.
-/
import Derived.Test.YtoglkgbjehbcpaaIV
import Derived.Test.YtoglkgbjehbcpaaRI
namespace Go.Proofs.Ytoglkgbjehbcpaa
open Go.RowKit Go.LE
set_option linter.unusedSimpArgs false
set_option linter.unusedVariables false

def sumE : List Ed → Int
  | [] => 0
  | e :: r => (e.put.size - e.del) + sumE r
theorem sumE_append (a b : List Ed) : sumE (a ++ b) = sumE a + sumE b := by
  induction a with
  | nil => simp [sumE]
  | cons x r ih => simp only [List.cons_append, sumE, ih]; omega
theorem sizeOn_sum : ∀ (l : List Ed) (z : Int), sizeOn l z = z + sumE l
  | [], z => by simp [sizeOn, sumE]
  | e :: r, z => by rw [sizeOn, sizeOn_sum r, sumE]; omega

theorem badAt_pre (n : Int) (e : Ed) (r : List Ed) : ∀ (p : List Ed) (i f : Int), badAt n (p ++ e :: r) i f = none → badAt e.at_ p i f = none ∧ f ≤ e.at_
  | [], i, f, h => by
    rw [List.nil_append, badAt] at h
    split at h
    · cases h
    · exact ⟨rfl, by omega⟩
  | x :: p, i, f, h => by
    rw [List.cons_append, badAt] at h
    split at h
    · cases h
    · obtain ⟨h1, h2⟩ := badAt_pre n e r p _ _ h
      refine ⟨?_, by omega⟩
      rw [badAt, if_neg (by omega)]
      exact h1
theorem badAt_room (n : Int) : ∀ (l : List Ed) (i f : Int), badAt n l i f = none → f ≤ n → 0 ≤ n - f + sumE l
  | [], i, f, h, hf => by simp only [sumE]; omega
  | e :: r, i, f, h, hf => by
    rw [badAt] at h
    split at h
    · cases h
    · have := badAt_room n r _ _ h (by omega)
      simp only [sumE]
      omega
theorem backL_size (s : ByteArray) : ∀ (l : List Ed) (i f : Int), badAt s.size l i f = none → 0 ≤ f → f ≤ s.size → ((backL l s).size : Int) = s.size + sumE l
  | [], _, _, _, _, _ => by simp [backL, sumE]
  | e :: r, i, f, h, h0, hf => by
    rw [badAt] at h
    split at h
    · cases h
    · have ih := backL_size s r _ _ h (by omega) (by omega)
      have sz := back_size s r _ _ h (by omega) (by omega)
      rw [backL, splice, ByteArray.size_append, ByteArray.size_append, size_ext _ _ _ (by omega), size_ext _ _ _ (Nat.le_refl _), sumE]
      omega

theorem fit_zero (s : ByteArray) (l : List Ed) : fit s l = (0, 0) ↔ s.size ≤ 1048576 ∧ l.length ≤ 1000 ∧ badAt s.size l 0 0 = none ∧ s.size + sumE l ≤ 1048576 := by
  rw [fit]
  split
  · constructor
    · intro h; cases h
    · intro h; omega
  · rw [fitLoop_eq, sizeOn_sum]
    cases hb : badAt s.size l 0 0 with
    | some j => simp
    | none =>
      simp only
      split
      · constructor
        · intro h; cases h
        · intro h; omega
      · constructor
        · intro _; exact ⟨by omega, by omega, trivial, by omega⟩
        · intro _; rfl
theorem fit_fst (s : ByteArray) (l : List Ed) : (fit s l).1 = 0 ↔ fit s l = (0, 0) := by
  constructor
  · intro h
    rw [fit] at h ⊢
    split at h
    · cases h
    · rename_i hc
      rw [if_neg hc]
      rw [fitLoop_eq] at h ⊢
      cases hb : badAt s.size l 0 0 with
      | none =>
        rw [hb] at h
        simp only at h ⊢
        split at h
        · cases h
        · rename_i hz; rw [if_neg hz]
      | some j => rw [hb] at h; cases h
  · intro h; rw [h]

theorem rinv_loop (s : ByteArray) (hs : s.size ≤ 1048576) : ∀ (r p : List Ed), (p ++ r).length ≤ 1000 → badAt s.size (p ++ r) 0 0 = none → s.size + sumE (p ++ r) ≤ 1048576 → rinvLoop s p r = invLoop s r (sumE p)
  | [], p, _, _, _ => rfl
  | e :: r, p, hl, hb, hz => by
    obtain ⟨b1, b2⟩ := badAt_pre _ e r p 0 0 hb
    obtain ⟨c1, c2, c3, j, c4⟩ := badAt_post _ e r p 0 0 hb
    have hroom := badAt_room _ r _ _ c4 (by omega)
    rw [sumE_append, sumE] at hz
    have hsz : (s.extract 0 e.at_.toNat).size = e.at_.toNat := by rw [size_ext s _ _ (by omega)]; omega
    have hsi : ((s.extract 0 e.at_.toNat).size : Int) = e.at_ := by omega
    have hf : fit (s.extract 0 e.at_.toNat) p = (0, 0) := by
      rw [fit_zero, hsi]
      simp only [List.length_append, List.length_cons] at hl
      exact ⟨by omega, by omega, b1, by omega⟩
    have hbk := backL_size (s.extract 0 e.at_.toNat) p 0 0 (by rw [hsi]; exact b1) (Int.le_refl _) (by omega)
    have hone : rinvOne s e p = ⟨e.at_ + sumE p, e.put.size, s.extract e.at_.toNat (e.at_ + e.del).toNat⟩ := by
      rw [rinvOne, rapply, if_pos (by rw [hf])]
      simp only [hbk, hsi]
    have ih := rinv_loop s hs r (p ++ [e]) (by simpa using hl) (by simpa using hb) (by simp only [List.append_assoc, List.singleton_append, sumE_append, sumE]; omega)
    rw [rinvLoop, invLoop, hone, ih, sumE_append, sumE, sumE, invOne]
    simp

theorem rinv_eq (s : ByteArray) (l : List Ed) : rinvert s l = invert s l := by
  rw [rinvert, invert]
  by_cases h : fit s l = (0, 0)
  · rw [if_pos h, if_pos ((fit_fst s l).2 h)]
    obtain ⟨h1, h2, h3, h4⟩ := (fit_zero s l).1 h
    rw [rinv_loop s h1 l [] (by simpa using h2) (by simpa using h3) (by simpa using h4)]
    rfl
  · rw [if_neg h, if_neg (fun g => h ((fit_fst s l).1 g))]
end Go.Proofs.Ytoglkgbjehbcpaa
