/-
  The two plain laws on diffV and apply.
-/
import Derived.Test.YtoglkgbjehbcpaaA
namespace Go.Proofs.Ytoglkgbjehbcpaa
open Go.RowKit Go.LE
set_option linter.unusedSimpArgs false
set_option linter.unusedVariables false

theorem lcp_spec (a b : ByteArray) (n : Nat) : n ≤ a.size → n ≤ b.size → (∀ i, i < n → bt a (i : Nat) = bt b (i : Nat)) →
    n ≤ lcp a b n ∧ lcp a b n ≤ a.size ∧ lcp a b n ≤ b.size ∧ (∀ i, i < lcp a b n → bt a (i : Nat) = bt b (i : Nat)) ∧ ¬(lcp a b n < a.size ∧ lcp a b n < b.size ∧ bt a (lcp a b n : Nat) = bt b (lcp a b n : Nat)) := by
  induction n using lcp.induct (a := a) (b := b) with
  | case1 n h ih =>
    intro h1 h2 h3
    rw [lcp, dif_pos h]
    obtain ⟨g1, g2, g3, g4, g5⟩ := ih (by omega) (by omega) fun i hi => by
      by_cases hin : i = n
      · subst hin; exact h.2.2
      · exact h3 i (by omega)
    exact ⟨by omega, g2, g3, g4, g5⟩
  | case2 n h =>
    intro h1 h2 h3
    rw [lcp, dif_neg h]
    exact ⟨Nat.le_refl _, h1, h2, h3, h⟩

theorem lcs_spec (a b : ByteArray) (n m : Nat) : m ≤ a.size - n → m ≤ b.size - n → (∀ j : Nat, j < m → bt a ((a.size : Int) - 1 - j) = bt b ((b.size : Int) - 1 - j)) →
    lcs a b n m ≤ a.size - n ∧ lcs a b n m ≤ b.size - n ∧ (∀ j : Nat, j < lcs a b n m → bt a ((a.size : Int) - 1 - j) = bt b ((b.size : Int) - 1 - j)) ∧
      ¬(lcs a b n m < a.size - n ∧ lcs a b n m < b.size - n ∧ bt a ((a.size : Int) - 1 - (lcs a b n m : Nat)) = bt b ((b.size : Int) - 1 - (lcs a b n m : Nat))) := by
  induction m using lcs.induct (a := a) (b := b) (n := n) with
  | case1 m h ih =>
    intro h1 h2 h3
    rw [lcs, dif_pos h]
    exact ih (by omega) (by omega) fun j hj => by
      by_cases hjm : j = m
      · subst hjm; exact h.2.2
      · exact h3 j (by omega)
  | case2 m h =>
    intro h1 h2 h3
    rw [lcs, dif_neg h]
    exact ⟨h1, h2, h3, h⟩

theorem ext_bt {s t : ByteArray} (hs : s.size = t.size) (h : ∀ i : Nat, i < s.size → bt s i = bt t i) : s = t := by
  apply ByteArray.ext
  apply Array.ext hs
  intro i h1 h2
  have := h i h1
  simp only [bt, Int.toNat_natCast, Array.getElem?_eq_getElem h1, Array.getElem?_eq_getElem h2, Option.getD_some] at this
  exact UInt8.toNat_inj.1 (by omega)
theorem bt_append (s t : ByteArray) (i : Nat) : bt (s ++ t) i = if i < s.size then bt s i else bt t ((i - s.size : Nat) : Int) := by
  unfold bt
  simp only [Int.toNat_natCast, ByteArray.data_append]
  have hs : s.data.size = s.size := rfl
  split
  · rename_i h
    rw [Array.getElem?_append_left (by omega)]
  · rename_i h
    rw [Array.getElem?_append_right (by omega), hs]

theorem apply_one (a p : ByteArray) (x y : Int) (hx : 0 ≤ x) (hxa : x ≤ a.size) (hy : 0 ≤ y) (hya : y ≤ a.size - x) : applyLoop a [⟨x, y, p⟩] 0 ⟨#[]⟩ = a.extract 0 x.toNat ++ p ++ a.extract (x + y).toNat a.size := by
  simp only [applyLoop]
  have : ∀ s : ByteArray, (⟨#[]⟩ : ByteArray) ++ s = s := fun s => by
    apply ByteArray.ext
    simp [ByteArray.data_append]
  rw [this]

theorem diffs_l2 (a b : ByteArray) (ha : a.size ≤ 1048576) (hb : b.size ≤ 1048576) : apply a (diffV a b) = (b, (0, 0)) := by
  by_cases hab : a = b
  · subst hab
    have hf : fit a [] = (0, 0) := by
      rw [fit, if_neg (by simp; omega), fitLoop, if_neg (by omega)]
    rw [diffV, if_pos rfl, apply, if_pos hf, applyLoop]
    congr 1
    apply ByteArray.ext
    simp [ByteArray.data_append, ByteArray.data_extract]
  · obtain ⟨n0, n1, n2, n3, n4⟩ := lcp_spec a b 0 (Nat.zero_le _) (Nat.zero_le _) (fun i hi => by omega)
    obtain ⟨m1, m2, m3, m4⟩ := lcs_spec a b (lcp a b 0) 0 (Nat.zero_le _) (Nat.zero_le _) (fun j hj => by omega)
    rw [diffV, if_neg hab]
    generalize lcs a b (lcp a b 0) 0 = m at *
    generalize lcp a b 0 = n at *
    have hsz : (b.extract n (b.size - m)).size = b.size - m - n := size_ext b _ _ (by omega)
    have hf : fit a [⟨(n : Nat), ((a.size - n - m : Nat) : Int), b.extract n (b.size - m)⟩] = (0, 0) := by
      rw [fit, if_neg (by simp; omega), fitLoop, if_neg (by simp only; omega), fitLoop, if_neg (by simp only [hsz]; omega)]
    rw [apply, if_pos hf, apply_one _ _ _ _ (by omega) (by omega) (by omega) (by omega)]
    have e1 : ((n : Int) + ((a.size - n - m : Nat) : Int)).toNat = a.size - m := by omega
    rw [e1, Int.toNat_natCast]
    congr 1
    have s1 := size_ext a 0 n n1
    have s2 := size_ext a (a.size - m) a.size (Nat.le_refl _)
    have hs : (a.extract 0 n ++ b.extract n (b.size - m) ++ a.extract (a.size - m) a.size).size = b.size := by
      rw [ByteArray.size_append, ByteArray.size_append, s1, s2, hsz]; omega
    refine ext_bt hs fun i hi => ?_
    rw [hs] at hi
    rw [bt_append, bt_append, ByteArray.size_append, s1, hsz]
    split
    · split
      · rename_i h1 h2
        rw [bt_ext a 0 n i n1 h2, Nat.zero_add]
        exact n3 i (by omega)
      · rename_i h1 h2
        rw [bt_ext b n (b.size - m) _ (by omega) (by omega)]
        congr 1
        omega
    · rename_i h1
      rw [bt_ext a (a.size - m) a.size _ (Nat.le_refl _) (by omega)]
      have := m3 (b.size - 1 - i) (by omega)
      rw [show (b.size : Int) - 1 - ((b.size - 1 - i : Nat) : Int) = (i : Nat) by omega] at this
      rw [← this]
      congr 1
      omega

theorem diffs_l3 (a b p : ByteArray) (x y : Int) (e : Ed) (he : diffV a b = [e]) (h : apply a [⟨x, y, p⟩] = (b, (0, 0))) : e.del ≤ y ∧ e.put.size ≤ p.size := by
  have hab : a ≠ b := by
    intro hab
    rw [diffV, if_pos hab] at he
    cases he
  rw [apply] at h
  split at h
  · rename_i hf
    rw [fit] at hf
    split at hf
    · cases hf
    rw [fitLoop] at hf
    split at hf
    · cases hf
    rename_i hc
    simp only at hc
    simp only [Prod.mk.injEq, and_true] at h
    rw [apply_one _ _ _ _ (by omega) (by omega) (by omega) (by omega)] at h
    obtain ⟨n0, n1, n2, n3, n4⟩ := lcp_spec a b 0 (Nat.zero_le _) (Nat.zero_le _) (fun i hi => by omega)
    obtain ⟨m1, m2, m3, m4⟩ := lcs_spec a b (lcp a b 0) 0 (Nat.zero_le _) (Nat.zero_le _) (fun j hj => by omega)
    rw [diffV, if_neg hab] at he
    generalize lcs a b (lcp a b 0) 0 = m at *
    generalize lcp a b 0 = n at *
    simp only [List.cons.injEq, and_true] at he
    subst he
    have hsz : (b.extract n (b.size - m)).size = b.size - m - n := size_ext b _ _ (by omega)
    have s1 := size_ext a 0 x.toNat (by omega)
    have s2 := size_ext a (x + y).toNat a.size (Nat.le_refl _)
    have hbs : b.size = x.toNat + p.size + (a.size - (x + y).toNat) := by
      rw [← h, ByteArray.size_append, ByteArray.size_append, s1, s2]; omega
    have hpre : ∀ i : Nat, i < x.toNat → bt b i = bt a i := fun i hi => by
      rw [← h, bt_append, bt_append, ByteArray.size_append, s1, if_pos (by omega), if_pos (by omega), bt_ext a 0 x.toNat i (by omega) (by omega), Nat.zero_add]
    have hsuf : ∀ j : Nat, j < a.size - (x + y).toNat → bt b ((b.size : Int) - 1 - j) = bt a ((a.size : Int) - 1 - j) := fun j hj => by
      rw [show (b.size : Int) - 1 - j = ((b.size - 1 - j : Nat) : Int) by omega]
      have hb' := hbs
      generalize hk : b.size - 1 - j = k
      rw [← h, bt_append, ByteArray.size_append, s1, if_neg (by omega), bt_ext a _ a.size _ (Nat.le_refl _) (by omega)]
      congr 1
      omega
    have hnx : x.toNat ≤ n := by
      rcases Nat.lt_or_ge n x.toNat with hlt | hge
      · exact absurd ⟨by omega, by omega, (hpre n hlt).symm⟩ n4
      · exact hge
    have hm : a.size - (x + y).toNat ≤ m ∨ m = a.size - n ∨ m = b.size - n := by
      rcases Nat.lt_or_ge m (a.size - (x + y).toNat) with hlt | hge
      · right
        by_cases g1 : m < a.size - n
        · by_cases g2 : m < b.size - n
          · exact absurd ⟨g1, g2, (hsuf m hlt).symm⟩ m4
          · right; omega
        · left; omega
      · exact .inl hge
    simp only [hsz]
    omega
  · rename_i hf
    simp only [Prod.mk.injEq] at h
    exact absurd h.2 hf
end Go.Proofs.Ytoglkgbjehbcpaa
