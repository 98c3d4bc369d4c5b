/-
  LE, the engine, part 12: a region, in the text's order or in whatever order Go allows.
-/
import Derived.Test.YtoglkgbjehbcpaaE11
import Derived.Orders
namespace Go.LE
open Go.RowKit
set_option linter.unusedSimpArgs false
set_option linter.unusedVariables false

/-! ### Updates, some of them made -/

theorem upd_comm {α : Type} (f : Nat → α) {i j : Nat} (x y : α) (h : i ≠ j) : upd (upd f i x) j y = upd (upd f j y) i x := by
  funext k
  simp only [upd]
  split <;> split <;> first | rfl | (exfalso; omega)
theorem updL_upd {α : Type} (f : Nat → α) {i : Nat} (x : α) : ∀ {v : List (Nat × α)}, i ∉ keysU v → updL (upd f i x) v = upd (updL f v) i x
  | [], _ => rfl
  | (j, y) :: r, h => by
    simp only [keysU, List.map_cons, List.mem_cons, not_or] at h
    simp only [updL]
    rw [upd_comm f x y h.1]
    exact updL_upd (upd f j y) x (by simpa [keysU] using h.2)
theorem updL_comm {α : Type} (f : Nat → α) : ∀ {u v : List (Nat × α)}, (∀ k ∈ keysU u, k ∉ keysU v) → updL (updL f u) v = updL (updL f v) u
  | [], v, _ => rfl
  | (i, x) :: r, v, h => by
    simp only [updL]
    rw [updL_comm (upd f i x) (fun k hk => h k (by simp [keysU] at hk ⊢; exact .inr hk)), updL_upd f x (h i (by simp [keysU]))]
theorem updL_out {α : Type} (f : Nat → α) {k : Nat} : ∀ {u : List (Nat × α)}, k ∉ keysU u → updL f u k = f k
  | [], _ => rfl
  | (i, x) :: r, h => by
    simp only [keysU, List.map_cons, List.mem_cons, not_or] at h
    simp only [updL]
    rw [updL_out _ (by simpa [keysU] using h.2), upd_ne _ _ h.1]

/-- of a list of updates those that S names, in the list's order -/
def accOf {α : Type} : List (List (Nat × α)) → Nat → (Nat → Bool) → (Nat → α) → (Nat → α)
  | [], _, _, f => f
  | u :: r, i, S, f => accOf r (i + 1) S (if S i then updL f u else f)

theorem acc_congr {α : Type} {k : Nat} : ∀ {l : List (List (Nat × α))} {n : Nat} {S S' : Nat → Bool} {f f' : Nat → α}, f k = f' k → (∀ i u, l[i]? = some u → k ∈ keysU u → S (n + i) = S' (n + i)) → accOf l n S f k = accOf l n S' f' k
  | [], _, _, _, _, _, hf, _ => hf
  | u :: r, n, S, S', f, f', hf, h => by
    simp only [accOf]
    refine acc_congr (l := r) ?_ (fun i v hi hk => ?_)
    · by_cases hk : k ∈ keysU u
      · have h0 := h 0 u rfl hk
        simp only [Nat.add_zero] at h0
        rw [h0]
        split
        · have : ∀ (g g' : Nat → α) (u : List (Nat × α)), g k = g' k → updL g u k = updL g' u k := by
            intro g g' u
            induction u generalizing g g' with
            | nil => exact fun h => h
            | cons p q ih => intro hg; simp only [updL]; exact ih _ _ (by simp only [upd]; split <;> first | rfl | exact hg)
          exact this _ _ _ hf
        · exact hf
      · have e1 : (if S n then updL f u else f) k = f k := by split; exact updL_out f hk; rfl
        have e2 : (if S' n then updL f' u else f') k = f' k := by split; exact updL_out f' hk; rfl
        rw [e1, e2, hf]
    · have := h (i + 1) v (by simpa using hi) hk
      rwa [show n + (i + 1) = n + 1 + i by omega] at this

theorem acc_after {α : Type} {u : List (Nat × α)} : ∀ {l : List (List (Nat × α))} {n : Nat} {S : Nat → Bool} {f : Nat → α}, (∀ i v, l[i]? = some v → S (n + i) = true → ∀ k ∈ keysU u, k ∉ keysU v) → accOf l n S (updL f u) = updL (accOf l n S f) u
  | [], _, _, _, _ => rfl
  | v :: r, n, S, f, h => by
    simp only [accOf]
    have e : (if S n then updL (updL f u) v else updL f u) = updL (if S n then updL f v else f) u := by
      split
      · rename_i hS; exact updL_comm f (h 0 v rfl (by simpa using hS))
      · rfl
    rw [e]
    exact acc_after (l := r) fun i v' hi hS => h (i + 1) v' (by simpa using hi) (by rwa [show n + (i + 1) = n + 1 + i by omega])

theorem acc_same {α : Type} : ∀ {l : List (List (Nat × α))} {n : Nat} {S S' : Nat → Bool} {f : Nat → α}, (∀ i, n ≤ i → S i = S' i) → accOf l n S f = accOf l n S' f
  | [], _, _, _, _, _ => rfl
  | u :: r, n, S, S', f, h => by
    simp only [accOf, h n (Nat.le_refl n)]
    exact acc_same fun i hi => h i (by omega)

theorem acc_insert {α : Type} {u : List (Nat × α)} {j : Nat} : ∀ {l : List (List (Nat × α))} {n : Nat} {S S' : Nat → Bool} {f : Nat → α}, n ≤ j → l[j - n]? = some u → S j = false → S' j = true → (∀ i, i ≠ j → S' i = S i) →
    (∀ i v, j < i → l[i - n]? = some v → S i = true → ∀ k ∈ keysU u, k ∉ keysU v) → accOf l n S' f = updL (accOf l n S f) u
  | [], n, S, S', f, _, hu, _, _, _, _ => by simp at hu
  | v :: r, n, S, S', f, hn, hu, hS, hS', hne, h => by
    simp only [accOf]
    by_cases hj : n = j
    · subst hj
      simp only [Nat.sub_self, List.getElem?_cons_zero, Option.some.injEq] at hu
      subst hu
      simp only [hS', hS, if_true, Bool.false_eq_true, if_false]
      rw [acc_same (S := S') (S' := S) fun i hi => hne i (by omega)]
      refine acc_after fun i v' hi hSi => h (n + 1 + i) v' (by omega) ?_ hSi
      rw [show n + 1 + i - n = i + 1 by omega]
      simpa using hi
    · rw [hne n hj]
      refine acc_insert (by omega) ?_ hS hS' hne fun i v' hji hi hSi => h i v' hji ?_ hSi
      · rw [show j - n = (j - (n + 1)) + 1 by omega] at hu
        simpa using hu
      · rw [show i - n = (i - (n + 1)) + 1 by omega]
        simpa using hi

/-! ### The order of a region's operations -/
inductive Reach (ops : Array Oper) : Nat → Nat → Prop where
  | edge {i j : Nat} {o : Oper} {e : Edge} (ho : ops[j]? = some o) (he : e ∈ o.after) (hb : Region.binds .any e = true) (hi : e.on = i) : Reach ops i j
  | trans {i m j : Nat} : Reach ops i m → Reach ops m j → Reach ops i j

theorem foldl_inv {α β : Type} (p : β → Prop) (f : β → α → β) : ∀ (l : List α) (b : β), p b → (∀ b a, a ∈ l → p b → p (f b a)) → p (l.foldl f b)
  | [], b, hb, _ => hb
  | a :: l, b, hb, h => foldl_inv p f l (f b a) (h b a (by simp) hb) fun b' a' ha' => h b' a' (by simp [ha'])

theorem before_reach_aux (ops : Array Oper) : ∀ (l : List Oper) (k : Nat) (acc : Array Nat), acc.size = k → (∀ j, l[j]? = ops[k + j]?) → (∀ i j, (acc.getD j 0).testBit i = true → Reach ops i j) →
    ∀ i j, ((l.foldl (fun acc (o : Oper) => acc.push (o.after.foldl (fun s e => if Region.binds .any e then s ||| 2 ^ e.on ||| acc.getD e.on 0 else s) 0)) acc).getD j 0).testBit i = true → Reach ops i j
  | [], k, acc, _, _, hacc => hacc
  | o :: l, k, acc, hsz, hl, hacc => by
    simp only [List.foldl_cons]
    refine before_reach_aux ops l (k + 1) _ (by simp [hsz]) (fun j => by have := hl (j + 1); simp only [List.getElem?_cons_succ] at this; rw [this]; congr 1; omega) ?_
    intro i j hij
    have ho : ops[k]? = some o := by simpa using (hl 0).symm
    by_cases hjk : j = k
    · subst hjk
      rw [Array.getD_eq_getD_getElem?, ← hsz, Array.getElem?_push_size] at hij
      simp only [Option.getD_some] at hij
      rw [← Array.foldl_toList] at hij
      have hinv := foldl_inv (fun s : Nat => ∀ i, s.testBit i = true → Reach ops i j) (fun s e => if Region.binds .any e then s ||| 2 ^ e.on ||| acc.getD e.on 0 else s) o.after.toList 0 (by simp) (by
        intro s e he hs i hi
        split at hi
        · rename_i hb
          simp only [Nat.testBit_or, Bool.or_eq_true] at hi
          have hedge : Reach ops e.on j := .edge ho (by simpa using he) hb rfl
          rcases hi with (hi | hi) | hi
          · exact hs i hi
          · rw [Nat.testBit_two_pow] at hi
            simp at hi
            subst hi
            exact hedge
          · exact .trans (hacc i e.on hi) hedge
        · exact hs i hi)
      exact hinv i hij
    · rw [Array.getD_eq_getD_getElem?, Array.getElem?_push] at hij
      rw [if_neg (by omega), ← Array.getD_eq_getD_getElem?] at hij
      exact hacc i j hij

theorem before_reach (ops : Array Oper) (i j : Nat) (h : ((Region.before ops).getD j 0).testBit i = true) : Reach ops i j := by
  unfold Region.before at h
  rw [← Array.foldl_toList] at h
  exact before_reach_aux ops ops.toList 0 #[] rfl (fun j => by simp) (by simp) i j h

/-- What has been listed holds, with an operation, all that it waits for. -/
theorem reach_closed {ops : Array Oper} {S : Nat → Bool} (hS : ∀ j o, ops[j]? = some o → S j = true → ∀ e ∈ o.after, Region.binds .any e = true → S e.on = true) {i j : Nat} (h : Reach ops i j) : S j = true → S i = true := by
  induction h with
  | edge ho he hb hi => intro hj; subst hi; exact hS _ _ ho hj _ he hb
  | trans _ _ ih1 ih2 => exact fun hj => ih1 (ih2 hj)
theorem reach_lt {ops : Array Oper} (hlt : ∀ j o, ops[j]? = some o → ∀ e ∈ o.after, Region.binds .any e = true → e.on < j) {i j : Nat} (h : Reach ops i j) : i < j := by
  induction h with
  | edge ho he hb hi => subst hi; exact hlt _ _ ho _ he hb
  | trans _ _ ih1 ih2 => omega
end Go.LE
