/-
  Part 3 of the proof.
-/
import Derived.Test.YtohmdnnagmjnkaaGreatDoorP2
import Derived.Test.YtohmdnnagmjnkaaGreatDoorP1
import Derived.MapKept
set_option linter.unusedSimpArgs false
set_option linter.unusedVariables false
set_option linter.defProp false
section
namespace Go.CE
open Go.RowKit
structure Loc where
  b : Nat
  d : Nat
  t : Nat
abbrev Env := Nat → Option Loc
def Env.le (E E' : Env) : Prop := ∀ k l, E k = some l → E' k = some l
theorem Env.le.refl (E : Env) : E.le E := fun _ _ h => h
theorem Env.le.trans {E E' E'' : Env} (h : E.le E') (h' : E'.le E'') : E.le E'' := fun k l hk => h' k l (h k l hk)
def capOf (l : Loc) (o : Nat) : CP → Nat
  | .ex c => c
  | .un sz => (l.t - o) / sz
mutual
def Den (U : Nat → Value) (E : Env) : V → Value → Prop
  | .v y, x => x = y
  | .u i, x => x = U i
  | .p k o, x => ∃ l, E k = some l ∧ x = .pointer (some ⟨l.b, l.d + o, none⟩)
  | .s k o n c, x => ∃ l, E k = some l ∧ n ≤ capOf l o c ∧ x = .slice (some ⟨l.b, l.d + o, none⟩) n (capOf l o c)
  | .m k, x => ∃ l, E k = some l ∧ x = .map (some l.b)
  | .g vs, x => ∃ xs, DenL U E vs xs ∧ x = .agg xs.toArray
  | .t vs, x => ∃ xs, DenL U E vs xs ∧ x = .tuple xs.toArray
  | .i T v, x => ∃ y, Den U E v y ∧ x = .iface T y
  | .f fn a c, x => ∃ xs ys, DenL U E a xs ∧ DenL U E c ys ∧ x = .func fn xs.toArray ys.toArray
def DenL (U : Nat → Value) (E : Env) : List V → List Value → Prop
  | [], xs => xs = []
  | v :: r, xs => ∃ y ys, xs = y :: ys ∧ Den U E v y ∧ DenL U E r ys
end
section
variable {U : Nat → Value} {E E' : Env}
mutual
theorem Den.mono (h : E.le E') : ∀ (v : V) {x : Value}, Den U E v x → Den U E' v x
  | .v y, x, hx => by simpa [Den] using hx
  | .u i, x, hx => by simpa [Den] using hx
  | .p k o, x, hx => by simp only [Den] at hx ⊢; obtain ⟨l, h1, h2⟩ := hx; exact ⟨l, h _ _ h1, h2⟩
  | .s k o n c, x, hx => by simp only [Den] at hx ⊢; obtain ⟨l, h1, h2, h3⟩ := hx; exact ⟨l, h _ _ h1, h2, h3⟩
  | .m k, x, hx => by simp only [Den] at hx ⊢; obtain ⟨l, h1, h2⟩ := hx; exact ⟨l, h _ _ h1, h2⟩
  | .g vs, x, hx => by simp only [Den] at hx ⊢; obtain ⟨xs, h1, h2⟩ := hx; exact ⟨xs, DenL.mono h vs h1, h2⟩
  | .t vs, x, hx => by simp only [Den] at hx ⊢; obtain ⟨xs, h1, h2⟩ := hx; exact ⟨xs, DenL.mono h vs h1, h2⟩
  | .i T v, x, hx => by simp only [Den] at hx ⊢; obtain ⟨y, h1, h2⟩ := hx; exact ⟨y, Den.mono h v h1, h2⟩
  | .f fn a c, x, hx => by simp only [Den] at hx ⊢; obtain ⟨xs, ys, h1, h2, h3⟩ := hx; exact ⟨xs, ys, DenL.mono h a h1, DenL.mono h c h2, h3⟩
theorem DenL.mono (h : E.le E') : ∀ (vs : List V) {xs : List Value}, DenL U E vs xs → DenL U E' vs xs
  | [], xs, hx => by simpa [DenL] using hx
  | v :: r, xs, hx => by simp only [DenL] at hx ⊢; obtain ⟨y, ys, h1, h2, h3⟩ := hx; exact ⟨y, ys, h1, Den.mono h v h2, DenL.mono h r h3⟩
end
theorem DenL.nil : DenL U E [] [] := by simp [DenL]
theorem DenL.cons {v : V} {r : List V} {y : Value} {ys : List Value} (h : Den U E v y) (h' : DenL U E r ys) : DenL U E (v :: r) (y :: ys) := by
  simp only [DenL]
  exact ⟨y, ys, rfl, h, h'⟩
theorem DenL.cons_inv {v : V} {r : List V} {xs : List Value} (h : DenL U E (v :: r) xs) : ∃ y ys, xs = y :: ys ∧ Den U E v y ∧ DenL U E r ys := by
  simpa only [DenL] using h
theorem DenL.nil_inv {xs : List Value} (h : DenL U E [] xs) : xs = [] := by simpa [DenL] using h
theorem DenL.len : ∀ {vs : List V} {xs : List Value}, DenL U E vs xs → xs.length = vs.length
  | [], xs, h => by rw [h.nil_inv]; rfl
  | v :: r, xs, h => by obtain ⟨y, ys, rfl, _, h'⟩ := h.cons_inv; simp [DenL.len h']
theorem DenL.get : ∀ {vs : List V} {xs : List Value} {i : Nat} {v : V}, DenL U E vs xs → vs[i]? = some v → ∃ x, xs[i]? = some x ∧ Den U E v x
  | [], xs, i, v, h, hv => by simp at hv
  | u :: r, xs, 0, v, h, hv => by obtain ⟨y, ys, rfl, h1, h'⟩ := h.cons_inv; simp at hv; subst hv; exact ⟨y, rfl, h1⟩
  | u :: r, xs, i + 1, v, h, hv => by obtain ⟨y, ys, rfl, h1, h'⟩ := h.cons_inv; simpa using DenL.get h' (by simpa using hv)
theorem DenL.app : ∀ {a b : List V} {xs ys : List Value}, DenL U E a xs → DenL U E b ys → DenL U E (a ++ b) (xs ++ ys)
  | [], b, xs, ys, h, h' => by rw [h.nil_inv]; exact h'
  | v :: r, b, xs, ys, h, h' => by obtain ⟨y, zs, rfl, h1, h2⟩ := h.cons_inv; exact DenL.cons h1 (DenL.app h2 h')
theorem DenL.app_inv : ∀ {a b : List V} {xs : List Value}, DenL U E (a ++ b) xs → ∃ ys zs, xs = ys ++ zs ∧ DenL U E a ys ∧ DenL U E b zs
  | [], b, xs, h => ⟨[], xs, rfl, .nil, h⟩
  | v :: r, b, xs, h => by
    obtain ⟨y, zs, rfl, h1, h2⟩ := DenL.cons_inv (by simpa using h)
    obtain ⟨ys, us, rfl, h3, h4⟩ := DenL.app_inv h2
    exact ⟨y :: ys, us, rfl, .cons h1 h3, h4⟩
theorem DenL.take : ∀ {vs : List V} {xs : List Value} (n : Nat), DenL U E vs xs → DenL U E (vs.take n) (xs.take n)
  | [], xs, n, h => by rw [h.nil_inv]; simp [DenL]
  | v :: r, xs, 0, h => by simp [DenL]
  | v :: r, xs, n + 1, h => by obtain ⟨y, ys, rfl, h1, h2⟩ := h.cons_inv; simpa using DenL.cons h1 (DenL.take n h2)
theorem DenL.drop : ∀ {vs : List V} {xs : List Value} (n : Nat), DenL U E vs xs → DenL U E (vs.drop n) (xs.drop n)
  | [], xs, n, h => by rw [h.nil_inv]; simp [DenL]
  | v :: r, xs, 0, h => by simpa using h
  | v :: r, xs, n + 1, h => by obtain ⟨y, ys, rfl, h1, h2⟩ := h.cons_inv; simpa using DenL.drop n h2
theorem DenL.vals : ∀ (l : List Value), DenL U E (l.map .v) l
  | [] => .nil
  | x :: r => .cons (by simp [Den]) (DenL.vals r)
theorem DenL.ovr {l : List V} {xs : List Value} {o : Nat} {vs : List V} {ys : List Value} (h : DenL U E l xs) (h' : DenL U E vs ys) (hl : o + vs.length ≤ l.length) : DenL U E (ovr l o vs) (xs.take o ++ ys ++ xs.drop (o + ys.length)) := by
  rw [ovr_eq l o vs hl, h'.len]
  exact ((h.take o).app h').app (h.drop _)
theorem Den.cells {v : V} {x : Value} (h : Den U E v x) (hu : ∀ i, (U i).oneCell' = true) : DenL U E v.cells x.cells.toList := by
  have one : ∀ {y : Value}, y.oneCell' = true → y.cells.toList = [y] := fun {y} h => by cases y <;> first | rfl | (simp [Value.oneCell'] at h)
  cases v with
  | v y =>
    simp only [Den] at h
    subst h
    cases x <;> first | exact DenL.cons (by simp [Den]) .nil | exact DenL.vals _
  | u i => simp only [Den] at h; subst h; rw [one (hu i)]; exact DenL.cons (by simp [Den]) .nil
  | p k o => have h0 := h; simp only [Den] at h; obtain ⟨l, h1, rfl⟩ := h; exact DenL.cons h0 .nil
  | s k o n c => have h0 := h; simp only [Den] at h; obtain ⟨l, h1, _, rfl⟩ := h; exact DenL.cons h0 .nil
  | m k => have h0 := h; simp only [Den] at h; obtain ⟨l, h1, rfl⟩ := h; exact DenL.cons h0 .nil
  | g vs => simp only [Den] at h; obtain ⟨xs, h1, rfl⟩ := h; simpa [Value.cells, V.cells] using h1
  | t vs => have h0 := h; simp only [Den] at h; obtain ⟨xs, h1, rfl⟩ := h; exact DenL.cons h0 .nil
  | i T v => have h0 := h; simp only [Den] at h; obtain ⟨y, h1, rfl⟩ := h; exact DenL.cons h0 .nil
  | f fn a c => have h0 := h; simp only [Den] at h; obtain ⟨xs, ys, h1, h2, rfl⟩ := h; exact DenL.cons h0 .nil
theorem Den.one {v : V} {x : Value} (h : Den U E v x) (hu : ∀ i, (U i).oneCell' = true) (ho : v.one = true) : x.oneCell' = true := by
  cases v with
  | v y => simp only [Den] at h; subst h; cases x <;> first | rfl | (simp [V.one] at ho)
  | u i => simp only [Den] at h; subst h; exact hu i
  | p k o => simp only [Den] at h; obtain ⟨l, h1, rfl⟩ := h; rfl
  | s k o n c => simp only [Den] at h; obtain ⟨l, h1, _, rfl⟩ := h; rfl
  | m k => simp only [Den] at h; obtain ⟨l, h1, rfl⟩ := h; rfl
  | g vs => simp [V.one] at ho
  | t vs => simp [V.one] at ho
  | i T v => simp only [Den] at h; obtain ⟨y, h1, rfl⟩ := h; rfl
  | f fn a c => simp only [Den] at h; obtain ⟨xs, ys, h1, h2, rfl⟩ := h; rfl
end
def CSat (U : Nat → Value) (E : Env) (l : Loc) (w : World) (T : TypeId) (vs : List V) : Prop :=
  ∃ cs xs junk, w.heap[l.b]? = some (.cells cs T (0, 0)) ∧ cs.toList.drop l.d = xs ++ junk ∧ DenL U E vs xs ∧ cs.size = l.d + l.t
def MSat (U : Nat → Value) (E : Env) : List (V × V) → List MapEntry → Nat → Prop
  | [], es, _ => es = []
  | (k, v) :: r, es, i => ∃ e es', es = e :: es' ∧ Den U E k e.key ∧ Den U E v e.val ∧ e.born = i ∧ MSat U E r es' (i + 1)
def OSat (U : Nat → Value) (E : Env) (l : Loc) (w : World) : O → Prop
  | .c T vs len => len = vs.length ∧ CSat U E l w T vs
  | .q T vs => ∃ vs', vs'.Perm vs ∧ CSat U E l w T vs'
  | .m es => ∃ ents, w.heap[l.b]? = some (.map ents es.length) ∧ MSat U E es ents.toList 0
  | .it k n => l.d = 0 ∧ ∃ l', E k = some l' ∧ w.heap[l.b]? = some (.mapIter (some l'.b) n #[] n)
structure HR (U : Nat → Value) (E : Env) (H : HP) (n : Nat) (B : Nat → Prop) (W w : World) : Prop where
  ent : ∀ k o, H.get k = some o → ∃ l, E k = some l ∧ OSat U E l w o
  inj : ∀ k k' l l' o o', H.get k = some o → H.get k' = some o' → E k = some l → E k' = some l' → l.b = l'.b → k = k'
  out : ∀ k l o, H.get k = some o → E k = some l → ¬ B l.b
  new : ∀ k, n ≤ k → E k = none
  keep : ∀ b, B b → b < W.heap.size ∧ w.heap[b]? = W.heap[b]?
  os : w.os = W.os
  tape : w.tape = W.tape
  output : w.output = W.output
  size : W.heap.size ≤ w.heap.size
section
variable {U : Nat → Value} {E E' : Env} {H : HP} {n : Nat} {B : Nat → Prop} {W w w' : World}
theorem OSat.blk {l : Loc} {o : O} (h : OSat U E l w o) : l.b < w.heap.size := by
  have lt : ∀ {x : Obj}, w.heap[l.b]? = some x → l.b < w.heap.size := fun hx => (Array.getElem?_eq_some_iff.1 hx).1
  cases o with
  | c T vs len => obtain ⟨_, cs, xs, j, h1, _⟩ := h; exact lt h1
  | q T vs => obtain ⟨vs', _, cs, xs, j, h1, _⟩ := h; exact lt h1
  | m es => obtain ⟨ents, h1, _⟩ := h; exact lt h1
  | it k n => obtain ⟨_, l', _, h1⟩ := h; exact lt h1
theorem MSat.mono (h : E.le E') : ∀ {es : List (V × V)} {ents : List MapEntry} {i : Nat}, MSat U E es ents i → MSat U E' es ents i
  | [], _, _, hx => hx
  | (k, v) :: r, _, _, ⟨e, es', h1, h2, h3, h4, h5⟩ => ⟨e, es', h1, h2.mono h, h3.mono h, h4, MSat.mono h h5⟩
theorem OSat.mono {l : Loc} {o : O} (h : OSat U E l w o) (he : E.le E') (hb : w'.heap[l.b]? = w.heap[l.b]?) : OSat U E' l w' o := by
  cases o with
  | c T vs len => obtain ⟨h0, cs, xs, j, h1, h2, h3, h4⟩ := h; exact ⟨h0, cs, xs, j, by rw [hb]; exact h1, h2, h3.mono he, h4⟩
  | q T vs => obtain ⟨vs', h0, cs, xs, j, h1, h2, h3, h4⟩ := h; exact ⟨vs', h0, cs, xs, j, by rw [hb]; exact h1, h2, h3.mono he, h4⟩
  | m es => obtain ⟨ents, h1, h2⟩ := h; exact ⟨ents, by rw [hb]; exact h1, h2.mono he⟩
  | it k n => obtain ⟨hd, l', h0, h1⟩ := h; exact ⟨hd, l', he _ _ h0, by rw [hb]; exact h1⟩
theorem HR.new_obj (h : HR U E H n B W w) (hk : okK n = true) {o : O} {x : Obj} {l : Loc} (hb : l.b = w.heap.size) (ho : OSat U (fun k => if k = n then some l else E k) l (w.alloc x) o) :
    HR U (fun k => if k = n then some l else E k) (H.set n (some o)) (Nat.succ n) B W (w.alloc x) := by
  have hle : E.le (fun k => if k = n then some l else E k) := fun k l' hk' => by
    by_cases hkn : k = n
    · subst hkn; rw [h.new k (Nat.le_refl k)] at hk'; cases hk'
    · simp only [if_neg hkn]; exact hk'
  have blk : ∀ b, b < w.heap.size → (w.alloc x).heap[b]? = w.heap[b]? := fun b hb' => by exact Below.heap_alloc w x b hb'
  have old : ∀ k o', (H.set n (some o)).get k = some o' → k ≠ n → H.get k = some o' := fun k o' hk' hne => by
    rw [HP.get_set H k _ hk, if_neg hne] at hk'
    exact hk'
  constructor
  · intro k o' hk'
    by_cases hkn : k = n
    · subst hkn
      rw [HP.get_set H k _ hk, if_pos rfl] at hk'
      cases hk'
      exact ⟨l, by simp, ho⟩
    · obtain ⟨l', h1, h2⟩ := h.ent k o' (old k o' hk' hkn)
      exact ⟨l', by simp only [if_neg hkn]; exact h1, h2.mono hle (blk _ h2.blk)⟩
  · intro k k' l1 l2 o1 o2 h1 h2 e1 e2 hb'
    by_cases hkn : k = n
    · by_cases hkn' : k' = n
      · rw [hkn, hkn']
      · exfalso
        simp only [if_pos hkn, Option.some.injEq] at e1
        simp only [if_neg hkn'] at e2
        obtain ⟨l', g1, g2⟩ := h.ent k' o2 (old k' o2 h2 hkn')
        rw [e2] at g1
        cases g1
        have := g2.blk
        rw [← hb', ← e1, hb] at this
        omega
    · by_cases hkn' : k' = n
      · exfalso
        simp only [if_pos hkn', Option.some.injEq] at e2
        simp only [if_neg hkn] at e1
        obtain ⟨l', g1, g2⟩ := h.ent k o1 (old k o1 h1 hkn)
        rw [e1] at g1
        cases g1
        have := g2.blk
        rw [hb', ← e2, hb] at this
        omega
      · simp only [if_neg hkn] at e1
        simp only [if_neg hkn'] at e2
        exact h.inj k k' l1 l2 o1 o2 (old k o1 h1 hkn) (old k' o2 h2 hkn') e1 e2 hb'
  · intro k l' o' h1 e1
    by_cases hkn : k = n
    · simp only [if_pos hkn, Option.some.injEq] at e1
      subst e1
      intro hB
      have := (h.keep _ hB).1
      have := h.size
      omega
    · simp only [if_neg hkn] at e1
      exact h.out k l' o' (old k o' h1 hkn) e1
  · intro k hk'
    have : k ≠ n := by omega
    simp only [if_neg this]
    exact h.new k (by omega)
  · intro b hB
    obtain ⟨g1, g2⟩ := h.keep b hB
    refine ⟨g1, ?_⟩
    rw [blk b (by have := h.size; omega)]
    exact g2
  · exact h.os
  · exact h.tape
  · exact h.output
  · have : (w.alloc x).heap.size = w.heap.size + 1 := by simp
    have := h.size
    omega
theorem HR.turn (h : HR U E H n B W w) {k : Nat} {o o' : O} {l : Loc} (hk : H.get k = some o) (hok : okK k = true) (he : E k = some l) (ho : OSat U E l w' o')
    (hb : ∀ b, b ≠ l.b → w'.heap[b]? = w.heap[b]?) (hsz : w.heap.size ≤ w'.heap.size) (h1 : w'.os = w.os) (h2 : w'.tape = w.tape) (h3 : w'.output = w.output) : HR U E (H.set k (some o')) n B W w' := by
  have old : ∀ j x, (H.set k (some o')).get j = some x → j ≠ k → H.get j = some x := fun j x hj hne => by
    rw [HP.get_set H j _ hok, if_neg hne] at hj
    exact hj
  have any : ∀ j x, (H.set k (some o')).get j = some x → ∃ x', H.get j = some x' := fun j x hj => by
    by_cases hjk : j = k
    · subst hjk; exact ⟨o, hk⟩
    · exact ⟨x, old j x hj hjk⟩
  constructor
  · intro j x hj
    by_cases hjk : j = k
    · subst hjk
      rw [HP.get_set H j _ hok, if_pos rfl] at hj
      cases hj
      exact ⟨l, he, ho⟩
    · have hj' := old j x hj hjk
      obtain ⟨l', g1, g2⟩ := h.ent j x hj'
      refine ⟨l', g1, g2.mono (Env.le.refl E) (hb _ fun hbb => hjk ?_)⟩
      exact h.inj j k l' l x o hj' hk g1 he hbb
  · intro j j' l1 l2 o1 o2 g1 g2 e1 e2 hbb
    obtain ⟨x1, g1'⟩ := any j o1 g1
    obtain ⟨x2, g2'⟩ := any j' o2 g2
    exact h.inj j j' l1 l2 x1 x2 g1' g2' e1 e2 hbb
  · intro j l' o1 g1 e1
    obtain ⟨x1, g1'⟩ := any j o1 g1
    exact h.out j l' x1 g1' e1
  · exact h.new
  · intro b hB
    obtain ⟨g1, g2⟩ := h.keep b hB
    refine ⟨g1, ?_⟩
    rw [hb b fun hbb => h.out k l o hk he (hbb ▸ hB)]
    exact g2
  · exact h1.trans h.os
  · exact h2.trans h.tape
  · exact h3.trans h.output
  · exact Nat.le_trans h.size hsz
theorem HR.drop (h : HR U E H n B W w) {H' : HP} (hd : ∀ k o, H'.get k = some o → H.get k = some o) : HR U E H' n B W w :=
  ⟨fun k o hk => h.ent k o (hd k o hk), fun k k' l l' o o' h1 h2 => h.inj k k' l l' o o' (hd k o h1) (hd k' o' h2), fun k l o h1 => h.out k l o (hd k o h1), h.new, h.keep, h.os, h.tape, h.output, h.size⟩
theorem HR.le_new (h : HR U E H n B W w) (l : Loc) : E.le (fun k => if k = n then some l else E k) := fun k l' hk' => by
  by_cases hkn : k = n
  · subst hkn; rw [h.new k (Nat.le_refl k)] at hk'; cases hk'
  · simp only [if_neg hkn]; exact hk'
end
end Go.CE
end
section
namespace Go.CE
open Go.RowKit
def aggT : TypeDesc → Bool
  | .struct _ => true
  | .array _ _ => true
  | _ => false
def FOk (P : Program) (d : FI) (f : Field) : Prop := d.off = f.offset ∧ d.T = f.type ∧ Go.LE.ts P d.T = some d.sz ∧ Go.LE.ta P d.T = some d.ag ∧ (d.bl = false → f.name ≠ "_")
def KOk (P : Program) (D : TypeDesc) : TK → Prop
  | .int k => D = .int k
  | .bool => D = .bool
  | .str => D = .string
  | .ptr e => D = .pointer e
  | .sl e => D = .slice e
  | .arr n e => D = .array n e
  | .mp k e => D = .map k e
  | .st fs => ∃ fa, D = .struct fa ∧ fs.length = fa.size ∧ ∀ (f : Nat) d, fs[f]? = some (some d) → ∃ fd, fa[f]? = some fd ∧ FOk P d fd
  | .ifc => ∃ ms, D = .interface ms
  | .fn => ∃ a b c, D = .func a b c
  | .oth => ∀ ms, D ≠ .interface ms
structure TOk (P : Program) (T : TypeId) (i : TI) : Prop where
  d : ∃ D, P.underlying T = some D ∧ Go.LE.ta P T = some i.ag ∧ KOk P D i.k
  sz : Go.LE.ts P T = some i.sz
  z : ∀ z, i.z = some z → ∀ w : World, (zeroValue T).run P w = .ok z w
  by_ : Go.LE.tby P T = some i.by_
structure COk (P : Program) (C : Cfg) (U : Nat → Value) (B : Nat → Prop) (W : World) : Prop where
  ty : ∀ T i, C.ty T = some i → TOk P T i
  gl : ∀ b l, C.gl.get b = some l → B b ∧ ∀ (j : Nat) x, l[j]? = some x → W.cell? ⟨b, j, none⟩ = some x
  u : ∀ i, (U i).oneCell' = true
  cmp : ∀ T, C.cmp T = true → ∃ i, P.info? T = some i ∧ i.comparable = true
  hel : ∀ T, C.hel T = P.stoodInHeld T
  eg : ∀ T, C.eg T = P.eqGuardType P.depth T
section
variable {P : Program} {C : Cfg} {U : Nat → Value} {E E' : Env} {H : HP} {n : Nat} {B : Nat → Prop} {W w w' : World}
theorem CSat.cell {l : Loc} {T : TypeId} {vs : List V} (h : CSat U E l w T vs) {j : Nat} {v : V} (hj : vs[j]? = some v) : ∃ x, w.cell? ⟨l.b, l.d + j, none⟩ = some x ∧ Den U E v x := by
  obtain ⟨cs, xs, junk, h1, h2, h3, h4⟩ := h
  obtain ⟨x, hx, hd⟩ := h3.get hj
  refine ⟨x, ?_, hd⟩
  have hlt := (List.getElem?_eq_some_iff.1 hx).1
  have e : cs.toList[l.d + j]? = some x := by
    rw [← List.getElem?_drop, h2, List.getElem?_append_left hlt]
    exact hx
  simp only [World.cell?, h1]
  simpa using e
theorem CSat.cells {l : Loc} {T : TypeId} {vs : List V} (h : CSat U E l w T vs) (o n : Nat) (hn : o + n ≤ vs.length) : ∃ ys : List Value, DenL U E ((vs.drop o).take n) ys ∧ ys.length = n ∧ ∀ (j : Nat) y, ys[j]? = some y → w.cell? ⟨l.b, l.d + o + j, none⟩ = some y := by
  obtain ⟨cs, xs, junk, h1, h2, h3, h4⟩ := h
  have hl := h3.len
  refine ⟨(xs.drop o).take n, (h3.drop o).take n, by simp; omega, fun j y hj => ?_⟩
  rw [List.getElem?_take] at hj
  split at hj
  · rw [List.getElem?_drop] at hj
    have hlt := (List.getElem?_eq_some_iff.1 hj).1
    have e : cs.toList[l.d + (o + j)]? = some y := by
      rw [← List.getElem?_drop, h2, List.getElem?_append_left hlt]
      exact hj
    simp only [World.cell?, h1]
    rw [show l.d + o + j = l.d + (o + j) by omega]
    simpa using e
  · cases hj
theorem HR.cells (h : HR U E H n B W w) {k : Nat} {vs : List V} (hk : cellsOf H k = some vs) : ∃ l T, E k = some l ∧ CSat U E l w T vs ∧ H.get k ≠ none := by
  unfold cellsOf at hk
  cases hg : H.get k with
  | none => rw [hg] at hk; cases hk
  | some o =>
    rw [hg] at hk
    obtain ⟨l, h1, h2⟩ := h.ent k o hg
    cases o with
    | c T us len => simp only [cellsO, Option.some.injEq] at hk; subst hk; exact ⟨l, T, h1, h2.2, by simp⟩
    | m es => cases hk
    | it k n => cases hk
    | q T us => cases hk
theorem HR.glob (h : HR U E H n B W w) (hC : COk P C U B W) {b : Nat} {l : List Value} (hb : C.gl.get b = some l) {j : Nat} {x : Value} (hj : l[j]? = some x) : w.cell? ⟨b, j, none⟩ = some x := by
  obtain ⟨h1, h2⟩ := hC.gl b l hb
  have := h2 j x hj
  rw [← this]
  exact World.cell?_of_block (h.keep b h1).2
theorem partOf_inv {ag : Bool} {sz o : Nat} {l : List V} {v : V} (h : partOf ag sz l o = some v) : (ag = true ∧ v = .g ((l.drop o).take sz) ∧ ((l.drop o).take sz).length = sz) ∨ (ag = false ∧ l[o]? = some v) := by
  cases ag with
  | true =>
    simp only [partOf, partA, drp_eq, tak_eq, lng_eq] at h
    cases hb : Nat.beq (List.take sz (List.drop o l)).length sz with
    | false => rw [hb] at h; cases h
    | true =>
      rw [hb] at h
      simp only [partB, Option.some.injEq] at h
      exact .inl ⟨rfl, h.symm, Nat.eq_of_beq_eq_true hb⟩
  | false =>
    simp only [partOf, nth_eq] at h
    exact .inr ⟨rfl, h⟩
theorem take_len {α : Type} {l : List α} {o sz : Nat} (h : ((l.drop o).take sz).length = sz) (hp : 0 < sz) : o + sz ≤ l.length := by
  simp at h
  omega
theorem ptr_cases {p : V → Prop} (a : V) (h1 : ∀ k o, p (.p k o)) (h2 : ∀ b o, p (.v (.pointer (some ⟨b, o, none⟩)))) (h3 : ∀ a, (∀ k o, a ≠ .p k o) → (∀ b o, a ≠ .v (.pointer (some ⟨b, o, none⟩))) → p a) : p a := by
  by_cases g1 : ∃ k o, a = .p k o
  · obtain ⟨k, o, rfl⟩ := g1; exact h1 k o
  by_cases g2 : ∃ b o, a = .v (.pointer (some ⟨b, o, none⟩))
  · obtain ⟨b, o, rfl⟩ := g2; exact h2 b o
  exact h3 a (fun k o e => g1 ⟨k, o, e⟩) (fun b o e => g2 ⟨b, o, e⟩)
theorem load2_none {i : Option TI} {a : V} (g1 : ∀ k o, a ≠ .p k o) (g2 : ∀ b o, a ≠ .v (.pointer (some ⟨b, o, none⟩))) : load2 i a C H = none := by
  unfold load2
  split
  · exact absurd rfl (g1 _ _)
  · exact absurd rfl (g2 _ _)
  · rfl
theorem run_loadAt (T : TypeId) (b o : Nat) {x : Value} (h : (loadVar T ⟨b, o, none⟩).run P w = .ok x w) : (Instr.loadAt T (.pointer (some ⟨b, o, none⟩))).run P w = .ok x w := by
  simp only [Instr.loadAt, Instr.sureAddr, Sem.run_bind, Sem.run_pure, Result.andThen_ok]
  exact h
theorem load_sound (hC : COk P C U B W) (h : HR U E H n B W w) {T : Nat} {a v : V} {y : Value} (ha : Den U E a y) (hl : load2 (C.ty T) a C H = some v) : ∃ x, (Instr.loadAt T y).run P w = .ok x w ∧ Den U E v x := by
  cases hi : C.ty T with
  | none => rw [hi] at hl; simp [load2] at hl
  | some i =>
    rw [hi] at hl
    have ht := hC.ty T i hi
    obtain ⟨D, _, hag, _⟩ := ht.d
    revert ha hl
    refine ptr_cases (p := fun a => Den U E a y → load2 (some i) a C H = some v → ∃ x, (Instr.loadAt T y).run P w = .ok x w ∧ Den U E v x) a (fun k o ha hl => ?_) (fun b o ha hl => ?_) (fun a g1 g2 ha hl => ?_)
    · simp only [load2] at hl
      simp only [Den] at ha
      obtain ⟨l, e1, rfl⟩ := ha
      cases hc : cellsOf H k with
      | none => rw [hc] at hl; simp [partO] at hl
      | some us =>
        rw [hc] at hl
        simp only [partO] at hl
        obtain ⟨l', T', e2, hs, _⟩ := h.cells hc
        rw [e1] at e2
        cases e2
        rcases partOf_inv hl with ⟨h1, rfl, h3⟩ | ⟨h1, h3⟩
        · by_cases hp : 0 < i.sz
          · obtain ⟨ys, g1, g2, g3⟩ := hs.cells o i.sz (take_len h3 hp)
            exact ⟨.agg ys.toArray, run_loadAt T _ _ (Go.LE.run_loadVar_agg ht.sz (hag.trans (by rw [h1])) _ ys g2 fun j x hj => by rw [Addr.add_lit]; exact g3 j x hj), by simp only [Den]; exact ⟨ys, g1, rfl⟩⟩
          · have h0 : i.sz = 0 := by omega
            refine ⟨.agg #[], run_loadAt T _ _ (Go.LE.run_loadVar_agg ht.sz (hag.trans (by rw [h1])) _ [] (by simp [h0]) fun j x hj => by simp at hj), ?_⟩
            simp only [Den, h0, List.take_zero]
            exact ⟨[], .nil, rfl⟩
        · obtain ⟨x, g1, g2⟩ := hs.cell h3
          exact ⟨x, run_loadAt T _ _ (Go.LE.run_loadVar_one (hag.trans (by rw [h1])) _ x g1), g2⟩
    · simp only [load2] at hl
      simp only [Den] at ha
      subst ha
      cases hc : C.gl.get b with
      | none => rw [hc] at hl; simp [partO, vs] at hl
      | some ls =>
        rw [hc] at hl
        simp only [partO, vs] at hl
        rcases partOf_inv hl with ⟨h1, rfl, h3⟩ | ⟨h1, h3⟩
        · refine ⟨.agg (((ls.drop o).take i.sz)).toArray, run_loadAt T _ _ (Go.LE.run_loadVar_agg ht.sz (hag.trans (by rw [h1])) _ _ (by simpa using h3) fun j x hj => ?_), ?_⟩
          · rw [Addr.add_lit]
            rw [List.getElem?_take] at hj
            split at hj
            · rw [List.getElem?_drop] at hj
              exact h.glob hC hc hj
            · cases hj
          · simp only [Den]
            refine ⟨_, ?_, rfl⟩
            rw [← List.map_drop, ← List.map_take]
            exact DenL.vals _
        · rw [List.getElem?_map] at h3
          obtain ⟨x, hx, rfl⟩ := Option.map_eq_some_iff.1 h3
          exact ⟨x, run_loadAt T _ _ (Go.LE.run_loadVar_one (hag.trans (by rw [h1])) _ x (h.glob hC hc hx)), by simp [Den]⟩
    · rw [load2_none g1 g2] at hl
      cases hl
theorem one_cells {x : Value} (h : x.oneCell' = true) : x.cells = #[x] := Go.LE.cells_of_one' h
theorem HR.new_cells (h : HR U E H n B W w) (hk : okK n = true) {T : TypeId} {us : List V} {cs : Array Value} (hd : DenL U E us cs.toList) :
    HR U (fun k => if k = n then some ⟨w.heap.size, 0, cs.size⟩ else E k) (H.set n (some (.c T us (lng us)))) (Nat.succ n) B W (w.alloc (.cells cs T)) := by
  refine h.new_obj hk rfl ⟨lng_eq us, cs, cs.toList, [], ?_, by simp, hd.mono (h.le_new _), by show cs.size = 0 + cs.size; omega⟩
  exact heap_alloc_new w (.cells cs T)
theorem mk_inv {H H' : HP} {n n' : Nat} {o : O} {x v : V} (h : mk H n o x = .ok v H' n') : okK n = true ∧ v = x ∧ H' = H.set n (some o) ∧ n' = Nat.succ n := by
  unfold mk at h
  cases hk : okK n with
  | false => rw [hk] at h; cases h
  | true => rw [hk] at h; simp only [mk2, R.ok.injEq] at h; exact ⟨rfl, h.1.symm, h.2.1.symm, h.2.2.symm⟩
end
end Go.CE
end
section
namespace Go.CE
open Go.RowKit
section
variable {P : Program} {C : Cfg} {U : Nat → Value} {E E' : Env} {H : HP} {n : Nat} {B : Nat → Prop} {W w w' : World} {F : FR} {a : Act}
def FrSat (U : Nat → Value) (E : Env) (F : FR) (a : Act) : Prop := ∀ t v, F.get t = some v → Den U E v (a.tmps.getD t undef)
theorem FrSat.mono (h : FrSat U E F a) (he : E.le E') : FrSat U E' F a := fun t v hv => (h t v hv).mono he
theorem ev_sound (h : FrSat U E F a) (x : Operand) {v : V} (hv : ev x F = some v) : Den U E v (a.eval x) := by
  cases x with
  | tmp t => exact h t v hv
  | const y => simp only [ev, opd, gtX, Option.some.injEq] at hv; subst hv; simp only [Den]; rfl
  | global g => simp only [ev, opd, gtX, Option.some.injEq] at hv; subst hv; simp only [Den]; rfl
  | func f => simp only [ev, opd, gtX, Option.some.injEq] at hv; subst hv; simp only [Den]; rfl
theorem conO_inv {α : Type} {x : Option α} {r : Option (List α)} {l : List α} (h : conO x r = some l) : ∃ a l', x = some a ∧ r = some l' ∧ l = a :: l' := by
  cases x with
  | none => cases h
  | some a => cases r with
    | none => cases h
    | some l' => simp only [conO, Option.some.injEq] at h; exact ⟨a, l', rfl, rfl, h.symm⟩
theorem evL_sound (h : FrSat U E F a) : ∀ (l : List Operand) {us : List V}, evL l F = some us → DenL U E us (l.map a.eval)
  | [], us, hu => by simp only [evL, Option.some.injEq] at hu; subst hu; exact .nil
  | x :: r, us, hu => by
    rw [evL] at hu
    obtain ⟨v, l', h1, h2, rfl⟩ := conO_inv hu
    exact .cons (ev_sound h x h1) (evL_sound h r h2)
def GP (P : Program) (U : Nat → Value) (E : Env) (w : World) (o : Option V) (s : Sem Value) : Prop := ∀ v, o = some v → ∃ x, s.run P w = .ok x w ∧ Den U E v x
theorem GP.none {s : Sem Value} : GP P U E w none s := fun v h => by cases h
theorem GP.pure {v : V} {x : Value} (h : Den U E v x) : GP P U E w (some v) (pure x) := fun u hu => by cases hu; exact ⟨x, rfl, h⟩
theorem GP.run {v : V} {x : Value} {s : Sem Value} (h : s.run P w = .ok x w) (hd : Den U E v x) : GP P U E w (some v) s := fun u hu => by cases hu; exact ⟨x, h, hd⟩
theorem fld_sound (hC : COk P C U B W) {S f : Nat} {d : FI} (h : fldO (fieldsOf (C.ty S)) f = some d) : ∃ (fa : Array Field) (fd : Field), P.underlying S = some (.struct fa) ∧ fa[f]? = some fd ∧ FOk P d fd := by
  cases hi : C.ty S with
  | none => rw [hi] at h; simp [fieldsOf, fldO] at h
  | some i =>
    rw [hi] at h
    obtain ⟨D, hD, hag, hk⟩ := (hC.ty S i hi).d
    obtain ⟨sz, ag, z, b, k⟩ := i
    cases k <;> simp only [fieldsOf, fldO] at h <;> try cases h
    rename_i fs
    obtain ⟨fa, rfl, hl, hf⟩ := hk
    rw [nth_eq] at h
    have hj : fs[f]? = some (some d) := by
      cases hg : fs[f]? with
      | none => rw [hg] at h; cases h
      | some x => cases x with
        | none => rw [hg] at h; cases h
        | some y => rw [hg] at h; simp only [joinO, Option.some.injEq] at h; rw [h]
    obtain ⟨fd, g1, g2⟩ := hf f d hj
    exact ⟨fa, fd, hD, g1, g2⟩
theorem run_fieldAt {S f : Nat} {d : FI} (hC : COk P C U B W) (h : fldO (fieldsOf (C.ty S)) f = some d) (hp : 0 < d.sz) (b o : Nat) (w : World) :
    (Instr.fieldAt S (.pointer (some ⟨b, o, none⟩)) f).run P w = .ok (.pointer (some ⟨b, o + d.off, none⟩)) w := by
  obtain ⟨fa, fd, h1, h2, h3, h4, h5, h6, _⟩ := fld_sound hC h
  have : Go.LE.tf P S f = some (d.off, d.sz, d.ag) := by
    unfold Go.LE.tf
    rw [h1]
    simp only [h2, Option.bind_some, ← h4, h5, h6, Option.map_some, h3]
  exact Go.LE.run_fieldAt this hp b o w
theorem fieldAddr_sound (hC : COk P C U B W) {S f : Nat} {x : V} {y : Value} (hx : Den U E x y) : GP P U E w (fa2 (fldO (fieldsOf (C.ty S)) f) x) (Instr.fieldAt S y f) := by
  intro v hv
  cases hd : fldO (fieldsOf (C.ty S)) f with
  | none => rw [hd] at hv; simp [fa2] at hv
  | some d =>
    rw [hd] at hv
    revert hx hv
    refine ptr_cases (p := fun x => Den U E x y → fa2 (some d) x = some v → ∃ z, (Instr.fieldAt S y f).run P w = .ok z w ∧ Den U E v z) x (fun k o hx hv => ?_) (fun b o hx hv => ?_) (fun x g1 g2 hx hv => ?_)
    · simp only [fa2] at hv
      cases hb : Nat.blt 0 d.sz with
      | false => rw [hb] at hv; cases hv
      | true =>
        rw [hb] at hv
        simp only [fa3, Option.some.injEq] at hv
        subst hv
        simp only [Den] at hx ⊢
        obtain ⟨l, e1, rfl⟩ := hx
        refine ⟨_, run_fieldAt hC hd (by simpa using hb) l.b (l.d + o) w, l, e1, ?_⟩
        rw [Nat.add_assoc]
        rfl
    · simp only [fa2] at hv
      cases hb : Nat.blt 0 d.sz with
      | false => rw [hb] at hv; cases hv
      | true =>
        rw [hb] at hv
        simp only [fa3, Option.some.injEq] at hv
        subst hv
        simp only [Den] at hx ⊢
        subst hx
        exact ⟨_, run_fieldAt hC hd (by simpa using hb) b o w, rfl⟩
    · exfalso
      revert hv
      unfold fa2
      split
      · exact absurd rfl (g1 _ _)
      · exact absurd rfl (g2 _ _)
      · exact fun h => by cases h
theorem cells_agg (cs : Array Value) : (Value.agg cs).cells = cs := rfl
theorem part_sound {T : TypeId} {sz o : Nat} {ag : Bool} {l : List V} {cs : Array Value} {v : V} (hts : Go.LE.ts P T = some sz) (hta : Go.LE.ta P T = some ag) (hd : DenL U E l cs.toList) (hv : partOf ag sz l o = some v) : ∃ x, (part T cs o).run P w = .ok x w ∧ Den U E v x := by
  rcases partOf_inv hv with ⟨rfl, rfl, h3⟩ | ⟨rfl, h3⟩
  · refine ⟨.agg (cs.extract o (o + sz)), by simp [part, Go.LE.run_ta hta, Go.LE.run_ts hts], ?_⟩
    simp only [Den]
    refine ⟨(cs.toList.drop o).take sz, (hd.drop o).take sz, ?_⟩
    congr 1
    apply Array.ext'
    simp [Array.toList_extract, List.extract_eq_take_drop]
  · obtain ⟨x, hx, hdx⟩ := hd.get h3
    refine ⟨x, ?_, hdx⟩
    have : cs[o]? = some x := by simpa using hx
    simp [part, Go.LE.run_ta hta, this]
theorem aggC_inv {x : V} {y : Value} {l : List V} (hx : Den U E x y) (h : x.aggC = some l) : ∃ cs, y = .agg cs ∧ DenL U E l cs.toList := by
  cases x with
  | v z =>
    simp only [Den] at hx
    subst hx
    cases y <;> simp only [V.aggC] at h <;> try cases h
    exact ⟨_, rfl, DenL.vals _⟩
  | g vs => simp only [Den] at hx; obtain ⟨xs, h1, rfl⟩ := hx; simp only [V.aggC, Option.some.injEq] at h; subst h; exact ⟨_, rfl, by simpa using h1⟩
  | u i => cases h
  | p k o => cases h
  | s k o n c => cases h
  | m k => cases h
  | t vs => cases h
  | i T z => cases h
  | f fn a c => cases h
theorem field_sound (hC : COk P C U B W) {S f : Nat} {x : V} {y : Value} (hx : Den U E x y) : GP P U E w (field2 (fldO (fieldsOf (C.ty S)) f) x) (Instr.field S y f) := by
  intro v hv
  cases hd : fldO (fieldsOf (C.ty S)) f with
  | none => rw [hd] at hv; simp [field2] at hv
  | some d =>
    rw [hd] at hv
    simp only [field2] at hv
    cases hc : x.aggC with
    | none => rw [hc] at hv; cases hv
    | some l =>
      rw [hc] at hv
      simp only [partO] at hv
      obtain ⟨cs, rfl, hl⟩ := aggC_inv hx hc
      obtain ⟨fa, fd, h1, h2, h3, h4, h5, h6, _⟩ := fld_sound hC hd
      obtain ⟨z, hz, hdz⟩ := part_sound h5 h6 hl hv
      refine ⟨z, ?_, hdz⟩
      simp only [Instr.field, Sem.run_bind, run_underlying h1, Result.andThen_ok, h2, asAgg, Sem.run_pure, ← h3, ← h4]
      exact hz
theorem toN_inv {x : V} {j : Nat} (h : x.toN = some j) : ∃ k, x = .v (.int k (j : Nat)) := by
  unfold V.toN at h
  split at h
  · simp only [Option.some.injEq] at h; subst h; exact ⟨_, rfl⟩
  · cases h
theorem Den.v_inv {x y : Value} (h : Den U E (.v x) y) : y = x := by simpa [Den] using h
theorem ty_inv (hC : COk P C U B W) {T : Nat} {i : TI} (hi : C.ty T = some i) : ∃ D, P.underlying T = some D ∧ Go.LE.ta P T = some i.ag ∧ KOk P D i.k ∧ Go.LE.ts P T = some i.sz := by
  obtain ⟨D, h1, h2, h3⟩ := (hC.ty T i hi).d
  exact ⟨D, h1, h2, h3, (hC.ty T i hi).sz⟩
theorem ty_arr (hC : COk P C U B W) {T sz : Nat} {ag : Bool} {z : Option Value} {b len e : Nat} (hi : C.ty T = some ⟨sz, ag, z, b, .arr len e⟩) : P.underlying T = some (.array len e) := by
  obtain ⟨D, h1, _, h3, _⟩ := ty_inv hC hi
  have h4 : D = .array len e := h3
  rw [h1, h4]
theorem ty_sl (hC : COk P C U B W) {T sz : Nat} {ag : Bool} {z : Option Value} {b e : Nat} (hi : C.ty T = some ⟨sz, ag, z, b, .sl e⟩) : P.underlying T = some (.slice e) := by
  obtain ⟨D, h1, _, h3, _⟩ := ty_inv hC hi
  have h4 : D = .slice e := h3
  rw [h1, h4]
theorem ty_str (hC : COk P C U B W) {T sz : Nat} {ag : Bool} {z : Option Value} {b : Nat} (hi : C.ty T = some ⟨sz, ag, z, b, .str⟩) : P.underlying T = some .string := by
  obtain ⟨D, h1, _, h3, _⟩ := ty_inv hC hi
  have h4 : D = .string := h3
  rw [h1, h4]
theorem ty_int (hC : COk P C U B W) {T sz : Nat} {ag : Bool} {z : Option Value} {b : Nat} {k : IntKind} (hi : C.ty T = some ⟨sz, ag, z, b, .int k⟩) : P.underlying T = some (.int k) := by
  obtain ⟨D, h1, _, h3, _⟩ := ty_inv hC hi
  have h4 : D = .int k := h3
  rw [h1, h4]
theorem ty_mp (hC : COk P C U B W) {T sz : Nat} {ag : Bool} {z : Option Value} {b k e : Nat} (hi : C.ty T = some ⟨sz, ag, z, b, .mp k e⟩) : P.underlying T = some (.map k e) := by
  obtain ⟨D, h1, _, h3, _⟩ := ty_inv hC hi
  have h4 : D = .map k e := h3
  rw [h1, h4]
theorem ia2_inv {t : Option TI} {jo : Option Nat} {x v : V} (h : ia2 t jo x C = some v) : (∃ sz ag z b len e j, t = some ⟨sz, ag, z, b, .arr len e⟩ ∧ jo = some j ∧ ia6 (szO (C.ty e) j) (Nat.blt j len) x = some v) ∨ (∃ sz ag z b e j, t = some ⟨sz, ag, z, b, .sl e⟩ ∧ jo = some j ∧ ia3 x (szO (C.ty e) j) j = some v) := by
  unfold ia2 at h
  split at h
  · exact .inl ⟨_, _, _, _, _, _, _, rfl, rfl, h⟩
  · exact .inr ⟨_, _, _, _, _, _, rfl, rfl, h⟩
  · cases h
theorem szO_inv {t : Option TI} {j d : Nat} (h : szO t j = some d) : ∃ i, t = some i ∧ d = j * i.sz := by
  cases t with
  | none => cases h
  | some i => simp only [szO, Option.some.injEq] at h; exact ⟨i, rfl, h.symm⟩
theorem fa3_inv {b : Bool} {x v : V} (h : fa3 b x = some v) : b = true ∧ v = x := by
  cases b with
  | false => cases h
  | true => simp only [fa3, Option.some.injEq] at h; exact ⟨rfl, h.symm⟩
theorem ia3_inv {x v : V} {d : Option Nat} {j : Nat} (h : ia3 x d j = some v) : ∃ k o n c dd, x = .s k o n c ∧ d = some dd ∧ j < n ∧ v = .p k (o + dd) := by
  unfold ia3 at h
  split at h
  · obtain ⟨h1, h2⟩ := fa3_inv h
    exact ⟨_, _, _, _, _, rfl, rfl, by simpa using h1, h2⟩
  · cases h
theorem ia6_inv {d : Option Nat} {b : Bool} {x v : V} (h : ia6 d b x = some v) : ∃ dd, d = some dd ∧ b = true ∧ ia4 x dd x = some v := by
  cases d with
  | none => cases h
  | some dd => cases b with
    | false => cases h
    | true => exact ⟨dd, rfl, rfl, h⟩
theorem ia4_inv {x v x' : V} {d : Nat} (h : ia4 x d x' = some v) : (∃ k o, x = .p k o ∧ v = .p k (o + d)) ∨ (∃ b o, x = .v (.pointer (some ⟨b, o, none⟩)) ∧ v = .v (.pointer (some ⟨b, o + d, none⟩))) := by
  unfold ia4 at h
  split at h
  · simp only [Option.some.injEq] at h; exact .inl ⟨_, _, rfl, h.symm⟩
  · simp only [Option.some.injEq] at h; exact .inr ⟨_, _, rfl, h.symm⟩
  · cases h
theorem indexAddr_sound (hC : COk P C U B W) {T : Nat} {x i : V} {y z : Value} (hx : Den U E x y) (hz : Den U E i z) : GP P U E w (ia2 (C.ty T) i.toN x C) (Instr.indexAt T y z) := by
  intro v hv
  rcases ia2_inv hv with ⟨sz, ag, zz, b, len, e, j, hi, hj, hr⟩ | ⟨sz, ag, zz, b, e, j, hi, hj, hr⟩
  · clear hv
    obtain ⟨k, rfl⟩ := toN_inv hj
    cases hz.v_inv
    have hD := ty_arr hC hi
    obtain ⟨dd, hd, hb, hr⟩ := ia6_inv hr
    obtain ⟨d, he, rfl⟩ := szO_inv hd
    have hts := (hC.ty e d he).sz
    have hlt : j < len := by simpa using hb
    rcases ia4_inv hr with ⟨k', o, rfl, rfl⟩ | ⟨b', o, rfl, rfl⟩
    · simp only [Den] at hx
      obtain ⟨l, e1, rfl⟩ := hx
      refine ⟨.pointer (some ⟨l.b, l.d + o + j * d.sz, none⟩), ?_, ?_⟩
      · simp [Instr.indexAt, asIntOf, Instr.sureAddr, run_underlying hD, Go.LE.run_ts hts, hlt, Addr.add_lit]
      · simp only [Den]
        exact ⟨l, e1, by rw [Nat.add_assoc]⟩
    · cases hx.v_inv
      refine ⟨.pointer (some ⟨b', o + j * d.sz, none⟩), ?_, by simp only [Den]⟩
      simp [Instr.indexAt, asIntOf, Instr.sureAddr, run_underlying hD, Go.LE.run_ts hts, hlt, Addr.add_lit]
  · clear hv
    obtain ⟨k, rfl⟩ := toN_inv hj
    cases hz.v_inv
    have hD := ty_sl hC hi
    obtain ⟨k', o, n', c, dd, rfl, hd, hlt, rfl⟩ := ia3_inv hr
    obtain ⟨d, he, rfl⟩ := szO_inv hd
    have hts := (hC.ty e d he).sz
    simp only [Den] at hx
    obtain ⟨l, e1, _, rfl⟩ := hx
    refine ⟨.pointer (some ⟨l.b, l.d + o + j * d.sz, none⟩), ?_, ?_⟩
    · simp [Instr.indexAt, asIntOf, run_underlying hD, Go.LE.run_ts hts, hlt, Addr.add_lit]
    · simp only [Den]
      exact ⟨l, e1, by rw [Nat.add_assoc]⟩
theorem ix2_inv {t : Option TI} {jo : Option Nat} {x v : V} (h : ix2 t jo x C = some v) : (∃ sz ag z b len e j, t = some ⟨sz, ag, z, b, .arr len e⟩ ∧ jo = some j ∧ ix3 (C.ty e) j x.aggC (Nat.blt j len) = some v) ∨ (∃ sz ag z b j s, t = some ⟨sz, ag, z, b, .str⟩ ∧ jo = some j ∧ x = .v (.string s) ∧ byV (nth s.data.toList j) = some v) := by
  unfold ix2 at h
  split at h
  · exact .inl ⟨_, _, _, _, _, _, _, rfl, rfl, h⟩
  · exact .inr ⟨_, _, _, _, _, _, rfl, rfl, rfl, h⟩
  · cases h
theorem ix3_inv {d : Option TI} {j : Nat} {l : Option (List V)} {b : Bool} {v : V} (h : ix3 d j l b = some v) : ∃ i, d = some i ∧ b = true ∧ partO l i.ag i.sz (j * i.sz) = some v := by
  unfold ix3 at h
  split at h
  · exact ⟨_, rfl, rfl, h⟩
  · cases h
theorem partO_inv {l : Option (List V)} {ag : Bool} {sz o : Nat} {v : V} (h : partO l ag sz o = some v) : ∃ us, l = some us ∧ partOf ag sz us o = some v := by
  cases l with
  | none => cases h
  | some us => exact ⟨us, rfl, h⟩
theorem byte_at {s : ByteArray} {j : Nat} {b : UInt8} (h : s.data.toList[j]? = some b) : s[j]? = some b := by
  obtain ⟨h1, h2⟩ := List.getElem?_eq_some_iff.1 h
  have h1' : j < s.size := by simpa using h1
  rw [getElem?_pos s j h1', ← h2]
  rfl
theorem index_sound (hC : COk P C U B W) {T : Nat} {x i : V} {y z : Value} (hx : Den U E x y) (hz : Den U E i z) : GP P U E w (ix2 (C.ty T) i.toN x C) (Instr.index T y z) := by
  intro v hv
  rcases ix2_inv hv with ⟨sz, ag, zz, b, len, e, j, hi, hj, hr⟩ | ⟨sz, ag, zz, b, j, s, hi, hj, hx0, hr⟩
  · clear hv
    obtain ⟨k, rfl⟩ := toN_inv hj
    cases hz.v_inv
    have hD := ty_arr hC hi
    obtain ⟨d, he, hb, hr⟩ := ix3_inv hr
    obtain ⟨l, hc, hr⟩ := partO_inv hr
    obtain ⟨_, _, hag, _, hts⟩ := ty_inv hC he
    have hlt : j < len := by simpa using hb
    obtain ⟨cs, rfl, hl⟩ := aggC_inv hx hc
    obtain ⟨r, hrr, hdr⟩ := part_sound (w := w) hts hag hl hr
    refine ⟨r, ?_, hdr⟩
    simp [Instr.index, asIntOf, run_underlying hD, Go.LE.run_ts hts, hlt, hrr]
  · clear hv
    obtain ⟨k, rfl⟩ := toN_inv hj
    cases hz.v_inv
    subst hx0
    cases hx.v_inv
    have hD := ty_str hC hi
    rw [nth_eq] at hr
    cases hb : s.data.toList[j]? with
    | none => rw [hb] at hr; cases hr
    | some bt =>
      rw [hb] at hr
      simp only [byV, Option.some.injEq] at hr
      subst hr
      refine ⟨.int .u8 (bt.toNat : Nat), ?_, by simp only [Den]; rfl⟩
      simp [Instr.index, asIntOf, run_underlying hD, byte_at hb]
end
end Go.CE
end
section
namespace Go.CE
open Go.RowKit
theorem wrapU_spec (k : IntKind) : wrapU k = !k.signed := by cases k <;> rfl
theorem limK_spec (k : IntKind) : limK k = if k.signed then 2 ^ (k.bits - 1) else 2 ^ k.bits := by cases k <;> rfl
theorem bits_pos (k : IntKind) : 0 < k.bits := by cases k <;> decide
theorem wrap_small {k : IntKind} {m : Nat} (h : m < limK k) : k.wrap (.ofNat m) = .ofNat m := by
  rw [limK_spec] at h
  unfold IntKind.wrap
  have hb := bits_pos k
  have h2 : (2 : Nat) ^ (k.bits - 1) * 2 = 2 ^ k.bits := by rw [← Nat.pow_succ]; congr 1; omega
  have hp : 0 < (2 : Nat) ^ (k.bits - 1) := Nat.pow_pos (by omega)
  have hm : (Int.ofNat m) % (2 ^ k.bits : Int) = Int.ofNat m := by
    have : m < 2 ^ k.bits := by split at h <;> omega
    have e : ((2 : Int) ^ k.bits) = ((2 ^ k.bits : Nat) : Int) := by norm_cast
    rw [e]
    exact Int.emod_eq_of_lt (Int.natCast_nonneg m) (Int.ofNat_lt.2 this)
  simp only [hm]
  split
  · rename_i hc
    simp only [Bool.and_eq_true, decide_eq_true_eq] at hc
    rw [if_pos hc.1] at h
    have e : ((2 : Int) ^ (k.bits - 1)) = ((2 ^ (k.bits - 1) : Nat) : Int) := by norm_cast
    rw [e] at hc
    have := hc.2
    have : (2 ^ (k.bits - 1) : Nat) ≤ m := Int.ofNat_le.1 this
    omega
  · rfl
theorem wrapF_eq (n : Int) (k : IntKind) : wrapF n k = k.wrap n := by
  cases n with
  | negSucc m => rfl
  | ofNat m =>
    simp only [wrapF]
    cases hu : wrapU k with
    | true =>
      have hs : k.signed = false := by rw [wrapU_spec] at hu; simpa using hu
      simp only [wrapF2]
      unfold IntKind.wrap
      simp only [hs, Bool.false_and, Bool.false_eq_true, if_false]
      rw [limK_spec, hs]
      simp only [Bool.false_eq_true, if_false]
      have e : ((2 : Int) ^ k.bits) = ((2 ^ k.bits : Nat) : Int) := by norm_cast
      rw [e]
      rfl
    | false =>
      simp only [wrapF2]
      cases hb : Nat.blt m (limK k) with
      | false => rfl
      | true => exact (wrap_small (by simpa using hb)).symm
theorem addI_eq (a b : Int) : addI a b = a + b := by
  cases a <;> cases b <;> rfl
theorem subI_eq (a b : Int) : subI a b = a - b := by
  cases a with
  | ofNat x => cases b with
    | ofNat y =>
      simp only [subI]
      cases h : Nat.ble y x with
      | false => rfl
      | true =>
        have hle : y ≤ x := by simpa using h
        show ((x - y : Nat) : Int) = (x : Int) - (y : Int)
        omega
    | negSucc y => rfl
  | negSucc x => cases b <;> rfl
theorem eqI_eq (a b : Int) : eqI a b = decide (a = b) := by
  rw [Bool.eq_iff_iff]
  cases a with
  | ofNat x => cases b with
    | ofNat y => simp only [eqI, Nat.beq_eq, decide_eq_true_eq, Int.ofNat.injEq]
    | negSucc y => simp [eqI]
  | negSucc x => cases b with
    | ofNat y => simp [eqI]
    | negSucc y => simp [eqI]
theorem ltI_eq (a b : Int) : ltI a b = decide (a < b) := by
  rw [Bool.eq_iff_iff]
  cases a with
  | ofNat x => cases b with
    | ofNat y => simp [ltI]
    | negSucc y => simp only [ltI, decide_eq_true_eq, Bool.false_eq_true, false_iff]; simp only [Int.ofNat_eq_natCast]; omega
  | negSucc x => cases b with
    | ofNat y => simp only [ltI, decide_eq_true_eq, true_iff]; simp only [Int.ofNat_eq_natCast]; omega
    | negSucc y => simp only [ltI, Nat.blt_eq, decide_eq_true_eq]; omega
theorem leI_eq (a b : Int) : leI a b = decide (a ≤ b) := by
  rw [Bool.eq_iff_iff]
  cases a with
  | ofNat x => cases b with
    | ofNat y => simp [leI]
    | negSucc y => simp only [leI, decide_eq_true_eq, Bool.false_eq_true, false_iff]; simp only [Int.ofNat_eq_natCast]; omega
  | negSucc x => cases b with
    | ofNat y => simp only [leI, decide_eq_true_eq, true_iff]; simp only [Int.ofNat_eq_natCast]; omega
    | negSucc y => simp only [leI, Nat.ble_eq, decide_eq_true_eq]; omega
theorem eqK_eq {a b : IntKind} (h : eqK a b = true) : a = b := by
  cases a <;> cases b <;> first | rfl | (exact absurd h (by decide))
theorem lim_le (k : IntKind) : limK k ≤ 2 ^ k.bits := by cases k <;> decide
theorem ofInt_nat {k : IntKind} {x : Nat} (h : x < limK k) : (BitVec.ofInt k.bits (Int.ofNat x)).toNat = x := by
  simp [BitVec.toNat_ofInt]
  exact Nat.mod_eq_of_lt (Nat.lt_of_lt_of_le h (lim_le k))
theorem lim_pow (k : IntKind) : ∃ m, limK k = 2 ^ m := by rw [limK_spec]; split <;> exact ⟨_, rfl⟩
theorem bits_and {k : IntKind} {x y : Nat} (hx : x < limK k) (hy : y < limK k) : Go.LE.bitsV .and k (.ofNat x) (.ofNat y) = .ofNat (Nat.land x y) := by
  simp only [Go.LE.bitsV, BitVec.toNat_and, ofInt_nat hx, ofInt_nat hy]
  exact wrap_small (Nat.lt_of_le_of_lt Nat.and_le_left hx)
theorem or_lt {k : IntKind} {x y : Nat} (hx : x < limK k) (hy : y < limK k) : Nat.lor x y < limK k := by
  obtain ⟨m, hm⟩ := lim_pow k
  rw [hm] at hx hy ⊢
  exact Nat.or_lt_two_pow hx hy
theorem xor_lt {k : IntKind} {x y : Nat} (hx : x < limK k) (hy : y < limK k) : Nat.xor x y < limK k := by
  obtain ⟨m, hm⟩ := lim_pow k
  rw [hm] at hx hy ⊢
  exact Nat.xor_lt_two_pow hx hy
theorem bits_or {k : IntKind} {x y : Nat} (hx : x < limK k) (hy : y < limK k) : Go.LE.bitsV .or k (.ofNat x) (.ofNat y) = .ofNat (Nat.lor x y) := by
  simp only [Go.LE.bitsV, BitVec.toNat_or, ofInt_nat hx, ofInt_nat hy]
  exact wrap_small (or_lt hx hy)
theorem bits_xor {k : IntKind} {x y : Nat} (hx : x < limK k) (hy : y < limK k) : Go.LE.bitsV .xor k (.ofNat x) (.ofNat y) = .ofNat (Nat.xor x y) := by
  simp only [Go.LE.bitsV, BitVec.toNat_xor, ofInt_nat hx, ofInt_nat hy]
  exact wrap_small (xor_lt hx hy)
theorem andNot_eq {n x y : Nat} (hx : x < 2 ^ n) : (BitVec.ofNat n x &&& ~~~ BitVec.ofNat n y).toNat = Nat.xor x (Nat.land x (y % 2 ^ n)) := by
  apply Nat.eq_of_testBit_eq
  intro i
  show _ = (x ^^^ (x &&& (y % 2 ^ n))).testBit i
  rw [Nat.testBit_xor, Nat.testBit_and, BitVec.toNat_and, BitVec.toNat_not, BitVec.toNat_ofNat, BitVec.toNat_ofNat, Nat.testBit_and, Nat.mod_eq_of_lt hx]
  by_cases hi : i < n
  · rw [show 2 ^ n - 1 - y % 2 ^ n = 2 ^ n - (y % 2 ^ n + 1) by omega, Nat.testBit_two_pow_sub_succ (Nat.mod_lt _ (Nat.two_pow_pos n))]
    simp [hi]
    cases x.testBit i <;> simp
  · have : x.testBit i = false := Nat.testBit_lt_two_pow (Nat.lt_of_lt_of_le hx (Nat.pow_le_pow_right (by decide) (by omega)))
    simp [this]
theorem bits_andNot {k : IntKind} {x y : Nat} (hx : x < limK k) (hy : y < limK k) : Go.LE.bitsV .andNot k (.ofNat x) (.ofNat y) = .ofNat (andNotN x y) := by
  have h1 : x < 2 ^ k.bits := Nat.lt_of_lt_of_le hx (lim_le k)
  have h2 : y < 2 ^ k.bits := Nat.lt_of_lt_of_le hy (lim_le k)
  have e := andNot_eq (y := y) h1
  rw [Nat.mod_eq_of_lt h2] at e
  simp only [Go.LE.bitsV]
  have e2 : ∀ z : Nat, BitVec.ofInt k.bits (Int.ofNat z) = BitVec.ofNat k.bits z := fun z => by simp
  rw [e2, e2, e]
  exact wrap_small (xor_lt hx (Nat.lt_of_le_of_lt Nat.and_le_left hx))
theorem binOf_spec {op : BinOp} {k : IntKind} {a b : Int} {v : V} (h : binOf op a b k = some v) : op ≠ .shl ∧ op ≠ .shr ∧ (Go.LE.binI op k a b).1 ∧ v = .v (Go.LE.binI op k a b).2 := by
  have two : ∀ (f : Nat → Nat → Nat) (c : Bool), bArith f a b k c = some v → ∃ x y : Nat, a = .ofNat x ∧ b = .ofNat y ∧ c = true ∧ v = iV k (.ofNat (f x y)) := fun f c h => by
    cases a with
    | negSucc x => cases h
    | ofNat x => cases b with
      | negSucc y => cases h
      | ofNat y => cases c with
        | false => cases h
        | true => simp only [bArith, Option.some.injEq] at h; exact ⟨x, y, rfl, rfl, rfl, h.symm⟩
  have two' : ∀ (f : Nat → Nat → Nat) (c : Bool), bWrap f a b k c = some v → ∃ x y : Nat, a = .ofNat x ∧ b = .ofNat y ∧ c = true ∧ v = iV k (k.wrap (.ofNat (f x y))) := fun f c h => by
    cases a with
    | negSucc x => cases h
    | ofNat x => cases b with
      | negSucc y => cases h
      | ofNat y => cases c with
        | false => cases h
        | true => simp only [bWrap, Option.some.injEq, wrapF_eq] at h; exact ⟨x, y, rfl, rfl, rfl, h.symm⟩
  have fit : ∀ {x y : Nat}, fits2 (.ofNat x) (.ofNat y) k = true → x < limK k ∧ y < limK k := fun {x y} h => by
    simp only [fits2, fitsK, Bool.and_eq_true, Nat.blt_eq] at h
    exact h
  have pos : ∀ {y : Nat}, isPos (.ofNat y) = true → 0 < y := fun {y} h => by
    cases y with
    | zero => cases h
    | succ y => omega
  cases op with
  | add => simp only [binOf, Option.some.injEq] at h; exact ⟨by decide, by decide, trivial, by rw [← h, iV, wrapF_eq, addI_eq]; rfl⟩
  | sub => simp only [binOf, Option.some.injEq] at h; exact ⟨by decide, by decide, trivial, by rw [← h, iV, wrapF_eq, subI_eq]; rfl⟩
  | mul =>
    obtain ⟨x, y, rfl, rfl, _, rfl⟩ := two' _ _ h
    exact ⟨by decide, by decide, trivial, rfl⟩
  | quo =>
    obtain ⟨x, y, rfl, rfl, hp, rfl⟩ := two' _ _ h
    have := pos hp
    exact ⟨by decide, by decide, by show (Int.ofNat y) ≠ 0; simp only [Int.ofNat_eq_natCast]; omega, rfl⟩
  | rem =>
    obtain ⟨x, y, rfl, rfl, hp, rfl⟩ := two _ _ h
    have := pos hp
    exact ⟨by decide, by decide, by show (Int.ofNat y) ≠ 0; simp only [Int.ofNat_eq_natCast]; omega, rfl⟩
  | and =>
    obtain ⟨x, y, rfl, rfl, hf, rfl⟩ := two _ _ h
    exact ⟨by decide, by decide, trivial, by show _ = V.v (.int k (Go.LE.bitsV .and k _ _)); rw [bits_and (fit hf).1 (fit hf).2]; rfl⟩
  | or =>
    obtain ⟨x, y, rfl, rfl, hf, rfl⟩ := two _ _ h
    exact ⟨by decide, by decide, trivial, by show _ = V.v (.int k (Go.LE.bitsV .or k _ _)); rw [bits_or (fit hf).1 (fit hf).2]; rfl⟩
  | xor =>
    obtain ⟨x, y, rfl, rfl, hf, rfl⟩ := two _ _ h
    exact ⟨by decide, by decide, trivial, by show _ = V.v (.int k (Go.LE.bitsV .xor k _ _)); rw [bits_xor (fit hf).1 (fit hf).2]; rfl⟩
  | andNot =>
    obtain ⟨x, y, rfl, rfl, hf, rfl⟩ := two _ _ h
    exact ⟨by decide, by decide, trivial, by show _ = V.v (.int k (Go.LE.bitsV .andNot k _ _)); rw [bits_andNot (fit hf).1 (fit hf).2]; rfl⟩
  | eql => simp only [binOf, Option.some.injEq, eqI_eq] at h; exact ⟨by decide, by decide, trivial, h.symm⟩
  | neq => simp only [binOf, Option.some.injEq, eqI_eq] at h; exact ⟨by decide, by decide, trivial, h.symm⟩
  | lss => simp only [binOf, Option.some.injEq, ltI_eq] at h; exact ⟨by decide, by decide, trivial, h.symm⟩
  | leq => simp only [binOf, Option.some.injEq, leI_eq] at h; exact ⟨by decide, by decide, trivial, h.symm⟩
  | gtr => simp only [binOf, Option.some.injEq, ltI_eq] at h; exact ⟨by decide, by decide, trivial, h.symm⟩
  | geq => simp only [binOf, Option.some.injEq, leI_eq] at h; exact ⟨by decide, by decide, trivial, h.symm⟩
  | shl => cases h
  | shr => cases h
theorem eqB_eq : ∀ (a b : List UInt8), eqB a b = decide (a = b)
  | [], [] => by simp [eqB]
  | [], _ :: _ => by simp [eqB]
  | _ :: _, [] => by simp [eqB]
  | a :: r, b :: s => by
    rw [eqB, eqB_eq r s]
    rw [Bool.eq_iff_iff]
    simp only [Bool.and_eq_true, Nat.beq_eq, decide_eq_true_eq, List.cons.injEq]
    exact and_congr_left' ⟨fun h => UInt8.toNat_inj.1 h, fun h => by rw [h]⟩
theorem ba_eq (a b : ByteArray) : decide (a.data.toList = b.data.toList) = decide (a = b) := by
  rw [Bool.eq_iff_iff]
  simp only [decide_eq_true_eq]
  constructor
  · intro h
    cases a; cases b
    simp only [ByteArray.mk.injEq]
    exact Array.ext' h
  · intro h; rw [h]
theorem ba_add (a b : ByteArray) : (⟨⟨a.data.toList ++ b.data.toList⟩⟩ : ByteArray) = a ++ b := by
  apply ByteArray.ext
  apply Array.ext'
  simp [ByteArray.data_append]
end Go.CE
end
section
namespace Go.CE
open Go.RowKit
section
variable {P : Program} {C : Cfg} {U : Nat → Value} {E E' : Env} {H : HP} {n : Nat} {B : Nat → Prop} {W w w' : World} {F : FR} {a : Act}
structure LOk (L : LV) (E : Env) (w : World) : Prop where
  blk : ∀ k l, L k = true → E k = some l → ∃ cs T, w.heap[l.b]? = some (.cells cs T (0, 0))
  inj : ∀ k k' l l', L k = true → L k' = true → E k = some l → E k' = some l' → l.b = l'.b → k = k'
theorem LOk.no : LOk noL E w := ⟨fun k l h => (by cases h), fun k k' l l' h => (by cases h)⟩
theorem HR.alive (h : HR U E H n B W w) : LOk (live H) E w := by
  have one : ∀ k, live H k = true → ∃ T vs len, H.get k = some (.c T vs len) := fun k hk => by
    unfold live at hk
    cases hg : H.get k with
    | none => rw [hg] at hk; cases hk
    | some o => cases o with
      | c T vs len => exact ⟨T, vs, len, rfl⟩
      | m es => rw [hg] at hk; cases hk
      | it k n => rw [hg] at hk; cases hk
      | q T vs => rw [hg] at hk; cases hk
  constructor
  · intro k l hk he
    obtain ⟨T, vs, len, hg⟩ := one k hk
    obtain ⟨l', e1, _, cs, xs, junk, h1, _⟩ := h.ent k _ hg
    rw [he] at e1
    cases e1
    exact ⟨cs, T, h1⟩
  · intro k k' l l' hk hk' he he' hb
    obtain ⟨T, vs, len, hg⟩ := one k hk
    obtain ⟨T', vs', len', hg'⟩ := one k' hk'
    exact h.inj k k' l l' _ _ hg hg' he he' hb
theorem run_sameAddr_other {a b : Addr} (hne : a.block ≠ b.block) {cs cs' : Array Value} {T T' : TypeId} (ha : w.heap[a.block]? = some (.cells cs T (0, 0))) (hb : w.heap[b.block]? = some (.cells cs' T' (0, 0))) : (sameAddr a b).run P w = .ok false w := by
  have h0 : (a.block == b.block) = false := by simpa using hne
  have f1 : ∀ o, w.frozen? ⟨a.block, o, none⟩ = false := fun o => by simp [World.frozen?, ha]
  have f2 : ∀ o, w.frozen? ⟨b.block, o, none⟩ = false := fun o => by simp [World.frozen?, hb]
  have f3 : w.frozen? a = false := by simp [World.frozen?, ha]
  have f4 : w.frozen? b = false := by simp [World.frozen?, hb]
  have s1 : w.shape? a.block = some (T, cs.size) := by simp [World.shape?, ha]
  have s2 : w.shape? b.block = some (T', cs'.size) := by simp [World.shape?, hb]
  have r1 : ∀ (x : Addr), (frozen x).run P w = .ok (w.frozen? x) w := fun x => rfl
  have r2 : ∀ (x : Nat), (shape x).run P w = .ok (w.shape? x) w := fun x => rfl
  have v1 : (noView a).run P w = .ok () w := by simp [noView, viewAt, r2, s1]
  have v2 : (noView b).run P w = .ok () w := by simp [noView, viewAt, r2, s2]
  have t1 : (stringish a).run P w = .ok false w := by simp [stringish, r1, r2, f3, s1, f1]
  have t2 : (stringish b).run P w = .ok false w := by simp [stringish, r1, r2, f4, s2, f2]
  have m1 : (mayBeOne a b).run P w = .ok false w := by simp [mayBeOne, t1, t2, r2, s1, s2]
  simp [sameAddr, h0, r1, f3, f4, v1, v2, m1]
noncomputable def eqN (C : Cfg) (L : LV) (m : Nat) : EQ := Nat.rec (motive := fun _ => EQ) eqZ (eqS C L) m
theorem and3_inv {x r : Option Bool} {b : Bool} (h : and3 x r = some b) : (x = some true ∧ r = some b) ∨ (x = some false ∧ b = false) := by
  cases x with
  | none => cases h
  | some c => cases c with
    | true => exact .inl ⟨rfl, h⟩
    | false => simp only [and3, Option.some.injEq] at h; exact .inr ⟨rfl, h.symm⟩
theorem eqIf_inv {c : Bool} {r : Option Bool} {b : Bool} (h : eqIf c r = some b) : c = true ∧ r = some b := by
  cases c with
  | true => exact ⟨rfl, h⟩
  | false => cases h
theorem eqParts_inv {f : V → V → Option Bool} {x y : Option V} {b : Bool} (h : eqParts f x y = some b) : ∃ u v, x = some u ∧ y = some v ∧ f u v = some b := by
  cases x with
  | none => cases h
  | some u => cases y with
    | none => cases h
    | some v => exact ⟨u, v, rfl, rfl, h⟩
theorem run_eqFields {d : Nat} {ih : EQ} (hC : COk P C U B W) (hih : ∀ T x y vx vy b, ih T x y = some b → Den U E x vx → Den U E y vy → (Op.equalIn d T vx vy).run P w = .ok b w) {xs ys : List V} {cs ds : Array Value} (hx : DenL U E xs cs.toList) (hy : DenL U E ys ds.toList) :
    ∀ (fs : List (Option FI)) (fa : List Field) (b : Bool), (∀ (f : Nat) e, fs[f]? = some (some e) → ∃ fd, fa[f]? = some fd ∧ FOk P e fd) → fs.length = fa.length → List.rec (motive := fun _ => Option Bool) (some true) (eqF ih xs ys) fs = some b → (Op.eqFields d cs ds fa).run P w = .ok b w
  | [], [], b, _, _, h => by simp only [Option.some.injEq] at h; subst h; simp [Op.eqFields]
  | [], _ :: _, b, _, hl, h => by simp at hl
  | _ :: _, [], b, _, hl, h => by simp at hl
  | f :: fs, g :: fa, b, hf, hl, h => by
    cases f with
    | none => cases h
    | some e =>
      obtain ⟨fd, hfd, ho, hT, hts, hta, hbl⟩ := hf 0 e rfl
      simp only [List.getElem?_cons_zero, Option.some.injEq] at hfd
      subst hfd
      have h' : eqF2 e.bl (eqParts (ih e.T) (partOf e.ag e.sz xs e.off) (partOf e.ag e.sz ys e.off)) (List.rec (motive := fun _ => Option Bool) (some true) (eqF ih xs ys) fs) = some b := h
      cases hb : e.bl with
      | true => rw [hb] at h'; cases h'
      | false =>
        rw [hb] at h'
        simp only [eqF2] at h'
        have hne := hbl hb
        have go : ∀ c, eqParts (ih e.T) (partOf e.ag e.sz xs e.off) (partOf e.ag e.sz ys e.off) = some c → ∃ u v, (part g.type cs g.offset).run P w = .ok u w ∧ (part g.type ds g.offset).run P w = .ok v w ∧ (Op.equalIn d g.type u v).run P w = .ok c w := fun c hc => by
          obtain ⟨u, v, h1, h2, h3⟩ := eqParts_inv hc
          obtain ⟨u', hu, hdu⟩ := part_sound (w := w) hts hta hx h1
          obtain ⟨v', hv, hdv⟩ := part_sound (w := w) hts hta hy h2
          rw [ho, hT] at hu hv
          exact ⟨u', v', hu, hv, hT ▸ hih e.T u v u' v' c h3 hdu hdv⟩
        rcases and3_inv h' with ⟨h1, h2⟩ | ⟨h1, h2⟩
        · obtain ⟨u, v, g1, g2, g3⟩ := go _ h1
          have := run_eqFields hC hih hx hy fs fa b (fun f e' he => by simpa using hf (f + 1) e' (by simpa using he)) (by simpa using hl) h2
          simp [Op.eqFields, hne, g1, g2, g3, this]
        · obtain ⟨u, v, g1, g2, g3⟩ := go _ h1
          subst h2
          simp [Op.eqFields, hne, g1, g2, g3]
section
variable {x y : V} {ih : EQ} {L : LV} {T : Nat} {b : Bool}
theorem eqT_int (h : eqTi x y = some b) : ∃ k i k' j, x = .v (.int k i) ∧ y = .v (.int k' j) ∧ eqInt (eqK k k') i j = some b := by
  unfold eqTi at h
  split at h
  · exact ⟨_, _, _, _, rfl, rfl, h⟩
  · cases h
theorem eqT_bool (h : eqTb x y = some b) : ∃ i j, x = .v (.bool i) ∧ y = .v (.bool j) ∧ (i == j) = b := by
  unfold eqTb at h
  split at h
  · exact ⟨_, _, rfl, rfl, Option.some.inj h⟩
  · cases h
theorem eqT_str (h : eqTs x y = some b) : ∃ i j, x = .v (.string i) ∧ y = .v (.string j) ∧ eqB i.data.toList j.data.toList = b := by
  unfold eqTs at h
  split at h
  · exact ⟨_, _, rfl, rfl, Option.some.inj h⟩
  · cases h
theorem eqT_ptr {c : Bool} (h : eqTp x y c L = some b) : (x = .v (.pointer none) ∧ y = .v (.pointer none) ∧ b = true) ∨ (x = .v (.pointer none) ∧ (∃ k o, y = .p k o) ∧ b = false) ∨ ((∃ k o, x = .p k o) ∧ y = .v (.pointer none) ∧ b = false) ∨
    ∃ k o k' o', x = .p k o ∧ y = .p k' o' ∧ eqIf c (eqPt (Nat.beq k k') (and (L k) (L k')) o o') = some b := by
  unfold eqTp at h
  split at h
  · exact .inl ⟨rfl, rfl, (Option.some.inj h).symm⟩
  · exact .inr (.inl ⟨rfl, ⟨_, _, rfl⟩, (Option.some.inj h).symm⟩)
  · exact .inr (.inr (.inl ⟨⟨_, _, rfl⟩, rfl, (Option.some.inj h).symm⟩))
  · exact .inr (.inr (.inr ⟨_, _, _, _, rfl, rfl, h⟩))
  · cases h
theorem eqT_sl (h : eqTsl x y = some b) : (∃ n c n' c', x = .v (.slice none n c) ∧ y = .v (.slice none n' c') ∧ b = true) ∨ (∃ n c k o n' c', x = .v (.slice none n c) ∧ y = .s k o n' c' ∧ b = false) ∨ (∃ n c k o n' c', y = .v (.slice none n c) ∧ x = .s k o n' c' ∧ b = false) := by
  unfold eqTsl at h
  split at h
  · exact .inl ⟨_, _, _, _, rfl, rfl, (Option.some.inj h).symm⟩
  · exact .inr (.inl ⟨_, _, _, _, _, _, rfl, rfl, (Option.some.inj h).symm⟩)
  · exact .inr (.inr ⟨_, _, _, _, _, _, rfl, rfl, (Option.some.inj h).symm⟩)
  · cases h
theorem eqT_mp (h : eqTm x y = some b) : (x = .v (.map none) ∧ y = .v (.map none) ∧ b = true) ∨ (∃ q, x = .v (.map none) ∧ y = .m q ∧ b = false) ∨ (∃ q, y = .v (.map none) ∧ x = .m q ∧ b = false) := by
  unfold eqTm at h
  split at h
  · exact .inl ⟨rfl, rfl, (Option.some.inj h).symm⟩
  · exact .inr (.inl ⟨_, rfl, rfl, (Option.some.inj h).symm⟩)
  · exact .inr (.inr ⟨_, rfl, rfl, (Option.some.inj h).symm⟩)
  · cases h
theorem eqT_fn (h : eqTf x y = some b) : (x = .v .nilFunc ∧ y = .v .nilFunc ∧ b = true) ∨ (x = .v .nilFunc ∧ ((∃ f a c, y = .f f a c) ∨ ∃ f a c, y = .v (.func f a c)) ∧ b = false) ∨ (y = .v .nilFunc ∧ ((∃ f a c, x = .f f a c) ∨ ∃ f a c, x = .v (.func f a c)) ∧ b = false) := by
  unfold eqTf at h
  split at h
  · exact .inl ⟨rfl, rfl, (Option.some.inj h).symm⟩
  · exact .inr (.inl ⟨rfl, .inl ⟨_, _, _, rfl⟩, (Option.some.inj h).symm⟩)
  · exact .inr (.inr ⟨rfl, .inl ⟨_, _, _, rfl⟩, (Option.some.inj h).symm⟩)
  · exact .inr (.inl ⟨rfl, .inr ⟨_, _, _, rfl⟩, (Option.some.inj h).symm⟩)
  · exact .inr (.inr ⟨rfl, .inr ⟨_, _, _, rfl⟩, (Option.some.inj h).symm⟩)
  · cases h
theorem eqT_ifc (h : eqTc x y ih C = some b) : (x = .v .nilIface ∧ (∃ t z, y = .i t z) ∧ b = false) ∨ (y = .v .nilIface ∧ (∃ t z, x = .i t z) ∧ b = false) ∨ ∃ t z t' z', x = .i t z ∧ y = .i t' z' ∧ eqIfc (Nat.beq t t') (C.cmp t) (ih t z z') = some b := by
  unfold eqTc at h
  split at h
  · exact .inl ⟨rfl, ⟨_, _, rfl⟩, (Option.some.inj h).symm⟩
  · exact .inr (.inl ⟨rfl, ⟨_, _, rfl⟩, (Option.some.inj h).symm⟩)
  · exact .inr (.inr ⟨_, _, _, _, rfl, rfl, h⟩)
  · cases h
end
theorem eqSt_inv {x y : Option (List V)} {ih : EQ} {fs : List (Option FI)} {b : Bool} (h : eqSt x y ih fs = some b) : ∃ xs ys, x = some xs ∧ y = some ys ∧ List.rec (motive := fun _ => Option Bool) (some true) (eqF ih xs ys) fs = some b := by
  cases x with
  | none => cases h
  | some xs => cases y with
    | none => cases h
    | some ys => exact ⟨xs, ys, rfl, rfl, h⟩
theorem eqAr_inv {d : Option TI} {ih : V → V → Option Bool} {x y : Option (List V)} {n : Nat} {b : Bool} (h : eqAr d ih x y n = some b) : ∃ i xs ys, d = some i ∧ x = some xs ∧ y = some ys ∧ eqA ih xs ys i.ag i.sz n 0 = some b := by
  cases d with
  | none => cases h
  | some i => cases x with
    | none => cases h
    | some xs => cases y with
      | none => cases h
      | some ys => exact ⟨i, xs, ys, rfl, rfl, rfl, h⟩
theorem run_eqArr {d e sz : Nat} {ag : Bool} {ih : V → V → Option Bool} (hts : Go.LE.ts P e = some sz) (hta : Go.LE.ta P e = some ag) (hih : ∀ x y vx vy b, ih x y = some b → Den U E x vx → Den U E y vy → (Op.equalIn d e vx vy).run P w = .ok b w) {xs ys : List V} {cs ds : Array Value} (hx : DenL U E xs cs.toList) (hy : DenL U E ys ds.toList) :
    ∀ (m i : Nat) (b : Bool), eqA ih xs ys ag sz m i = some b → ∃ r, ((forIn (List.range' i m) ((none, ()) : Option Bool × Unit) fun i r => do
        let a ← part e cs (i * sz)
        let c ← part e ds (i * sz)
        let q ← Op.equalIn d e a c
        if (!q) = true then pure (ForInStep.done (some false, ())) else pure (ForInStep.yield (none, ())) : Sem (Option Bool × Unit))).run P w = .ok (r, ()) w ∧ r = if b then none else some false
  | 0, i, b, h => by
    have h : some true = some b := h
    cases h
    exact ⟨none, by simp, rfl⟩
  | m + 1, i, b, h => by
    have h' : and3 (eqParts ih (partOf ag sz xs (i * sz)) (partOf ag sz ys (i * sz))) (eqA ih xs ys ag sz m (i + 1)) = some b := h
    have go : ∀ c, eqParts ih (partOf ag sz xs (i * sz)) (partOf ag sz ys (i * sz)) = some c → ∃ u v, (part e cs (i * sz)).run P w = .ok u w ∧ (part e ds (i * sz)).run P w = .ok v w ∧ (Op.equalIn d e u v).run P w = .ok c w := fun c hc => by
      obtain ⟨u, v, h1, h2, h3⟩ := eqParts_inv hc
      obtain ⟨u', hu, hdu⟩ := part_sound (w := w) hts hta hx h1
      obtain ⟨v', hv, hdv⟩ := part_sound (w := w) hts hta hy h2
      exact ⟨u', v', hu, hv, hih u v u' v' c h3 hdu hdv⟩
    rcases and3_inv h' with ⟨h1, h2⟩ | ⟨h1, h2⟩
    · obtain ⟨u, v, g1, g2, g3⟩ := go _ h1
      obtain ⟨r, hr, hr'⟩ := run_eqArr hts hta hih hx hy m (i + 1) b h2
      refine ⟨r, ?_, hr'⟩
      rw [List.range'_succ, List.forIn_cons]
      simp only [Sem.run_bind, g1, g2, g3, Result.andThen_ok, Bool.not_true, Bool.false_eq_true, if_false, Sem.run_pure]
      exact hr
    · obtain ⟨u, v, g1, g2, g3⟩ := go _ h1
      subst h2
      refine ⟨some false, ?_, rfl⟩
      rw [List.range'_succ, List.forIn_cons]
      simp [g1, g2, g3]
theorem run_equalIn_array {d T nn e sz : Nat} {cs ds : Array Value} {b : Bool} (hD : P.underlying T = some (.array nn e)) (hts : Go.LE.ts P e = some sz) {r : Option Bool}
    (hr : ((forIn (List.range' 0 nn) ((none, ()) : Option Bool × Unit) fun i r => do
        let a ← part e cs (i * sz)
        let c ← part e ds (i * sz)
        let q ← Op.equalIn d e a c
        if (!q) = true then pure (ForInStep.done (some false, ())) else pure (ForInStep.yield (none, ())) : Sem (Option Bool × Unit))).run P w = .ok (r, ()) w) (hr' : r = if b then none else some false) :
    (Op.equalIn (d + 1) T (.agg cs) (.agg ds)).run P w = .ok b w := by
  simp only [Op.equalIn, Sem.run_bind, run_underlying hD, Result.andThen_ok, Go.LE.run_ts hts, Std.Legacy.Range.forIn_eq_forIn_range', Std.Legacy.Range.size, Nat.sub_zero, Nat.add_sub_cancel, Nat.div_one]
  rw [hr, hr']
  cases b <;> rfl
set_option maxHeartbeats 2000000 in
theorem eq_sound (hC : COk P C U B W) {L : LV} (hL : LOk L E w) (hcmp : ∀ T, C.cmp T = true → ∃ i, P.info? T = some i ∧ i.comparable = true) (hhel : ∀ T, C.hel T = P.stoodInHeld T) :
    ∀ (m d T : Nat) (x y : V) (vx vy : Value) (b : Bool), m ≤ d → eqN C L m T x y = some b → Den U E x vx → Den U E y vy → (Op.equalIn d T vx vy).run P w = .ok b w
  | 0, d, T, x, y, vx, vy, b, hm, h, hx, hy => by cases h
  | m + 1, 0, T, x, y, vx, vy, b, hm, h, hx, hy => by omega
  | m + 1, d + 1, T, x, y, vx, vy, b, hm, h, hx, hy => by
    have ih : ∀ T x y vx vy b, eqN C L m T x y = some b → Den U E x vx → Den U E y vy → (Op.equalIn d T vx vy).run P w = .ok b w := fun T x y vx vy b h => eq_sound hC hL hcmp hhel m d T x y vx vy b (by omega) h
    have h' : eqO (C.ty T) x y (eqN C L m) C L T = some b := h
    clear h
    cases hi : C.ty T with
    | none => rw [hi] at h'; cases h'
    | some i =>
      rw [hi] at h'
      obtain ⟨D, hD, _, hk, _⟩ := ty_inv hC hi
      simp only [eqO] at h'
      generalize i.k = tk at h' hk
      cases tk with
      | int k0 =>
        have hk' : D = .int k0 := hk
        subst hk'
        obtain ⟨k, i, k', j, rfl, rfl, h⟩ := eqT_int h'
        cases hx.v_inv
        cases hy.v_inv
        cases hkk : eqK k k' with
        | false => rw [hkk] at h; cases h
        | true =>
          rw [hkk] at h
          have := eqK_eq hkk
          subst this
          simp only [eqInt, Option.some.injEq, eqI_eq] at h
          subst h
          rw [run_equalIn_int w d T _ _ _ _ hD]
          congr 1
      | bool =>
        have hk' : D = .bool := hk
        subst hk'
        obtain ⟨i, j, rfl, rfl, h⟩ := eqT_bool h'
        cases hx.v_inv
        cases hy.v_inv
        subst h
        exact run_equalIn_bool w d T _ _ hD
      | str =>
        have hk' : D = .string := hk
        subst hk'
        obtain ⟨i, j, rfl, rfl, h⟩ := eqT_str h'
        cases hx.v_inv
        cases hy.v_inv
        subst h
        rw [run_equalIn_string w d T _ _ hD, Go.LE.bytes_eq, ← ba_eq, eqB_eq]
      | ptr e =>
        have hk' : D = .pointer e := hk
        subst hk'
        rcases eqT_ptr h' with ⟨rfl, rfl, rfl⟩ | ⟨rfl, ⟨k, o, rfl⟩, rfl⟩ | ⟨⟨k, o, rfl⟩, rfl, rfl⟩ | ⟨k, o, k', o', rfl, rfl, h⟩
        · cases hx.v_inv
          cases hy.v_inv
          simp [Op.equalIn, run_underlying hD]
        · cases hx.v_inv
          simp only [Den] at hy
          obtain ⟨l, e1, rfl⟩ := hy
          simp [Op.equalIn, run_underlying hD]
        · cases hy.v_inv
          simp only [Den] at hx
          obtain ⟨l, e1, rfl⟩ := hx
          simp [Op.equalIn, run_underlying hD]
        · simp only [Den] at hx hy
          obtain ⟨l, e1, rfl⟩ := hx
          obtain ⟨l', e2, rfl⟩ := hy
          obtain ⟨hb, h⟩ := eqIf_inv h
          have hsz : ∃ s, s ≠ 0 ∧ (sizeOf e).run P w = .ok s w := by
            cases he : C.ty e with
            | none => rw [he] at hb; cases hb
            | some d' =>
              rw [he] at hb
              have : 0 < d'.sz := by simpa [big] using hb
              exact ⟨d'.sz, by omega, Go.LE.run_ts (hC.ty e d' he).sz w⟩
          obtain ⟨s, hs0, hs⟩ := hsz
          have run : ∀ c, (sameAddr ⟨l.b, l.d + o, none⟩ ⟨l'.b, l'.d + o', none⟩).run P w = .ok c w → (Op.equalIn (d + 1) T (.pointer (some ⟨l.b, l.d + o, none⟩)) (.pointer (some ⟨l'.b, l'.d + o', none⟩))).run P w = .ok c w := fun c hc => by
            simp [Op.equalIn, run_underlying hD, hs, hs0, hc]
          refine run b ?_
          cases hkk : Nat.beq k k' with
          | true =>
            have := Nat.eq_of_beq_eq_true hkk
            subst this
            rw [e1] at e2
            cases e2
            rw [hkk] at h
            simp only [eqPt, Option.some.injEq] at h
            subst h
            simp only [sameAddr, beq_self_eq_true, if_true, Sem.run_pure]
            congr 1
            rw [Bool.eq_iff_iff]
            simp
          | false =>
            rw [hkk] at h
            cases hl : (L k && L k') with
            | false => rw [hl] at h; cases h
            | true =>
              rw [hl] at h
              simp only [eqPt, Option.some.injEq] at h
              subst h
              simp only [Bool.and_eq_true] at hl
              obtain ⟨cs, T1, g1⟩ := hL.blk k l hl.1 e1
              obtain ⟨cs', T2, g2⟩ := hL.blk k' l' hl.2 e2
              refine run_sameAddr_other (fun hb => ?_) g1 g2
              have := hL.inj k k' l l' hl.1 hl.2 e1 e2 hb
              subst this
              simp at hkk
      | sl e =>
        have hk' : D = .slice e := hk
        subst hk'
        rcases eqT_sl h' with ⟨_, _, _, _, rfl, rfl, rfl⟩ | ⟨_, _, _, _, _, _, rfl, rfl, rfl⟩ | ⟨_, _, _, _, _, _, rfl, rfl, rfl⟩
        · cases hx.v_inv
          cases hy.v_inv
          simp [Op.equalIn, run_underlying hD]
        · cases hx.v_inv
          simp only [Den] at hy
          obtain ⟨l, e1, _, rfl⟩ := hy
          simp [Op.equalIn, run_underlying hD]
        · cases hy.v_inv
          simp only [Den] at hx
          obtain ⟨l, e1, _, rfl⟩ := hx
          simp [Op.equalIn, run_underlying hD]
      | mp k e =>
        have hk' : D = .map k e := hk
        subst hk'
        rcases eqT_mp h' with ⟨rfl, rfl, rfl⟩ | ⟨q, rfl, rfl, rfl⟩ | ⟨q, rfl, rfl, rfl⟩
        · cases hx.v_inv
          cases hy.v_inv
          simp [Op.equalIn, run_underlying hD]
        · cases hx.v_inv
          simp only [Den] at hy
          obtain ⟨l, e1, rfl⟩ := hy
          simp [Op.equalIn, run_underlying hD]
        · cases hy.v_inv
          simp only [Den] at hx
          obtain ⟨l, e1, rfl⟩ := hx
          simp [Op.equalIn, run_underlying hD]
      | fn =>
        obtain ⟨p, q, r, hk'⟩ : ∃ p q r, D = .func p q r := hk
        subst hk'
        rcases eqT_fn h' with ⟨rfl, rfl, rfl⟩ | ⟨rfl, hyy, rfl⟩ | ⟨rfl, hxx, rfl⟩
        · cases hx.v_inv
          cases hy.v_inv
          simp [Op.equalIn, run_underlying hD]
        · cases hx.v_inv
          rcases hyy with ⟨f, a, c, rfl⟩ | ⟨f, a, c, rfl⟩
          · simp only [Den] at hy
            obtain ⟨xs, ys, e1, e2, rfl⟩ := hy
            simp [Op.equalIn, run_underlying hD]
          · cases hy.v_inv
            simp [Op.equalIn, run_underlying hD]
        · cases hy.v_inv
          rcases hxx with ⟨f, a, c, rfl⟩ | ⟨f, a, c, rfl⟩
          · simp only [Den] at hx
            obtain ⟨xs, ys, e1, e2, rfl⟩ := hx
            simp [Op.equalIn, run_underlying hD]
          · cases hx.v_inv
            simp [Op.equalIn, run_underlying hD]
      | ifc =>
        obtain ⟨ms, hk'⟩ : ∃ ms, D = .interface ms := hk
        subst hk'
        rcases eqT_ifc h' with ⟨rfl, ⟨t, z, rfl⟩, rfl⟩ | ⟨rfl, ⟨t, z, rfl⟩, rfl⟩ | ⟨t, z, t', z', rfl, rfl, h⟩
        · cases hx.v_inv
          simp only [Den] at hy
          obtain ⟨l, e1, rfl⟩ := hy
          simp [Op.equalIn, run_underlying hD]
        · cases hy.v_inv
          simp only [Den] at hx
          obtain ⟨l, e1, rfl⟩ := hx
          simp [Op.equalIn, run_underlying hD]
        · simp only [Den] at hx hy
          obtain ⟨u, e1, rfl⟩ := hx
          obtain ⟨v, e2, rfl⟩ := hy
          cases ht : Nat.beq t t' with
          | false =>
            rw [ht] at h
            simp only [eqIfc, Option.some.injEq] at h
            subst h
            have : t ≠ t' := fun e => by subst e; simp at ht
            simp [Op.equalIn, run_underlying hD, this]
          | true =>
            have := Nat.eq_of_beq_eq_true ht
            subst this
            rw [ht] at h
            cases hc : C.cmp t with
            | false => rw [hc] at h; cases h
            | true =>
              rw [hc] at h
              simp only [eqIfc] at h
              obtain ⟨inf, hinf, hcc⟩ := hcmp t hc
              have := ih t z z' u v b h e1 e2
              simp [Op.equalIn, run_underlying hD, typeInfo, hinf, hcc, this]
      | st fs =>
        obtain ⟨fa, hk', hl, hf⟩ : ∃ fa, D = .struct fa ∧ fs.length = fa.size ∧ ∀ (f : Nat) d, fs[f]? = some (some d) → ∃ fd, fa[f]? = some fd ∧ FOk P d fd := hk
        subst hk'
        obtain ⟨hh, h⟩ := eqIf_inv (show eqIf (not (C.hel T)) (eqSt x.aggC y.aggC (eqN C L m) fs) = some b from h')
        obtain ⟨xs, ys, hxa, hya, h⟩ := eqSt_inv h
        obtain ⟨cs, rfl, hxs⟩ := aggC_inv hx hxa
        obtain ⟨ds, rfl, hys⟩ := aggC_inv hy hya
        have hfo : P.fieldsOf T = fa := by simp [Program.fieldsOf, hD]
        have hhel' : P.stoodInHeld T = false := by rw [← hhel]; simpa using hh
        rw [run_equalIn_struct w d T cs ds (by rw [hfo]; exact hD) hhel', hfo]
        exact run_eqFields hC ih hxs hys fs fa.toList b (fun f e he => by obtain ⟨fd, h1, h2⟩ := hf f e he; exact ⟨fd, by simpa using h1, h2⟩) (by simpa using hl) h
      | arr nn e =>
        have hk' : D = .array nn e := hk
        subst hk'
        obtain ⟨i', xs, ys, he, hxa, hya, h⟩ := eqAr_inv (show eqAr (C.ty e) (eqN C L m e) x.aggC y.aggC nn = some b from h')
        obtain ⟨cs, rfl, hxs⟩ := aggC_inv hx hxa
        obtain ⟨ds, rfl, hys⟩ := aggC_inv hy hya
        obtain ⟨_, _, hag, _, hts⟩ := ty_inv hC he
        obtain ⟨r, hr, hr'⟩ := run_eqArr (w := w) hts hag (fun x y vx vy b => ih e x y vx vy b) hxs hys nn 0 b h
        exact run_equalIn_array hD hts hr hr'
      | oth => cases h'
end
end Go.CE
end
section
namespace Go.CE
open Go.RowKit
section
variable {P : Program} {C : Cfg} {U : Nat → Value} {E E' : Env} {H : HP} {n : Nat} {B : Nat → Prop} {W w w' : World} {F : FR} {a : Act}
def plainEq : Value → Bool
  | .int _ _ => false
  | .float _ _ => false
  | .complex _ _ _ => false
  | .string _ => false
  | _ => true
theorem binOp_eql {T : TypeId} {x y : Value} (h : plainEq x = true) : binOp .eql T x y = (do pure (.bool (← Op.equal T x y)) : Sem Value) := by
  cases x <;> first | (cases h; done) | (cases y <;> rfl)
theorem binOp_neq {T : TypeId} {x y : Value} (h : plainEq x = true) : binOp .neq T x y = (do pure (.bool (!(← Op.equal T x y))) : Sem Value) := by
  cases x <;> first | (cases h; done) | (cases y <;> rfl)
theorem eqGuard_nil {op : BinOp} {T : TypeId} {x y : Operand} (h : (isCst x || isCst y) = true) : (eqGuard op T x y .nilIface .nilIface).run P w = .ok () w := by
  cases x <;> cases y <;> first | (cases h; done) | (cases op <;> simp [eqGuard])
theorem eqGuard_else {op : BinOp} {T : TypeId} {x y : Operand} {u v : Value} (h1 : ¬ (u = .nilIface ∧ v = .nilIface)) (h2 : ¬ ((∃ cs, u = .agg cs) ∧ ∃ ds, v = .agg ds)) : (eqGuard op T x y u v).run P w = .ok () w := by
  cases u <;> cases v <;> first
    | (exfalso; exact h1 ⟨rfl, rfl⟩)
    | (exfalso; exact h2 ⟨⟨_, rfl⟩, ⟨_, rfl⟩⟩)
    | (cases op <;> simp [eqGuard])
theorem eqN_shape (hC : COk P C U B W) {L : LV} {m T : Nat} {x y : V} {vx vy : Value} {b : Bool} (h : eqN C L (m + 1) T x y = some b) (hx : Den U E x vx) (hy : Den U E y vy)
    (h1 : ∀ k i k' j, x = .v (.int k i) → y = .v (.int k' j) → False) (h2 : ∀ s t, x = .v (.string s) → y = .v (.string t) → False) :
    plainEq vx = true ∧ ¬ (vx = .nilIface ∧ vy = .nilIface) ∧ (((∃ cs, vx = .agg cs) ∧ ∃ ds, vy = .agg ds) → isG x.aggC = true) := by
  have h' : eqO (C.ty T) x y (eqN C L m) C L T = some b := h
  cases hi : C.ty T with
  | none => rw [hi] at h'; cases h'
  | some i =>
    rw [hi] at h'
    simp only [eqO] at h'
    generalize i.k = tk at h'
    cases tk with
    | int k0 => obtain ⟨k, i, k', j, rfl, rfl, _⟩ := eqT_int h'; exact (h1 _ _ _ _ rfl rfl).elim
    | str => obtain ⟨i, j, rfl, rfl, _⟩ := eqT_str h'; exact (h2 _ _ rfl rfl).elim
    | bool => obtain ⟨i, j, rfl, rfl, _⟩ := eqT_bool h'; cases hx.v_inv; cases hy.v_inv; exact ⟨rfl, by simp, by simp⟩
    | ptr e =>
      rcases eqT_ptr h' with ⟨rfl, rfl, rfl⟩ | ⟨rfl, ⟨k, o, rfl⟩, rfl⟩ | ⟨⟨k, o, rfl⟩, rfl, rfl⟩ | ⟨k, o, k', o', rfl, rfl, h⟩
      · cases hx.v_inv; exact ⟨rfl, by simp, by simp⟩
      · cases hx.v_inv; exact ⟨rfl, by simp, by simp⟩
      · simp only [Den] at hx; obtain ⟨l, e1, rfl⟩ := hx; exact ⟨rfl, by simp, by simp⟩
      · simp only [Den] at hx; obtain ⟨l, e1, rfl⟩ := hx; exact ⟨rfl, by simp, by simp⟩
    | sl e =>
      rcases eqT_sl h' with ⟨_, _, _, _, rfl, rfl, rfl⟩ | ⟨_, _, _, _, _, _, rfl, rfl, rfl⟩ | ⟨_, _, _, _, _, _, rfl, rfl, rfl⟩
      · cases hx.v_inv; exact ⟨rfl, by simp, by simp⟩
      · cases hx.v_inv; exact ⟨rfl, by simp, by simp⟩
      · simp only [Den] at hx; obtain ⟨l, e1, _, rfl⟩ := hx; exact ⟨rfl, by simp, by simp⟩
    | mp k e =>
      rcases eqT_mp h' with ⟨rfl, rfl, rfl⟩ | ⟨q, rfl, rfl, rfl⟩ | ⟨q, rfl, rfl, rfl⟩
      · cases hx.v_inv; exact ⟨rfl, by simp, by simp⟩
      · cases hx.v_inv; exact ⟨rfl, by simp, by simp⟩
      · simp only [Den] at hx; obtain ⟨l, e1, rfl⟩ := hx; exact ⟨rfl, by simp, by simp⟩
    | fn =>
      rcases eqT_fn h' with ⟨rfl, rfl, rfl⟩ | ⟨rfl, hyy, rfl⟩ | ⟨rfl, hxx, rfl⟩
      · cases hx.v_inv; exact ⟨rfl, by simp, by simp⟩
      · cases hx.v_inv; exact ⟨rfl, by simp, by simp⟩
      · rcases hxx with ⟨f, a, c, rfl⟩ | ⟨f, a, c, rfl⟩
        · simp only [Den] at hx; obtain ⟨xs, ys, e1, e2, rfl⟩ := hx; exact ⟨rfl, by simp, by simp⟩
        · cases hx.v_inv; exact ⟨rfl, by simp, by simp⟩
    | ifc =>
      rcases eqT_ifc h' with ⟨rfl, ⟨t, z, rfl⟩, rfl⟩ | ⟨rfl, ⟨t, z, rfl⟩, rfl⟩ | ⟨t, z, t', z', rfl, rfl, h⟩
      · cases hx.v_inv
        simp only [Den] at hy; obtain ⟨u, e1, rfl⟩ := hy
        exact ⟨rfl, by simp, by simp⟩
      · simp only [Den] at hx; obtain ⟨u, e1, rfl⟩ := hx; exact ⟨rfl, by simp, by simp⟩
      · simp only [Den] at hx; obtain ⟨u, e1, rfl⟩ := hx; exact ⟨rfl, by simp, by simp⟩
    | st fs =>
      obtain ⟨_, h⟩ := eqIf_inv (show eqIf (not (C.hel T)) (eqSt x.aggC y.aggC (eqN C L m) fs) = some b from h')
      obtain ⟨xs, ys, hxa, hya, h⟩ := eqSt_inv h
      obtain ⟨cs, rfl, _⟩ := aggC_inv hx hxa
      exact ⟨rfl, by simp, fun _ => by rw [hxa]; rfl⟩
    | arr nn e =>
      obtain ⟨i', xs, ys, he, hxa, hya, h⟩ := eqAr_inv (show eqAr (C.ty e) (eqN C L m e) x.aggC y.aggC nn = some b from h')
      obtain ⟨cs, rfl, _⟩ := aggC_inv hx hxa
      exact ⟨rfl, by simp, fun _ => by rw [hxa]; rfl⟩
    | oth => cases h'
theorem ifcT_inv (hC : COk P C U B W) {T : Nat} (h : ifcT (C.ty T) = true) : ∃ ms, P.underlying T = some (.interface ms) := by
  cases hi : C.ty T with
  | none => rw [hi] at h; cases h
  | some i =>
    rw [hi] at h
    obtain ⟨D, hD, _, hk, _⟩ := ty_inv hC hi
    obtain ⟨sz, ag, z, b, k⟩ := i
    cases k <;> try (cases h; done)
    obtain ⟨ms, rfl⟩ := hk
    exact ⟨ms, hD⟩
theorem run_equalIn_nil {T : TypeId} (d : Nat) {ms : Array (String × TypeId)} (hD : P.underlying T = some (.interface ms)) : (Op.equalIn (d + 1) T .nilIface .nilIface).run P w = .ok true w := by
  simp [Op.equalIn, run_underlying hD]
theorem eqTop_else {T : Nat} {x y : V} {cst : Bool} (h : ¬ (x = .v .nilIface ∧ y = .v .nilIface)) : eqTop x y C T cst = eqIf (not (and (isG x.aggC) (C.eg T))) (eqV C noL T x y) := by
  unfold eqTop
  split
  · exact absurd ⟨rfl, rfl⟩ h
  · rfl
theorem eqTop_sound (hC : COk P C U B W) {T : Nat} {x y : V} {vx vy : Value} {b : Bool} {ox oy : Operand} (h : eqTop x y C T (isCst ox || isCst oy) = some b) (hx : Den U E x vx) (hy : Den U E y vy)
    (h1 : ∀ k i k' j, x = .v (.int k i) → y = .v (.int k' j) → False) (h2 : ∀ s t, x = .v (.string s) → y = .v (.string t) → False) (op : BinOp) :
    plainEq vx = true ∧ (eqGuard op T ox oy vx vy).run P w = .ok () w ∧ (Op.equal T vx vy).run P w = .ok b w := by
  by_cases hn : x = .v .nilIface ∧ y = .v .nilIface
  · obtain ⟨rfl, rfl⟩ := hn
    cases hx.v_inv
    cases hy.v_inv
    obtain ⟨hc, hb⟩ := eqIf_inv (show eqIf (and (isCst ox || isCst oy) (ifcT (C.ty T))) (some true) = some b from h)
    simp only [Option.some.injEq] at hb
    subst hb
    simp only [Bool.and_eq_true] at hc
    obtain ⟨ms, hD⟩ := ifcT_inv hC hc.2
    refine ⟨rfl, eqGuard_nil hc.1, ?_⟩
    exact run_equalIn_nil 9999 hD
  · rw [eqTop_else hn] at h
    obtain ⟨hg, hb⟩ := eqIf_inv h
    have hs := eqN_shape hC (m := 19) hb hx hy h1 h2
    refine ⟨hs.1, ?_, eq_sound hC LOk.no hC.cmp hC.hel 20 Op.maxDepth T x y vx vy b (by decide) hb hx hy⟩
    by_cases hag : (∃ cs, vx = .agg cs) ∧ ∃ ds, vy = .agg ds
    · have hgg := hs.2.2 hag
      obtain ⟨⟨cs, rfl⟩, ds, rfl⟩ := hag
      refine run_eqGuard_agg w op T ox oy cs ds ?_
      rw [← hC.eg]
      rw [hgg] at hg
      simpa using hg
    · exact eqGuard_else hs.2.1 hag
theorem oBin_sound (hC : COk P C U B W) {op : BinOp} {T : Nat} {x y : Option V} {vx vy : Value} {ox oy : Operand} (hx : ∀ u, x = some u → Den U E u vx) (hy : ∀ u, y = some u → Den U E u vy) :
    GP P U E w (oBin (binOf op) op C T (isCst ox || isCst oy) x y) (do eqGuard op T ox oy vx vy; binOp op T vx vy) := by
  intro v hv
  cases x with
  | none => cases hv
  | some x => cases y with
    | none => cases hv
    | some y =>
      replace hx := hx x rfl
      replace hy := hy y rfl
      simp only [oBin] at hv
      unfold binV at hv
      split at hv
      · rename_i k i k' j
        cases hx.v_inv
        cases hy.v_inv
        cases hk : eqK k k' with
        | false => rw [hk] at hv; cases hv
        | true =>
          rw [hk] at hv
          have := eqK_eq hk
          subst this
          obtain ⟨h1, h2, h3, rfl⟩ := binOf_spec hv
          refine ⟨(Go.LE.binI op k i j).2, ?_, by simp only [Den]⟩
          rw [Sem.run_bind, Go.LE.eqGuard_int]
          exact Go.LE.run_binI op T k i j w h1 h2 h3
      · rename_i s t
        cases hx.v_inv
        cases hy.v_inv
        have run : ∀ r, (binOp op T (.string s) (.string t)).run P w = .ok r w → (do eqGuard op T ox oy (.string s) (.string t); binOp op T (.string s) (.string t) : Sem Value).run P w = .ok r w := fun r hr => by
          rw [Sem.run_bind, Go.LE.eqGuard_string]
          exact hr
        cases op <;> try (cases hv; done)
        · simp only [bin3] at hv
          cases hb : Nat.ble (Nat.add (lng s.data.toList) (lng t.data.toList)) 9223372036854775807 with
          | false => rw [hb] at hv; cases hv
          | true =>
            rw [hb] at hv
            simp only [ifS, Option.some.injEq] at hv
            subst hv
            refine ⟨.string (s ++ t), run _ (Go.LE.run_binS .add T s t w ?_), ?_⟩
            · simp only [lng_eq] at hb
              have : s.data.toList.length + t.data.toList.length ≤ 9223372036854775807 := by simpa using hb
              simpa [Go.LE.binS] using this
            · simp only [Den]
              rw [ba_add]
        · simp only [bin3, Option.some.injEq] at hv
          subst hv
          refine ⟨_, run _ (Go.LE.run_binS .eql T s t w trivial), ?_⟩
          simp only [V.b, Den, Go.LE.binS, eqB_eq, ba_eq]
        · simp only [bin3, Option.some.injEq] at hv
          subst hv
          refine ⟨_, run _ (Go.LE.run_binS .neq T s t w trivial), ?_⟩
          simp only [V.b, Den, Go.LE.binS, eqB_eq, ba_eq]
        · simp only [bin3, Option.some.injEq] at hv
          subst hv
          refine ⟨_, run _ (Go.LE.run_binS .lss T s t w trivial), ?_⟩
          have e : ∀ z : ByteArray, z.toList = z.data.toList := fun z => by exact ByteArray.toList_eq z
          simp only [V.b, Den, Go.LE.binS, e]
      · rename_i h1 h2
        have go : ∀ b, eqTop x y C T (isCst ox || isCst oy) = some b → plainEq vx = true ∧ (eqGuard op T ox oy vx vy).run P w = .ok () w ∧ (Op.equal T vx vy).run P w = .ok b w := fun b hb =>
          eqTop_sound hC hb hx hy (fun k i k' j e1 e2 => h1 k i k' j e1 e2) (fun s t e1 e2 => h2 s t e1 e2) op
        cases op <;> try (cases hv; done)
        · simp only [bin4] at hv
          cases hb : eqTop x y C T (isCst ox || isCst oy) with
          | none => rw [hb] at hv; cases hv
          | some b =>
            rw [hb] at hv
            simp only [bV, Option.some.injEq] at hv
            subst hv
            obtain ⟨g1, g2, g3⟩ := go b hb
            refine ⟨.bool b, ?_, by simp only [V.b, Den]⟩
            rw [Sem.run_bind, g2, Result.andThen_ok, binOp_eql g1]
            simp [g3]
        · simp only [bin4] at hv
          cases hb : eqTop x y C T (isCst ox || isCst oy) with
          | none => rw [hb] at hv; cases hv
          | some b =>
            rw [hb] at hv
            simp only [nbV, Option.some.injEq] at hv
            subst hv
            obtain ⟨g1, g2, g3⟩ := go b hb
            refine ⟨.bool (!b), ?_, by simp only [V.b, Den]⟩
            rw [Sem.run_bind, g2, Result.andThen_ok, binOp_neq g1]
            simp [g3]
end
end Go.CE
end
section
namespace Go.CE
open Go.RowKit
section
variable {P : Program} {C : Cfg} {U : Nat → Value} {E E' : Env} {H : HP} {n : Nat} {B : Nat → Prop} {W w w' : World} {F : FR} {a : Act}
def Kn (U : Nat → Value) (E : Env) (x : Option V) (y : Value) : Prop := ∀ u, x = some u → Den U E u y
theorem ev_kn (h : FrSat U E F a) (x : Operand) : Kn U E (ev x F) (a.eval x) := fun u hu => ev_sound h x hu
theorem kbits_eq (k : IntKind) : kbits k = k.bits := by cases k <;> rfl
theorem minN_eq (a b : Nat) : minN (Nat.ble a b) a b = min a b := by
  cases h : Nat.ble a b with
  | true => have : a ≤ b := by simpa using h
            show a = min a b; omega
  | false => have : ¬ a ≤ b := fun hc => by rw [← Nat.ble_eq] at hc; rw [hc] at h; cases h
             show b = min a b; omega
theorem oShl_sound {T : TypeId} {x y : Option V} {vx vy : Value} {ox oy : Operand} (hx : Kn U E x vx) (hy : Kn U E y vy) : GP P U E w (oShl x y) (do eqGuard .shl T ox oy vx vy; binOp .shl T vx vy) := by
  intro v hv
  unfold oShl at hv
  split at hv
  · rename_i u z
    unfold shlO at hv
    split at hv
    · rename_i k i k' j
      cases (hx _ rfl).v_inv
      cases (hy _ rfl).v_inv
      unfold shl at hv
      split at hv
      · rename_i i j
        simp only [Option.some.injEq, wrapF_eq] at hv
        subst hv
        refine ⟨.int k (k.wrap (.ofNat i * 2 ^ (min j k.bits))), ?_, ?_⟩
        · have h0 : ¬ ((j : Int) < 0) := by omega
          rw [Sem.run_bind, Go.LE.eqGuard_int]
          simp [binOp, Op.shift, h0]
        · simp only [iV, Den, minN_eq, kbits_eq]
          congr 2
      · cases hv
    · cases hv
  · cases hv
theorem oShr_sound {T : TypeId} {x y : Option V} {vx vy : Value} {ox oy : Operand} (hx : Kn U E x vx) (hy : Kn U E y vy) : GP P U E w (oShr x y) (do eqGuard .shr T ox oy vx vy; binOp .shr T vx vy) := by
  intro v hv
  unfold oShr at hv
  split at hv
  · rename_i u z
    unfold shrO at hv
    split at hv
    · rename_i k i k' j
      cases (hx _ rfl).v_inv
      cases (hy _ rfl).v_inv
      unfold shr at hv
      split at hv
      · rename_i i j
        simp only [Option.some.injEq] at hv
        subst hv
        refine ⟨.int k ((Int.ofNat i).fdiv (2 ^ (min j k.bits))), ?_, ?_⟩
        · have h0 : ¬ ((j : Int) < 0) := by omega
          rw [Sem.run_bind, Go.LE.eqGuard_int]
          simp [binOp, Op.shift, h0]
        · simp only [iV, Den, minN_eq, kbits_eq]
          congr 1
          have e : ((2 : Int) ^ (min j k.bits)) = ((2 ^ (min j k.bits) : Nat) : Int) := by norm_cast
          rw [e]
          exact (Int.ofNat_fdiv _ _).symm
      · cases hv
    · cases hv
  · cases hv
theorem oUn_sound {op : UnOp} {x : Option V} {vx : Value} (hx : Kn U E x vx) : GP P U E w (oUn x op) (Op.unary op vx) := by
  intro v hv
  cases x with
  | none => cases hv
  | some u =>
    have hu := hx u rfl
    simp only [oUn] at hv
    unfold exUn at hv
    split at hv
    · cases hu.v_inv
      simp only [Option.some.injEq] at hv
      subst hv
      exact ⟨_, rfl, by simp only [V.b, Den]⟩
    · cases hu.v_inv
      simp only [Option.some.injEq, wrapF_eq, subI_eq] at hv
      subst hv
      exact ⟨_, rfl, by simp only [iV, Den]; rfl⟩
    · rename_i k m
      cases hu.v_inv
      cases hc : (fitsK k m && wrapU k) with
      | false => rw [hc] at hv; cases hv
      | true =>
        rw [hc] at hv
        simp only [ifS, Option.some.injEq] at hv
        subst hv
        simp only [Bool.and_eq_true] at hc
        have hs : k.signed = false := by have := hc.2; rw [wrapU_spec] at this; simpa using this
        have hlim : limK k = 2 ^ k.bits := by rw [limK_spec, hs]; rfl
        have hm : m < limK k := by simpa [fitsK] using hc.1
        have hp : 0 < limK k := by omega
        have hmax : k.max = Int.ofNat (limK k - 1) := by
          unfold IntKind.max
          rw [hs, hlim]
          simp only [Bool.false_eq_true, if_false]
          have : 0 < 2 ^ k.bits := by omega
          show ((2 : Int) ^ k.bits) - 1 = ((2 ^ k.bits - 1 : Nat) : Int)
          rw [Int.ofNat_sub (by omega)]
          norm_cast
        have hx := bits_xor (k := k) (x := limK k - 1) (y := m) (by omega) hm
        refine ⟨.int k (.ofNat (Nat.xor (limK k - 1) m)), ?_, ?_⟩
        · have : (Op.unary .xor (.int k (Int.ofNat m))) = Op.intBits .xor k (if k.signed then -1 else k.max) (Int.ofNat m) := rfl
          rw [this, hs]
          simp only [Bool.false_eq_true, if_false, hmax]
          rw [← hx]
          rfl
        · simp only [iV, Den]
          congr 2
          show (limK k - 1) ^^^ m = limK k - 1 - m
          symm
          obtain ⟨q, hq⟩ := lim_pow k
          rw [hq] at hm ⊢
          apply Nat.eq_of_testBit_eq
          intro i
          rw [show 2 ^ q - 1 - m = 2 ^ q - (m + 1) by omega, Nat.testBit_two_pow_sub_succ hm, Nat.testBit_xor, Nat.testBit_two_pow_sub_one]
          by_cases hi : i < q
          · simp [hi]
          · have : m.testBit i = false := Nat.testBit_lt_two_pow (Nat.lt_of_lt_of_le hm (Nat.pow_le_pow_right (by decide) (by omega)))
            simp [hi, this]
    · cases hv
theorem convI_sound {s d : TypeId} {k : IntKind} {x : Option V} {vx : Value} (hD : P.underlying d = some (.int k)) (hS : ∃ D, P.underlying s = some D) (hx : Kn U E x vx) : GP P U E w (convI2 x k) (convert s d vx) := by
  intro v hv
  unfold convI2 at hv
  split at hv
  · rename_i k' i
    cases (hx _ rfl).v_inv
    simp only [Option.some.injEq, wrapF_eq] at hv
    subst hv
    obtain ⟨D, hS⟩ := hS
    refine ⟨.int k (k.wrap i), ?_, by simp only [iV, Den]⟩
    simp [convert, run_underlying hD, run_underlying hS, Conv.intToInt]
  · cases hv
theorem convS_sound {s d : TypeId} {x : Option V} {vx : Value} (hD : P.underlying d = some .string) (hS : P.underlying s = some .string) (hx : Kn U E x vx) : GP P U E w (convS2 x) (convert s d vx) := by
  intro v hv
  unfold convS2 at hv
  split at hv
  · rename_i st
    cases (hx _ rfl).v_inv
    simp only [Option.some.injEq] at hv
    subst hv
    refine ⟨.string st, ?_, by simp only [Den]⟩
    simp [convert, run_underlying hD, run_underlying hS]
  · cases hv
theorem oEx_sound {x : Option V} {vx : Value} {i : Nat} (hx : Kn U E x vx) : GP P U E w (oEx x i) (Instr.extract vx i) := by
  intro v hv
  unfold oEx at hv
  split at hv
  · rename_i l j
    have hd := hx _ rfl
    simp only [Den] at hd
    obtain ⟨xs, h1, rfl⟩ := hd
    rw [nth_eq] at hv
    obtain ⟨y, hy, hdy⟩ := h1.get hv
    refine ⟨y, ?_, hdy⟩
    simp [Instr.extract, hy]
  · rename_i j l
    cases (hx _ rfl).v_inv
    rw [nth_eq] at hv
    obtain ⟨y, hy, rfl⟩ := Option.map_eq_some_iff.1 hv
    have : l[i]? = some y := by simpa using hy
    exact ⟨y, by simp [Instr.extract, this], by simp only [Den]⟩
  · cases hv
theorem nilC_sound {x : Option V} {vx : Value} (hx : Kn U E x vx) {v : V} (hv : nilC x = some v) : Den U E v vx ∧ ((∃ p, vx = .pointer (some p)) ∨ (∃ T y, vx = .iface T y) ∨ ∃ f p q, vx = .func (.func f) p q) := by
  unfold nilC at hv
  split at hv
  · cases hv
    have hd := hx _ rfl
    refine ⟨hd, ?_⟩
    simp only [Den] at hd
    obtain ⟨l, _, rfl⟩ := hd
    exact .inl ⟨_, rfl⟩
  · cases hv
    have hd := hx _ rfl
    refine ⟨hd, ?_⟩
    simp only [Den] at hd
    obtain ⟨l, _, rfl⟩ := hd
    exact .inr (.inl ⟨_, _, rfl⟩)
  · cases hv
    have hd := hx _ rfl
    refine ⟨hd, ?_⟩
    simp only [Den] at hd
    obtain ⟨xs, ys, _, _, rfl⟩ := hd
    exact .inr (.inr ⟨_, _, _, rfl⟩)
  · cases hv
    have hd := hx _ rfl
    refine ⟨hd, ?_⟩
    cases hd.v_inv
    exact .inr (.inr ⟨_, _, _, rfl⟩)
  · cases hv
    have hd := hx _ rfl
    refine ⟨hd, ?_⟩
    cases hd.v_inv
    exact .inl ⟨_, rfl⟩
  · cases hv
theorem oFn_sound {x y : Option (List V)} {xs ys : Array Value} {fn : Fn} (hx : ∀ l, x = some l → DenL U E l xs.toList) (hy : ∀ l, y = some l → DenL U E l ys.toList) : GP P U E w (oFn x y fn) (Instr.makeFunc fn xs ys) := by
  intro v hv
  cases x with
  | none => cases hv
  | some l => cases y with
    | none => cases hv
    | some l' =>
      simp only [oFn, Option.some.injEq] at hv
      subst hv
      refine ⟨.func fn xs ys, rfl, ?_⟩
      simp only [Den]
      exact ⟨xs.toList, ys.toList, hx l rfl, hy l' rfl, by simp⟩
theorem lenK_inv {tk : TK} {x v : V} (h : lenK tk x = some v) : (tk = .str ∧ ∃ s, x = .v (.string s) ∧ v = .nat (lng s.data.toList)) ∨ (∃ e n c, tk = .sl e ∧ x = .v (.slice none n c) ∧ v = .nat n) ∨ (∃ e k o n c, tk = .sl e ∧ x = .s k o n c ∧ v = .nat n) ∨ (∃ n e, tk = .arr n e ∧ v = .nat n) := by
  unfold lenK at h
  split at h
  · exact .inl ⟨rfl, _, rfl, (Option.some.inj h).symm⟩
  · exact .inr (.inl ⟨_, _, _, rfl, rfl, (Option.some.inj h).symm⟩)
  · exact .inr (.inr (.inl ⟨_, _, _, _, _, rfl, rfl, (Option.some.inj h).symm⟩))
  · exact .inr (.inr (.inr ⟨_, _, rfl, (Option.some.inj h).symm⟩))
  · cases h
theorem Den.nat (k : Nat) : Den U E (.nat k) (goInt k) := by simp only [V.nat, Den]; rfl
theorem oLen_sound (hC : COk P C U B W) {T ty : TypeId} {x : Option V} {vx : Value} (hx : Kn U E x vx) : GP P U E w (oLen x (C.ty T)) (Builtin.len_ #[T] ty #[vx]) := by
  intro v hv
  cases x with
  | none => cases hv
  | some u =>
    replace hx := hx u rfl
    simp only [oLen] at hv
    cases hi : C.ty T with
    | none => rw [hi] at hv; cases hv
    | some i =>
      rw [hi] at hv
      simp only [lenP] at hv
      obtain ⟨D, hD, _, hk, _⟩ := ty_inv hC hi
      rcases lenK_inv hv with ⟨hkk, s, rfl, rfl⟩ | ⟨e, n, c, hkk, rfl, rfl⟩ | ⟨e, k, o, n, c, hkk, rfl, rfl⟩ | ⟨n, e, hkk, rfl⟩
      · rw [hkk] at hk
        have : D = .string := hk
        subst this
        cases hx.v_inv
        refine ⟨goInt s.size, by simp [Builtin.len_, run_underlying hD], ?_⟩
        rw [lng_eq, show s.data.toList.length = s.size by simp]
        exact Den.nat _
      · rw [hkk] at hk
        have : D = .slice e := hk
        subst this
        cases hx.v_inv
        exact ⟨goInt n, by simp [Builtin.len_, run_underlying hD], Den.nat _⟩
      · rw [hkk] at hk
        have : D = .slice e := hk
        subst this
        simp only [Den] at hx
        obtain ⟨l, _, _, rfl⟩ := hx
        exact ⟨goInt n, by simp [Builtin.len_, run_underlying hD], Den.nat _⟩
      · rw [hkk] at hk
        have : D = .array n e := hk
        subst this
        exact ⟨goInt n, by simp [Builtin.len_, run_underlying hD], Den.nat _⟩
theorem HR.map (h : HR U E H n B W w) {q : Nat} {es : List (V × V)} (hq : mapO (H.get q) = some es) : ∃ l ents, E q = some l ∧ w.heap[l.b]? = some (.map ents es.length) ∧ MSat U E es ents.toList 0 ∧ H.get q = some (.m es) := by
  cases hg : H.get q with
  | none => rw [hg] at hq; cases hq
  | some o =>
    rw [hg] at hq
    cases o with
    | m es' =>
      simp only [mapO, Option.some.injEq] at hq
      subst hq
      obtain ⟨l, h1, ents, h2, h3⟩ := h.ent q _ hg
      exact ⟨l, ents, h1, h2, h3, rfl⟩
    | c T vs len => cases hq
    | it k n => cases hq
    | q T vs => cases hq
theorem MSat.len : ∀ {es : List (V × V)} {ents : List MapEntry} {i : Nat}, MSat U E es ents i → ents.length = es.length
  | [], ents, i, h => by rw [show ents = [] from h]; rfl
  | (k, v) :: r, ents, i, ⟨e, es', h1, _, _, _, h5⟩ => by subst h1; simp [MSat.len h5]
theorem run_getObj_map {r : Nat} {ents : Array MapEntry} {c : Nat} (h : w.heap[r]? = some (.map ents c)) : (getObj r).run P w = .ok (.map ents c) w := by
  simp [getObj, Sem.run, h]
theorem oLenM_sound (hC : COk P C U B W) (h : HR U E H n B W w) {T ty : TypeId} {k e sz b : Nat} {ag : Bool} {z : Option Value} (hi : C.ty T = some ⟨sz, ag, z, b, .mp k e⟩) {x : Option V} {vx : Value} (hx : Kn U E x vx) : GP P U E w (oLenM x H) (Builtin.len_ #[T] ty #[vx]) := by
  intro v hv
  have hD := ty_mp hC hi
  cases x with
  | none => cases hv
  | some u =>
    replace hx := hx u rfl
    simp only [oLenM] at hv
    unfold lenH at hv
    split at hv
    · cases hx.v_inv
      simp only [Option.some.injEq] at hv
      subst hv
      exact ⟨goInt 0, by simp [Builtin.len_, run_underlying hD], Den.nat _⟩
    · rename_i q
      simp only [Den] at hx
      obtain ⟨l, e1, rfl⟩ := hx
      cases hm : mapO (H.get q) with
      | none => rw [hm] at hv; cases hv
      | some es =>
        rw [hm] at hv
        simp only [lenM, Option.some.injEq, lng_eq] at hv
        subst hv
        obtain ⟨l', ents, e2, h2, h3, _⟩ := h.map hm
        rw [e1] at e2
        cases e2
        refine ⟨goInt ents.size, ?_, ?_⟩
        · simp [Builtin.len_, run_underlying hD, run_getObj_map h2]
        · rw [show ents.size = es.length by rw [← h3.len]; simp]
          exact Den.nat _
    · cases hv
theorem max2_sound {mx : Bool} {x y v : V} {vx vy : Value} (hx : Den U E x vx) (hy : Den U E y vy) (h : max2 mx x y = some v) : ∃ z, ((if mx then Builtin.max2 else Builtin.min2) vx vy).run P w = .ok z w ∧ Den U E v z := by
  unfold max2 at h
  split at h
  · rename_i k i k' j
    cases hx.v_inv
    cases hy.v_inv
    simp only [Option.some.injEq, ltI_eq] at h
    subst h
    by_cases hlt : i < j
    · exact ⟨.int k j, by simp [Builtin.max2, hlt], by simp [hlt, mx2, iV, Den]⟩
    · exact ⟨.int k i, by simp [Builtin.max2, hlt], by simp [hlt, mx2, iV, Den]⟩
  · rename_i k i k' j
    cases hx.v_inv
    cases hy.v_inv
    simp only [Option.some.injEq, ltI_eq] at h
    subst h
    by_cases hlt : j < i
    · exact ⟨.int k j, by simp [Builtin.min2, hlt], by simp [hlt, mx2, iV, Den]⟩
    · exact ⟨.int k i, by simp [Builtin.min2, hlt], by simp [hlt, mx2, iV, Den]⟩
  · cases h
theorem maxL_sound {mx : Bool} : ∀ {l : List V} {xs : List Value} {x v : V} {vx : Value}, Den U E x vx → DenL U E l xs → maxL l mx (some x) = some v → ∃ z, (xs.foldlM (if mx then Builtin.max2 else Builtin.min2) vx).run P w = .ok z w ∧ Den U E v z
  | [], xs, x, v, vx, hx, hl, h => by
    rw [hl.nil_inv]
    simp only [maxL, Option.some.injEq] at h
    subst h
    exact ⟨vx, rfl, hx⟩
  | y :: r, xs, x, v, vx, hx, hl, h => by
    obtain ⟨vy, ys, rfl, hy, hr⟩ := hl.cons_inv
    rw [maxL] at h
    cases hm : max2 mx x y with
    | none => rw [hm] at h; cases r <;> cases h
    | some u =>
      rw [hm] at h
      obtain ⟨z, hz, hdz⟩ := max2_sound (P := P) (w := w) hx hy hm
      obtain ⟨z', hz', hdz'⟩ := maxL_sound hdz hr h
      refine ⟨z', ?_, hdz'⟩
      rw [List.foldlM_cons, Sem.run_bind, hz]
      exact hz'
end
end Go.CE
end
section
namespace Go.CE
open Go.RowKit
section
variable {P : Program} {C : Cfg} {U : Nat → Value} {E E' : Env} {H : HP} {n : Nat} {B : Nat → Prop} {W w w' : World} {F : FR} {a : Act}
theorem isIfc_inv (hC : COk P C U B W) {T : Nat} (h : isIfc (C.ty T) = false) : ∃ i D, C.ty T = some i ∧ P.underlying T = some D ∧ ∀ ms, D ≠ .interface ms := by
  cases hi : C.ty T with
  | none => rw [hi] at h; cases h
  | some i =>
    obtain ⟨D, hD, _, hk, _⟩ := ty_inv hC hi
    refine ⟨i, D, rfl, hD, fun ms hm => ?_⟩
    rw [hi] at h
    obtain ⟨sz, ag, z, b, k⟩ := i
    subst hm
    cases k with
    | ifc => cases h
    | oth => exact hk ms rfl
    | int k => exact absurd (show TypeDesc.interface ms = .int k from hk) (by simp)
    | bool => exact absurd (show TypeDesc.interface ms = .bool from hk) (by simp)
    | str => exact absurd (show TypeDesc.interface ms = .string from hk) (by simp)
    | ptr e => exact absurd (show TypeDesc.interface ms = .pointer e from hk) (by simp)
    | sl e => exact absurd (show TypeDesc.interface ms = .slice e from hk) (by simp)
    | arr n e => exact absurd (show TypeDesc.interface ms = .array n e from hk) (by simp)
    | mp k e => exact absurd (show TypeDesc.interface ms = .map k e from hk) (by simp)
    | st fs => obtain ⟨fa, hf, _⟩ := hk; exact absurd hf (by simp)
    | fn => obtain ⟨p, q, r, hf⟩ := hk; exact absurd hf (by simp)
theorem oIfc_sound (hC : COk P C U B W) {T : Nat} {x : Option V} {vx : Value} (hx : Kn U E x vx) : GP P U E w (oIfc x T (isIfc (C.ty T))) (Instr.makeInterface T vx) := by
  intro v hv
  cases x with
  | none => cases hv
  | some u =>
    cases hb : isIfc (C.ty T) with
    | true => rw [hb] at hv; cases hv
    | false =>
      rw [hb] at hv
      simp only [oIfc, Option.some.injEq] at hv
      subst hv
      obtain ⟨i, D, hi, hD, hne⟩ := isIfc_inv hC hb
      refine ⟨.iface T vx, ?_, by simp only [Den]; exact ⟨vx, hx u rfl, rfl⟩⟩
      simp only [Instr.makeInterface, Sem.run_bind, run_underlying hD, Result.andThen_ok]
      cases D <;> first | rfl | exact absurd rfl (hne _)
theorem okT_inv {x : Option V} {c ok : Bool} {v : V} (h : okT x c ok = some v) : ∃ u, x = some u ∧ ((c = true ∧ v = .t [u, .b ok]) ∨ (c = false ∧ ok = true ∧ v = u)) := by
  unfold okT at h
  split at h
  · exact ⟨_, rfl, .inl ⟨rfl, (Option.some.inj h).symm⟩⟩
  · exact ⟨_, rfl, .inr ⟨rfl, rfl, (Option.some.inj h).symm⟩⟩
  · cases h
theorem zeroV_inv (hC : COk P C U B W) {T : Nat} {u : V} (h : zeroV (C.ty T) = some u) : ∃ z, u = .v z ∧ ∀ w : World, (zeroValue T).run P w = .ok z w := by
  cases hi : C.ty T with
  | none => rw [hi] at h; cases h
  | some i =>
    rw [hi] at h
    simp only [zeroV] at h
    cases hz : i.z with
    | none => rw [hz] at h; cases h
    | some z =>
      rw [hz] at h
      simp only [zeroW, Option.some.injEq] at h
      exact ⟨z, h.symm, (hC.ty T i hi).z z hz⟩
theorem Den.b (c : Bool) : Den U E (.b c) (.bool c) := by simp only [V.b, Den]
theorem Den.tup2 {u v : V} {x y : Value} (h1 : Den U E u x) (h2 : Den U E v y) : Den U E (.t [u, v]) (.tuple #[x, y]) := by
  simp only [Den]
  exact ⟨[x, y], .cons h1 (.cons h2 .nil), rfl⟩
theorem as2_inv {x : V} {A : Nat} {ok : Bool} {i : Option TI} {v : V} (h : as2 x A ok i = some v) : (∃ t z, x = .i t z ∧ as3 (Nat.beq t A) z ok i = some v) ∨ (x = .v .nilIface ∧ ok = true ∧ okT (zeroV i) true false = some v) := by
  unfold as2 at h
  split at h
  · exact .inl ⟨_, _, rfl, h⟩
  · exact .inr ⟨rfl, rfl, h⟩
  · cases h
theorem as3_inv {b : Bool} {z : V} {ok : Bool} {i : Option TI} {v : V} (h : as3 b z ok i = some v) : (b = true ∧ okT (some z) ok true = some v) ∨ (b = false ∧ ok = true ∧ okT (zeroV i) true false = some v) := by
  unfold as3 at h
  split at h
  · exact .inl ⟨rfl, h⟩
  · exact .inr ⟨rfl, rfl, h⟩
  · cases h
theorem oAs_sound (hC : COk P C U B W) {T A : Nat} {ok : Bool} {x : Option V} {vx : Value} (hx : Kn U E x vx) : GP P U E w (oAs x A ok (C.ty A)) (Instr.typeAssert vx T A ok) := by
  intro v hv
  cases x with
  | none => cases hv
  | some u =>
    replace hx := hx u rfl
    simp only [oAs] at hv
    cases hb : isIfc (C.ty A) with
    | true => rw [hb] at hv; cases hv
    | false =>
      rw [hb] at hv
      simp only [as1] at hv
      obtain ⟨i, D, hi, hD, hne⟩ := isIfc_inv hC hb
      have fails : okT (zeroV (C.ty A)) true false = some v → ∃ z, (zeroValue A).run P w = .ok z w ∧ Den U E v (.tuple #[z, .bool false]) := fun h => by
        obtain ⟨z', h1, h2⟩ := okT_inv h
        obtain ⟨z, rfl, hz⟩ := zeroV_inv hC h1
        rcases h2 with ⟨_, rfl⟩ | ⟨h3, _⟩
        · exact ⟨z, hz w, Den.tup2 (by simp only [Den]) (Den.b _)⟩
        · cases h3
      rcases as2_inv hv with ⟨t, z, rfl, h3⟩ | ⟨rfl, rfl, h3⟩
      · simp only [Den] at hx
        obtain ⟨y, hy, rfl⟩ := hx
        rcases as3_inv h3 with ⟨hbb, h4⟩ | ⟨hbb, rfl, h4⟩
        · have := Nat.eq_of_beq_eq_true hbb
          subst this
          obtain ⟨u, h5, h6⟩ := okT_inv h4
          cases h5
          rcases h6 with ⟨rfl, rfl⟩ | ⟨rfl, _, rfl⟩
          · refine ⟨.tuple #[y, .bool true], ?_, Den.tup2 hy (Den.b _)⟩
            simp only [Instr.typeAssert, Sem.run_bind, run_underlying hD, Result.andThen_ok]
            cases D <;> first | exact absurd rfl (hne _) | simp
          · refine ⟨y, ?_, hy⟩
            simp only [Instr.typeAssert, Sem.run_bind, run_underlying hD, Result.andThen_ok]
            cases D <;> first | exact absurd rfl (hne _) | simp
        · have hta : t ≠ A := fun e => by subst e; simp at hbb
          obtain ⟨z, hz, hdz⟩ := fails h4
          refine ⟨_, ?_, hdz⟩
          simp only [Instr.typeAssert, Sem.run_bind, run_underlying hD, Result.andThen_ok]
          cases D <;> first | exact absurd rfl (hne _) | simp [hta, hz]
      · cases hx.v_inv
        obtain ⟨z, hz, hdz⟩ := fails h3
        refine ⟨_, ?_, hdz⟩
        simp only [Instr.typeAssert, Sem.run_bind, run_underlying hD, Result.andThen_ok]
        cases D <;> first | exact absurd rfl (hne _) | simp [hz]
def OKn (U : Nat → Value) (E : Env) : Option V → Option Value → Prop
  | none, none => True
  | some u, some y => Den U E u y
  | _, _ => False
theorem run_bounds {isS : Bool} {len cap l h : Nat} {lo hi : Option V} {vl vh : Option Value} (hl : OKn U E lo vl) (hh : OKn U E hi vh) (h1 : bnd lo 0 = some l) (h2 : bnd hi len = some h) (h3 : l ≤ h) (h4 : h ≤ cap) :
    (Instr.sliceBounds isS len cap vl vh none).run P w = .ok (l, h, cap) w := by
  have lw : ∀ (b : Nat), l ≤ b → ∀ c, vl = none ∧ l = 0 ∨ ∃ y, vl = some y ∧ (Instr.sliceBound y b c).run P w = .ok l w := fun b hb c => by
    cases lo with
    | none =>
      simp only [bnd, Option.some.injEq] at h1
      cases vl with
      | none => exact .inl ⟨rfl, h1.symm⟩
      | some y => exact hl.elim
    | some u =>
      cases vl with
      | none => exact hl.elim
      | some y =>
        obtain ⟨k, rfl⟩ := toN_inv h1
        have := Den.v_inv (U := U) (E := E) hl
        subst this
        refine .inr ⟨_, rfl, ?_⟩
        simp [Instr.sliceBound, asIntOf, hb]
  have hg : ∀ c, vh = none ∧ h = len ∨ ∃ y, vh = some y ∧ (Instr.sliceBound y cap c).run P w = .ok h w := fun c => by
    cases hi with
    | none =>
      simp only [bnd, Option.some.injEq] at h2
      cases vh with
      | none => exact .inl ⟨rfl, h2.symm⟩
      | some y => exact hh.elim
    | some u =>
      cases vh with
      | none => exact hh.elim
      | some y =>
        obtain ⟨k, rfl⟩ := toN_inv h2
        have := Den.v_inv (U := U) (E := E) hh
        subst this
        refine .inr ⟨_, rfl, ?_⟩
        simp [Instr.sliceBound, asIntOf, h4]
  rcases hg (if isS then .sliceAcap else .sliceAlen) with ⟨rfl, rfl⟩ | ⟨y, rfl, hy⟩
  · rcases lw h h3 .sliceB with ⟨rfl, rfl⟩ | ⟨z, rfl, hz⟩
    · simp [Instr.sliceBounds]
    · simp [Instr.sliceBounds, hz]
  · rcases lw h h3 .sliceB with ⟨rfl, rfl⟩ | ⟨z, rfl, hz⟩
    · simp [Instr.sliceBounds, hy]
    · simp [Instr.sliceBounds, hy, hz]
theorem fa3T {b : Bool} {x v : V} (h : fa3 b x = some v) : b = true ∧ v = x := fa3_inv h
theorem slc2_inv {i : Option TI} {x v : V} {lo hi : Option V} (h : slc2 i x lo hi C = some v) :
    (∃ sz ag z b s, i = some ⟨sz, ag, z, b, .str⟩ ∧ x = .v (.string s) ∧ sls (bnd lo 0) (bnd hi (lng s.data.toList)) s.data.toList = some v) ∨
    (∃ sz ag z b e, i = some ⟨sz, ag, z, b, .sl e⟩ ∧ sln lo hi x (C.ty e) = some v) ∨ (∃ sz ag z b m e, i = some ⟨sz, ag, z, b, .arr m e⟩ ∧ sla lo hi x (C.ty e) m = some v) := by
  unfold slc2 at h
  split at h
  · exact .inl ⟨_, _, _, _, _, rfl, rfl, h⟩
  · exact .inr (.inl ⟨_, _, _, _, _, rfl, h⟩)
  · exact .inr (.inr ⟨_, _, _, _, _, _, rfl, h⟩)
  · cases h
theorem sls_inv {l h : Option Nat} {s : List UInt8} {v : V} (hh : sls l h s = some v) : ∃ a b, l = some a ∧ h = some b ∧ a ≤ b ∧ b ≤ s.length ∧ v = .v (.string ⟨⟨(s.drop a).take (b - a)⟩⟩) := by
  cases l with
  | none => cases hh
  | some a => cases h with
    | none => cases hh
    | some b =>
      simp only [sls] at hh
      cases hc : (Nat.ble a b && Nat.ble b (lng s)) with
      | false => rw [hc] at hh; cases hh
      | true =>
        rw [hc] at hh
        simp only [sls2, Option.some.injEq, tak_eq, drp_eq] at hh
        simp only [Bool.and_eq_true, lng_eq] at hc
        exact ⟨a, b, rfl, rfl, by simpa using hc.1, by simpa using hc.2, hh.symm⟩
theorem cut1_inv {lo hi : Option Nat} {k o sz n : Nat} {c : CP} {v : V} (h : cut1 lo hi k o sz n c = some v) : ∃ l hh, lo = some l ∧ hi = some hh ∧ l ≤ hh ∧ hh ≤ n ∧ cut2 l hh k o sz n c true = some v := by
  cases lo with
  | none => cases h
  | some l => cases hi with
    | none => cases h
    | some hh =>
      simp only [cut1] at h
      cases hc : (Nat.ble l hh && Nat.ble hh n) with
      | false => rw [hc] at h; cases l <;> cases h
      | true =>
        rw [hc] at h
        simp only [Bool.and_eq_true] at hc
        exact ⟨l, hh, rfl, rfl, by simpa using hc.1, by simpa using hc.2, h⟩
theorem cut0_inv {lo hi : Option Nat} {x v : V} (h : cut0 lo hi x = some v) : lo = some 0 ∧ hi = some 0 ∧ v = x := by
  unfold cut0 at h
  split at h
  · exact ⟨rfl, rfl, (Option.some.inj h).symm⟩
  · cases h
theorem sln_inv {lo hi : Option V} {x v : V} {d : Option TI} (h : sln lo hi x d = some v) : (∃ i, d = some i ∧ x = .v (.slice none 0 0) ∧ bnd lo 0 = some 0 ∧ bnd hi 0 = some 0 ∧ v = x) ∨
    ∃ k o n c i l hh, x = .s k o n c ∧ d = some i ∧ bnd lo 0 = some l ∧ bnd hi n = some hh ∧ l ≤ hh ∧ hh ≤ n ∧ cut2 l hh k o i.sz n c true = some v := by
  unfold sln at h
  split at h
  · obtain ⟨h1, h2, h3⟩ := cut0_inv h
    exact .inl ⟨_, rfl, rfl, h1, h2, h3⟩
  · obtain ⟨l, hh, h1, h2, h3, h4, h5⟩ := cut1_inv h
    exact .inr ⟨_, _, _, _, _, l, hh, rfl, rfl, h1, h2, h3, h4, h5⟩
  · cases h
theorem extract_bytes (s : ByteArray) (a b : Nat) (h : b ≤ s.size) : (⟨⟨(s.data.toList.drop a).take (b - a)⟩⟩ : ByteArray) = s.extract a b := by
  apply ByteArray.ext
  apply Array.ext'
  rw [ByteArray.data_extract]
  simp [Array.toList_extract, List.extract_eq_take_drop]
theorem sla2_inv {lo hi : Option Nat} {k o sz m : Nat} {v : V} (h : sla2 lo hi k o sz m = some v) : ∃ l hh, lo = some l ∧ hi = some hh ∧ l < hh ∧ hh ≤ m ∧ v = .s k (o + l * sz) (hh - l) (.ex (m - l)) := by
  cases lo with
  | none => cases h
  | some l => cases hi with
    | none => cases h
    | some hh =>
      obtain ⟨hc, rfl⟩ := fa3_inv h
      simp only [Bool.and_eq_true] at hc
      exact ⟨l, hh, rfl, rfl, by simpa using hc.1, by simpa using hc.2, rfl⟩
theorem sla_inv {lo hi : Option V} {x v : V} {d : Option TI} {m : Nat} (h : sla lo hi x d m = some v) : ∃ k o i l hh, x = .p k o ∧ d = some i ∧ bnd lo 0 = some l ∧ bnd hi m = some hh ∧ l < hh ∧ hh ≤ m ∧ v = .s k (o + l * i.sz) (hh - l) (.ex (m - l)) := by
  unfold sla at h
  split at h
  · obtain ⟨l, hh, h1, h2, h3, h4, h5⟩ := sla2_inv h
    exact ⟨_, _, _, l, hh, rfl, rfl, h1, h2, h3, h4, h5⟩
  · cases h
theorem cut2_inv {l h k o sz n : Nat} {c : CP} {v : V} (hh : cut2 l h k o sz n c true = some v) : (l = 0 ∧ v = .s k o h c) ∨ (∃ q, 0 < l ∧ c = .ex q ∧ l < q ∧ v = .s k (o + l * sz) (h - l) (.ex (q - l))) ∨ (0 < l ∧ c = .un sz ∧ l < n ∧ v = .s k (o + l * sz) (h - l) (.un sz)) ∨ (∃ q, 0 < l ∧ c = .ex q ∧ ¬ l < q ∧ v = .s k o 0 (.ex 0)) := by
  cases l with
  | zero => simp only [cut2, Option.some.injEq] at hh; exact .inl ⟨rfl, hh.symm⟩
  | succ l =>
    simp only [cut2] at hh
    cases c with
    | ex q =>
      simp only [cut3, Option.some.injEq] at hh
      cases hb : Nat.blt (l + 1) q with
      | true => rw [hb] at hh; exact .inr (.inl ⟨q, by omega, rfl, by simpa using hb, hh.symm⟩)
      | false =>
        rw [hb] at hh
        have hn : ¬ l + 1 < q := fun hc => by rw [← Nat.blt_eq] at hc; rw [hc] at hb; cases hb
        exact .inr (.inr (.inr ⟨q, by omega, rfl, hn, hh.symm⟩))
    | un u =>
      obtain ⟨hb, rfl⟩ := fa3_inv hh
      simp only [Bool.and_eq_true] at hb
      have := Nat.eq_of_beq_eq_true hb.2
      subst this
      exact .inr (.inr (.inl ⟨by omega, rfl, by simpa using hb.1, rfl⟩))
theorem oSlice_sound (hC : COk P C U B W) {T : Nat} {x : V} {vx : Value} {lo hi : Option V} {vl vh : Option Value} (hx : Den U E x vx) (hl : OKn U E lo vl) (hh : OKn U E hi vh) : GP P U E w (slc2 (C.ty T) x lo hi C) (Instr.sliceAt T vx vl vh none) := by
  intro v hv
  rcases slc2_inv hv with ⟨sz, ag, z, b, s, hi', hx0, h1⟩ | ⟨sz, ag, z, b, e, hi', h1⟩ | ⟨sz, ag, z, b, m, e, hi', h1⟩
  · have hD := ty_str hC hi'
    subst hx0
    cases hx.v_inv
    obtain ⟨p, q, g1, g2, g3, g4, rfl⟩ := sls_inv h1
    rw [lng_eq] at g2
    have hs : s.data.toList.length = s.size := by simp
    rw [hs] at g2 g4
    have hb := run_bounds (P := P) (w := w) (isS := false) hl hh g1 g2 g3 g4
    refine ⟨.string (s.extract p q), ?_, by simp only [Den]; rw [extract_bytes s p q g4]⟩
    simp [Instr.sliceAt, Instr.slice, run_underlying hD, hb]
  · have hD := ty_sl hC hi'
    rcases sln_inv h1 with ⟨i, he, rfl, g1, g2, rfl⟩ | ⟨k, o, n', c, i, l, q, rfl, he, g1, g2, g3, g4, g5⟩
    · cases hx.v_inv
      have hb := run_bounds (P := P) (w := w) (isS := true) (len := 0) (cap := 0) hl hh g1 g2 (Nat.le_refl 0) (Nat.le_refl 0)
      have hts := (hC.ty e i he).sz
      refine ⟨.slice none 0 0, ?_, by simp only [Den]⟩
      simp [Instr.sliceAt, Instr.slice, run_underlying hD, hb, Go.LE.run_ts hts]
    · have hts := (hC.ty e i he).sz
      simp only [Den] at hx
      obtain ⟨lc, e1, hcap, rfl⟩ := hx
      have hb := run_bounds (P := P) (w := w) (isS := true) (len := n') (cap := capOf lc o c) hl hh g1 g2 g3 (by omega)
      have run : (Instr.sliceAt T (.slice (some ⟨lc.b, lc.d + o, none⟩) n' (capOf lc o c)) vl vh none).run P w = .ok (.slice (if capOf lc o c = l then some ⟨lc.b, lc.d + o, none⟩ else some ((⟨lc.b, lc.d + o, none⟩ : Addr).add (l * i.sz))) (q - l) (capOf lc o c - l)) w := by
        simp [Instr.sliceAt, Instr.slice, run_underlying hD, hb, Go.LE.run_ts hts]
      refine ⟨_, run, ?_⟩
      rcases cut2_inv g5 with ⟨rfl, rfl⟩ | ⟨c', hl0, rfl, hlt, rfl⟩ | ⟨hl0, rfl, hlt, rfl⟩ | ⟨c', hl0, rfl, hnlt, rfl⟩
      · simp only [Den]
        refine ⟨lc, e1, by omega, ?_⟩
        simp [Addr.add]
      · have hcap' : n' ≤ c' := hcap
        have hne : ¬ capOf lc o (.ex c') = l := by show ¬ c' = l; omega
        rw [if_neg hne, Addr.add_lit, Nat.add_assoc]
        simp only [Den]
        exact ⟨lc, e1, by show q - l ≤ c' - l; omega, rfl⟩
      · have hcap' : n' ≤ (lc.t - o) / i.sz := hcap
        have hne : ¬ capOf lc o (.un i.sz) = l := by show ¬ (lc.t - o) / i.sz = l; omega
        have hc : (lc.t - (o + l * i.sz)) / i.sz = (lc.t - o) / i.sz - l := by
          rw [← Nat.sub_sub, Nat.mul_comm, Nat.sub_mul_div]
        rw [if_neg hne, Addr.add_lit, Nat.add_assoc]
        simp only [Den]
        refine ⟨lc, e1, by show q - l ≤ (lc.t - (o + l * i.sz)) / i.sz; rw [hc]; omega, ?_⟩
        show _ = Value.slice _ _ ((lc.t - (o + l * i.sz)) / i.sz)
        rw [hc]
        rfl
      · have hcap' : n' ≤ c' := hcap
        have : l = c' := by omega
        subst this
        have he : capOf lc o (.ex l) = l := rfl
        rw [if_pos he]
        simp only [Den]
        refine ⟨lc, e1, Nat.zero_le _, ?_⟩
        rw [he, show q - l = 0 by omega, Nat.sub_self]
        rfl
  · have hD := ty_arr hC hi'
    obtain ⟨k, o, i, l, q, rfl, he, g1, g2, g3, g4, rfl⟩ := sla_inv h1
    have hts := (hC.ty e i he).sz
    simp only [Den] at hx
    obtain ⟨lc, e1, rfl⟩ := hx
    have hb := run_bounds (P := P) (w := w) (isS := false) (len := m) (cap := m) hl hh g1 g2 (by omega) g4
    refine ⟨.slice (some ((⟨lc.b, lc.d + o, none⟩ : Addr).add (l * i.sz))) (q - l) (m - l), ?_, ?_⟩
    · have hne : m ≠ l := by omega
      simp [Instr.sliceAt, Instr.sureAddr, run_underlying hD, hb, Go.LE.run_ts hts, hne]
    · simp only [Den, capOf]
      refine ⟨lc, e1, by omega, ?_⟩
      rw [Addr.add_lit, Nat.add_assoc]
end
end Go.CE
end
section
namespace Go.CE
open Go.RowKit
section
variable {P : Program} {C : Cfg} {U : Nat → Value} {E E' : Env} {H H' : HP} {n n' : Nat} {B : Nat → Prop} {W w w' : World} {F : FR} {a : Act}
def GE (P : Program) (U : Nat → Value) (E : Env) (B : Nat → Prop) (W w : World) (r : R) (s : Sem Value) : Prop :=
  ∀ v H' n', r = .ok v H' n' → ∃ x w' E', s.run P w = .ok x w' ∧ E.le E' ∧ Den U E' v x ∧ HR U E' H' n' B W w'
theorem GE.no {l : List String} {s : Sem Value} : GE P U E B W w (.no l) s := fun v H' n' h => by cases h
theorem allOne_one (hu : ∀ i, (U i).oneCell' = true) : ∀ {vs : List V} {xs : List Value}, allOne vs = true → DenL U E vs xs → ∀ x ∈ xs, x.oneCell' = true
  | [], xs, _, h, x, hx => by rw [h.nil_inv] at hx; cases hx
  | v :: r, xs, ho, h, x, hx => by
    obtain ⟨y, ys, rfl, h1, h2⟩ := h.cons_inv
    rw [allOne, Bool.and_eq_true] at ho
    rcases List.mem_cons.1 hx with rfl | hx
    · exact h1.one hu ho.1
    · exact allOne_one hu ho.2 h2 x hx
theorem wr_inv {k o : Nat} {xs : List V} (h : wr H k o xs = some H') : ∃ T l len, H.get k = some (.c T l len) ∧ okK k = true ∧ o + xs.length ≤ len ∧ allOne xs = true ∧ H' = H.set k (some (.c T (ovr l o xs) len)) := by
  unfold wr at h
  cases hg : H.get k with
  | none => rw [hg] at h; cases h
  | some ob =>
    rw [hg] at h
    cases ob with
    | c T l len =>
      simp only [wr1] at h
      cases hc : (okK k && (Nat.ble (Nat.add o (lng xs)) len && allOne xs)) with
      | false => rw [hc] at h; cases h
      | true =>
        rw [hc] at h
        simp only [wr2, Option.some.injEq] at h
        simp only [Bool.and_eq_true, lng_eq] at hc
        exact ⟨T, l, len, rfl, hc.1, by simpa using hc.2.1, hc.2.2, h.symm⟩
    | m es => cases h
    | it k n => cases h
    | q T l => cases h
theorem over_list (pre ys junk xs : List Value) (o : Nat) (h : o + xs.length ≤ ys.length) :
    ((pre ++ (ys ++ junk)).take (pre.length + o) ++ xs ++ (pre ++ (ys ++ junk)).drop (pre.length + o + xs.length)).drop pre.length = (ys.take o ++ xs ++ ys.drop (o + xs.length)) ++ junk := by
  have e1 : (pre ++ (ys ++ junk)).take (pre.length + o) = pre ++ ys.take o := by
    rw [List.take_length_add_append, List.take_append_of_le_length (by omega)]
  have e2 : (pre ++ (ys ++ junk)).drop (pre.length + o + xs.length) = ys.drop (o + xs.length) ++ junk := by
    rw [Nat.add_assoc, List.drop_length_add_append, List.drop_append_of_le_length (by omega)]
  rw [e1, e2]
  simp [List.append_assoc]
theorem wr_sound (hu : ∀ i, (U i).oneCell' = true) (h : HR U E H n B W w) {k o : Nat} {vs : List V} {xs : List Value} {l : Loc} (hw : wr H k o vs = some H') (he : E k = some l) (hd : DenL U E vs xs) :
    ∃ w', (storeCells ⟨l.b, l.d + o, none⟩ xs).run P w = .ok () w' ∧ HR U E H' n B W w' := by
  obtain ⟨T, us, len, hg, hok, hle, hone, rfl⟩ := wr_inv hw
  obtain ⟨l', e1, hlen, cs, ys, junk, h1, h2, h3, h4⟩ := h.ent k _ hg
  rw [he] at e1
  cases e1
  have hlx := hd.len
  have hly := h3.len
  have hcs : cs.toList.length = l.d + l.t := by simpa using h4
  have hdl : (cs.toList.drop l.d).length = (ys ++ junk).length := by rw [h2]
  simp only [List.length_drop, List.length_append] at hdl
  have hst := run_storeCells_at (P := P) l.b (l.d + o) T xs 0 cs w h1 (by rw [← Array.length_toList]; omega) (allOne_one hu hone hd)
  refine ⟨_, hst, ?_⟩
  refine h.turn hg hok he (o' := .c T (ovr us o vs) len) ⟨by rw [ovr_len _ _ _ (by omega), hlen], _, ys.take o ++ xs ++ ys.drop (o + xs.length), junk, setRow_heap w l.b cs _ T (0, 0) h1, ?_, h3.ovr hd (by omega), ?_⟩ (fun b hb => setRow_other w l.b b _ hb) (by simp) rfl rfl rfl
  · simp only [Nat.add_zero]
    have e : cs.toList = cs.toList.take l.d ++ (ys ++ junk) := by rw [← h2, List.take_append_drop]
    have hd0 : (cs.toList.take l.d).length = l.d := by rw [List.length_take]; omega
    have := over_list (cs.toList.take l.d) ys junk xs o (by omega)
    rw [hd0, ← e] at this
    exact this
  · simp only [List.size_toArray, List.length_append, List.length_take, List.length_drop]
    omega
theorem store2_inv {i : Option TI} {p x : V} (h : store2 i p x H = some H') : ∃ d k o, i = some d ∧ p = .p k o ∧ x.cells.length = d.sz ∧ wr H k o x.cells = some H' := by
  cases i with
  | none => cases h
  | some d =>
    cases p <;> try (cases h; done)
    rename_i k o
    simp only [store2] at h
    cases hb : Nat.beq (lng x.cells) d.sz with
    | false => rw [hb] at h; cases h
    | true =>
      rw [hb] at h
      have := Nat.eq_of_beq_eq_true hb
      rw [lng_eq] at this
      exact ⟨_, _, _, rfl, rfl, this, h⟩
theorem oStore_sound (hC : COk P C U B W) (h : HR U E H n B W w) {T : Nat} {p x : Option V} {vp vx : Value} (hp : Kn U E p vp) (hx : Kn U E x vx) (hs : oStore p x (C.ty T) H = some H') : ∃ w', (Instr.storeAt T vp vx).run P w = .ok () w' ∧ HR U E H' n B W w' := by
  cases p with
  | none => cases hs
  | some p => cases x with
    | none => cases hs
    | some x =>
      replace hp := hp p rfl
      replace hx := hx x rfl
      obtain ⟨d, k, o, hi, rfl, hl, hw⟩ := store2_inv hs
      simp only [Den] at hp
      obtain ⟨l, e1, rfl⟩ := hp
      have hd := hx.cells hC.u
      obtain ⟨w', hst, hr⟩ := wr_sound (P := P) hC.u h hw e1 hd
      refine ⟨w', ?_, hr⟩
      have hts := (hC.ty T d hi).sz
      have hcs : vx.cells.size = d.sz := by rw [← Array.length_toList, hd.len, hl]
      simp [Instr.storeAt, Instr.sureAddr, storeVar, hcs, Go.LE.run_ts hts, hst]
theorem mkC_sound (h : HR U E H n B W w) {T : TypeId} {us : List V} {cs : Array Value} {x v : V} (hd : DenL U E us cs.toList) (hr : mkC H n T us x = .ok v H' n') :
    v = x ∧ E.le (fun k => if k = n then some ⟨w.heap.size, 0, cs.size⟩ else E k) ∧ HR U (fun k => if k = n then some ⟨w.heap.size, 0, cs.size⟩ else E k) H' n' B W (w.alloc (.cells cs T)) := by
  obtain ⟨hok, rfl, rfl, rfl⟩ := mk_inv hr
  exact ⟨rfl, h.le_new _, h.new_cells hok hd⟩
theorem cells_v (z : Value) : DenL U E (V.v z).cells z.cells.toList := by
  cases z <;> first | exact DenL.vals _ | exact DenL.cons (by simp only [Den]) .nil
theorem alloc_sound (hC : COk P C U B W) (h : HR U E H n B W w) {T : Nat} : GE P U E B W w (alloc2 (C.ty T) H n T) (Instr.alloc T true (.tuple #[])) := by
  intro v H' n' hr
  cases hi : C.ty T with
  | none => rw [hi] at hr; cases hr
  | some i =>
    rw [hi] at hr
    simp only [alloc2] at hr
    cases hz : i.z with
    | none => rw [hz] at hr; cases hr
    | some z =>
      rw [hz] at hr
      simp only [zC, alloc3] at hr
      obtain ⟨rfl, hle, hh⟩ := mkC_sound h (cs := z.cells) (cells_v z) hr
      refine ⟨.pointer (some ⟨w.heap.size, 0, none⟩), _, _, ?_, hle, ?_, hh⟩
      · simp [Instr.alloc, (hC.ty T i hi).z z hz w, newVar, newRow]
      · simp only [Den]
        exact ⟨⟨w.heap.size, 0, z.cells.size⟩, by simp, by simp⟩
theorem box_sound (hC : COk P C U B W) (h : HR U E H n B W w) {T : Nat} {x : Option V} {vx : Value} (hx : Kn U E x vx) : GE P U E B W w (oBox x T H n) (Instr.box T vx) := by
  intro v H' n' hr
  cases x with
  | none => cases hr
  | some u =>
    obtain ⟨rfl, hle, hh⟩ := mkC_sound h (cs := vx.cells) ((hx u rfl).cells hC.u) hr
    refine ⟨.pointer (some ⟨w.heap.size, 0, none⟩), _, _, ?_, hle, ?_, hh⟩
    · simp [Instr.box, newVar, newRow]
    · simp only [Den]
      exact ⟨⟨w.heap.size, 0, vx.cells.size⟩, by simp, by simp⟩
theorem mk_sound (h : HR U E H n B W w) {o : O} {x v : V} {ob : Obj} (ho : ∀ E', E.le E' → OSat U E' ⟨w.heap.size, 0, 0⟩ (w.alloc ob) o) (hr : mk H n o x = .ok v H' n') :
    v = x ∧ E.le (fun k => if k = n then some ⟨w.heap.size, 0, 0⟩ else E k) ∧ HR U (fun k => if k = n then some ⟨w.heap.size, 0, 0⟩ else E k) H' n' B W (w.alloc ob) := by
  obtain ⟨hok, rfl, rfl, rfl⟩ := mk_inv hr
  exact ⟨rfl, h.le_new _, h.new_obj hok rfl (ho _ (h.le_new _))⟩
theorem makeMap_sound (h : HR U E H n B W w) {T : Nat} {x : Option Nat} {r : Option Value} (hr : r = none ∨ ∃ k e y k' j, r = some y ∧ P.underlying T = some (.map k e) ∧ y = .int k' j) : GE P U E B W w (oMap x H n) (Instr.makeMap T r) := by
  intro v H' n' he
  cases x with
  | none => cases he
  | some c =>
    obtain ⟨rfl, hle, hh⟩ := mk_sound (o := .m []) (ob := .map #[] 0) h (fun E' _ => ⟨#[], heap_alloc_new w _, rfl⟩) he
    refine ⟨.map (some w.heap.size), _, _, ?_, hle, ?_, hh⟩
    · rcases hr with rfl | ⟨k, e, y, k', j, rfl, hD, rfl⟩
      · simp [Instr.makeMap, newObj, Sem.run]
        try rfl
      · simp [Instr.makeMap, newObj, run_underlying hD, asInt, Sem.run]
        try rfl
    · simp only [Den]
      exact ⟨⟨w.heap.size, 0, 0⟩, by simp, rfl⟩
end
end Go.CE
end
section
namespace Go.CE
open Go.RowKit
section
variable {P : Program} {C : Cfg} {U : Nat → Value} {E E' : Env} {H H' : HP} {n n' : Nat} {B : Nat → Prop} {W w w' : World} {F : FR} {a : Act} {T : TypeId} {i : TI}
def PDen (U : Nat → Value) (E : Env) : List (Nat × V) → List (Nat × Value) → Prop
  | [], qs => qs = []
  | (i, v) :: r, qs => ∃ y ys, qs = (i, y) :: ys ∧ Den U E v y ∧ PDen U E r ys
theorem fill0_inv {l l' : List V} {o sz : Nat} {x : V} (h : fill0 l o sz x = some l') : x.cells.length = sz ∧ o + sz ≤ l.length ∧ l' = ovr l o x.cells := by
  unfold fill0 at h
  cases hb : (Nat.beq (lng x.cells) sz && Nat.ble (Nat.add o sz) (lng l)) with
  | false => rw [hb] at h; cases h
  | true =>
    rw [hb] at h
    simp only [fill1, Option.some.injEq] at h
    simp only [Bool.and_eq_true, lng_eq] at hb
    have h1 := Nat.eq_of_beq_eq_true hb.1
    have h2 := Nat.le_of_ble_eq_true hb.2
    exact ⟨h1, h2, h.symm⟩
theorem fill_step (hu : ∀ i, (U i).oneCell' = true) {place : Nat → Option (Nat × Nat)} {i off sz : Nat} {l l' : List V} {v : V} {y : Value} {cs : Array Value} (rest : List (Nat × Value)) (hpl : place i = some (off, sz)) (h : fill0 l off sz v = some l') (hl : DenL U E l cs.toList) (hv : Den U E v y) :
    ∃ cs' : Array Value, Instr.fill place cs ((i, y) :: rest) = Instr.fill place cs' rest ∧ DenL U E l' cs'.toList ∧ cs'.size = cs.size := by
  obtain ⟨h1, h2, rfl⟩ := fill0_inv h
  have hc := hv.cells hu
  have hcs : y.cells.size = sz := by rw [← Array.length_toList, hc.len, h1]
  have hls := hl.len
  rw [Array.length_toList] at hls
  have hfo := Go.LE.foldl_set y.cells.toList cs off 0 (by rw [Array.length_toList, hcs]; omega)
  refine ⟨(cs.toList.take off ++ y.cells.toList ++ cs.toList.drop (off + y.cells.toList.length)).toArray, ?_, hl.ovr hc (by omega), ?_⟩
  · simp only [Instr.fill, hpl]
    rw [if_neg (by simp [hcs]; omega)]
    congr 1
    rw [← Array.foldl_toList, Array.toList_zipIdx, hfo]
    simp
  · simp
    omega
theorem fillSt_sound (hu : ∀ i, (U i).oneCell' = true) {fs : List (Option FI)} {place : Nat → Option (Nat × Nat)} (hp : ∀ (i : Nat) d, fs[i]? = some (some d) → place i = some (d.off, d.sz)) :
    ∀ {ps : List (Nat × V)} {qs : List (Nat × Value)} {l l' : List V} {cs : Array Value}, PDen U E ps qs → fillSt ps fs (some l) = some l' → DenL U E l cs.toList → ∃ cs', Instr.fill place cs qs = some cs' ∧ DenL U E l' cs'.toList
  | [], qs, l, l', cs, hq, h, hl => by
    have : qs = [] := hq
    subst this
    simp only [fillSt, Option.some.injEq] at h
    subst h
    exact ⟨cs, rfl, hl⟩
  | (i, v) :: r, qs, l, l', cs, ⟨y, ys, e, h1, h2⟩, h, hl => by
    subst e
    simp only [fillSt, nth_eq] at h
    cases hf : joinO fs[i]? with
    | none => rw [hf] at h; simp only [fillF] at h; cases r <;> simp [fillSt] at h
    | some d =>
      have hfi : fs[i]? = some (some d) := by
        revert hf
        cases fs[i]? with
        | none => simp [joinO]
        | some o => cases o <;> simp [joinO]
      rw [hf] at h
      simp only [fillF] at h
      cases hg : fill0 l d.off d.sz v with
      | none => rw [hg] at h; cases r <;> simp [fillSt] at h
      | some l1 =>
        rw [hg] at h
        obtain ⟨cs1, g1, g2, _⟩ := fill_step hu ys (hp i d hfi) hg hl h1
        obtain ⟨cs2, g3, g4⟩ := fillSt_sound hu hp h2 h g2
        exact ⟨cs2, g1.trans g3, g4⟩
theorem fillAr_sound (hu : ∀ i, (U i).oneCell' = true) {sz : Nat} {place : Nat → Option (Nat × Nat)} (hp : ∀ i, place i = some (i * sz, sz)) :
    ∀ {ps : List (Nat × V)} {qs : List (Nat × Value)} {l l' : List V} {cs : Array Value}, PDen U E ps qs → fillAr ps sz (some l) = some l' → DenL U E l cs.toList → ∃ cs', Instr.fill place cs qs = some cs' ∧ DenL U E l' cs'.toList
  | [], qs, l, l', cs, hq, h, hl => by
    have : qs = [] := hq
    subst this
    simp only [fillAr, Option.some.injEq] at h
    subst h
    exact ⟨cs, rfl, hl⟩
  | (i, v) :: r, qs, l, l', cs, ⟨y, ys, e, h1, h2⟩, h, hl => by
    subst e
    simp only [fillAr] at h
    cases hg : fill0 l (Nat.mul i sz) sz v with
    | none => rw [hg] at h; cases r <;> simp [fillAr] at h
    | some l1 =>
      rw [hg] at h
      obtain ⟨cs1, g1, g2, _⟩ := fill_step hu ys (hp i) hg hl h1
      obtain ⟨cs2, g3, g4⟩ := fillAr_sound hu hp h2 h g2
      exact ⟨cs2, g1.trans g3, g4⟩
theorem fillSt_none {ps : List (Nat × V)} {fs : List (Option FI)} : fillSt ps fs none = none := by cases ps <;> rfl
theorem fillAr_none {ps : List (Nat × V)} {sz : Nat} : fillAr ps sz none = none := by cases ps <;> rfl
theorem gO_inv {o : Option (List V)} {v : V} (h : gO o = some v) : ∃ l, o = some l ∧ v = .g l := by
  cases o with
  | none => cases h
  | some l => simp only [gO, Option.some.injEq] at h; exact ⟨l, rfl, h.symm⟩
theorem allS_all : ∀ {fs : List (Option FI)}, allS fs = true → ∀ i, i < fs.length → ∃ d, fs[i]? = some (some d)
  | [], _, i, hi => by simp at hi
  | none :: r, h, i, hi => by cases h
  | some d :: r, h, 0, hi => ⟨d, rfl⟩
  | some d :: r, h, i + 1, hi => by
    simp only [allS] at h
    simpa using allS_all h i (by simpa using hi)
theorem mapM_get {α β : Type} (f : α → Option β) : ∀ {l : List α}, (∀ (i : Nat) x, l[i]? = some x → ∃ y, f x = some y) → ∃ r, l.mapM f = some r ∧ ∀ (i : Nat) x, l[i]? = some x → r[i]? = f x
  | [], _ => ⟨[], rfl, fun i x hx => by simp at hx⟩
  | x :: l, h => by
    obtain ⟨y, hy⟩ := h 0 x rfl
    obtain ⟨r, h1, h2⟩ := mapM_get f (l := l) (fun i z hz => h (i + 1) z (by simpa using hz))
    refine ⟨y :: r, by simp [List.mapM_cons, hy, h1], fun i z hz => ?_⟩
    cases i with
    | zero => simp at hz; subst hz; simp [hy]
    | succ i => simpa using h2 i z (by simpa using hz)
theorem build_sound (hC : COk P C U B W) {T : Nat} {ps : Option (List (Nat × V))} {qs : List (Nat × Value)} {v : V} (hq : ∀ l, ps = some l → PDen U E l qs) (hr : bd2 (C.ty T) ps C = some v) : ∃ x, (Instr.build T qs.toArray).run P w = .ok x w ∧ Den U E v x := by
  cases hi : C.ty T with
  | none => rw [hi] at hr; cases hr
  | some i =>
    rw [hi] at hr
    cases ps with
    | none => obtain ⟨sz, ag, z, b, k⟩ := i; cases k <;> cases hr
    | some ps =>
      replace hq := hq ps rfl
      have hT := hC.ty T i hi
      obtain ⟨sz, ag, z, b, k⟩ := i
      cases k <;> try (cases hr; done)
      · rename_i len e
        have hD := ty_arr hC hi
        simp only [bd2] at hr
        cases he : C.ty e with
        | none => rw [he] at hr; cases hr
        | some d =>
          rw [he] at hr
          simp only [bd3] at hr
          obtain ⟨l, h1, rfl⟩ := gO_inv hr
          cases z with
          | none => simp only [zC, fillAr_none] at h1; cases h1
          | some z =>
            simp only [zC] at h1
            have hz := hT.z z rfl w
            obtain ⟨cs, g1, g2⟩ := fillAr_sound hC.u (place := fun i => some (i * d.sz, d.sz)) (fun i => rfl) hq h1 (cells_v (U := U) (E := E) z)
            refine ⟨.agg cs, ?_, by simp only [Den]; exact ⟨cs.toList, g2, by simp⟩⟩
            have hts := (hC.ty e d he).sz
            simp only [Instr.build, Sem.run_bind, hz, Result.andThen_ok, run_underlying hD, Go.LE.run_ts hts]
            simp [g1]
      · rename_i fs
        obtain ⟨D, hD, hag, fa, rfl, hlen, hfs⟩ := hT.d
        simp only [bd2] at hr
        cases ha : allS fs with
        | false => rw [ha] at hr; cases hr
        | true =>
          rw [ha] at hr
          simp only [bd4] at hr
          obtain ⟨l, h1, rfl⟩ := gO_inv hr
          cases z with
          | none => simp only [zC, fillSt_none] at h1; cases h1
          | some z =>
            simp only [zC] at h1
            have hz := hT.z z rfl w
            have hall := allS_all ha
            have hfd : ∀ (i : Nat) x, fa.toList[i]? = some x → ∃ d, fs[i]? = some (some d) ∧ FOk P d x := fun i x hx => by
              have hlt : i < fs.length := by rw [hlen]; simpa using (List.getElem?_eq_some_iff.1 hx).1
              obtain ⟨d, hd⟩ := hall i hlt
              obtain ⟨fd, h2, h3⟩ := hfs i d hd
              have : fa.toList[i]? = some fd := by simpa using h2
              rw [hx] at this
              cases this
              exact ⟨d, hd, h3⟩
            obtain ⟨fl, hm, hget⟩ := mapM_get (fun d : Field => (Go.LE.ts P d.type).map fun s => (d.offset, s)) (l := fa.toList) fun i x hx => by
              obtain ⟨d, _, h3⟩ := hfd i x hx
              obtain ⟨e1, e2, e3, _⟩ := h3
              exact ⟨(x.offset, d.sz), by rw [← e2, e3]; rfl⟩
            have hmr := Go.LE.run_mapM_list (P := P) (fun d : Field => do pure (d.offset, ← sizeOf d.type)) (fun d => (Go.LE.ts P d.type).map fun s => (d.offset, s)) w (fun d b hb => by
              obtain ⟨s, hs, rfl⟩ := Option.map_eq_some_iff.1 hb
              simp [Go.LE.run_ts hs]) hm
            have hm' : (fa.mapM (m := Sem) fun d : Field => do pure (d.offset, ← sizeOf d.type)).run P w = .ok fl.toArray w := by
              rw [Array.mapM_eq_mapM_toList]
              rw [Sem.run_map, hmr]
              rfl
            obtain ⟨cs, g1, g2⟩ := fillSt_sound hC.u (fs := fs) (place := fun i => fl[i]?) (fun i d hd => by
              have hlt : i < fa.toList.length := by
                have := (List.getElem?_eq_some_iff.1 hd).1
                rw [hlen] at this
                simpa using this
              have hx : fa.toList[i]? = some (fa.toList[i]) := List.getElem?_eq_getElem hlt
              rw [hget i _ hx]
              obtain ⟨d', hd', h3⟩ := hfd i _ hx
              rw [hd] at hd'
              cases hd'
              obtain ⟨e1, e2, e3, _⟩ := h3
              rw [← e2, e3, ← e1]
              rfl) hq h1 (cells_v (U := U) (E := E) z)
            refine ⟨.agg cs, ?_, by simp only [Den]; exact ⟨cs.toList, g2, by simp⟩⟩
            simp only [Instr.build, Sem.run_bind, hz, Result.andThen_ok, run_underlying hD, hm']
            have hpl : (fun (x : Nat) => fl.toArray[x]?) = fun i => fl[i]? := by funext i; simp
            rw [hpl]
            simp [g1]
theorem rep_eq (z : List V) : ∀ n, rep z n = (List.replicate n z).flatten
  | 0 => rfl
  | n + 1 => by
    show z ++ rep z n = _
    rw [rep_eq z n, List.replicate_succ, List.flatten_cons]
theorem rep_den {z : List V} {zs : List Value} (h : DenL U E z zs) : ∀ n, DenL U E (rep z n) (List.replicate n zs).flatten
  | 0 => .nil
  | n + 1 => by
    rw [List.replicate_succ, List.flatten_cons]
    exact h.app (rep_den h n)
theorem repO_inv {b : Bool} {z : Option (List V)} {sz n : Nat} {l : List V} (h : repO b z sz n = some l) : b = true ∧ ∃ z', z = some z' ∧ z'.length = sz ∧ l = rep z' n := by
  cases z with
  | none => cases h
  | some z =>
    simp only [repO] at h
    cases hb : (b && Nat.beq (lng z) sz) with
    | false => rw [hb] at h; cases h
    | true =>
      rw [hb] at h
      simp only [rep1, Option.some.injEq] at h
      simp only [Bool.and_eq_true, lng_eq] at hb
      have := Nat.eq_of_beq_eq_true hb.2
      exact ⟨hb.1, z, rfl, this, h.symm⟩
theorem zC_inv {z : Option Value} {l : List V} (h : zC z = some l) : ∃ x, z = some x ∧ l = (V.v x).cells := by
  cases z with
  | none => cases h
  | some x => simp only [zC, Option.some.injEq] at h; exact ⟨x, rfl, h.symm⟩
theorem made (z : Array Value) (n : Nat) : (Array.range (n * z.size)).map (fun x => z[x % z.size]!) = ((List.replicate n z.toList).flatten).toArray := by
  apply Array.ext'
  have := Go.LE.rep_cells z.toList z.size n (by simp) z rfl
  simpa using this
theorem buildSlice_sound (hC : COk P C U B W) (h : HR U E H n B W w) {T len : Nat} {ps : Option (List (Nat × V))} {qs : List (Nat × Value)} (hq : ∀ l, ps = some l → PDen U E l qs) : GE P U E B W w (bs2 (C.ty T) ps C H n len) (Instr.buildSlice T len qs.toArray) := by
  intro v H' n' hr
  cases hi : C.ty T with
  | none => rw [hi] at hr; cases hr
  | some i =>
    rw [hi] at hr
    cases ps with
    | none => obtain ⟨sz, ag, z, b, k⟩ := i; cases k <;> cases hr
    | some ps =>
      replace hq := hq ps rfl
      obtain ⟨sz, ag, z, b, k⟩ := i
      cases k <;> try (cases hr; done)
      rename_i e
      have hD := ty_sl hC hi
      simp only [bs2] at hr
      cases he : C.ty e with
      | none => rw [he] at hr; cases hr
      | some d =>
        rw [he] at hr
        simp only [bs3] at hr
        cases hf : fillAr ps d.sz (repO (Nat.ble (Nat.mul len d.sz) 16777216) (zC d.z) d.sz len) with
        | none => rw [hf] at hr; cases hr
        | some l =>
          rw [hf] at hr
          simp only [bs4] at hr
          cases hro : repO (Nat.ble (Nat.mul len d.sz) 16777216) (zC d.z) d.sz len with
          | none => rw [hro, fillAr_none] at hf; cases hf
          | some l0 =>
            rw [hro] at hf
            obtain ⟨hb, z', hz', hzl, rfl⟩ := repO_inv hro
            obtain ⟨zz, hdz, rfl⟩ := zC_inv hz'
            have hT := hC.ty e d he
            have hz := hT.z zz hdz w
            have hcl := (cells_v (U := U) (E := E) zz)
            have hsz : zz.cells.size = d.sz := by rw [← Array.length_toList, hcl.len, hzl]
            have hle : len * d.sz ≤ 16777216 := Nat.le_of_ble_eq_true hb
            have hng : ¬ len * d.sz > 2 ^ 24 := by omega
            obtain ⟨cs, g1, g2⟩ := fillAr_sound hC.u (place := fun i => some (i * d.sz, d.sz)) (cs := ((List.replicate len zz.cells.toList).flatten).toArray) (fun i => rfl) hq hf (by simpa using rep_den hcl len)
            obtain ⟨rfl, hle', hh⟩ := mkC_sound (T := e) h (cs := cs) g2 hr
            refine ⟨.slice (some ⟨w.heap.size, 0, none⟩) len len, _, _, ?_, hle', ?_, hh⟩
            · simp only [Instr.buildSlice, Sem.run_bind, run_underlying hD, Result.andThen_ok, Go.LE.run_ts hT.sz, if_neg hng]
              by_cases h0 : len * d.sz = 0
              · rw [if_pos h0]
                simp only [Sem.run_bind, Sem.run_pure, Result.andThen_ok]
                have hc1 : (Array.range (len * d.sz)).map (fun x => (#[] : Array Value)[x % (#[] : Array Value).size]!) = ((List.replicate len zz.cells.toList).flatten).toArray := by
                  rw [← made, hsz, h0]
                  simp
                rw [hc1]
                simp [g1, newRow]
              · rw [if_neg h0]
                simp only [Sem.run_bind, Sem.run_pure, Result.andThen_ok, hz]
                have hc1 := made zz.cells len
                rw [hsz] at hc1
                rw [hsz, hc1]
                simp [g1, newRow]
            · simp only [Den]
              exact ⟨⟨w.heap.size, 0, cs.size⟩, by simp, Nat.le_refl _, rfl⟩
theorem info_of (hT : TOk P T i) {z : Value} (hz : i.z = some z) : ∃ j, P.info? T = some j ∧ j.zero = some z ∧ j.bytes = i.by_ ∧ j.size = i.sz := by
  have h1 := hT.by_
  have h2 := hT.sz
  have h3 := hT.z z hz (default : World)
  unfold Go.LE.tby at h1
  unfold Go.LE.ts at h2
  cases hi : P.info? T with
  | none => simp [hi] at h1
  | some j =>
    simp only [hi, Option.map_some, Option.some.injEq] at h1 h2
    refine ⟨j, rfl, ?_, h1, h2⟩
    cases hj : j.zero with
    | none => simp [zeroValue, typeInfo, hi, hj] at h3
    | some y => simp [zeroValue, typeInfo, hi, hj] at h3; rw [h3]
theorem makeSlice_sound (hC : COk P C U B W) (h : HR U E H n B W w) {T : Nat} {x y : Option V} {vx vy : Value} (hx : Kn U E x vx) (hy : Kn U E y vy) : GE P U E B W w (oMake x y (C.ty T) C H n) (Instr.makeSlice T vx vy) := by
  intro v H' n' hr
  cases x with
  | none => cases hr
  | some x =>
    cases y with
    | none => cases hr
    | some y =>
      replace hx := hx x rfl
      replace hy := hy y rfl
      cases hi : C.ty T with
      | none => rw [hi] at hr; cases hr
      | some i =>
        rw [hi] at hr
        obtain ⟨sz, ag, z, b, k⟩ := i
        simp only [oMake] at hr
        cases hl : x.toN with
        | none => rw [hl] at hr; cases k <;> cases hr
        | some l =>
          cases hc : y.toN with
          | none => rw [hl, hc] at hr; cases k <;> cases hr
          | some c =>
            rw [hl, hc] at hr
            cases k <;> try (cases hr; done)
            rename_i e
            have hD := ty_sl hC hi
            obtain ⟨kl, rfl⟩ := toN_inv hl
            obtain ⟨kc, rfl⟩ := toN_inv hc
            have := hx.v_inv
            subst this
            have := hy.v_inv
            subst this
            simp only [ms2] at hr
            cases hb : (Nat.ble l c && Nat.ble c 9223372036854775807) with
            | false => rw [hb] at hr; cases hr
            | true =>
              rw [hb] at hr
              cases he : C.ty e with
              | none => rw [he] at hr; cases hr
              | some d =>
                rw [he] at hr
                simp only [ms3] at hr
                cases hro : repO (Nat.ble (Nat.mul d.by_ c) 281474976710656) (zC d.z) d.sz c with
                | none => rw [hro] at hr; cases hr
                | some l0 =>
                  rw [hro] at hr
                  simp only [ms4] at hr
                  obtain ⟨hb2, z', hz', hzl, rfl⟩ := repO_inv hro
                  obtain ⟨zz, hdz, rfl⟩ := zC_inv hz'
                  have hT := hC.ty e d he
                  obtain ⟨j, hj, hjz, hjb, hjs⟩ := info_of hT hdz
                  simp only [Bool.and_eq_true] at hb
                  have hlc : l ≤ c := Nat.le_of_ble_eq_true hb.1
                  have h63 : c ≤ 9223372036854775807 := Nat.le_of_ble_eq_true hb.2
                  have hby : d.by_ * c ≤ 281474976710656 := Nat.le_of_ble_eq_true hb2
                  have hby' : (d.by_ : Int) * (c : Int) ≤ 281474976710656 := by
                    have h0 : ((d.by_ * c : Nat) : Int) ≤ 281474976710656 := by omega
                    rw [Int.natCast_mul] at h0
                    exact h0
                  have hcl := (cells_v (U := U) (E := E) zz)
                  have hsz : zz.cells.size = d.sz := by rw [← Array.length_toList, hcl.len, hzl]
                  have hrun := run_make (P := P) w T e j zz hD hj hjz kl kc (l : Nat) (c : Nat) (by omega) (by omega) (by rw [hjb]; exact hby') (by omega)
                  have hm := made zz.cells c
                  have hcs : madeCells zz.cells (c * j.size) = ((List.replicate c zz.cells.toList).flatten).toArray := by
                    rw [hjs, ← hsz]
                    exact hm
                  have hd : DenL U E (rep (V.v zz).cells c) (((List.replicate c zz.cells.toList).flatten).toArray).toList := by simpa using rep_den hcl c
                  obtain ⟨rfl, hle', hh⟩ := mkC_sound (T := e) h (cs := ((List.replicate c zz.cells.toList).flatten).toArray) hd hr
                  refine ⟨.slice (some ⟨w.heap.size, 0, none⟩) l c, _, _, ?_, hle', ?_, hh⟩
                  · rw [hrun]
                    simp only [Int.toNat_natCast]
                    rw [hcs]
                  · simp only [Den]
                    exact ⟨⟨w.heap.size, 0, _⟩, by simp; rfl, hlc, rfl⟩
end
end Go.CE
end
section
namespace Go.CE
open Go.RowKit
section
variable {P : Program} {C : Cfg} {U : Nat → Value} {E E' : Env} {H H' : HP} {n n' : Nat} {B : Nat → Prop} {W w w' : World} {F : FR} {a : Act}
theorem HR.drew (h : HR U E H n B W w) : HR U E H n B W w.drew :=
  ⟨fun k o hk => by
    obtain ⟨l, h1, h2⟩ := h.ent k o hk
    exact ⟨l, h1, h2.mono (Env.le.refl E) rfl⟩, h.inj, h.out, h.new, h.keep, h.os, h.tape, h.output, h.size⟩
theorem HR.move (h : HR U E H n B W w) {k : Nat} {o o' : O} {l l' : Loc} (hk : H.get k = some o) (hok : okK k = true) (hokn : okK n = true) (he : E k = some l) (hl : l'.b = l.b) (ho : OSat U (fun j => if j = n then some l' else E j) l' w' o')
    (hb : ∀ b, b ≠ l.b → w'.heap[b]? = w.heap[b]?) (hsz : w.heap.size ≤ w'.heap.size) (h1 : w'.os = w.os) (h2 : w'.tape = w.tape) (h3 : w'.output = w.output) :
    HR U (fun j => if j = n then some l' else E j) ((H.set k none).set n (some o')) (Nat.succ n) B W w' := by
  have hkn : k ≠ n := fun e => by rw [h.new k (by omega)] at he; cases he
  have hle : E.le (fun j => if j = n then some l' else E j) := h.le_new l'
  have old : ∀ j x, ((H.set k none).set n (some o')).get j = some x → j ≠ n → H.get j = some x ∧ j ≠ k := fun j x hj hne => by
    rw [HP.get_set _ j _ hokn, if_neg hne, HP.get_set _ j _ hok] at hj
    split at hj
    · cases hj
    · rename_i hjk; exact ⟨hj, hjk⟩
  have nw : ∀ x, ((H.set k none).set n (some o')).get n = some x → x = o' := fun x hx => by
    rw [HP.get_set _ n _ hokn, if_pos rfl] at hx
    exact (Option.some.inj hx).symm
  constructor
  · intro j x hj
    by_cases hjn : j = n
    · subst hjn
      rw [nw x hj]
      exact ⟨l', by simp, ho⟩
    · obtain ⟨g1, g2⟩ := old j x hj hjn
      obtain ⟨l1, e1, e2⟩ := h.ent j x g1
      refine ⟨l1, by simp only [if_neg hjn]; exact e1, e2.mono hle (hb _ fun hbb => g2 ?_)⟩
      exact h.inj j k l1 l x o g1 hk e1 he hbb
  · intro j j' l1 l2 o1 o2 g1 g2 e1 e2 hbb
    by_cases hjn : j = n
    · by_cases hjn' : j' = n
      · rw [hjn, hjn']
      · exfalso
        simp only [if_pos hjn, Option.some.injEq] at e1
        simp only [if_neg hjn'] at e2
        obtain ⟨g3, g4⟩ := old j' o2 g2 hjn'
        exact g4 (h.inj j' k l2 l o2 o g3 hk e2 he (by rw [← hbb, ← e1, hl]))
    · by_cases hjn' : j' = n
      · exfalso
        simp only [if_pos hjn', Option.some.injEq] at e2
        simp only [if_neg hjn] at e1
        obtain ⟨g3, g4⟩ := old j o1 g1 hjn
        exact g4 (h.inj j k l1 l o1 o g3 hk e1 he (by rw [hbb, ← e2, hl]))
      · simp only [if_neg hjn] at e1
        simp only [if_neg hjn'] at e2
        exact h.inj j j' l1 l2 o1 o2 (old j o1 g1 hjn).1 (old j' o2 g2 hjn').1 e1 e2 hbb
  · intro j l1 o1 g1 e1
    by_cases hjn : j = n
    · simp only [if_pos hjn, Option.some.injEq] at e1
      subst e1
      rw [hl]
      exact h.out k l o hk he
    · simp only [if_neg hjn] at e1
      exact h.out j l1 o1 (old j o1 g1 hjn).1 e1
  · intro j hj
    have : j ≠ n := by omega
    simp only [if_neg this]
    exact h.new j (by omega)
  · intro b hB
    obtain ⟨g1, g2⟩ := h.keep b hB
    refine ⟨g1, ?_⟩
    rw [hb b fun hbb => h.out k l o hk he (hbb ▸ hB)]
    exact g2
  · exact h1.trans h.os
  · exact h2.trans h.tape
  · exact h3.trans h.output
  · exact Nat.le_trans h.size hsz
theorem src2_inv {l : Option (List V)} {o n sz m : Nat} {ys : List V} (h : src2 l o n sz = .ok m ys) : m = n ∧ ∃ us, l = some us ∧ ys = (us.drop o).take (n * sz) ∧ ys.length = n * sz := by
  cases l with
  | none => cases h
  | some us =>
    simp only [src2, src4, lng_eq, tak_eq, drp_eq] at h
    cases hb : Nat.beq ((us.drop o).take (Nat.mul n sz)).length (Nat.mul n sz) with
    | false => rw [hb] at h; cases h
    | true =>
      rw [hb] at h
      simp only [src3, SR.ok.injEq] at h
      exact ⟨h.1.symm, us, rfl, h.2.symm, by rw [← h.2]; exact Nat.eq_of_beq_eq_true hb⟩
theorem slice_cells (h : HR U E H n B W w) {k o m sz : Nat} {us ys : List V} (hu : cellsOf H k = some us) (hy : ys = (us.drop o).take (m * sz)) (hl : ys.length = m * sz) :
    ∃ l T, E k = some l ∧ CSat U E l w T us ∧ ∃ zs : List Value, DenL U E ys zs ∧ zs.length = m * sz ∧ ∀ (j : Nat) z, zs[j]? = some z → w.cell? ⟨l.b, l.d + o + j, none⟩ = some z := by
  obtain ⟨l, T, e1, hs, _⟩ := h.cells hu
  refine ⟨l, T, e1, hs, ?_⟩
  by_cases hp : 0 < m * sz
  · have := take_len (l := us) (o := o) (sz := m * sz) (by rw [← hy, hl]) hp
    obtain ⟨zs, g1, g2, g3⟩ := hs.cells o (m * sz) this
    exact ⟨zs, by rw [hy]; exact g1, g2, g3⟩
  · have h0 : m * sz = 0 := by omega
    have : ys = [] := List.eq_nil_of_length_eq_zero (by rw [hl, h0])
    subst this
    exact ⟨[], .nil, by simp [h0], fun j z hj => by simp at hj⟩
theorem by_den (s : ByteArray) : DenL U E (byCells s) (byteCells s) := by
  have : byCells s = (byteCells s).map .v := by
    unfold byCells byteCells
    rw [List.map_map]
    rfl
  rw [this]
  exact DenL.vals _
theorem src_sound (hC : COk P C U B W) (h : HR U E H n B W w) {tx : Nat} {y : V} {vy : Value} {sz m : Nat} {ys : List V} (hk : slK (C.ty tx) = true) (hy : Den U E y vy) (hs : src y H sz = .ok m ys) (h1 : allOne ys = true) :
    ∃ news, Src P sz tx vy m news w ∧ DenL U E ys news := by
  have hkind : (∃ e', P.underlying tx = some (.slice e')) ∨ P.underlying tx = some .string := by
    cases hi : C.ty tx with
    | none => rw [hi] at hk; cases hk
    | some i =>
      rw [hi] at hk
      obtain ⟨sz, ag, z, b, k⟩ := i
      cases k <;> try (cases hk; done)
      · exact .inr (ty_str hC hi)
      · rename_i e; exact .inl ⟨e, ty_sl hC hi⟩
  unfold src at hs
  split at hs
  · have := hy.v_inv
    subst this
    simp only [SR.ok.injEq] at hs
    obtain ⟨rfl, rfl⟩ := hs
    exact ⟨[], ⟨hkind, fun _ => rfl, run_firstCells_none w _ _ _ _, run_firstCells_none w.drew _ _ _ _, by simp, fun _ h => by cases h⟩, .nil⟩
  · rename_i s
    have := hy.v_inv
    subst this
    cases hb : Nat.beq sz 1 with
    | false => rw [hb] at hs; cases hs
    | true =>
      rw [hb] at hs
      have := Nat.eq_of_beq_eq_true hb
      subst this
      simp only [src3, SR.ok.injEq, lng_eq] at hs
      obtain ⟨rfl, rfl⟩ := hs
      have hsz : s.data.toList.length = s.size := by rw [Array.length_toList]; rfl
      rw [hsz]
      exact ⟨byteCells s, ⟨hkind, fun _ => rfl, firstCells_string s w, firstCells_string s w.drew, by rw [byteCells_length, Nat.mul_one], fun u hu => by
        obtain ⟨_, _, rfl⟩ := List.mem_map.1 hu
        rfl⟩, by_den s⟩
  · rename_i k o q c
    obtain ⟨rfl, us, hu, hys, hl⟩ := src2_inv hs
    obtain ⟨l, T, e1, hcs, zs, g1, g2, g3⟩ := slice_cells h hu hys hl
    simp only [Den] at hy
    obtain ⟨l', e2, hn, rfl⟩ := hy
    rw [e1] at e2
    cases e2
    have hone : ∀ u ∈ zs, u.oneCell' = true := allOne_one hC.u h1 g1
    exact ⟨zs, ⟨hkind, fun _ => rfl, run_firstCells_some w sz _ _ _ _ zs g2 (fun j v hv => by rw [Addr.add_lit]; exact g3 j v hv), run_firstCells_some w.drew sz _ _ _ _ zs g2 (fun j v hv => by rw [Addr.add_lit]; simpa using g3 j v hv), g2, hone⟩, g1⟩
  · cases hs
end
end Go.CE
end
section
namespace Go.CE
open Go.RowKit
section
variable {P : Program} {C : Cfg} {U : Nat → Value} {E E' : Env} {H H' : HP} {n n' : Nat} {B : Nat → Prop} {W w w' : World} {F : FR} {a : Act} {T tx ty e : Nat} {d : TI} {q m : Nat}
theorem gk_inv (h : gk d q = true) : ∃ z, d.z = some z ∧ (V.v z).cells.length = d.sz ∧ 0 < d.sz ∧ q * d.by_ ≤ 140737488355328 ∧ q ≤ 4611686018427387904 := by
  unfold gk at h
  simp only [Bool.and_eq_true] at h
  obtain ⟨h1, h2, h3⟩ := h
  cases hz : d.z with
  | none => rw [hz] at h1; cases h1
  | some z =>
    rw [hz] at h1
    simp only [zk, Bool.and_eq_true, lng_eq] at h1
    exact ⟨z, rfl, Nat.eq_of_beq_eq_true h1.1, Nat.le_of_ble_eq_true h1.2, Nat.le_of_ble_eq_true h2, Nat.le_of_ble_eq_true h3⟩
theorem run_append_put {i : TypeInfo} (ht : P.underlying T = some (.slice e)) (hi : P.info? e = some i) {b off sLen sCap : Nat} {x : Value} {news : List Value} (hs : Src P i.size tx x m news w) (hroom : sLen + m ≤ sCap)
    (hst : (storeCells ⟨b, off + sLen * i.size, none⟩ news).run P w = .ok () w') :
    (Builtin.append_ #[T, tx] ty #[.slice (some ⟨b, off, none⟩) sLen sCap, x]).run P w = .ok (.slice (some ⟨b, off, none⟩) (sLen + m) sCap) w' := by
  rcases hs.kind with ⟨e', hk⟩ | hk <;> simp [Builtin.append_, run_underlying ht, run_underlying hk, sizeOf, typeInfo, hi, hs.len, hroom, hs.cells, Addr.add_lit, hst]
theorem grow_sound (hC : COk P C U B W) (h : HR U E H n B W w) (ht : P.underlying T = some (.slice e)) (he : C.ty e = some d) (hg : gk d q = true) {base : Option Addr} {sLen sCap : Nat} {olds news : List Value} {vy : Value}
    (hold : (Builtin.firstCells d.sz sLen (.slice base sLen sCap)).run P w.drew = .ok olds.toArray w.drew) (hol : olds.length = sLen * d.sz) (hs : Src P d.sz tx vy m news w) (hlt : sCap < sLen + m) (hq : q = sLen + m) {zs : List V} (hd : DenL U E zs (olds ++ news)) {v : V} (hr : mkC H n e zs (.s n 0 q (.un d.sz)) = .ok v H' n') :
    ∃ x w' E', (Builtin.append_ #[T, tx] ty #[.slice base sLen sCap, vy]).run P w = .ok x w' ∧ E.le E' ∧ Den U E' v x ∧ HR U E' H' n' B W w' := by
  obtain ⟨z, hz, hzl, hpos, hb, h62⟩ := gk_inv hg
  obtain ⟨j, hj, hjz, hjb, hjs⟩ := info_of (hC.ty e d he) hz
  have hcl := (cells_v (U := U) (E := E) z)
  have hsz : z.cells.size = d.sz := by rw [← Array.length_toList, hcl.len, hzl]
  subst hq
  rw [← hjs] at hold hs
  have hrun := run_append_grow_src (P := P) w T tx ty e j z ht hj hjz base sLen sCap olds hold vy m news hs hlt (by omega) (growslice_fits hlt (by rw [hjb]; exact hb))
  have hnl := hs.newsLen
  rw [hjs] at hnl
  have hge := grownCap_ge w (sLen + m) sCap e
  obtain ⟨hok, rfl, rfl, rfl⟩ := mk_inv hr
  have hcs : ((olds ++ news).toArray ++ Builtin.zeroCells z.cells (grownCap w (sLen + m) sCap e - (sLen + m))).size = grownCap w (sLen + m) sCap e * d.sz := by
    simp only [Array.size_append, List.size_toArray, size_zeroCells, hsz, List.length_append, hol, hnl, ← Nat.add_mul]
    congr 1
    omega
  refine ⟨_, _, _, hrun, h.drew.le_new ⟨w.heap.size, 0, grownCap w (sLen + m) sCap e * d.sz⟩, ?_, h.drew.new_obj hok rfl ⟨lng_eq zs, _, olds ++ news, (Builtin.zeroCells z.cells (grownCap w (sLen + m) sCap e - (sLen + m))).toList, heap_alloc_new w.drew _, ?_, hd.mono (h.drew.le_new _), ?_⟩⟩
  · simp only [Den]
    have hc : capOf ⟨w.heap.size, 0, grownCap w (sLen + m) sCap e * d.sz⟩ 0 (.un d.sz) = grownCap w (sLen + m) sCap e := by
      show (grownCap w (sLen + m) sCap e * d.sz - 0) / d.sz = _
      rw [Nat.sub_zero, Nat.mul_div_cancel _ hpos]
    refine ⟨⟨w.heap.size, 0, grownCap w (sLen + m) sCap e * d.sz⟩, by simp, by rw [hc]; exact hge, ?_⟩
    rw [hc]
  · simp
  · rw [hcs]; simp
theorem apN_inv {b : Bool} {zs : List V} {sz : Nat} {v : V} (h : apN b H n e zs q sz = .ok v H' n') : b = true ∧ mkC H n e zs (.s n 0 q (.un sz)) = .ok v H' n' := by
  cases b with
  | false => cases h
  | true => exact ⟨rfl, h⟩
theorem apW_inv {o : Option HP} {k f c : Nat} {v : V} (h : apW o n k f q c = .ok v H' n') : o = some H' ∧ v = .s k f q (.ex c) ∧ n' = n := by
  cases o with
  | none => cases h
  | some H1 => simp only [apW, R.ok.injEq] at h; obtain ⟨rfl, rfl, rfl⟩ := h; exact ⟨rfl, rfl, rfl⟩
theorem tyE_inv {o : Option O} (h : tyE o e = true) : ∃ l len, o = some (.c e l len) := by
  cases o with
  | none => cases h
  | some o => cases o <;> first | (cases h; done) | skip
              rename_i T l len
              have := Nat.eq_of_beq_eq_true h
              subst this
              exact ⟨l, len, rfl⟩
theorem apA_inv {b : Bool} {ys : List V} {x v : V} (h : apA b m ys x H n e d = .ok v H' n') : b = true ∧ ap2 m ys x H n e d = .ok v H' n' := by
  cases b with
  | false => cases h
  | true => exact ⟨rfl, h⟩
theorem put_un (hC : COk P C U B W) (h : HR U E H n B W w) (ht : P.underlying T = some (.slice e)) (he : C.ty e = some d) (hg : gk d q = true) {k o p : Nat} {us xs ys : List V} {l : Loc} {news : List Value} {vy : Value}
    (hok : okK k = true) (hty : tyE (H.get k) e = true) (hu : cellsOf H k = some us) (hx : xs = (us.drop o).take (p * d.sz)) (hxl : xs.length = p * d.sz) (he' : E k = some l) (hs : Src P d.sz tx vy m news w) (hd : DenL U E ys news) (hq : q = p + m)
    (hm : 0 < m) (hroom : q ≤ capOf l o (.un d.sz)) {v : V} (hr : mkC (H.set k none) n e (xs ++ ys) (.s n 0 q (.un d.sz)) = .ok v H' n') :
    ∃ x w' E', (Builtin.append_ #[T, tx] ty #[.slice (some ⟨l.b, l.d + o, none⟩) p (capOf l o (.un d.sz)), vy]).run P w = .ok x w' ∧ E.le E' ∧ Den U E' v x ∧ HR U E' H' n' B W w' := by
  obtain ⟨z, hz, hzl, hpos, hb, h62⟩ := gk_inv hg
  obtain ⟨j, hj, hjz, hjb, hjs⟩ := info_of (hC.ty e d he) hz
  obtain ⟨us', len, hget⟩ := tyE_inv hty
  have hus : us' = us := by
    unfold cellsOf at hu
    rw [hget] at hu
    simpa [cellsO] using hu
  subst hus
  obtain ⟨l', e1, hlen, cs, zs, junk, h1, h2, h3, h4⟩ := h.ent k _ hget
  rw [he'] at e1
  cases e1
  subst hq
  have hq2 : (p + m) * d.sz ≤ l.t - o := by
    have : p + m ≤ (l.t - o) / d.sz := hroom
    exact (Nat.le_div_iff_mul_le hpos).1 this
  have hmd : (p + m) * d.sz = p * d.sz + m * d.sz := Nat.add_mul _ _ _
  have hmp : 0 < m * d.sz := Nat.mul_pos hm hpos
  have hnl := hs.newsLen
  have hcsl : cs.toList.length = l.d + l.t := by simpa using h4
  have hdl : (cs.toList.drop l.d).length = (zs ++ junk).length := by rw [h2]
  simp only [List.length_drop, List.length_append] at hdl
  have hzl2 := h3.len
  have hst := run_storeCells_at (P := P) l.b (l.d + o + p * d.sz) e news 0 cs w h1 (by rw [← Array.length_toList]; omega) hs.one
  obtain ⟨hokn, rfl, rfl, rfl⟩ := mk_inv hr
  rw [← hjs] at hst hs
  have hrun := run_append_put (P := P) (ty := ty) ht hj (b := l.b) (off := l.d + o) (sLen := p) hs hroom hst
  have hcap : capOf ⟨l.b, l.d + o, l.t - o⟩ 0 (.un d.sz) = capOf l o (.un d.sz) := rfl
  refine ⟨_, _, _, hrun, h.le_new ⟨l.b, l.d + o, l.t - o⟩, ?_, h.move hget hok hokn he' rfl ⟨lng_eq _, _, (cs.toList.drop (l.d + o)).take (p * d.sz) ++ news, cs.toList.drop (l.d + o + p * d.sz + news.length), setRow_heap w l.b cs _ e (0, 0) h1, ?_, ?_, ?_⟩ (fun b hb => setRow_other w l.b b _ hb) (by simp) rfl rfl rfl⟩
  · simp only [Den]
    exact ⟨⟨l.b, l.d + o, l.t - o⟩, by simp, by rw [hcap]; exact hroom, by rw [hcap]; rfl⟩
  · simp only [Nat.add_zero, hjs]
    have hd0 : (cs.toList.take (l.d + o)).length = l.d + o := by rw [List.length_take]; omega
    have e1 : cs.toList.take (l.d + o + p * d.sz) = cs.toList.take (l.d + o) ++ (cs.toList.drop (l.d + o)).take (p * d.sz) := by
      rw [List.take_add]
    have e2 := List.drop_left (l₁ := cs.toList.take (l.d + o)) (l₂ := (cs.toList.drop (l.d + o)).take (p * d.sz) ++ news ++ cs.toList.drop (l.d + o + p * d.sz + news.length))
    rw [hd0] at e2
    rw [e1]
    simpa [List.append_assoc] using e2
  · refine DenL.app (DenL.mono (h.le_new _) _ ?_) (hd.mono (h.le_new _))
    rw [hx, ← List.drop_drop, h2]
    by_cases hp : 0 < p * d.sz
    · have := take_len (l := us') (o := o) (sz := p * d.sz) (by rw [← hx, hxl]) hp
      rw [List.drop_append_of_le_length (by omega), List.take_append_of_le_length (by rw [List.length_drop]; omega)]
      exact (h3.drop o).take _
    · have h0 : p * d.sz = 0 := by omega
      rw [h0]
      simp only [List.take_zero]
      exact .nil
  · show _ = l.d + o + (l.t - o)
    simp only [List.size_toArray, List.length_append, List.length_take, List.length_drop, hjs, Nat.add_zero]
    omega
end
end Go.CE
end
section
namespace Go.CE
open Go.RowKit
section
variable {P : Program} {C : Cfg} {U : Nat → Value} {E E' : Env} {H H' : HP} {n n' : Nat} {B : Nat → Prop} {W w w' : World} {F : FR} {a : Act} {T tx ty e : Nat} {d : TI} {q m : Nat}
theorem ap2_sound (hC : COk P C U B W) (h : HR U E H n B W w) (ht : P.underlying T = some (.slice e)) (he : C.ty e = some d) {ys : List V} {x v : V} {vx vy : Value} {news : List Value} (hx : Den U E x vx) (hs : Src P d.sz tx vy m news w) (hd : DenL U E ys news) (h1 : allOne ys = true)
    (hr : ap2 m ys x H n e d = .ok v H' n') : ∃ y w' E', (Builtin.append_ #[T, tx] ty #[vx, vy]).run P w = .ok y w' ∧ E.le E' ∧ Den U E' v y ∧ HR U E' H' n' B W w' := by
  have hinfo : ∃ j, P.info? e = some j ∧ j.size = d.sz := by
    have h2 := (hC.ty e d he).sz
    unfold Go.LE.ts at h2
    cases hi : P.info? e with
    | none => simp [hi] at h2
    | some j => simp only [hi, Option.map_some, Option.some.injEq] at h2; exact ⟨j, rfl, h2⟩
  obtain ⟨j, hj, hjs⟩ := hinfo
  have nothing : m = 0 → ∀ base sLen sCap, sLen ≤ sCap → vx = .slice base sLen sCap → (Builtin.append_ #[T, tx] ty #[vx, vy]).run P w = .ok vx w := fun h0 base sLen sCap hle hv => by
    subst h0 hv
    have hn : news = [] := List.eq_nil_of_length_eq_zero (by simpa using hs.newsLen)
    subst hn
    exact run_append_nothing w T tx ty e j ht hj base sLen sCap hle vy (by rw [hjs]; exact hs)
  unfold ap2 at hr
  split at hr
  · simp only [R.ok.injEq] at hr
    obtain ⟨rfl, rfl, rfl⟩ := hr
    have := hx.v_inv
    exact ⟨_, _, _, nothing rfl none 0 0 (Nat.le_refl _) this, Env.le.refl E, hx, h⟩
  · simp only [R.ok.injEq] at hr
    obtain ⟨rfl, rfl, rfl⟩ := hr
    have hx0 := hx
    simp only [Den] at hx0
    obtain ⟨l, _, hle, hv⟩ := hx0
    exact ⟨_, _, _, nothing rfl _ _ _ hle hv, Env.le.refl E, hx, h⟩
  · have := hx.v_inv
    subst this
    obtain ⟨hg, hr⟩ := apN_inv hr
    exact grow_sound hC h ht he hg (olds := []) (by simpa using run_firstCells_none (P := P) w.drew d.sz 0 0 0) (by simp) hs (by omega) (by omega) (by simpa using hd) hr
  · rename_i m0 k o p c
    have hx0 := hx
    simp only [Den] at hx0
    obtain ⟨l, he', hle, rfl⟩ := hx0
    cases hsr : src (.s k o p c) H d.sz with
    | no => rw [hsr] at hr; cases hr
    | ok p' xs =>
      rw [hsr] at hr
      obtain ⟨rfl, us, hu, hxs, hxl⟩ := src2_inv hsr
      obtain ⟨l2, T0, e2, hcs, zs, g1, g2, g3⟩ := slice_cells h hu hxs hxl
      rw [he'] at e2
      cases e2
      have hold : (Builtin.firstCells d.sz p' (.slice (some ⟨l.b, l.d + o, none⟩) p' (capOf l o c))).run P w.drew = .ok zs.toArray w.drew :=
        run_firstCells_some w.drew d.sz _ _ _ _ zs g2 (fun j v hv => by rw [Addr.add_lit]; simpa using g3 j v hv)
      simp only [ap3] at hr
      cases c with
      | ex c =>
        simp only [ap4] at hr
        cases hb : Nat.ble (Nat.add p' (m0 + 1)) c with
        | true =>
          rw [hb] at hr
          obtain ⟨hw, rfl, rfl⟩ := apW_inv hr
          have hroom : p' + (m0 + 1) ≤ c := Nat.le_of_ble_eq_true hb
          obtain ⟨w', hst, hh⟩ := wr_sound (P := P) hC.u h hw he' hd
          have hrun := run_append_put (P := P) (ty := ty) ht hj (b := l.b) (off := l.d + o) (sLen := p') (sCap := c) (by rw [hjs]; exact hs) hroom (by
            rw [hjs]
            have e3 : l.d + o + p' * d.sz = l.d + Nat.add o (lng xs) := by
              rw [lng_eq, hxl]
              show _ = l.d + (o + _)
              omega
            rw [e3]
            exact hst)
          refine ⟨_, _, _, hrun, Env.le.refl E, ?_, hh⟩
          simp only [Den]
          exact ⟨l, he', hroom, rfl⟩
        | false =>
          rw [hb] at hr
          obtain ⟨hg, hr⟩ := apN_inv hr
          have hroom : ¬ p' + (m0 + 1) ≤ c := fun hh => by
            have : Nat.ble (p' + (m0 + 1)) c = true := Nat.ble_eq_true_of_le hh
            rw [show Nat.add p' (m0 + 1) = p' + (m0 + 1) from rfl, this] at hb
            cases hb
          exact grow_sound hC h ht he hg hold g2 hs (show c < p' + (m0 + 1) by omega) rfl (g1.app hd) hr
      | un u =>
        simp only [ap4] at hr
        obtain ⟨hb, hr2⟩ := apN_inv hr
        simp only [Bool.and_eq_true] at hb
        obtain ⟨hb1, hok, hty, hg⟩ := hb
        have := Nat.eq_of_beq_eq_true hb1
        subst this
        by_cases hroom : p' + (m0 + 1) ≤ capOf l o (.un d.sz)
        · exact put_un hC h ht he hg hok hty hu hxs hxl he' hs hd rfl (by omega) hroom hr2
        · have h' : HR U E (H.set k none) n B W w := h.drop fun j o hj => HP.get_set_none H hj
          exact grow_sound hC h' ht he hg hold g2 hs (by omega) rfl (g1.app hd) hr2
  · cases hr
theorem append_sound (hC : COk P C U B W) (h : HR U E H n B W w) {x y : V} {vx vy : Value} (hx : Den U E x vx) (hy : Den U E y vy) : GE P U E B W w (apT (C.ty T) (C.ty tx) x y C H n) (Builtin.append_ #[T, tx] ty #[vx, vy]) := by
  intro v H' n' hr
  cases hi : C.ty T with
  | none => rw [hi] at hr; cases hr
  | some i =>
    rw [hi] at hr
    obtain ⟨sz, ag, z, b, k⟩ := i
    cases k <;> try (cases hr; done)
    rename_i e
    have hD := ty_sl hC hi
    simp only [apT] at hr
    cases hk : slK (C.ty tx) with
    | false => rw [hk] at hr; cases he : C.ty e <;> (rw [he] at hr; cases hr)
    | true =>
      cases he : C.ty e with
      | none => rw [hk, he] at hr; cases hr
      | some d =>
        rw [hk, he] at hr
        simp only [ap0] at hr
        cases hsr : src y H d.sz with
        | no => rw [hsr] at hr; cases hr
        | ok m ys =>
          rw [hsr] at hr
          obtain ⟨h1, hr⟩ := apA_inv hr
          obtain ⟨news, hs, hd⟩ := src_sound hC h hk hy hsr h1
          exact ap2_sound hC h hD he hx hs hd h1 hr
end
end Go.CE
end
section
namespace Go.CE
open Go.RowKit
section
variable {P : Program} {C : Cfg} {U : Nat → Value} {E E' : Env} {H H' : HP} {n n' : Nat} {B : Nat → Prop} {W w w' : World} {F : FR} {a : Act} {T K e : Nat} {d : TI} {q m : Nat}
theorem now_run {D : TypeDesc} {x y : Value} {r : Bool} (hD : P.underlying K = some D) (h : Instr.sameNow D x y = some r) : (Op.equal K x y).run P w = .ok r w := by
  have hm : Op.maxDepth = (Op.maxDepth - 1) + 1 := rfl
  unfold Op.equal
  rw [hm]
  unfold Op.equalIn
  simp only [Sem.run_bind, run_underlying hD, Result.andThen_ok]
  unfold Instr.sameNow at h
  split at h
  · split at h
    · rename_i hk
      cases h
      simp [hk]
    · cases h
  · cases h; simp
  · cases h; simp
  · cases h
theorem kk1_inv (hC : COk P C U B W) (h : kk1 (C.ty K) = true) : ∃ D, P.underlying K = some D ∧ ((∃ k, D = .int k) ∨ D = .bool ∨ D = .string ∨ ∃ e, D = .pointer e) := by
  cases hi : C.ty K with
  | none => rw [hi] at h; cases h
  | some i =>
    rw [hi] at h
    obtain ⟨D, h1, _, h3, _⟩ := ty_inv hC hi
    obtain ⟨sz, ag, z, b, k⟩ := i
    refine ⟨D, h1, ?_⟩
    cases k <;> first | (cases h; done) | skip
    · exact .inl ⟨_, h3⟩
    · exact .inr (.inl h3)
    · exact .inr (.inr (.inl h3))
    · exact .inr (.inr (.inr ⟨_, h3⟩))
theorem run_checkKey1 (hC : COk P C U B W) (h : kk1 (C.ty K) = true) (em : Bool) (m : Nat) (v : Value) : (Instr.checkKey em (m + 1) K v).run P w = .ok () w := by
  obtain ⟨D, hD, hk⟩ := kk1_inv hC h
  unfold Instr.checkKey
  simp only [Sem.run_bind, run_underlying hD, Result.andThen_ok]
  rcases hk with ⟨k, rfl⟩ | rfl | rfl | ⟨e, rfl⟩ <;> simp
theorem run_forIn_yield {α : Type} {body : α → PUnit → Sem (ForInStep PUnit)} : ∀ (l : List α), (∀ x ∈ l, (body x ⟨⟩).run P w = .ok (.yield ⟨⟩) w) → (forIn l PUnit.unit body).run P w = .ok ⟨⟩ w
  | [], _ => by simp
  | x :: l, h => by
    rw [List.forIn_cons]
    simp only [Sem.run_bind, h x (.head _), Result.andThen_ok]
    exact run_forIn_yield l fun y hy => h y (.tail _ hy)
theorem isV_inv {o : Option V} (h : isV o = true) : ∃ v, o = some v := by
  cases o with
  | none => cases h
  | some v => exact ⟨v, rfl⟩
theorem kkF_get {l : List V} : ∀ {fs : List (Option FI)} {i : Nat}, kkF C l fs = true → i < fs.length → ∃ d, fs[i]? = some (some d) ∧ kk1 (C.ty d.T) = true ∧ ∃ v, partOf d.ag d.sz l d.off = some v
  | [], i, _, hi => by simp at hi
  | none :: r, i, h, hi => by cases h
  | some d :: r, 0, h, hi => by
    simp only [kkF, Bool.and_eq_true] at h
    exact ⟨d, rfl, h.1, isV_inv h.2.1⟩
  | some d :: r, i + 1, h, hi => by
    simp only [kkF, Bool.and_eq_true] at h
    simpa using kkF_get (fs := r) (i := i) h.2.2 (by simpa using hi)
theorem kk2_inv (hC : COk P C U B W) {x : V} {vx : Value} (hx : Den U E x vx) (h : kk2 C (C.ty K) x = true) : (∃ D, P.underlying K = some D) ∧ ∀ (em : Bool) (m : Nat), (Instr.checkKey em (m + 2) K vx).run P w = .ok () w := by
  cases hi : C.ty K with
  | none => rw [hi] at h; cases h
  | some i =>
    obtain ⟨D, h1, _, h3, _⟩ := ty_inv hC hi
    refine ⟨⟨D, h1⟩, fun em m => ?_⟩
    obtain ⟨sz, ag, z, b, k⟩ := i
    cases k with
    | st fs =>
      rw [hi] at h
      simp only [kk2] at h
      cases ha : x.aggC with
      | none => rw [ha] at h; cases h
      | some l =>
        rw [ha] at h
        simp only [kkA] at h
        obtain ⟨cs, rfl, hl⟩ := aggC_inv hx ha
        obtain ⟨fa, rfl, hlen, hfs⟩ := h3
        unfold Instr.checkKey
        simp only [Sem.run_bind, run_underlying h1, Result.andThen_ok]
        rw [← Array.forIn_toList]
        rw [run_forIn_yield]
        · simp
        intro f hf
        obtain ⟨i, hi', hfi⟩ := List.getElem_of_mem hf
        obtain ⟨d, g1, g2, v, g3⟩ := kkF_get (i := i) h (by rw [hlen]; simpa using hi')
        obtain ⟨fd, g4, e1, e2, e3, e4, e5⟩ := hfs i d g1
        have : fa.toList[i]? = some fd := by simpa using g4
        rw [List.getElem?_eq_getElem hi', hfi] at this
        cases this
        rw [← e1, ← e2]
        obtain ⟨u, hu, _⟩ := part_sound (w := w) e3 e4 hl g3
        have hck := run_checkKey1 (w := w) hC g2 em m u
        by_cases hb : f.name = "_"
        · simp [hb]
        · simp [hb, hu, hck]
    | _ => exact run_checkKey1 hC (by rw [hi] at h ⊢; exact h) em (m + 1) vx
def FDen (U : Nat → Value) (E : Env) (C : Cfg) (L : LV) (K : Nat) (x : V) (es : List (V × V)) (i : Nat) : FD → Option (Nat × Value) → Prop
  | .no, _ => False
  | .out, r => r = none
  | .hit j y, r => i ≤ j ∧ ∃ vy a, r = some (j, vy) ∧ Den U E y vy ∧ es[j - i]? = some (a, y) ∧ eqV C L K x a = some true
theorem findL_sound (hC : COk P C U B W) (h : HR U E H n B W w) {D : TypeDesc} (hD : P.underlying K = some D) {x : V} {vx : Value} (hx : Den U E x vx) :
    ∀ {es : List (V × V)} {ents : List MapEntry} {i : Nat}, findL C (live H) K x es i ≠ .no → MSat U E es ents i →
      ∃ r, (Instr.findAsking K vx ents i).run P w = .ok r w ∧ FDen U E C (live H) K x es i (findL C (live H) K x es i) r ∧ ∀ r', Instr.findNow D vx ents i = some r' → r' = r
  | [], ents, i, hn, hm => by
    have : ents = [] := hm
    subst this
    exact ⟨none, by simp [Instr.findAsking], rfl, fun r' hr => by simpa [Instr.findNow] using hr.symm⟩
  | (a, b) :: es, ents, i, hn, hm => by
    obtain ⟨e, es', rfl, h1, h2, h3, h4⟩ := hm
    have hfl : findL C (live H) K x ((a, b) :: es) i = fd2 (eqV C (live H) K x a) i b (findL C (live H) K x es (Nat.succ i)) := rfl
    rw [hfl] at hn ⊢
    cases hq : eqV C (live H) K x a with
    | none => rw [hq] at hn; exact absurd rfl hn
    | some t =>
      have hrun : (Op.equal K vx e.key).run P w = .ok t w := eq_sound hC h.alive hC.cmp hC.hel 20 Op.maxDepth K x a vx e.key t (by decide) hq hx h1
      have hnow : ∀ t', Instr.sameNow D vx e.key = some t' → t' = t := fun t' ht => by
        have := now_run (w := w) hD ht
        rw [hrun] at this
        cases this
        rfl
      cases t with
      | true =>
        refine ⟨some (i, e.val), by simp [Instr.findAsking, hrun], ⟨Nat.le_refl i, e.val, a, rfl, h2, by simp, hq⟩, fun r' hr => ?_⟩
        simp only [Instr.findNow] at hr
        cases hs : Instr.sameNow D vx e.key with
        | none => rw [hs] at hr; cases hr
        | some t' =>
          have := hnow t' hs
          subst this
          rw [hs] at hr
          exact (Option.some.inj hr).symm
      | false =>
        rw [hq] at hn
        obtain ⟨r, g1, g2, g3⟩ := findL_sound hC h hD hx (es := es) (ents := es') (i := i + 1) hn h4
        refine ⟨r, by simp [Instr.findAsking, hrun, g1], ?_, fun r' hr => ?_⟩
        · show FDen U E C (live H) K x ((a, b) :: es) i (findL C (live H) K x es (i + 1)) r
          revert g2
          cases findL C (live H) K x es (i + 1) with
          | no => exact fun hf => hf
          | out => exact fun hf => hf
          | hit j y =>
            rintro ⟨hle, vy, a', e1, e2, e3, e4⟩
            refine ⟨by omega, vy, a', e1, e2, ?_, e4⟩
            have : j - i = (j - (i + 1)) + 1 := by omega
            rw [this]
            simpa using e3
        · simp only [Instr.findNow] at hr
          cases hs : Instr.sameNow D vx e.key with
          | none => rw [hs] at hr; cases hr
          | some t' =>
            have := hnow t' hs
            subst this
            rw [hs] at hr
            exact g3 r' hr
theorem find_sound (hC : COk P C U B W) (h : HR U E H n B W w) {x : V} {vx : Value} (hx : Den U E x vx) {es : List (V × V)} {ents : List MapEntry} (hf : find C (live H) K x es ≠ .no) (hm : MSat U E es ents 0) :
    (∀ (em : Bool) (m : Nat), (Instr.checkKey em (m + 2) K vx).run P w = .ok () w) ∧ ∃ r, (Instr.findKey K vx ents).run P w = .ok r w ∧ FDen U E C (live H) K x es 0 (find C (live H) K x es) r := by
  unfold find at hf ⊢
  cases hk : kk2 C (C.ty K) x with
  | false => rw [hk] at hf; exact absurd rfl hf
  | true =>
    rw [hk] at hf
    obtain ⟨⟨D, hD⟩, hck⟩ := kk2_inv (w := w) hC hx hk
    obtain ⟨r, g1, g2, g3⟩ := findL_sound hC h hD hx hf hm
    refine ⟨hck, r, ?_, g2⟩
    simp only [Instr.findKey, Sem.run_bind, run_underlying hD, Result.andThen_ok]
    cases hn : Instr.findNow D vx ents 0 with
    | none => exact g1
    | some r' => have := g3 r' hn; subst this; simp
end
end Go.CE
end
section
namespace Go.CE
open Go.RowKit
section
variable {P : Program} {C : Cfg} {U : Nat → Value} {E E' : Env} {H H' : HP} {n n' : Nat} {B : Nat → Prop} {W w w' : World} {F : FR} {a : Act} {T K e : Nat} {d : TI} {q m : Nat}
theorem mapO_inv (h : HR U E H n B W w) {k : Nat} {es : List (V × V)} (hm : mapO (H.get k) = some es) : H.get k = some (.m es) ∧ ∃ l, E k = some l ∧ ∃ ents, w.heap[l.b]? = some (.map ents es.length) ∧ MSat U E es ents.toList 0 := by
  cases hg : H.get k with
  | none => rw [hg] at hm; cases hm
  | some o =>
    rw [hg] at hm
    cases o <;> first | (cases hm; done) | skip
    rename_i es'
    simp only [mapO, Option.some.injEq] at hm
    subst hm
    obtain ⟨l, h1, h2⟩ := h.ent k _ hg
    exact ⟨rfl, l, h1, h2⟩
theorem okT_den {x v : V} {vx : Value} {c ok : Bool} (hx : Den U E x vx) (h : okT (some x) c ok = some v) : Den U E v (if c then .tuple #[vx, .bool ok] else vx) ∧ (c = true ∨ ok = true) := by
  cases c with
  | true =>
    simp only [okT, Option.some.injEq] at h
    subst h
    refine ⟨?_, .inl rfl⟩
    simp only [if_pos, Den]
    exact ⟨[vx, .bool ok], .cons hx (.cons (by simp [V.b, Den]) .nil), rfl⟩
  | false => cases ok with
    | false => cases h
    | true =>
      simp only [okT, Option.some.injEq] at h
      subst h
      exact ⟨by simpa using hx, .inr rfl⟩
theorem zeroV_run (hC : COk P C U B W) {z : V} (h : zeroV (C.ty e) = some z) : ∃ y, z = .v y ∧ (zeroValue e).run P w = .ok y w := by
  cases hi : C.ty e with
  | none => rw [hi] at h; cases h
  | some i =>
    rw [hi] at h
    simp only [zeroV] at h
    cases hz : i.z with
    | none => rw [hz] at h; cases h
    | some y =>
      rw [hz] at h
      simp only [zeroW, Option.some.injEq] at h
      exact ⟨y, h.symm, (hC.ty e i hi).z y hz w⟩
theorem lookup_sound (hC : COk P C U B W) (h : HR U E H n B W w) {x k : Option V} {vx vk : Value} {ok : Bool} {v : V} (hx : Kn U E x vx) (hk : Kn U E k vk) (hr : oLk x k (C.ty T) ok C H = some v) : ∃ y, (Instr.lookup T vx vk ok).run P w = .ok y w ∧ Den U E v y := by
  cases x with
  | none => cases hr
  | some x => cases k with
    | none => cases hr
    | some k =>
      replace hx := hx x rfl
      replace hk := hk k rfl
      cases hi : C.ty T with
      | none => rw [hi] at hr; cases hr
      | some i =>
        rw [hi] at hr
        obtain ⟨sz, ag, z, b, kk⟩ := i
        cases kk <;> first | (cases hr; done) | skip
        rename_i K e
        have hD := ty_mp hC hi
        simp only [oLk, lk1] at hr
        cases hm : mapOf x H with
        | none => rw [hm] at hr; cases hr
        | some es =>
          rw [hm] at hr
          simp only [lk2] at hr
          have hsome : ∃ ents : Array MapEntry, MSat U E es ents.toList 0 ∧ (vx = .map none ∧ ents = #[] ∨ ∃ b cl, vx = .map (some b) ∧ w.heap[b]? = some (.map ents cl)) := by
            unfold mapOf at hm
            split at hm
            · simp only [Option.some.injEq] at hm
              subst hm
              exact ⟨#[], rfl, .inl ⟨hx.v_inv, rfl⟩⟩
            · obtain ⟨_, l, h1, ents, h2, h3⟩ := mapO_inv h hm
              simp only [Den] at hx
              obtain ⟨l', e1, rfl⟩ := hx
              rw [h1] at e1
              cases e1
              exact ⟨ents, h3, .inr ⟨_, _, rfl, h2⟩⟩
            · cases hm
          obtain ⟨ents, hms, hv⟩ := hsome
          have hf : find C (live H) K k es ≠ .no := fun hf => by rw [hf] at hr; simp [lk3] at hr
          obtain ⟨hck, r, hrun, hfd⟩ := find_sound hC h hk hf hms
          have hck' : (Instr.checkKey ents.isEmpty 10000 K vk).run P w = .ok () w := hck ents.isEmpty 9998
          have run1 : ∀ (j : Nat) (y : Value), r = some (j, y) → (Instr.lookup T vx vk ok).run P w = .ok (if ok then .tuple #[y, .bool true] else y) w := fun j y hr0 => by
            subst hr0
            rcases hv with ⟨rfl, rfl⟩ | ⟨b, cl, rfl, hb⟩
            · simp only [Instr.lookup, Sem.run_bind, run_underlying hD, Result.andThen_ok, Sem.run_pure, hck', hrun]
            · simp only [Instr.lookup, Sem.run_bind, run_underlying hD, Result.andThen_ok, Sem.run_pure, Go.CE.run_getObj_map hb, hck', hrun]
          have run0 : ∀ (y : Value), r = none → (zeroValue e).run P w = .ok y w → (Instr.lookup T vx vk ok).run P w = .ok (if ok then .tuple #[y, .bool false] else y) w := fun y hr0 hz => by
            subst hr0
            rcases hv with ⟨rfl, rfl⟩ | ⟨b, cl, rfl, hb⟩
            · simp only [Instr.lookup, Sem.run_bind, run_underlying hD, Result.andThen_ok, Sem.run_pure, hck', hrun, hz]
            · simp only [Instr.lookup, Sem.run_bind, run_underlying hD, Result.andThen_ok, Sem.run_pure, Go.CE.run_getObj_map hb, hck', hrun, hz]
          revert hfd hr
          cases find C (live H) K k es with
          | no => exact fun _ hf => hf.elim
          | hit j y =>
            rintro hr ⟨_, vy, a, rfl, hy, _, _⟩
            simp only [lk3] at hr
            obtain ⟨hd, _⟩ := okT_den hy hr
            exact ⟨_, run1 _ _ rfl, hd⟩
          | out =>
            intro hr hfd
            have : r = none := hfd
            subst this
            have hz : ∃ z, zeroV (C.ty e) = some z ∧ v = (if ok then .t [z, .b false] else z) := by
              cases ok with
              | true =>
                simp only [lk3] at hr
                cases hz : zeroV (C.ty e) with
                | none => rw [hz] at hr; cases hr
                | some z => rw [hz] at hr; simp only [okT, Option.some.injEq] at hr; exact ⟨z, rfl, hr.symm⟩
              | false => exact ⟨v, hr, rfl⟩
            obtain ⟨z, hz, rfl⟩ := hz
            obtain ⟨y, rfl, hzr⟩ := zeroV_run (w := w) hC hz
            refine ⟨_, run0 y rfl hzr, ?_⟩
            cases ok with
            | true => simp only [if_pos, Den]; exact ⟨[y, .bool false], .cons (by simp [Den]) (.cons (by simp [V.b, Den]) .nil), rfl⟩
            | false => simp [Den]
end
end Go.CE
end
section
namespace Go.CE
open Go.RowKit
section
variable {P : Program} {C : Cfg} {U : Nat → Value} {E E' : Env} {H H' : HP} {n n' : Nat} {B : Nat → Prop} {W w w' : World} {F : FR} {a : Act} {T K e : Nat} {d : TI} {q m : Nat}
theorem same1_sound {a b : V} {x y : Value} (h : same1 a b = true) (hx : Den U E a x) (hy : Den U E b y) : x = y ∧ ∀ m, Instr.sameBits m x y = true := by
  unfold same1 at h
  split at h
  · rename_i k i k' j
    simp only [Bool.and_eq_true] at h
    have h1 := eqK_eq h.1
    have h2 := h.2
    rw [eqI_eq] at h2
    have h3 := of_decide_eq_true h2
    subst h1 h3
    rw [hx.v_inv, hy.v_inv]
    exact ⟨rfl, fun m => by simp [Instr.sameBits]⟩
  · rename_i s t
    rw [eqB_eq] at h
    have h3 := of_decide_eq_true h
    have : s = t := by
      obtain ⟨⟨s⟩⟩ := s
      obtain ⟨⟨t⟩⟩ := t
      simp at h3
      rw [h3]
    subst this
    rw [hx.v_inv, hy.v_inv]
    exact ⟨rfl, fun m => by simp [Instr.sameBits, Go.MapKept.bytes_beq]⟩
  · rename_i s t
    have := eq_of_beq h
    subst this
    rw [hx.v_inv, hy.v_inv]
    exact ⟨rfl, fun m => by simp [Instr.sameBits]⟩
  · rename_i k o k' o'
    simp only [Bool.and_eq_true] at h
    have h1 := Nat.eq_of_beq_eq_true h.1
    have h2 := Nat.eq_of_beq_eq_true h.2
    subst h1 h2
    simp only [Den] at hx hy
    obtain ⟨l, e1, rfl⟩ := hx
    obtain ⟨l', e2, rfl⟩ := hy
    rw [e1] at e2
    cases e2
    exact ⟨rfl, fun m => by simp [Instr.sameBits]⟩
  · cases h
theorem sameL_sound : ∀ {a b : List V} {xs ys : List Value}, sameL a b = true → DenL U E a xs → DenL U E b ys → xs = ys ∧ ∀ m, (xs.zip ys).all (fun (x, y) => Instr.sameBits m x y) = true
  | [], [], xs, ys, _, hx, hy => by rw [hx.nil_inv, hy.nil_inv]; exact ⟨rfl, fun m => rfl⟩
  | [], b :: s, _, _, h, _, _ => by cases h
  | a :: r, [], _, _, h, _, _ => by cases h
  | a :: r, b :: s, xs, ys, h, hx, hy => by
    obtain ⟨x, xs', rfl, h1, h2⟩ := hx.cons_inv
    obtain ⟨y, ys', rfl, h3, h4⟩ := hy.cons_inv
    simp only [sameL, Bool.and_eq_true] at h
    obtain ⟨e1, e2⟩ := same1_sound h.1 h1 h3
    obtain ⟨e3, e4⟩ := sameL_sound h.2 h2 h4
    refine ⟨by rw [e1, e3], fun m => ?_⟩
    simp only [List.zip_cons_cons, List.all_cons, Bool.and_eq_true]
    exact ⟨e2 m, e4 m⟩
theorem sameV_sound {a b : V} {x y : Value} (h : sameV a b = true) (hx : Den U E a x) (hy : Den U E b y) : x = y ∧ ∀ m, Instr.sameBits (m + 1) x y = true := by
  unfold sameV at h
  split at h
  · simp only [Den] at hx hy
    obtain ⟨xs, h1, rfl⟩ := hx
    obtain ⟨ys, h2, rfl⟩ := hy
    obtain ⟨e1, e2⟩ := sameL_sound h h1 h2
    subst e1
    refine ⟨rfl, fun m => ?_⟩
    have := e2 m
    simp only [Instr.sameBits, beq_self_eq_true, Bool.true_and]
    exact this
  · obtain ⟨e1, e2⟩ := same1_sound h hx hy
    exact ⟨e1, fun m => e2 (m + 1)⟩
theorem MSat.get : ∀ {es : List (V × V)} {ents : List MapEntry} {i j : Nat} {a b : V}, MSat U E es ents i → es[j]? = some (a, b) → ∃ e, ents[j]? = some e ∧ Den U E a e.key ∧ Den U E b e.val ∧ e.born = i + j
  | [], _, _, j, _, _, _, h => by simp at h
  | (a', b') :: es, _, i, 0, a, b, ⟨e, es', h0, h1, h2, h3, h4⟩, h => by
    subst h0
    simp at h
    obtain ⟨rfl, rfl⟩ := h
    exact ⟨e, rfl, h1, h2, by omega⟩
  | (a', b') :: es, _, i, j + 1, a, b, ⟨e, es', h0, h1, h2, h3, h4⟩, h => by
    subst h0
    obtain ⟨e1, g1, g2, g3, g4⟩ := MSat.get (j := j) h4 (by simpa using h)
    exact ⟨e1, by simpa using g1, g2, g3, by omega⟩
theorem MSat.set {k v : V} {f : MapEntry → MapEntry} : ∀ {es : List (V × V)} {ents : List MapEntry} {i j : Nat}, MSat U E es ents i → (∀ e, ents[j]? = some e → Den U E k (f e).key ∧ Den U E v (f e).val ∧ (f e).born = e.born) → j < es.length → MSat U E (es.set j (k, v)) (ents.modify j f) i
  | [], _, _, j, _, _, h => by simp at h
  | (a', b') :: es, _, i, 0, ⟨e, es', h0, h1, h2, h3, h4⟩, hf, _ => by
    subst h0
    obtain ⟨g1, g2, g3⟩ := hf e rfl
    exact ⟨f e, es', by simp, g1, g2, by rw [g3, h3], h4⟩
  | (a', b') :: es, _, i, j + 1, ⟨e, es', h0, h1, h2, h3, h4⟩, hf, hj => by
    subst h0
    have := MSat.set (j := j) h4 (fun e he => hf e (by simpa using he)) (by simpa using hj)
    exact ⟨e, es'.modify j f, by simp, h1, h2, h3, this⟩
theorem MSat.push {k v : V} {x : MapEntry} : ∀ {es : List (V × V)} {ents : List MapEntry} {i : Nat}, MSat U E es ents i → Den U E k x.key → Den U E v x.val → x.born = i + es.length → MSat U E (es ++ [(k, v)]) (ents ++ [x]) i
  | [], _, i, h0, h1, h2, h3 => by
    have h0 : _ = [] := h0
    subst h0
    exact ⟨x, [], rfl, h1, h2, by simpa using h3, rfl⟩
  | (a', b') :: es, _, i, ⟨e, es', h0, g1, g2, g3, g4⟩, h1, h2, h3 => by
    subst h0
    exact ⟨e, es' ++ [x], rfl, g1, g2, g3, MSat.push g4 h1 h2 (by simp at h3; omega)⟩
theorem HR.map_turn (h : HR U E H n B W w) {k : Nat} {es es' : List (V × V)} {l : Loc} {ents : Array MapEntry} (hg : H.get k = some (.m es)) (hok : okK k = true) (he : E k = some l) {c : Nat} (hb : w.heap[l.b]? = some (.map ents c)) {ents' : Array MapEntry} (hm : MSat U E es' ents'.toList 0) :
    (setObj l.b (.map ents' es'.length)).run P w = .ok () { w with heap := w.heap.setIfInBounds l.b (.map ents' es'.length) } ∧ HR U E (H.set k (some (.m es'))) n B W { w with heap := w.heap.setIfInBounds l.b (.map ents' es'.length) } := by
  refine ⟨Go.MapKept.run_setObj_map _ hb, h.turn hg hok he ⟨ents', ?_, hm⟩ (fun b hne => ?_) (by simp) rfl rfl rfl⟩
  · have hlt := (Array.getElem?_eq_some_iff.1 hb).1
    simp [Array.getElem?_setIfInBounds, hlt]
  · simp [Array.getElem?_setIfInBounds, Ne.symm hne]
theorem sameK_inv {o : Option (V × V)} {k : V} (h : sameK o k = true) : ∃ a b, o = some (a, b) ∧ sameV a k = true := by
  cases o with
  | none => cases h
  | some p => obtain ⟨a, b⟩ := p; exact ⟨a, b, rfl, h⟩
theorem ovr_set {es : List (V × V)} {j : Nat} {p : V × V} (h : j < es.length) : ovr es j [p] = es.set j p := by
  rw [ovr_eq _ _ _ (by simp; omega), List.set_eq_take_append_cons_drop, if_pos h]
  simp
theorem mapW_inv {b : Bool} {o : Option O} {es : List (V × V)} (h : mapW b o = some es) : b = true ∧ mapO o = some es := by
  cases b with
  | false => cases h
  | true => exact ⟨rfl, h⟩
theorem mapUpdate_sound (hC : COk P C U B W) (h : HR U E H n B W w) {x k v : Option V} {vx vk vv : Value} (hx : Kn U E x vx) (hk : Kn U E k vk) (hv : Kn U E v vv) (hr : oMU x k v (C.ty T) C H = some H') :
    ∃ w', (Instr.mapUpdate T vx vk vv).run P w = .ok () w' ∧ HR U E H' n B W w' := by
  cases x with
  | none => cases hr
  | some x => cases k with
    | none => cases hr
    | some k => cases v with
      | none => cases hr
      | some v =>
        replace hx := hx x rfl
        replace hk := hk k rfl
        replace hv := hv v rfl
        simp only [oMU] at hr
        cases hi : C.ty T with
        | none => rw [hi] at hr; cases hr
        | some i =>
          rw [hi] at hr
          obtain ⟨sz, ag, z, b, kk⟩ := i
          cases kk <;> first | (cases hr; done) | skip
          rename_i K e
          have hD := ty_mp hC hi
          cases x <;> first | (cases hr; done) | skip
          rename_i q
          simp only [mu1] at hr
          cases hm : mapW (okK q) (H.get q) with
          | none => rw [hm] at hr; cases hr
          | some es =>
            rw [hm] at hr
            simp only [mu2] at hr
            obtain ⟨hok, hm'⟩ := mapW_inv hm
            obtain ⟨hg, l, he, ents, hb, hms⟩ := mapO_inv h hm'
            simp only [Den] at hx
            obtain ⟨l', e1, rfl⟩ := hx
            rw [he] at e1
            cases e1
            have hf : find C (live H) K k es ≠ .no := fun hf => by rw [hf] at hr; cases hr
            obtain ⟨hck, r, hrun, hfd⟩ := find_sound hC h hk hf hms
            have hck' : (Instr.checkKey false 10000 K vk).run P w = .ok () w := hck false 9998
            revert hfd hr
            cases find C (live H) K k es with
            | no => exact fun _ hf => hf.elim
            | out =>
              intro hr hfd
              have : r = none := hfd
              subst this
              simp only [mu3, Option.some.injEq] at hr
              subst hr
              obtain ⟨g1, g2⟩ := h.map_turn (P := P) hg hok he hb (es' := es ++ [(k, v)]) (ents' := ents.push { key := vk, val := vv, born := es.length }) (by simpa using hms.push hk hv (by simp))
              rw [List.length_append] at g1 g2
              refine ⟨_, ?_, g2⟩
              simp only [Instr.mapUpdate, Sem.run_bind, run_underlying hD, Result.andThen_ok, Go.CE.run_getObj_map hb, hck', hrun]
              exact g1
            | hit j y =>
              rintro hr ⟨_, vy, a, rfl, hy, hj, heq⟩
              simp only [mu3, nth_eq] at hr
              cases hs : sameK es[j]? k with
              | false => rw [hs] at hr; cases hr
              | true =>
                rw [hs] at hr
                simp only [mu4, Option.some.injEq] at hr
                subst hr
                obtain ⟨a', b', hj', hsv⟩ := sameK_inv hs
                obtain ⟨en, k1, k2, k3, k4⟩ := hms.get hj'
                obtain ⟨s1, s2⟩ := sameV_sound hsv k2 hk
                have hlt : j < es.length := (List.getElem?_eq_some_iff.1 hj').1
                have k1' : ents[j]? = some en := by simpa using k1
                have hstay : (Instr.keyThatStays (((ents[j]?).map (·.key)).getD vk) vk).run P w = .ok vk w := by
                  have hs2 : Instr.sameBits 10000 en.key vk = true := s2 9999
                  simp [Instr.keyThatStays, k1', hs2]
                obtain ⟨g1, g2⟩ := h.map_turn (P := P) hg hok he hb (es' := es.set j (k, v)) (ents' := ents.modify j fun e => { e with key := vk, val := vv }) (by
                  rw [Array.toList_modify]
                  exact hms.set (fun e he => ⟨hk, hv, rfl⟩) hlt)
                rw [List.length_set] at g1 g2
                rw [ovr_set hlt]
                refine ⟨_, ?_, g2⟩
                simp only [Instr.mapUpdate, Sem.run_bind, run_underlying hD, Result.andThen_ok, Go.CE.run_getObj_map hb, hck', hrun, hstay]
                exact g1
theorem findIdx_born : ∀ {es : List (V × V)} {ents : List MapEntry} {i : Nat} {j : Nat}, MSat U E es ents i → j < es.length → ents.findIdx? (fun e => ((e.born : Nat) : Int) == ((i + j : Nat) : Int)) = some j
  | [], _, _, j, _, h => by simp at h
  | (a, b) :: es, _, i, 0, ⟨e, es', h0, g1, g2, g3, g4⟩, _ => by
    subst h0
    simp [List.findIdx?_cons, g3]
  | (a, b) :: es, _, i, j + 1, ⟨e, es', h0, g1, g2, g3, g4⟩, h => by
    subst h0
    have := findIdx_born (j := j) g4 (by simpa using h)
    rw [List.findIdx?_cons, g3]
    have hne : (((i : Nat) : Int) == ((i + (j + 1) : Nat) : Int)) = false := by
      rw [beq_eq_false_iff_ne]; omega
    rw [hne]
    have e1 : i + 1 + j = i + (j + 1) := by omega
    rw [e1] at this
    simp only [Bool.false_eq_true, if_false, this, Option.map_some]
theorem entryStore_sound (hC : COk P C U B W) (h : HR U E H n B W w) {x k v : Option V} {vx vk vv : Value} (hx : Kn U E x vx) (hk : Kn U E k vk) (hv : Kn U E v vv) (hr : oES x k v H = some H') :
    ∃ w', (Instr.entryStore T vx vk vv).run P w = .ok () w' ∧ HR U E H' n B W w' := by
  cases x with
  | none => cases hr
  | some x => cases k with
    | none => cases hr
    | some k => cases v with
      | none => cases hr
      | some v =>
        replace hx := hx x rfl
        replace hk := hk k rfl
        replace hv := hv v rfl
        simp only [oES] at hr
        cases x <;> first | (cases hr; done) | skip
        rename_i q
        simp only [es1] at hr
        cases hm : mapW (okK q) (H.get q) with
        | none => rw [hm] at hr; cases hr
        | some es =>
          rw [hm] at hr
          cases hj : k.toN with
          | none => rw [hj] at hr; cases hr
          | some j =>
            rw [hj] at hr
            simp only [es2, nth_eq] at hr
            obtain ⟨kk, rfl⟩ := toN_inv hj
            have := hk.v_inv
            subst this
            obtain ⟨hok, hm'⟩ := mapW_inv hm
            obtain ⟨hg, l, he, ents, hb, hms⟩ := mapO_inv h hm'
            simp only [Den] at hx
            obtain ⟨l', e1, rfl⟩ := hx
            rw [he] at e1
            cases e1
            cases hp : es[j]? with
            | none => rw [hp] at hr; cases hr
            | some p =>
              rw [hp] at hr
              obtain ⟨a, b⟩ := p
              simp only [es3, Option.some.injEq] at hr
              subst hr
              have hlt : j < es.length := (List.getElem?_eq_some_iff.1 hp).1
              obtain ⟨en, k1, k2, k3, k4⟩ := hms.get hp
              have hfi : ents.findIdx? (fun e => ((e.born : Nat) : Int) == ((j : Nat) : Int)) = some j := by
                have := findIdx_born hms hlt
                rw [Nat.zero_add] at this
                rw [← List.findIdx?_toArray] at this
                simpa using this
              obtain ⟨g1, g2⟩ := h.map_turn (P := P) hg hok he hb (es' := es.set j (a, v)) (ents' := ents.modify j fun e => { e with val := vv }) (by
                rw [Array.toList_modify]
                exact hms.set (fun e he => by rw [k1] at he; cases he; exact ⟨k2, hv, rfl⟩) hlt)
              rw [List.length_set] at g1 g2
              rw [ovr_set hlt]
              refine ⟨_, ?_, g2⟩
              have hai : ∀ w : World, (asInt (.int kk (j : Nat))).run P w = .ok (j : Nat) w := fun w => by simp [asInt, asIntOf]
              simp only [Instr.entryStore, Sem.run_bind, Result.andThen_ok, Go.CE.run_getObj_map hb, hai, hfi, Sem.run_pure]
              exact g1
end
end Go.CE
end
section
namespace Go.CE
open Go.RowKit
section
variable {P : Program} {C : Cfg} {U : Nat → Value} {E E' : Env} {H H' : HP} {n n' : Nat} {B : Nat → Prop} {W w w' : World} {F : FR} {a : Act} {T K e : Nat} {d : TI} {q m : Nat}
theorem modify_same {es : Array MapEntry} {j : Nat} {f : MapEntry → MapEntry} {x : MapEntry} (hx : es[j]? = some x) (hf : f x = x) : es.modify j f = es := by
  apply Array.ext'
  rw [Array.toList_modify]
  apply List.ext_getElem?
  intro i
  rw [List.getElem?_modify]
  have hx' : es.toList[j]? = some x := by simpa using hx
  by_cases h : j = i
  · subst h; simp [hx', hf]
  · simp [h]
theorem mapEntry_sound (hC : COk P C U B W) (h : HR U E H n B W w) {x k : Option V} {vx vk : Value} (hx : Kn U E x vx) (hk : Kn U E k vk) : GE P U E B W w (oME x k (C.ty T) C H n) (Instr.mapEntry T vx vk) := by
  intro v H' n' hr
  cases x with
  | none => cases hr
  | some x => cases k with
    | none => cases hr
    | some k =>
      replace hx := hx x rfl
      replace hk := hk k rfl
      simp only [oME] at hr
      cases hi : C.ty T with
      | none => rw [hi] at hr; cases hr
      | some i =>
        rw [hi] at hr
        obtain ⟨sz, ag, z, b, kk⟩ := i
        cases kk <;> first | (cases hr; done) | skip
        rename_i K e
        have hD := ty_mp hC hi
        cases x <;> first | (cases hr; done) | skip
        rename_i q
        simp only [me1] at hr
        cases hm : mapW (okK q) (H.get q) with
        | none => rw [hm] at hr; cases hr
        | some es =>
          rw [hm] at hr
          simp only [me2] at hr
          obtain ⟨hok, hm'⟩ := mapW_inv hm
          obtain ⟨hg, l, he, ents, hb, hms⟩ := mapO_inv h hm'
          simp only [Den] at hx
          obtain ⟨l', e1, rfl⟩ := hx
          rw [he] at e1
          cases e1
          have hf : find C (live H) K k es ≠ .no := fun hf => by rw [hf] at hr; cases zeroV (C.ty e) <;> cases hr
          obtain ⟨hck, r, hrun, hfd⟩ := find_sound hC h hk hf hms
          have hck' : (Instr.checkKey false 10000 K vk).run P w = .ok () w := hck false 9998
          revert hfd hr
          cases find C (live H) K k es with
          | no => exact fun _ hf => hf.elim
          | out =>
            intro hr hfd
            have : r = none := hfd
            subst this
            cases hz : zeroV (C.ty e) with
            | none => rw [hz] at hr; cases hr
            | some z =>
              rw [hz] at hr
              simp only [me3, R.ok.injEq] at hr
              obtain ⟨rfl, rfl, rfl⟩ := hr
              obtain ⟨y, rfl, hzr⟩ := zeroV_run (w := w) hC hz
              obtain ⟨g1, g2⟩ := h.map_turn (P := P) hg hok he hb (es' := es ++ [(k, .v y)]) (ents' := ents.push { key := vk, val := y, born := es.length }) (by simpa using hms.push hk (by simp only [Den]) (by simp))
              rw [List.length_append] at g1 g2
              refine ⟨.tuple #[y, goInt es.length], _, E, ?_, Env.le.refl E, ?_, g2⟩
              · simp only [Instr.mapEntry, Sem.run_bind, run_underlying hD, Result.andThen_ok, Go.CE.run_getObj_map hb, hck', hrun, hzr]
                rw [show (setObj l.b (Obj.map (ents.push { key := vk, val := y, born := es.length }) (es.length + 1))).run P w = _ from g1]
                rfl
              · simp only [Den, lng_eq]
                exact ⟨[y, goInt es.length], .cons (by simp only [Den]) (.cons (by simp [V.nat, Den, goInt]) .nil), rfl⟩
          | hit j y =>
            rintro hr ⟨_, vy, a, rfl, hy, hj, heq⟩
            have hr' : me4 (sameK es[j]? k) (.t [y, .nat j]) H n = .ok v H' n' := by
              rw [← nth_eq]
              cases hz : zeroV (C.ty e) <;> (rw [hz] at hr; exact hr)
            cases hs : sameK es[j]? k with
            | false => rw [hs] at hr'; cases hr'
            | true =>
              rw [hs] at hr'
              simp only [me4, R.ok.injEq] at hr'
              obtain ⟨rfl, rfl, rfl⟩ := hr'
              obtain ⟨a', b', hj', hsv⟩ := sameK_inv hs
              obtain ⟨en, k1, k2, k3, k4⟩ := hms.get hj'
              obtain ⟨s1, s2⟩ := sameV_sound hsv k2 hk
              have k1' : ents[j]? = some en := by simpa using k1
              have hstay : (Instr.keyThatStays (((ents[j]?).map (·.key)).getD vk) vk).run P w = .ok vk w := by
                have hs2 : Instr.sameBits 10000 en.key vk = true := s2 9999
                simp [Instr.keyThatStays, k1', hs2]
              have hmod : (ents.modify j fun e => { e with key := vk }) = ents := modify_same k1' (by rw [← s1])
              have hset : (setObj l.b (.map ents es.length)).run P w = .ok () w := by
                rw [Go.MapKept.run_setObj_map _ hb]
                congr 1
                have : w.heap.setIfInBounds l.b (.map ents es.length) = w.heap := by
                  apply Array.ext_getElem?
                  intro i
                  rw [Array.getElem?_setIfInBounds]
                  by_cases hi : l.b = i
                  · subst hi
                    have hlt := (Array.getElem?_eq_some_iff.1 hb).1
                    rw [hb]
                    simp [hlt]
                  · simp [hi]
                rw [this]
              refine ⟨.tuple #[vy, goInt j], w, E, ?_, Env.le.refl E, ?_, h⟩
              · simp only [Instr.mapEntry, Sem.run_bind, run_underlying hD, Result.andThen_ok, Go.CE.run_getObj_map hb, hck', hrun, hstay, hmod, hset, Sem.run_pure]
                simp [k1', k4]
              · simp only [Den]
                exact ⟨[vy, goInt j], .cons hy (.cons (by simp [V.nat, Den, goInt]) .nil), rfl⟩
end
end Go.CE
end
section
namespace Go.CE
open Go.RowKit
section
variable {P : Program} {C : Cfg} {U : Nat → Value} {E E' : Env} {H H' : HP} {n n' : Nat} {B : Nat → Prop} {W w w' : World} {F : FR} {a : Act} {T tx ty K e : Nat} {d : TI} {q m : Nat}
theorem src_first (hC : COk P C U B W) (h : HR U E H n B W w) {y : V} {vy : Value} {sz m : Nat} {ys : List V} (hy : Den U E y vy) (hs : src y H sz = .ok m ys) :
    (Builtin.lenOf vy).run P w = .ok m w ∧ ∃ all : List Value, DenL U E ys all ∧ all.length = m * sz ∧ ∀ i, i ≤ m → (Builtin.firstCells sz i vy).run P w = .ok (all.take (i * sz)).toArray w := by
  unfold src at hs
  split at hs
  · have := hy.v_inv
    subst this
    simp only [SR.ok.injEq] at hs
    obtain ⟨rfl, rfl⟩ := hs
    exact ⟨rfl, [], .nil, by simp, fun i hi => by simpa using run_firstCells_none (P := P) w sz i _ _⟩
  · rename_i s
    have := hy.v_inv
    subst this
    cases hb : Nat.beq sz 1 with
    | false => rw [hb] at hs; cases hs
    | true =>
      rw [hb] at hs
      have := Nat.eq_of_beq_eq_true hb
      subst this
      simp only [src3, SR.ok.injEq, lng_eq] at hs
      obtain ⟨rfl, rfl⟩ := hs
      have hsz : s.data.toList.length = s.size := by rw [Array.length_toList]; rfl
      rw [hsz]
      refine ⟨rfl, byteCells s, by_den s, by rw [byteCells_length, Nat.mul_one], fun i hi => ?_⟩
      have hx : (s.extract 0 i).data = s.data.extract 0 i := by simp
      simp only [Builtin.firstCells, hx, Nat.mul_one, Sem.run_pure]
      congr 1
      apply Array.ext'
      simp [byteCells, List.map_take, List.extract_eq_take_drop]
  · rename_i k o q c
    obtain ⟨rfl, us, hu, hys, hl⟩ := src2_inv hs
    obtain ⟨l, T, e1, hcs, zs, g1, g2, g3⟩ := slice_cells h hu hys hl
    simp only [Den] at hy
    obtain ⟨l', e2, hn, rfl⟩ := hy
    rw [e1] at e2
    cases e2
    refine ⟨rfl, zs, g1, g2, fun i hi => ?_⟩
    refine run_firstCells_some w sz _ _ _ _ _ (by rw [List.length_take, g2]; exact Nat.min_eq_left (Nat.mul_le_mul_right _ hi)) (fun j v hv => ?_)
    rw [Addr.add_lit]
    rw [List.getElem?_take] at hv
    split at hv
    · exact g3 j v hv
    · cases hv
  · cases hs
theorem cpW_inv {o : Option HP} {v : V} (h : cpW o n m = .ok v H' n') : o = some H' ∧ v = .nat m ∧ n' = n := by
  cases o with
  | none => cases h
  | some H1 => simp only [cpW, R.ok.injEq] at h; obtain ⟨rfl, rfl, rfl⟩ := h; exact ⟨rfl, rfl, rfl⟩
theorem copy_sound (hC : COk P C U B W) (h : HR U E H n B W w) {x y : V} {vx vy : Value} (hx : Den U E x vx) (hy : Den U E y vy) : GE P U E B W w (cp0 (C.ty T) x y C H n) (Builtin.copy_ #[T, tx] ty #[vx, vy]) := by
  intro v H' n' hr
  cases hi : C.ty T with
  | none => rw [hi] at hr; cases hr
  | some i =>
    rw [hi] at hr
    obtain ⟨sz, ag, z, b, k⟩ := i
    cases k <;> try (cases hr; done)
    rename_i e
    have hD := ty_sl hC hi
    simp only [cp0] at hr
    cases he : C.ty e with
    | none => rw [he] at hr; cases hr
    | some d =>
      rw [he] at hr
      simp only [cp1] at hr
      have hts := (hC.ty e d he).sz
      cases hsr : src y H d.sz with
      | no => rw [hsr] at hr; cases hr
      | ok m ys =>
        rw [hsr] at hr
        obtain ⟨hlen, all, g1, g2, g3⟩ := src_first hC h hy hsr
        unfold cp2 at hr
        split at hr
        · simp only [R.ok.injEq] at hr
          obtain ⟨rfl, rfl, rfl⟩ := hr
          have := hx.v_inv
          subst this
          refine ⟨goInt 0, w, E, ?_, Env.le.refl E, by simp [V.nat, Den, goInt], h⟩
          have h0 := g3 0 (Nat.zero_le _)
          simp [Builtin.copy_, run_underlying hD, hlen, Go.LE.run_ts hts, h0]
        · rename_i k o q c heq
          simp only [SR.ok.injEq] at heq
          obtain ⟨rfl, rfl⟩ := heq
          rw [minN_eq] at hr
          have hle : min m q ≤ m := Nat.min_le_left _ _
          have hmin : Nat.min m q = min m q := rfl
          generalize min m q = j at hr hle hmin
          obtain ⟨hw, rfl, rfl⟩ := cpW_inv hr
          simp only [Den] at hx
          obtain ⟨l, e1, _, rfl⟩ := hx
          rw [tak_eq] at hw
          obtain ⟨w', hst, hh⟩ := wr_sound (P := P) hC.u h hw e1 (g1.take (j * d.sz))
          refine ⟨goInt j, w', E, ?_, Env.le.refl E, by simp [V.nat, Den, goInt], hh⟩
          have h0 := g3 j hle
          simp [Builtin.copy_, run_underlying hD, hlen, Go.LE.run_ts hts, h0, hmin, hst]
        · cases hr
theorem range_sound (hC : COk P C U B W) (h : HR U E H n B W w) {x : Option V} {vx : Value} (hx : Kn U E x vx) : GE P U E B W w (oRange (C.ty T) x H n) (Instr.range T vx) := by
  intro v H' n' hr
  cases hi : C.ty T with
  | none => rw [hi] at hr; cases hr
  | some i =>
    rw [hi] at hr
    obtain ⟨sz, ag, z, b, kk⟩ := i
    cases x with
    | none => cases kk <;> cases hr
    | some x =>
      replace hx := hx x rfl
      cases kk <;> first | (cases hr; done) | skip
      rename_i K e
      have hD := ty_mp hC hi
      cases x <;> first | (cases hr; done) | skip
      rename_i k
      simp only [oRange] at hr
      cases hm : mapO (H.get k) with
      | none => rw [hm] at hr; cases hr
      | some es =>
        rw [hm] at hr
        simp only [rng2] at hr
        obtain ⟨hg, l, he, ents, hb, hms⟩ := mapO_inv h hm
        simp only [Den] at hx
        obtain ⟨l', e1, rfl⟩ := hx
        rw [he] at e1
        cases e1
        obtain ⟨rfl, hle, hh⟩ := mk_sound (o := .it k (lng es)) (ob := .mapIter (some l.b) es.length #[] es.length) h (fun E' hE => ⟨rfl, l, hE k l he, by rw [lng_eq]; exact heap_alloc_new w _⟩) hr
        refine ⟨.pointer (some ⟨w.heap.size, 0, none⟩), _, _, ?_, hle, ?_, hh⟩
        · simp [Instr.range, run_underlying hD, Go.CE.run_getObj_map hb, newObj, Sem.run]
        · simp only [Den]
          exact ⟨⟨w.heap.size, 0, 0⟩, by simp, by simp⟩
end
end Go.CE
end
