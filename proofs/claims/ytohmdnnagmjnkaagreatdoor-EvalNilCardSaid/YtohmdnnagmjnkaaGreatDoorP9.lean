/-
  Part 9 of the proof.
-/
import Derived.Test.YtohmdnnagmjnkaaGreatDoorP8
import Derived.Maps.RangeRun
import Derived.Shelf.LaysM
import Derived.Shelf.Sort.Plain
import Derived.Test.YtohmdnnagmjnkaaGreatDoorProg
import Derived.Shelf.Small.Strs
set_option linter.unusedSimpArgs false
set_option linter.unusedVariables false
set_option linter.defProp false
section
namespace Go.CE
open Go.RowKit
open Go.ChangeMaps (setBlock)
def pos97 : String := "subset.go:97"
def pos98 : String := "subset.go:98"
def reg10 : Array Oper := #[⟨some 47, .next (.tmp 46) false, 0, "subset.go:97", #[], none⟩, ⟨some 48, .extract (.tmp 47) 0, 4, "subset.go:97", #[⟨0, .data⟩], none⟩]
def reg11 : Array Oper := #[⟨some 49, .entry (.tmp 46), 0, "subset.go:97", #[], none⟩, ⟨some 50, .extract (.tmp 49) 0, 3, "subset.go:97", #[⟨0, .data⟩], none⟩, ⟨some 8, .assign (.tmp 50), 3, "subset.go:97", #[⟨1, .data⟩, ⟨0, .phase⟩, ⟨1, .phase⟩], none⟩]
def reg12 : Array Oper := #[⟨some 51, .move (.tmp 7), 148, "subset.go:98", #[], none⟩, ⟨some 52, .move (.tmp 8), 3, "subset.go:98", #[], none⟩, ⟨some 53, .buildSlice 148 1 #[(0, .tmp 52)], 148, "subset.go:98", #[⟨1, .data⟩], none⟩,
  ⟨some 54, .call ⟨.builtin .append, #[.tmp 51, .tmp 53], #[148, 148]⟩, 148, "subset.go:98", #[⟨0, .data⟩, ⟨2, .data⟩], none⟩, ⟨some 7, .assign (.tmp 54), 148, "subset.go:98", #[⟨3, .data⟩, ⟨3, .chain⟩, ⟨0, .phase⟩, ⟨1, .phase⟩, ⟨2, .phase⟩, ⟨3, .phase⟩], none⟩]
def colCode : Code := .loop (.seq (.region 10 reg10 false) (.seq (.cond (.tmp 48) .skip (.exit 2)) (.block 3 (.seq (.region 11 reg11 false) (.region 12 reg12 false)))))
section
variable {P : Program} {C : Cfg} {U : Nat → Value} {E E' : Env} {F : FR} {H H' : HP} {n n' : Nat} {D : DL} {B : Nat → Prop} {W w w' : World} {a : Act} {x : V} {nt i : Nat} {Q : Exit → Act → World → Prop} {ops : Array Oper} {o : Oper} {rest : List Nat}
theorem step_val {y : Value} (ho : ops[i]? = some o) (hg : o.guard = none) (hr : (execOp a.eval o).run P w = .ok (.value y) w') (h : wpOps P ops Q rest (a.put o.dst y) w') : wpOps P ops Q (i :: rest) a w := by
  rw [wpOps_cons]
  unfold wpOp
  rw [ho]
  simp only
  rw [if_pos (by simp only [Region.wanted, hg])]
  refine .inl ?_
  unfold Oper.wp
  rw [hr]
  exact h
theorem natsI_get : ∀ {l : List V} {ns : List Nat}, natsI l = some ns → ∀ (i : Nat) v, l[i]? = some v → ∃ q, ns[i]? = some q ∧ v = .v (.int .i64 (q : Nat))
  | [], _, _, i, v, hv => by simp at hv
  | y :: r, ns, h, i, v, hv => by
    rw [natsI] at h
    obtain ⟨q, qs, h1, h2, rfl⟩ := conO_inv h
    have hy : y = .v (.int .i64 (q : Nat)) := by
      unfold natI at h1
      split at h1
      · simp only [Option.some.injEq] at h1; subst h1; rfl
      · cases h1
    cases i with
    | zero => simp at hv; subst hv; exact ⟨q, rfl, hy⟩
    | succ i => exact natsI_get h2 i v (by simpa using hv)
theorem natsI_len : ∀ {l : List V} {ns : List Nat}, natsI l = some ns → ns.length = l.length
  | [], _, h => by simp only [natsI, Option.some.injEq] at h; subst h; rfl
  | y :: r, ns, h => by
    rw [natsI] at h
    obtain ⟨q, qs, h1, h2, rfl⟩ := conO_inv h
    simp [natsI_len h2]
theorem keysOf_get : ∀ (es : List (V × V)) (i : Nat), (keysOf es)[i]? = (es[i]?).map (·.1)
  | [], i => by simp [keysOf]
  | (k, v) :: r, 0 => by simp [keysOf]
  | (k, v) :: r, i + 1 => by simpa [keysOf] using keysOf_get r i
theorem keysOf_len : ∀ (es : List (V × V)), (keysOf es).length = es.length
  | [] => rfl
  | (k, v) :: r => by simp [keysOf, keysOf_len r]
theorem forget_get : ∀ (L : List Nat) (F : FR) (j : Nat) (v : V), (forget F L).get j = some v → j ∉ L ∧ F.get j = some v
  | [], F, j, v, h => ⟨by simp, h⟩
  | t :: r, F, j, v, h => by
    obtain ⟨h1, h2⟩ := forget_get r (F.set t none) j v h
    rcases FR.get_set _ _ _ _ _ h2 with ⟨_, h3⟩ | ⟨h3, h4⟩
    · cases h3
    · exact ⟨by simp [h3, h1], h4⟩
theorem HR.other (h : HR U E H n B W w) {r : Nat} {o' : Obj} (hB : ¬ B r) (hl : ∀ k o l, H.get k = some o → E k = some l → l.b ≠ r) : HR U E H n B W (setBlock w r o') := by
  have blk : ∀ b, b ≠ r → (setBlock w r o').heap[b]? = w.heap[b]? := fun b hb => by simp [setBlock, Array.getElem?_setIfInBounds, Ne.symm hb]
  refine ⟨fun k o hk => ?_, h.inj, h.out, h.new, fun b hb => ?_, h.os, h.tape, h.output, by simpa [setBlock] using h.size⟩
  · obtain ⟨l, h1, h2⟩ := h.ent k o hk
    exact ⟨l, h1, h2.mono (.refl E) (blk _ (hl k o l hk h1))⟩
  · obtain ⟨g1, g2⟩ := h.keep b hb
    exact ⟨g1, by rw [blk b fun he => hB (he ▸ hb)]; exact g2⟩
theorem HR.here (w : World) : HR U (fun _ => none) .e 0 (fun b => b < w.heap.size) w w :=
  ⟨fun k o hk => by rw [HP.get_e] at hk; (cases hk), fun k k' l l' o o' hk => by rw [HP.get_e] at hk; (cases hk), fun k l o hk => by rw [HP.get_e] at hk; (cases hk), fun _ _ => rfl, fun b hb => ⟨hb, rfl⟩, rfl, rfl, rfl, Nat.le_refl _⟩
theorem HR.over (h : HR U E H n B W w) (hB : ∀ b, b < w.heap.size → w'.heap[b]? = w.heap[b]?) (h1 : w'.os = w.os) (h2 : w'.tape = w.tape) (h3 : w'.output = w.output) (hs : w.heap.size ≤ w'.heap.size) : HR U E H n B W w' :=
  h.keepW ⟨h1, h2, h3, hs, fun b hb _ => hB b hb⟩
theorem MSat.at : ∀ {es : List (V × V)} {ents : List MapEntry} {i j : Nat} {e : MapEntry}, MSat U E es ents i → ents[j]? = some e → ∃ a b, es[j]? = some (a, b) ∧ Den U E a e.key ∧ e.born = i + j
  | [], ents, i, j, e, h, he => by
    have : ents = [] := h
    subst this; simp at he
  | (k, v) :: r, ents, i, j, e, h, he => by
    obtain ⟨e0, es', rfl, h1, h2, h3, h4⟩ := h
    cases j with
    | zero => simp at he; subst he; exact ⟨k, v, rfl, h1, by omega⟩
    | succ j =>
      obtain ⟨a, b, g1, g2, g3⟩ := MSat.at h4 (j := j) (by simpa using he)
      exact ⟨a, b, by simpa using g1, g2, by omega⟩
def colL : List Nat := [8, 47, 48, 49, 50, 51, 52, 53, 54]
structure Ty3 (C : Cfg) (i3 i148 : TI) : Prop where
  h3 : C.ty 3 = some i3
  h148 : C.ty 148 = some i148
  k148 : ∃ sz ag z b, i148 = ⟨sz, ag, z, b, .sl 3⟩
  s3 : i3.sz = 1
  z3 : i3 = ⟨1, false, some (.int .i64 0), 8, .int .i64⟩
structure Cl (P : Program) (C : Cfg) (U : Nat → Value) (E0 : Env) (F : FR) (H : HP) (n : Nat) (D : DL) (B : Nat → Prop) (W : World) (nt : Nat) (es : List (V × V)) (l : List V) (ki k c len r bm : Nat) (a : Act) (w : World) (idx : List Nat) (E : Env) : Prop where
  nd : idx.Nodup
  lt : ∀ i ∈ idx, i < es.length
  le : E0.le E
  hr : HR U E ((H.set ki none).set k (some (.c 3 (idx.map (fun i => (keysOf es).getD i (.v undef)) ++ l.drop idx.length) len))) n B W w
  fr : ∀ t v, F.get t = some v → t ∉ colL → t ≠ 7 → Den U E v (a.tmps.getD t undef)
  f7 : Den U E (.s k 0 idx.length (.ex c)) (a.tmps.getD 7 undef)
  f46 : a.tmps.getD 46 undef = .pointer (some ⟨r, 0, none⟩)
  it : w.heap[r]? = some (.mapIter (some bm) es.length idx.toArray es.length)
  sz : nt ≤ a.tmps.size ∧ 55 ≤ a.tmps.size
  df : DfOk U E D a.defers
  nB : ¬ B r
  nl : ∀ j o l', ((H.set ki none).set k (some (.c 3 (idx.map (fun i => (keysOf es).getD i (.v undef)) ++ l.drop idx.length) len))).get j = some o → E j = some l' → l'.b ≠ r
theorem put_get {t j : Nat} (a : Act) (y : Value) (h : t ≠ j) : (a.put (some t) y).tmps.getD j undef = a.tmps.getD j undef := by
  simp only [Act.put, Array.getD_eq_getD_getElem?, Array.getElem?_setIfInBounds, if_neg h]
theorem put_same {t : Nat} (a : Act) (y : Value) (h : t < a.tmps.size) : (a.put (some t) y).tmps.getD t undef = y := by
  simp only [Act.put, Array.getD_eq_getD_getElem?, Array.getElem?_setIfInBounds, if_pos, h, Option.getD_some]
theorem psz (a : Act) (t : Nat) (y : Value) : (a.put (some t) y).tmps.size = a.tmps.size := put_size a _ y
theorem range_perm {l : List Nat} {m : Nat} (h1 : l.Nodup) (h2 : ∀ i ∈ l, i < m) (h3 : ∀ i, i < m → i ∈ l) : l.Perm (List.range m) :=
  (List.perm_ext_iff_of_nodup h1 List.nodup_range).2 fun i => ⟨fun hi => List.mem_range.2 (h2 i hi), fun hi => h3 i (List.mem_range.1 hi)⟩
theorem map_range_get (l : List V) : (List.range l.length).map (fun i => l.getD i (.v undef)) = l := by
  apply List.ext_getElem?
  intro i
  simp only [List.getElem?_map]
  by_cases h : i < l.length
  · simp [h]
  · simp [h]
theorem put_key (hC : COk P C U B W) {i3 i148 : TI} (hT : Ty3 C i3 i148) {k c len j q : Nat} {cells : List V} (hr : HR U E H n B W w) (hk : okK k = true) (hg : H.get k = some (.c 3 cells len)) (hlen : len = cells.length) (hc : c = len) (hj : j < c) {vx vy : Value} (hx : Den U E (.s k 0 j (.ex c)) vx)
    (hs : Src P i3.sz 148 vy 1 [.int .i64 (q : Nat)] w) {ty : TypeId} : ∃ x w' E', (Builtin.append_ #[148, 148] ty #[vx, vy]).run P w = .ok x w' ∧ E.le E' ∧ Den U E' (.s k 0 (j + 1) (.ex c)) x ∧ HR U E' (H.set k (some (.c 3 (cells.take j ++ [.v (.int .i64 (q : Nat))] ++ cells.drop (j + 1)) len))) n B W w' := by
  obtain ⟨sz, ag, z, b, e148⟩ := hT.k148
  have hD : P.underlying 148 = some (.slice 3) := ty_sl hC (by rw [hT.h148, e148])
  have hov : ovr cells j [.v (.int .i64 (q : Nat))] = cells.take j ++ [.v (.int .i64 (q : Nat))] ++ cells.drop (j + 1) := by
    rw [ovr_eq _ _ _ (by simp; omega)]
    rfl
  have hcells : cellsOf H k = some cells := by unfold cellsOf; rw [hg]; rfl
  have hrun : ap2 1 [.v (.int .i64 (q : Nat))] (.s k 0 j (.ex c)) H n 3 i3 = .ok (.s k 0 (j + 1) (.ex c)) (H.set k (some (.c 3 (cells.take j ++ [.v (.int .i64 (q : Nat))] ++ cells.drop (j + 1)) len))) n := by
    have e1 : src (.s k 0 j (.ex c)) H i3.sz = .ok j (cells.take j) := by
      have hl : (tak (drp cells 0) (Nat.mul j i3.sz)) = cells.take j := by
        rw [drp_eq, tak_eq, hT.s3, show Nat.mul j 1 = j from Nat.mul_one j]; simp
      simp only [src, src2, hcells, hl, src4]
      rw [show Nat.beq (lng (cells.take j)) (Nat.mul j i3.sz) = true from by
        rw [lng_eq, hT.s3, show Nat.mul j 1 = j from Nat.mul_one j, List.length_take, Nat.min_eq_left (by omega)]; exact Nat.beq_refl j]
      rfl
    have e2 : wr H k (Nat.add 0 (lng (cells.take j))) [.v (.int .i64 (q : Nat))] = some (H.set k (some (.c 3 (cells.take j ++ [.v (.int .i64 (q : Nat))] ++ cells.drop (j + 1)) len))) := by
      have hl : Nat.add 0 (lng (cells.take j)) = j := by rw [lng_eq, List.length_take]; show 0 + min j cells.length = j; omega
      rw [hl]
      simp only [wr, hg, wr1, hk]
      rw [show Nat.ble (Nat.add j (lng [V.v (.int .i64 (q : Nat))])) len = true from Nat.ble_eq_true_of_le (by show j + 1 ≤ len; omega), ← hov]
      rfl
    show ap3 (src (.s k 0 j (.ex c)) H i3.sz) (.ex c) H n 3 [.v (.int .i64 (q : Nat))] 1 k 0 i3 = _
    rw [e1]
    show apIn (Nat.ble (Nat.add j 1) c) H n 3 (cells.take j) [.v (.int .i64 (q : Nat))] k 0 (Nat.add j 1) c i3 = _
    rw [show Nat.ble (Nat.add j 1) c = true from Nat.ble_eq_true_of_le hj]
    show apW (wr H k (Nat.add 0 (lng (cells.take j))) [.v (.int .i64 (q : Nat))]) n k 0 (Nat.add j 1) c = _
    rw [e2]
    rfl
  exact ap2_sound hC hr hD hT.h3 hx hs (.cons (by simp only [Den]) .nil) rfl hrun
theorem run_extract0 {y : Value} {xs : Array Value} (w : World) (h : xs[0]? = some y) : (Instr.extract (.tuple xs) 0).run P w = .ok y w := by
  simp [Instr.extract, h]
theorem colB_inv {b : Bool} {X : X} (h : colB b F H n D = X) (hno : ∀ s, X ≠ .no s) : b = true ∧ X = .nor F H n D := by
  cases b with
  | false => exact absurd h.symm (hno _)
  | true => exact ⟨rfl, h.symm⟩
theorem col0_c (o : Option V) : (∃ ki, o = some (.p ki 0) ∧ col0 o = fun F H n D => col1 (H.get ki) ki F H n D) ∨ ∃ s, col0 o = fun _ _ _ _ => .no s := by
  unfold col0
  split
  · exact .inl ⟨_, rfl, rfl⟩
  · exact .inr ⟨_, rfl⟩
theorem col1_c (o : Option O) (ki : Nat) : (∃ km m, o = some (.it km m) ∧ col1 o ki = fun F H n D => col2 (H.get km) (F.get 7) ki km m F H n D) ∨ ∃ s, col1 o ki = fun _ _ _ _ => .no s := by
  unfold col1
  split
  · exact .inl ⟨_, _, rfl, rfl⟩
  · exact .inr ⟨_, rfl⟩
theorem col2_c (o : Option O) (v : Option V) (ki km m : Nat) : (∃ es k c, o = some (.m es) ∧ v = some (.s k 0 0 (.ex c)) ∧ col2 o v ki km m = fun F H n D => col3 (H.get k) F H n D es ki km m k c) ∨ ∃ s, col2 o v ki km m = fun _ _ _ _ => .no s := by
  unfold col2
  split
  · exact .inl ⟨_, _, _, rfl, rfl, rfl⟩
  · exact .inr ⟨_, rfl⟩
theorem collect_inv {X : X} (h : collect F H n D = X) (hno : ∀ s, X ≠ .no s) : ∃ ki km m es k c T l len, F.get 46 = some (.p ki 0) ∧ H.get ki = some (.it km m) ∧ H.get km = some (.m es) ∧ F.get 7 = some (.s k 0 0 (.ex c)) ∧ H.get k = some (.c T l len) ∧
    (and (and (and (Nat.beq m (lng es)) (Nat.beq c (lng es))) (and (Nat.beq len c) (isN (natsI (keysOf es))))) (and (and (okK ki) (okK k)) (and (not (Nat.beq k ki)) (and (not (Nat.beq k km)) (Nat.beq T 3))))) = true ∧
    X = .nor ((forget F [8, 47, 48, 49, 50, 51, 52, 53, 54]).set 7 (some (.s k 0 c (.ex c)))) ((H.set ki none).set k (some (.q T (keysOf es)))) n D := by
  change col0 (F.get 46) F H n D = X at h
  rcases col0_c (F.get 46) with ⟨ki, h46, e⟩ | ⟨s, e⟩
  rotate_left
  · rw [e] at h; exact absurd h.symm (hno _)
  rw [e] at h
  dsimp only at h
  rcases col1_c (H.get ki) ki with ⟨km, m, hit, e⟩ | ⟨s, e⟩
  rotate_left
  · rw [e] at h; exact absurd h.symm (hno _)
  rw [e] at h
  dsimp only at h
  rcases col2_c (H.get km) (F.get 7) ki km m with ⟨es, k, c, hm, h7, e⟩ | ⟨s, e⟩
  rotate_left
  · rw [e] at h; exact absurd h.symm (hno _)
  rw [e] at h
  dsimp only at h
  cases hk : H.get k with
  | none => rw [hk] at h; exact absurd h.symm (hno _)
  | some o =>
    cases o with
    | c T l len =>
      rw [hk] at h
      obtain ⟨h1, h2⟩ := colB_inv h hno
      exact ⟨ki, km, m, es, k, c, T, l, len, h46, hit, hm, h7, hk, h1, h2⟩
    | _ => rw [hk] at h; exact absurd h.symm (hno _)
theorem nodup_le : ∀ (m : Nat) (l : List Nat), l.Nodup → (∀ i ∈ l, i < m) → l.length ≤ m
  | 0, [], _, _ => Nat.le_refl _
  | 0, a :: r, _, h => absurd (h a (by simp)) (by omega)
  | m + 1, l, hn, h => by
    by_cases hm : m ∈ l
    · have := nodup_le m (l.erase m) (hn.erase m) fun i hi => by
        have := hn.mem_erase_iff.1 hi
        have := h i this.2
        omega
      rw [List.length_erase_of_mem hm] at this
      omega
    · have := nodup_le m l hn fun i hi => by
        have := h i hi
        have : i ≠ m := fun he => hm (he ▸ hi)
        omega
      omega
theorem bool_and4 {a b c d : Bool} (h : and (and a b) (and c d) = true) : a = true ∧ b = true ∧ c = true ∧ d = true := by
  cases a <;> cases b <;> cases c <;> cases d <;> simp_all
theorem collect_snd (hC : ∀ B W, COk P C U B W → ∃ i3 i148, Ty3 C i3 i148) {nt : Nat} (hnt : 55 ≤ nt) : Snd P C U nt collect 2 colCode := by
  intro B W hC0 E F H n D a w Q hss hp
  have hsz := Nat.le_trans hnt hss.sz
  obtain ⟨i3, i148, hT⟩ := hC B W hC0
  obtain ⟨ki, km, m, es, k, c, T, l, len, h46, hit, hm, h7, hk, hcond, hX⟩ := collect_inv (F := F) (H := H) (n := n) (D := D) rfl fun s hs => by rw [hs] at hp; exact hp
  rw [hX] at hp
  simp only [Bool.and_eq_true, Bool.not_eq_true'] at hcond
  obtain ⟨⟨⟨q1, q2⟩, q3, q4⟩, ⟨q5, q6⟩, q7, q8, q9⟩ := hcond
  have e1 : m = es.length := (Nat.eq_of_beq_eq_true q1).trans (lng_eq es)
  have e2 : c = es.length := (Nat.eq_of_beq_eq_true q2).trans (lng_eq es)
  have e3 : len = c := Nat.eq_of_beq_eq_true q3
  have e9 : T = 3 := Nat.eq_of_beq_eq_true q9
  have n7 : k ≠ ki := fun h => by subst h; rw [Nat.beq_refl] at q7; cases q7
  have n8 : k ≠ km := fun h => by subst h; rw [Nat.beq_refl] at q8; cases q8
  have n9 : km ≠ ki := fun h => by rw [h, hit] at hm; cases hm
  obtain ⟨ns, hns⟩ : ∃ ns, natsI (keysOf es) = some ns := by
    cases h : natsI (keysOf es) with
    | none => rw [h] at q4; cases q4
    | some ns => exact ⟨ns, rfl⟩
  subst e9
  obtain ⟨li, f1, f2⟩ := hss.hr.ent ki _ hit
  obtain ⟨f3, lm, f4, f5⟩ := f2
  obtain ⟨lm2, g1, ents0, g2, g3⟩ := hss.hr.ent km _ hm
  rw [f4] at g1
  cases g1
  obtain ⟨lk, g4, g5, g6⟩ := hss.hr.ent k _ hk
  have hl : l.length = c := by omega
  have get0 : ∀ (H' : HP) (x : O) (j : Nat) (o : O), ((H.set ki none).set k (some x)).get j = some o → (j = k ∧ o = x) ∨ (j ≠ k ∧ j ≠ ki ∧ H.get j = some o) := fun _ x j o h => by
    rw [HP.get_set _ _ _ q6] at h
    by_cases hj : j = k
    · rw [if_pos hj] at h; cases h; exact .inl ⟨hj, rfl⟩
    · rw [if_neg hj, HP.get_set _ _ _ q5] at h
      by_cases hj' : j = ki
      · rw [if_pos hj'] at h; cases h
      · rw [if_neg hj'] at h; exact .inr ⟨hj, hj', h⟩
  have start : Cl P C U E F H n D B W nt es l ki k c len li.b lm.b a w [] E := by
    have hv46 := hss.fr 46 _ h46
    simp only [Den] at hv46
    obtain ⟨l46, r1, r2⟩ := hv46
    rw [f1] at r1
    cases r1
    have live : ∀ j o l', ((H.set ki none).set k (some (.c 3 l len))).get j = some o → E j = some l' → ∃ o', j ≠ ki ∧ H.get j = some o' := fun j o l' hj _ => by
      rcases get0 .e _ j o hj with ⟨rfl, _⟩ | ⟨h1, h2, h3⟩
      · exact ⟨_, n7, hk⟩
      · exact ⟨o, h2, h3⟩
    refine ⟨List.nodup_nil, fun i hi => (by cases hi), .refl E, ?_, fun t v ht _ _ => hss.fr t v ht, hss.fr 7 _ h7, ?_, ?_, ⟨hss.sz, hsz⟩, hss.df, hss.hr.out ki li _ hit f1, fun j o l' hj hl' => ?_⟩
    · refine hss.hr.drop fun j o hj => ?_
      simp only [List.map_nil, List.nil_append, List.length_nil, List.drop_zero] at hj
      rcases get0 .e _ j o hj with ⟨rfl, rfl⟩ | ⟨h1, h2, h3⟩
      · exact hk
      · exact h3
    · rw [r2, f3]
    · rw [f5, e1]
    · simp only [List.map_nil, List.nil_append, List.length_nil, List.drop_zero] at hj
      obtain ⟨o', h1, h2⟩ := live j o l' hj hl'
      intro hb
      exact h1 (hss.hr.inj j ki l' li o' _ h2 hit hl' f1 hb)
  refine wp_block (wp_loop (fun a w => ∃ idx E1, Cl P C U E F H n D B W nt es l ki k c len li.b lm.b a w idx E1) (fun a w => match w.heap[li.b]? with | some (.mapIter _ _ seen _) => es.length - seen.size | _ => 0) ⟨[], E, start⟩ fun a w ⟨idx, E1, I⟩ => ?_)
  have hidx : idx.length ≤ es.length := nodup_le _ _ I.nd I.lt
  have hget : ((H.set ki none).set k (some (.c 3 (idx.map (fun i => (keysOf es).getD i (.v undef)) ++ l.drop idx.length) len))).get km = some (.m es) := by
    rw [HP.get_set _ _ _ q6, if_neg (Ne.symm n8), HP.get_set _ _ _ q5, if_neg n9]
    exact hm
  obtain ⟨lm', r1, ents, hme, hms⟩ := I.hr.ent km _ hget
  have := I.le km lm f4
  rw [this] at r1
  cases r1
  have hat : ∀ (j : Nat) e, ents.toList[j]? = some e → ∃ q : Nat, (keysOf es)[j]? = some (.v (.int .i64 (q : Nat))) ∧ e.key = .int .i64 (q : Nat) ∧ e.born = j ∧ j < es.length := fun j e he => by
    obtain ⟨x, y, h1, h2, h3⟩ := hms.at he
    have hkj : (keysOf es)[j]? = some x := by rw [keysOf_get, h1]; rfl
    obtain ⟨q, _, rfl⟩ := natsI_get hns j x hkj
    exact ⟨q, hkj, h2.v_inv, by omega, (List.getElem?_eq_some_iff.1 h1).1⟩
  have hlen : ents.toList.length = es.length := by rw [hms.len]
  refine wp_seq (wp_region ?_)
  show wpOps P reg10 _ [0, 1] a w
  have ev46 : a.eval (.tmp 46) = .pointer (some ⟨li.b, 0, none⟩) := I.f46
  have hold : ∀ x ∈ ents.toList, x.born < es.length := fun x hx => by
    obtain ⟨j, hj⟩ := List.getElem?_of_mem hx
    obtain ⟨q, _, _, h3, h4⟩ := hat j x hj
    omega
  rcases run_next_at (P := P) w 0 li.b lm.b es.length es.length idx.toArray ents es.length I.it hme hold (Nat.le_refl _) with ⟨hz, hnext⟩ | ⟨e, hmem, w1, hw1, hnext⟩
  ·
    refine step_val (o := ⟨some 47, .next (.tmp 46) false, 0, "subset.go:97", #[], none⟩) (y := .tuple #[.bool false]) (w' := w) rfl rfl (by simp only [execOp, ev46, Sem.run_bind, hnext, Result.andThen_ok, Sem.run_pure]) ?_
    have s47 : 47 < a.tmps.size := by have := I.sz.2; omega
    have ev47 : (a.put (some 47) (.tuple #[.bool false])).eval (.tmp 47) = .tuple #[.bool false] := put_same a _ s47
    refine step_val (o := ⟨some 48, .extract (.tmp 47) 0, 4, "subset.go:97", #[⟨0, .data⟩], none⟩) (y := .bool false) (w' := w) rfl rfl (by simp only [execOp, ev47, Sem.run_bind, run_extract0 (P := P) (y := .bool false) (xs := #[.bool false]) w rfl, Result.andThen_ok, Sem.run_pure]) ?_
    have s48 : 48 < (a.put (some 47) (.tuple #[.bool false])).tmps.size := by rw [psz]; have := I.sz.2; omega
    refine wp_seq (wp_cond_false (put_same _ _ s48) (wp_exit ?_))
    show Exit.inBlock 2 Q (.exit 2) _ _
    simp only [Exit.inBlock, if_pos]
    have hall : ∀ i, i < es.length → i ∈ idx := fun i hi => by
      have hi' : i < ents.toList.length := by omega
      have he := List.getElem?_eq_getElem hi'
      obtain ⟨q, _, _, h3, _⟩ := hat i _ he
      have hemp : leftOf ents idx.toArray = #[] := Array.eq_empty_of_size_eq_zero hz
      have hnm : ents.toList[i] ∉ (leftOf ents idx.toArray).toList := by rw [hemp]; simp
      unfold leftOf at hnm
      simp only [Array.toList_filter, List.mem_filter, not_and] at hnm
      have := hnm (List.getElem_mem hi')
      rw [h3] at this
      simpa using this
    have hperm := range_perm I.nd I.lt hall
    have hle : idx.length = es.length := by rw [hperm.length_eq, List.length_range]
    have hdrop : l.drop idx.length = [] := List.drop_of_length_le (by omega)
    have hkeys : (idx.map (fun i => (keysOf es).getD i (.v undef))).Perm (keysOf es) := by
      have := hperm.map (fun i => (keysOf es).getD i (.v undef))
      rw [← keysOf_len es, map_range_get] at this
      exact this
    have hHR := I.hr
    rw [hdrop, List.append_nil] at hHR
    obtain ⟨lk', u1, u2⟩ := hHR.ent k _ (by rw [HP.get_set _ _ _ q6, if_pos rfl])
    have hfin := hHR.turn (k := k) (o' := .q 3 (keysOf es)) (w' := w) (by rw [HP.get_set _ _ _ q6, if_pos rfl]) q6 u1 ⟨_, hkeys, u2.2⟩ (fun _ _ => rfl) (Nat.le_refl _) rfl rfl rfl
    refine hp E1 _ w I.le ⟨fun t v ht => ?_, by rw [psz, psz]; exact I.sz.1, hfin.drop fun j o hj => ?_, ?_⟩
    · rcases FR.get_set _ _ _ _ _ ht with ⟨rfl, h1⟩ | ⟨h1, h2⟩
      · cases h1
        rw [put_get _ _ (by decide), put_get _ _ (by decide)]
        have := I.f7
        rw [hle, ← e2] at this
        exact this
      · obtain ⟨h3, h4⟩ := forget_get colL F t v h2
        have n47 : (47 : Nat) ≠ t := fun h => h3 (h ▸ by decide)
        have n48 : (48 : Nat) ≠ t := fun h => h3 (h ▸ by decide)
        rw [put_get _ _ n48, put_get _ _ n47]
        exact I.fr t v h4 h3 h1
    · rw [HP.get_set _ _ _ q6] at hj ⊢
      by_cases hjk : j = k
      · rw [if_pos hjk] at hj ⊢; exact hj
      · rw [if_neg hjk] at hj ⊢
        rw [HP.get_set _ _ _ q6, if_neg hjk]
        exact hj
    · rw [put_def, put_def]; exact I.df
  ·
    obtain ⟨hem, hnew⟩ : e ∈ ents.toList ∧ e.born ∉ idx := by
      unfold leftOf at hmem
      simp only [Array.toList_filter, List.mem_filter] at hmem
      exact ⟨hmem.1, by simpa using hmem.2⟩
    obtain ⟨j, hj⟩ := List.getElem?_of_mem hem
    obtain ⟨q, hq, hkey, hborn, hjl⟩ := hat j e hj
    rw [hborn] at hnew
    have hHR1 : HR U E1 ((H.set ki none).set k (some (.c 3 (idx.map (fun i => (keysOf es).getD i (.v undef)) ++ l.drop idx.length) len))) n B W w1 := by
      rcases hw1 with rfl | rfl
      · exact I.hr
      · exact I.hr.drew
    have hHR2 := hHR1.other (o' := .mapIter (some lm.b) es.length (idx.toArray.push e.born) es.length) I.nB I.nl
    have hlm : lm.b ≠ li.b := I.nl km _ lm hget (I.le km lm f4)
    have w1it : li.b < w1.heap.size := by
      have : w1.heap = w.heap := by rcases hw1 with rfl | rfl <;> rfl
      rw [this]
      exact (Array.getElem?_eq_some_iff.1 I.it).1
    have w1m : w1.heap[lm.b]? = some (.map ents es.length) := by
      have : w1.heap = w.heap := by rcases hw1 with rfl | rfl <;> rfl
      rw [this]; exact hme
    generalize hw2 : setBlock w1 li.b (.mapIter (some lm.b) es.length (idx.toArray.push e.born) es.length) = w2 at hnext hHR2
    have it2 : w2.heap[li.b]? = some (.mapIter (some lm.b) es.length (idx.toArray.push e.born) es.length) := by
      rw [← hw2]; simp [setBlock, w1it]
    have m2 : w2.heap[lm.b]? = some (.map ents es.length) := by
      rw [← hw2]; simp only [setBlock, Array.getElem?_setIfInBounds, if_neg (Ne.symm hlm)]; exact w1m
    have sz55 := I.sz.2
    refine step_val (o := ⟨some 47, .next (.tmp 46) false, 0, "subset.go:97", #[], none⟩) (y := .tuple #[.bool true, e.key, e.val]) (w' := w2) rfl rfl (by simp only [execOp, ev46, Sem.run_bind, hnext, Result.andThen_ok, Sem.run_pure]) ?_
    generalize ha1 : a.put (some 47) (.tuple #[.bool true, e.key, e.val]) = a1
    have z1 : a1.tmps.size = a.tmps.size := by rw [← ha1, psz]
    have ev47 : a1.eval (.tmp 47) = .tuple #[.bool true, e.key, e.val] := by rw [← ha1]; exact put_same a _ (by omega)
    refine step_val (o := ⟨some 48, .extract (.tmp 47) 0, 4, "subset.go:97", #[⟨0, .data⟩], none⟩) (y := .bool true) (w' := w2) rfl rfl (by simp only [execOp, ev47, Sem.run_bind, run_extract0 (P := P) (y := .bool true) (xs := #[.bool true, e.key, e.val]) w2 rfl, Result.andThen_ok, Sem.run_pure]) ?_
    generalize ha2 : a1.put (some 48) (.bool true) = a2
    have z2 : a2.tmps.size = a.tmps.size := by rw [← ha2, psz, z1]
    refine wp_seq (wp_cond_true (by rw [← ha2]; exact put_same a1 _ (by omega)) (wp_skip (wp_block (wp_seq (wp_region ?_)))))
    show wpOps P reg11 _ [0, 1, 2] a2 w2
    have ev46' : a2.eval (.tmp 46) = .pointer (some ⟨li.b, 0, none⟩) := by
      show a2.tmps.getD 46 undef = _
      rw [← ha2, put_get _ _ (by decide), ← ha1, put_get _ _ (by decide)]
      exact I.f46
    have hbn : (ents.toList.map (·.born)).Nodup := by
      have : ents.toList.map (·.born) = List.range es.length := by
        apply List.ext_getElem?
        intro i
        rw [List.getElem?_map]
        cases he : ents.toList[i]? with
        | none =>
          have : es.length ≤ i := by have := List.getElem?_eq_none_iff.1 he; omega
          simp [this]
        | some e' =>
          obtain ⟨_, _, _, h3, h4⟩ := hat i e' he
          simp [h3, h4]
      rw [this]
      exact List.nodup_range
    have hent := run_entry_at (P := P) w2 li.b lm.b es.length idx.toArray ents es.length e it2 m2 hem hbn
    refine step_val (o := ⟨some 49, .entry (.tmp 46), 0, "subset.go:97", #[], none⟩) (y := .tuple #[e.key, e.val]) (w' := w2) rfl rfl (by simp only [execOp, ev46', Sem.run_bind, hent, Result.andThen_ok, Sem.run_pure]) ?_
    generalize ha3 : a2.put (some 49) (.tuple #[e.key, e.val]) = a3
    have z3 : a3.tmps.size = a.tmps.size := by rw [← ha3, psz, z2]
    have ev49 : a3.eval (.tmp 49) = .tuple #[e.key, e.val] := by rw [← ha3]; exact put_same a2 _ (by omega)
    refine step_val (o := ⟨some 50, .extract (.tmp 49) 0, 3, "subset.go:97", #[⟨0, .data⟩], none⟩) (y := e.key) (w' := w2) rfl rfl (by simp only [execOp, ev49, Sem.run_bind, run_extract0 (P := P) (y := e.key) (xs := #[e.key, e.val]) w2 rfl, Result.andThen_ok, Sem.run_pure]) ?_
    generalize ha4 : a3.put (some 50) e.key = a4
    have z4 : a4.tmps.size = a.tmps.size := by rw [← ha4, psz, z3]
    have ev50 : a4.eval (.tmp 50) = e.key := by rw [← ha4]; exact put_same a3 _ (by omega)
    refine step_val (o := ⟨some 8, .assign (.tmp 50), 3, "subset.go:97", #[⟨1, .data⟩, ⟨0, .phase⟩, ⟨1, .phase⟩], none⟩) (y := e.key) (w' := w2) rfl rfl (by simp only [execOp, ev50, Sem.run_pure]) ?_
    generalize ha5 : a4.put (some 8) e.key = a5
    have z5 : a5.tmps.size = a.tmps.size := by rw [← ha5, psz, z4]
    show (Code.region 12 reg12 false).wp P _ a5 w2
    refine wp_region ?_
    show wpOps P reg12 _ [0, 1, 2, 3, 4] a5 w2
    have ev8 : a5.eval (.tmp 8) = e.key := by rw [← ha5]; exact put_same a4 _ (by omega)
    generalize hvx : a5.eval (.tmp 7) = vx
    have dvx : Den U E1 (.s k 0 idx.length (.ex c)) vx := by
      have : vx = a.tmps.getD 7 undef := by
        rw [← hvx]
        show a5.tmps.getD 7 undef = _
        rw [← ha5, put_get _ _ (by decide), ← ha4, put_get _ _ (by decide), ← ha3, put_get _ _ (by decide), ← ha2, put_get _ _ (by decide), ← ha1, put_get _ _ (by decide)]
      rw [this]
      exact I.f7
    refine step_val (o := ⟨some 51, .move (.tmp 7), 148, "subset.go:98", #[], none⟩) (y := vx) (w' := w2) rfl rfl (by simp only [execOp, hvx, Sem.run_pure]) ?_
    generalize ha6 : a5.put (some 51) vx = a6
    have z6 : a6.tmps.size = a.tmps.size := by rw [← ha6, psz, z5]
    have ev8' : a6.eval (.tmp 8) = e.key := by
      rw [← ev8, ← ha6]; exact put_get a5 vx (by decide)
    refine step_val (o := ⟨some 52, .move (.tmp 8), 3, "subset.go:98", #[], none⟩) (y := e.key) (w' := w2) rfl rfl (by simp only [execOp, ev8', Sem.run_pure]) ?_
    generalize ha7 : a6.put (some 52) e.key = a7
    have z7 : a7.tmps.size = a.tmps.size := by rw [← ha7, psz, z6]
    have ev52 : a7.eval (.tmp 52) = .int .i64 (q : Nat) := by rw [← ha7, ← hkey]; exact put_same a6 _ (by omega)
    have hCt : COk P C U (fun b => b < w2.heap.size) w2 := hC0.at hHR2 fun b hb => by
      have := (hHR2.keep b hb).1
      have := hHR2.size
      omega
    obtain ⟨sz8, ag8, zz8, by8, e148⟩ := hT.k148
    have hbs : bs2 (C.ty 148) (some [(0, V.v (.int .i64 (q : Nat)))]) C .e 0 1 = .ok (.s 0 0 1 (.ex 1)) (HP.e.set 0 (some (.c 3 [V.v (.int .i64 (q : Nat))] 1))) 1 := by
      rw [hT.h148, e148]
      show bs3 (C.ty 3) _ _ _ _ _ = _
      rw [hT.h3, hT.z3]
      rfl
    obtain ⟨x3, w3, E3, b1, b2, b3, b4⟩ := buildSlice_sound hCt (HR.here (U := U) w2) (T := 148) (len := 1) (ps := some [(0, V.v (.int .i64 (q : Nat)))]) (qs := [(0, .int .i64 (q : Nat))]) (fun l' hl' => by cases hl'; exact ⟨_, _, rfl, by simp only [Den], rfl⟩) _ _ _ hbs
    refine step_val (o := ⟨some 53, .buildSlice 148 1 #[(0, .tmp 52)], 148, "subset.go:98", #[⟨1, .data⟩], none⟩) (y := x3) (w' := w3) rfl rfl (by
      have : (#[(0, Operand.tmp 52)] : Array (Nat × Operand)).map (fun p => (p.1, a7.eval p.2)) = #[(0, .int .i64 (q : Nat))] := by simp [ev52]
      simp only [execOp, Sem.run_bind]
      rw [this, b1]
      rfl) ?_
    generalize ha8 : a7.put (some 53) x3 = a8
    have z8 : a8.tmps.size = a.tmps.size := by rw [← ha8, psz, z7]
    have ev51 : a8.eval (.tmp 51) = vx := by
      show a8.tmps.getD 51 undef = _
      rw [← ha8, put_get _ _ (by decide), ← ha7, put_get _ _ (by decide), ← ha6]
      exact put_same a5 _ (by omega)
    have ev53 : a8.eval (.tmp 53) = x3 := by rw [← ha8]; exact put_same a7 _ (by omega)
    have hHR3 := hHR2.over (w' := w3) (fun b hb => (b4.keep b hb).2) b4.os b4.tape b4.output b4.size
    have it3 : w3.heap[li.b]? = some (.mapIter (some lm.b) es.length (idx.toArray.push e.born) es.length) := by
      rw [(b4.keep li.b (Array.getElem?_eq_some_iff.1 it2).1).2]; exact it2
    have hsr : src (.s 0 0 1 (.ex 1)) (HP.e.set 0 (some (.c 3 [V.v (.int .i64 (q : Nat))] 1))) i3.sz = .ok 1 [V.v (.int .i64 (q : Nat))] := by rw [hT.s3]; rfl
    obtain ⟨news, hsrc, hdn⟩ := src_sound (hC0.at hHR3 (B' := fun b => b < w2.heap.size) fun b hb => by
      have := (hHR2.keep b hb).1
      have := hHR2.size
      omega) (HR.mk b4.ent b4.inj b4.out b4.new (fun b hb => ⟨by have := b4.size; omega, rfl⟩) rfl rfl rfl (Nat.le_refl _) : HR U E3 _ _ (fun b => b < w2.heap.size) w3 w3) (tx := 148) (by rw [hT.h148, e148]; rfl) b3 hsr rfl
    obtain ⟨y1, ys1, rfl, d1, d2⟩ := hdn.cons_inv
    cases d2.nil_inv
    rw [d1.v_inv] at hsrc
    have hlen' : idx.length < es.length := by
      have := nodup_le es.length (idx ++ [j]) (List.nodup_append.2 ⟨I.nd, by simp, fun x hx y hy => by simp at hy; subst hy; exact fun he => hnew (he ▸ hx)⟩) fun i hi => by
        rcases List.mem_append.1 hi with hi | hi
        · exact I.lt i hi
        · simp at hi; omega
      simp at this
      omega
    have hHR3' : HR U E1 ((H.set ki none).set k (some (.c 3 (idx.map (fun i => (keysOf es).getD i (.v undef)) ++ l.drop idx.length) len))) n (fun b => B b ∨ b = li.b) w3 w3 := by
      refine ⟨hHR3.ent, hHR3.inj, fun k' l' o' hk' hl' hb => ?_, hHR3.new, fun b hb => ⟨?_, rfl⟩, rfl, rfl, rfl, Nat.le_refl _⟩
      · rcases hb with hb | hb
        · exact hHR3.out k' l' o' hk' hl' hb
        · exact I.nl k' o' l' hk' hl' hb
      · rcases hb with hb | rfl
        · have := (hHR3.keep b hb).1
          have := hHR3.size
          omega
        · exact (Array.getElem?_eq_some_iff.1 it3).1
    have hCp : COk P C U (fun b => B b ∨ b = li.b) w3 := hC0.at hHR3 fun b hb => .inl hb
    obtain ⟨x4, w4, E4, c1, c2, c3, c4⟩ := put_key (ty := 148) (q := q) hCp hT hHR3' q6 (by rw [HP.get_set _ _ _ q6, if_pos rfl]) (by simp; omega) e3.symm (by omega) dvx hsrc
    refine step_val (o := ⟨some 54, .call ⟨.builtin .append, #[.tmp 51, .tmp 53], #[148, 148]⟩, 148, "subset.go:98", #[⟨0, .data⟩, ⟨2, .data⟩], none⟩) (y := x4) (w' := w4) rfl rfl (by
      have : (#[Operand.tmp 51, Operand.tmp 53] : Array Operand).map a8.eval = #[vx, x3] := by simp [ev51, ev53]
      simp only [execOp, resolve, Sem.run_bind, Sem.run_pure, Result.andThen_ok, invoke, builtin, this, c1]) ?_
    generalize ha9 : a8.put (some 54) x4 = a9
    have z9 : a9.tmps.size = a.tmps.size := by rw [← ha9, psz, z8]
    have ev54 : a9.eval (.tmp 54) = x4 := by rw [← ha9]; exact put_same a8 _ (by omega)
    refine step_val (o := ⟨some 7, .assign (.tmp 54), 148, "subset.go:98", #[⟨3, .data⟩, ⟨3, .chain⟩, ⟨0, .phase⟩, ⟨1, .phase⟩, ⟨2, .phase⟩, ⟨3, .phase⟩], none⟩) (y := x4) (w' := w4) rfl rfl (by simp only [execOp, ev54, Sem.run_pure]) ?_
    have it4 : w4.heap[li.b]? = some (.mapIter (some lm.b) es.length (idx ++ [j]).toArray es.length) := by
      rw [(c4.keep li.b (.inr rfl)).2, it3, hborn]
      simp
    have hcells : (idx.map (fun i => (keysOf es).getD i (.v undef)) ++ l.drop idx.length).take idx.length ++ [V.v (.int .i64 (q : Nat))] ++ (idx.map (fun i => (keysOf es).getD i (.v undef)) ++ l.drop idx.length).drop (idx.length + 1) = (idx ++ [j]).map (fun i => (keysOf es).getD i (.v undef)) ++ l.drop (idx ++ [j]).length := by
      have hk1 : (keysOf es).getD j (.v undef) = .v (.int .i64 (q : Nat)) := by rw [List.getD_eq_getElem?_getD, hq]; rfl
      rw [List.take_left' (by simp), List.map_append, List.map_singleton, hk1, List.drop_append, List.drop_of_length_le (by simp)]
      simp [Nat.add_comm]
    rw [hcells] at c4
    refine ⟨⟨idx ++ [j], E4, ?_⟩, ?_⟩
    · have gets : ∀ (G : HP) (x y : O) (i : Nat) (o : O), ((G.set k (some x)).set k (some y)).get i = some o ↔ (G.set k (some y)).get i = some o := fun G x y i o => by
        simp only [HP.get_set _ _ _ q6]
        by_cases hi : i = k
        · simp only [if_pos hi]
        · simp only [if_neg hi]
      have c5 := (hHR3.back (fun b hb => .inl hb) c4).drop (H' := (H.set ki none).set k (some (.c 3 ((idx ++ [j]).map (fun i => (keysOf es).getD i (.v undef)) ++ l.drop (idx ++ [j]).length) len))) fun i o hi => (gets _ _ _ i o).2 hi
      have old : ∀ t, t ∉ colL → t ≠ 7 → (a9.put (some 7) x4).tmps.getD t undef = a.tmps.getD t undef := fun t h1 h2 => by
        have ne : ∀ u, u ∈ colL → u ≠ t := fun u hu he => h1 (he ▸ hu)
        rw [put_get _ _ (Ne.symm h2), ← ha9, put_get _ _ (ne 54 (by decide)), ← ha8, put_get _ _ (ne 53 (by decide)), ← ha7, put_get _ _ (ne 52 (by decide)), ← ha6, put_get _ _ (ne 51 (by decide)), ← ha5, put_get _ _ (ne 8 (by decide)), ← ha4, put_get _ _ (ne 50 (by decide)), ← ha3, put_get _ _ (ne 49 (by decide)), ← ha2, put_get _ _ (ne 48 (by decide)), ← ha1, put_get _ _ (ne 47 (by decide))]
      refine ⟨List.nodup_append.2 ⟨I.nd, by simp, fun x hx y hy => by simp at hy; subst hy; exact fun he => hnew (he ▸ hx)⟩, fun i hi => ?_, I.le.trans c2, c5, fun t v ht h1 h2 => ?_, ?_, ?_, it4, ⟨by rw [psz, z9]; exact I.sz.1, by rw [psz, z9]; exact I.sz.2⟩, ?_, I.nB, fun i o l' hi hl' => ?_⟩
      · rcases List.mem_append.1 hi with hi | hi
        · exact I.lt i hi
        · simp at hi; omega
      · rw [old t h1 h2]
        exact (I.fr t v ht h1 h2).mono c2
      · rw [put_same _ _ (by omega)]
        simpa using c3
      · rw [old 46 (by decide) (by decide)]
        exact I.f46
      · have : (a9.put (some 7) x4).defers = a.defers := by
          rw [put_def, ← ha9, put_def, ← ha8, put_def, ← ha7, put_def, ← ha6, put_def, ← ha5, put_def, ← ha4, put_def, ← ha3, put_def, ← ha2, put_def, ← ha1, put_def]
        rw [this]
        exact I.df.mono c2
      · intro hb
        exact c4.out i l' o ((gets _ _ _ i o).2 hi) hl' (.inr hb)
    · rw [it4, I.it]
      simp
      omega
end
end Go.CE
end
section
namespace Go.Proofs
open Go.Shelf
def Tryz.lays189_ren : Go.Shelf.Ren := ⟨fun | 189 => 259 | 125 => 273 | 257 => 272 | 128 => 293 | 129 => 294 | 294 => 284 | 295 => 285 | 296 => 286 | 297 => 287 | 298 => 288 | 299 => 289 | 216 => 290 | 300 => 291 | 301 => 292 | 328 => 302 | 329 => 303 | 330 => 304 | 331 => 305 | 332 => 306 | 215 => 307 | 343 => 314 | n => n, fun | 28 => 148 | 3 => 3 | 46 => 210 | 0 => 0 | 51 => 407 | 53 => 207 | 4 => 4 | 183 => 400 | 182 => 399 | 131 => 199 | 5 => 5 | 9 => 9 | 218 => 416 | 222 => 420 | 228 => 428 | 229 => 33 | n => n, fun | n => n⟩
theorem Tryz.lays189 : Go.Proofs.Lays.n189 Tryz.prog Tryz.lays189_ren := {
  mixed := by kernel_rfl
  f125 := Tryz.func273.trans (congrArg some (by kernel_rfl))
  f128 := Tryz.func293.trans (congrArg some (by kernel_rfl))
  f129 := Tryz.func294.trans (congrArg some (by kernel_rfl))
  f189 := Tryz.func259.trans (congrArg some (by kernel_rfl))
  f215 := Tryz.func307.trans (congrArg some (by kernel_rfl))
  f216 := Tryz.func290.trans (congrArg some (by kernel_rfl))
  f257 := Tryz.func272.trans (congrArg some (by kernel_rfl))
  f294 := Tryz.func284.trans (congrArg some (by kernel_rfl))
  f295 := Tryz.func285.trans (congrArg some (by kernel_rfl))
  f296 := Tryz.func286.trans (congrArg some (by kernel_rfl))
  f297 := Tryz.func287.trans (congrArg some (by kernel_rfl))
  f298 := Tryz.func288.trans (congrArg some (by kernel_rfl))
  f299 := Tryz.func289.trans (congrArg some (by kernel_rfl))
  f300 := Tryz.func291.trans (congrArg some (by kernel_rfl))
  f301 := Tryz.func292.trans (congrArg some (by kernel_rfl))
  f328 := Tryz.func302.trans (congrArg some (by kernel_rfl))
  f329 := Tryz.func303.trans (congrArg some (by kernel_rfl))
  f330 := Tryz.func304.trans (congrArg some (by kernel_rfl))
  f331 := Tryz.func305.trans (congrArg some (by kernel_rfl))
  f332 := Tryz.func306.trans (congrArg some (by kernel_rfl))
  f343 := Tryz.func314.trans (congrArg some (by kernel_rfl))
  t0 := Tryz.underlying0
  a0 := Tryz.isAgg0
  z0 := Tryz.sizeOf0
  v0 := Tryz.zeroValue0
  t3 := Tryz.underlying3
  a3 := Tryz.isAgg3
  z3 := Tryz.sizeOf3
  v3 := Tryz.zeroValue3
  t4 := Tryz.underlying4
  a4 := Tryz.isAgg4
  z4 := Tryz.sizeOf4
  v4 := Tryz.zeroValue4
  t5 := Tryz.underlying5
  a5 := Tryz.isAgg5
  z5 := Tryz.sizeOf5
  v5 := Tryz.zeroValue5
  t9 := Tryz.underlying9
  a9 := Tryz.isAgg9
  z9 := Tryz.sizeOf9
  v9 := Tryz.zeroValue9
  t28 := Tryz.underlying148
  a28 := Tryz.isAgg148
  z28 := Tryz.sizeOf148
  v28 := Tryz.zeroValue148
  t46 := Tryz.underlying210
  a46 := Tryz.isAgg210
  z46 := Tryz.sizeOf210
  v46 := Tryz.zeroValue210
  t51 := Tryz.underlying407
  a51 := Tryz.isAgg407
  z51 := Tryz.sizeOf407
  v51 := Tryz.zeroValue407
  t53 := Tryz.underlying207
  a53 := Tryz.isAgg207
  z53 := Tryz.sizeOf207
  v53 := Tryz.zeroValue207
  t131 := Tryz.underlying199
  a131 := Tryz.isAgg199
  z131 := Tryz.sizeOf199
  v131 := Tryz.zeroValue199
  t182 := Tryz.underlying399
  a182 := Tryz.isAgg399
  z182 := Tryz.sizeOf399
  v182 := Tryz.zeroValue399
  t183 := Tryz.underlying400
  a183 := Tryz.isAgg400
  z183 := Tryz.sizeOf400
  v183 := Tryz.zeroValue400
  t218 := Tryz.underlying416
  a218 := Tryz.isAgg416
  z218 := Tryz.sizeOf416
  v218 := Tryz.zeroValue416
  t222 := Tryz.underlying420
  a222 := Tryz.isAgg420
  z222 := Tryz.sizeOf420
  v222 := Tryz.zeroValue420
  t228 := Tryz.underlying428
  a228 := Tryz.isAgg428
  z228 := Tryz.sizeOf428
  v228 := Tryz.zeroValue428
  t229 := Tryz.underlying33
  a229 := Tryz.isAgg33
  z229 := Tryz.sizeOf33
  v229 := Tryz.zeroValue33 }
open Go.Sort Go.RowKit in
theorem Tryz.slices_Sort_int (blk off cap : Nat) (zs : List Int) (w : World) (hH : Holds (Value.int .i64) w blk off zs.toArray) (hblk : blk < w.heap.size) (hsz : zs.length < 4611686018427387904) :
    Calls Tryz.prog 259 #[.slice (some ⟨blk, off, none⟩) zs.length cap] w fun e w' =>
      e = .returned (.tuple #[]) ∧ ∃ n os, w' = grow (putRow (Value.int .i64) (Sort.ahead w n) blk off (zs.mergeSort fun x y => decide (x ≤ y)).toArray) os := Any.slices_Sort_int Tryz.lays189 blk off cap zs w hH hblk hsz
end Go.Proofs
end
section
namespace Go.Proofs
open Go.Shelf
def Tryz.lays217_ren : Go.Shelf.Ren := ⟨fun | 217 => 215 | 266 => 241 | n => n, fun | 9 => 9 | 5 => 5 | 3 => 3 | n => n, fun | n => n⟩
theorem Tryz.lays217 : Go.Proofs.Lays.n217 Tryz.prog Tryz.lays217_ren := {
  mixed := by kernel_rfl
  f217 := Tryz.func215.trans (congrArg some (by kernel_rfl))
  f266 := Tryz.func241.trans (congrArg some (by kernel_rfl))
  t3 := Tryz.underlying3
  a3 := Tryz.isAgg3
  z3 := Tryz.sizeOf3
  v3 := Tryz.zeroValue3
  t5 := Tryz.underlying5
  a5 := Tryz.isAgg5
  z5 := Tryz.sizeOf5
  v5 := Tryz.zeroValue5
  t9 := Tryz.underlying9
  a9 := Tryz.isAgg9
  z9 := Tryz.sizeOf9
  v9 := Tryz.zeroValue9 }
open Go.RowKit Go.Lib in
theorem Tryz.stringslite_IndexByte (s : ByteArray) (c : Int) (w : World) :
    Calls Tryz.prog 215 #[.string s, .int .u8 c] w fun e w' => e = .returned (.int .i64 (Lib.indexByte s.data.toList c.toNat.toUInt8)) ∧ w' = w := Any.stringslite_IndexByte Tryz.lays217 s c w
end Go.Proofs
end
section
namespace Go.CE
open Go.RowKit Go.Sort
section
variable {C : Cfg} {U : Nat → Value} {E E' : Env} {H H' : HP} {n n' : Nat} {B : Nat → Prop} {W w w' : World} {x : V}
theorem insI_perm (x : Nat) : ∀ l : List Nat, (insI x l).Perm (x :: l)
  | [] => .refl _
  | y :: r => by
    unfold insI
    cases Nat.ble x y with
    | true => exact .refl _
    | false => exact ((insI_perm x r).cons y).trans (.swap x y r)
theorem sortN_perm : ∀ l : List Nat, (sortN l).Perm l
  | [] => .refl _
  | x :: r => (insI_perm x _).trans ((sortN_perm r).cons x)
theorem insI_sorted (x : Nat) : ∀ {l : List Nat}, l.Pairwise (· ≤ ·) → (insI x l).Pairwise (· ≤ ·)
  | [], _ => List.pairwise_singleton _ _
  | y :: r, h => by
    unfold insI
    cases hb : Nat.ble x y with
    | true =>
      have hxy := Nat.le_of_ble_eq_true hb
      refine List.Pairwise.cons (fun z hz => ?_) h
      rcases List.mem_cons.1 hz with rfl | hz
      · exact hxy
      · exact Nat.le_trans hxy (List.rel_of_pairwise_cons h hz)
    | false =>
      have hyx : y ≤ x := by
        rcases Nat.lt_or_ge y x with h | h
        · exact Nat.le_of_lt h
        · rw [Nat.ble_eq_true_of_le h] at hb; cases hb
      refine List.Pairwise.cons (fun z hz => ?_) (insI_sorted x (List.Pairwise.of_cons h))
      rcases List.mem_cons.1 ((insI_perm x r).mem_iff.1 hz) with rfl | hz
      · exact hyx
      · exact List.rel_of_pairwise_cons h hz
theorem sortN_sorted : ∀ l : List Nat, (sortN l).Pairwise (· ≤ ·)
  | [] => .nil
  | x :: r => insI_sorted x (sortN_sorted r)
theorem merge_eq {zs : List Int} {ns : List Nat} (h : zs.Perm (ns.map fun n : Nat => (n : Int))) : (zs.mergeSort fun x y => decide (x ≤ y)) = (sortN ns).map fun n : Nat => (n : Int) := by
  have tr : ∀ a b c : Int, (decide (a ≤ b)) = true → (decide (b ≤ c)) = true → (decide (a ≤ c)) = true := fun a b c h1 h2 => by simp only [decide_eq_true_eq] at *; omega
  have to : ∀ a b : Int, (decide (a ≤ b) || decide (b ≤ a)) = true := fun a b => by simp only [Bool.or_eq_true, decide_eq_true_eq]; omega
  refine List.Perm.eq_of_pairwise (le := fun a b => decide (a ≤ b) = true) (fun a b _ _ h1 h2 => ?_) (List.pairwise_mergeSort tr to zs) ?_ ((List.mergeSort_perm zs _).trans (h.trans ((sortN_perm ns).map _).symm))
  · simp only [decide_eq_true_eq] at h1 h2; omega
  · refine List.pairwise_map.2 ((sortN_sorted ns).imp fun {a b} hab => ?_)
    simp only [decide_eq_true_eq]
    omega
theorem nats_den {l : List V} {ns : List Nat} (h : natsI l = some ns) {xs : List Value} (hd : DenL U E l xs) : xs = ns.map fun n : Nat => Value.int .i64 (n : Int) := by
  apply List.ext_getElem?
  intro i
  rw [List.getElem?_map]
  cases hl : l[i]? with
  | none =>
    have h1 := List.getElem?_eq_none_iff.1 hl
    rw [List.getElem?_eq_none_iff.2 (by rw [hd.len]; exact h1), List.getElem?_eq_none_iff.2 (by rw [natsI_len h]; exact h1)]
    rfl
  | some v =>
    obtain ⟨q, h1, rfl⟩ := natsI_get h i v hl
    obtain ⟨y, h2, h3⟩ := hd.get hl
    rw [h2, h1, h3.v_inv]
    rfl
def natG (n : Nat) : V := .v (.int .i64 (n : Int))
def natF : V → Nat
  | .v (.int _ (.ofNat n)) => n
  | _ => 0
theorem natsI_map : ∀ {l : List V} {ns : List Nat}, natsI l = some ns → l = ns.map natG
  | [], ns, h => by simp only [natsI, Option.some.injEq] at h; subst h; rfl
  | y :: r, ns, h => by
    rw [natsI] at h
    obtain ⟨q, qs, h1, h2, rfl⟩ := conO_inv h
    unfold natI at h1
    split at h1
    · simp only [Option.some.injEq] at h1
      subst h1
      rw [natsI_map h2]
      rfl
    · cases h1
theorem map_natG : ∀ (ns : List Nat), natsI (ns.map natG) = some ns
  | [] => rfl
  | n :: r => by
    rw [List.map_cons, natsI, map_natG r]
    rfl
theorem natsI_perm {l l' : List V} {ns : List Nat} (h : natsI l = some ns) (hp : l'.Perm l) : ∃ ns', natsI l' = some ns' ∧ ns'.Perm ns := by
  have hl := natsI_map h
  refine ⟨l'.map natF, ?_, ?_⟩
  · have : l' = (l'.map natF).map natG := by
      rw [List.map_map]
      conv => lhs; rw [← List.map_id l']
      refine List.map_congr_left fun v hv => ?_
      have := hp.mem_iff.1 hv
      rw [hl] at this
      obtain ⟨n, _, rfl⟩ := List.mem_map.1 this
      rfl
    conv => lhs; rw [this]
    exact map_natG _
  · have := hp.map natF
    rw [hl, List.map_map] at this
    have e : ns.map (natF ∘ natG) = ns := by
      conv => rhs; rw [← List.map_id ns]
      rfl
    rw [e] at this
    exact this
theorem srt_inv {o : Option O} {k m : Nat} (h : srt1 o k m H n = .ok x H' n') : ∃ T l ns, o = some (.q T l) ∧ natsI l = some ns ∧ okK k = true ∧ m = l.length ∧ okK m = true ∧ x = .t [] ∧ H' = H.set k (some (.c T ((sortN ns).map V.nat) (lng ns))) ∧ n' = n := by
  unfold srt1 at h
  split at h
  · rename_i T l
    cases hn : natsI l with
    | none => rw [hn] at h; cases h
    | some ns =>
      rw [hn] at h
      cases hb : and (okK k) (and (Nat.beq m (lng l)) (okK m)) with
      | false => rw [hb] at h; cases h
      | true =>
        rw [hb] at h
        simp only [srt2, R.ok.injEq] at h
        obtain ⟨h1, h2⟩ := Bool.and_eq_true_iff.1 hb
        obtain ⟨h2, h3⟩ := Bool.and_eq_true_iff.1 h2
        exact ⟨T, l, ns, rfl, hn, h1, (Nat.eq_of_beq_eq_true h2).trans (lng_eq l), h3, h.1.symm, h.2.1.symm, h.2.2.symm⟩
  · cases h
theorem hook_sort : HookOk Go.Proofs.Tryz.prog C U 259 hkSort := by
  intro B W hC l H n x H' n' h E w xs hr hd
  unfold hkSort at h
  split at h
  · rename_i k m c
    obtain ⟨T, vs, ns, hg, hn, hok, rfl, hokm, rfl, rfl, rfl⟩ := srt_inv h
    obtain ⟨y, ys, rfl, hy, hd⟩ := hd.cons_inv
    cases hd.nil_inv
    simp only [Den] at hy
    obtain ⟨lk, he, _, rfl⟩ := hy
    obtain ⟨lk', he', vs', hp, cs, us, junk, h1, h2, h3, h4⟩ := hr.ent k _ hg
    rw [he] at he'
    cases he'
    obtain ⟨ns', hn', hp'⟩ := natsI_perm hn hp
    have hus := nats_den hn' h3
    have hl' : ns'.length = vs.length := by rw [hp'.length_eq, natsI_len hn]
    have hz : (ns'.map fun n : Nat => (n : Int)).length = vs.length := by simpa using hl'
    have hcell : ∀ j, j < ns'.length → cs.toList[lk.d + j]? = some (.int .i64 ((ns'[j]?.getD 0 : Nat) : Int)) := fun j hj => by
      rw [← List.getElem?_drop, h2, hus, List.getElem?_append_left (by simpa using hj)]
      simp [hj]
    have hH : Holds (Value.int .i64) w lk.b (lk.d + 0) (ns'.map fun n : Nat => (n : Int)).toArray := by
      intro j hj
      have hj' : j < ns'.length := by simpa using hj
      refine ⟨?_, ?_⟩
      · have := hcell j hj'
        simp only [World.cell?, h1]
        rw [Nat.add_zero]
        simp only [Array.getElem?_toList] at this
        rw [this]
        simp [hj']
      · simp [World.frozen?, h1]
    have hlt : lk.b < w.heap.size := (Array.getElem?_eq_some_iff.1 h1).1
    have hsize : vs.length ≤ cs.size := by
      have := congrArg List.length h2
      rw [hus] at this
      simp at this
      omega
    have hsm : (ns'.map fun n : Nat => (n : Int)).length < 4611686018427387904 := by
      have := okK_lt hokm
      omega
    have hct := Go.Proofs.Tryz.slices_Sort_int lk.b (lk.d + 0) (capOf lk 0 c) (ns'.map fun n : Nat => (n : Int)) w hH hlt hsm
    rw [hz] at hct
    refine .inr ⟨Go.Proofs.Tryz.call259 _ w, hct.mono fun e w' he => ?_⟩
    obtain ⟨rfl, N, os, rfl⟩ := he
    refine ⟨E, .refl E, ?_, by simp only [Den]; exact ⟨[], .nil, rfl⟩⟩
    have hmg : (ns'.map fun n : Nat => (n : Int)).mergeSort (fun x y => decide (x ≤ y)) = (sortN ns).map fun n : Nat => (n : Int) := merge_eq (hp'.map _)
    rw [hmg]
    have hsl : (sortN ns).length = vs.length := by rw [(sortN_perm ns).length_eq, natsI_len hn]
    have hblk : (putRow (Value.int .i64) (Sort.ahead w N) lk.b (lk.d + 0) ((sortN ns).map fun n : Nat => (n : Int)).toArray).heap[lk.b]? = some (.cells (putCells (Value.int .i64) (lk.d + 0) ((sortN ns).map fun n : Nat => (n : Int)).toArray cs) T (0, 0)) := by
      simp only [putRow, mapBlock, Sort.ahead, Array.getElem?_modify, if_true, h1, Option.map_some, onCells]
    refine (hr.turn (k := k) (o' := .c T ((sortN ns).map V.nat) (lng ns)) (w' := putRow (Value.int .i64) (Sort.ahead w N) lk.b (lk.d + 0) ((sortN ns).map fun n : Nat => (n : Int)).toArray) hg hok he ⟨?_, _, (sortN ns).map (fun n : Nat => Value.int .i64 (n : Int)), junk, hblk, ?_, ?_, ?_⟩ (fun b hb => ?_) (by rw [size_putRow]; exact Nat.le_refl _) rfl rfl rfl).keepW ⟨rfl, rfl, rfl, by simp only [grow, Array.size_append]; omega, fun b hb _ => by simp only [grow]; exact Array.getElem?_append_left hb⟩
    · rw [lng_eq, List.length_map, (sortN_perm ns).length_eq]
    · apply List.ext_getElem?
      intro j
      rw [List.getElem?_drop]
      simp only [putCells, Array.getElem?_toList, Array.getElem?_mapIdx, Nat.add_zero]
      have hcs : cs[lk.d + j]? = (us ++ junk)[j]? := by rw [← h2, List.getElem?_drop, Array.getElem?_toList]
      rw [hcs]
      by_cases hj : j < vs.length
      · rw [List.getElem?_append_left (by rw [hus]; simp; omega), List.getElem?_append_left (by simp; omega)]
        have hju : j < us.length := by rw [hus]; simp; omega
        rw [List.getElem?_eq_getElem hju]
        have c1 : lk.d ≤ lk.d + j ∧ lk.d + j < lk.d + ((sortN ns).map fun n : Nat => (n : Int)).toArray.size := by simp; omega
        simp only [Option.map_some, if_pos c1]
        have hjs : j < (sortN ns).length := by omega
        simp [hjs]
      · rw [List.getElem?_append_right (by rw [hus]; simp; omega), List.getElem?_append_right (by simp; omega)]
        have e1 : us.length = ((sortN ns).map fun n : Nat => Value.int .i64 (n : Int)).length := by rw [hus]; simp; omega
        rw [e1]
        cases hjk : junk[j - ((sortN ns).map fun n : Nat => Value.int .i64 (n : Int)).length]? with
        | none => rfl
        | some v =>
          have c1 : ¬ (lk.d ≤ lk.d + j ∧ lk.d + j < lk.d + ((sortN ns).map fun n : Nat => (n : Int)).toArray.size) := by simp; omega
          simp only [Option.map_some, if_neg c1]
    · have hd : ∀ l : List Nat, DenL U E (l.map V.nat) (l.map fun n : Nat => Value.int .i64 (n : Int)) := fun l => by
        induction l with
        | nil => exact .nil
        | cons a r ih => exact .cons (by simp only [V.nat, Den]; rfl) ih
      exact hd _
    · simp only [putCells, Array.size_mapIdx]
      exact h4
    · simp only [putRow, mapBlock, Sort.ahead, Array.getElem?_modify, if_neg (Ne.symm hb)]
  · cases h
theorem idx_cons (b : UInt8) (r : List UInt8) (c i : Nat) : idx (b :: r) c i = if Nat.beq b.toNat c = true then (i : Int) else idx r c (i + 1) := by
  show (match Nat.beq b.toNat c with | true => Int.ofNat i | false => idx r c (Nat.succ i)) = _
  split <;> rename_i h <;> rw [h] <;> rfl
theorem idx_eq : ∀ (l : List UInt8) (c i : Nat), c < 256 → idx l c i = if Lib.indexByte l c.toUInt8 = -1 then -1 else Lib.indexByte l c.toUInt8 + i
  | [], c, i, _ => by simp [idx, Lib.indexByte]
  | b :: r, c, i, hc => by
    have hb : Nat.beq b.toNat c = (b == c.toUInt8) := by
      by_cases h : b.toNat = c
      · subst h
        simp
      · have h1 : Nat.beq b.toNat c = false := Bool.eq_false_iff.2 fun hb => h (Nat.eq_of_beq_eq_true hb)
        rw [h1]
        symm
        simp only [beq_eq_false_iff_ne, ne_eq]
        intro he
        subst he
        exact h (by simp; omega)
    rw [idx_cons, hb]
    simp only [Lib.indexByte]
    by_cases hbc : (b == c.toUInt8) = true
    · simp only [if_pos hbc]; simp
    · simp only [if_neg hbc]
      rw [idx_eq r c (i + 1) hc]
      by_cases h : Lib.indexByte r c.toUInt8 = -1
      · simp [h]
      · have h0 : ∀ l : List UInt8, ∀ d, -1 ≤ Lib.indexByte l d := fun l d => by
          induction l with
          | nil => simp [Lib.indexByte]
          | cons a l ih => simp only [Lib.indexByte]; split <;> (try split) <;> omega
        have := h0 r c.toUInt8
        have h2 : ¬ (Lib.indexByte r c.toUInt8 + 1 = -1) := by omega
        simp [h, h2]
        omega
theorem hook_index : HookOk Go.Proofs.Tryz.prog C U 215 hkI := by
  intro B W hC l H n x H' n' h E w xs hr hd
  unfold hkI at h
  split at h
  · rename_i s c
    cases hc : toB c with
    | none => rw [hc] at h; cases h
    | some q =>
      rw [hc] at h
      simp only [hkI2, R.ok.injEq] at h
      obtain ⟨rfl, rfl, rfl⟩ := h
      obtain ⟨y1, r1, rfl, g1, hd⟩ := hd.cons_inv
      obtain ⟨y2, r2, rfl, g2, hd⟩ := hd.cons_inv
      cases hd.nil_inv
      obtain ⟨rfl, l2⟩ := toB_inv hc
      rw [g1.v_inv, g2.v_inv]
      refine .inr ⟨Go.Proofs.Tryz.call215 _ w, (Go.Proofs.Tryz.stringslite_IndexByte s (q : Nat) w).mono fun e w' he => ?_⟩
      obtain ⟨rfl, rfl⟩ := he
      refine ⟨E, .refl E, hr, ?_⟩
      simp only [iV, Den]
      rw [idx_eq _ _ _ l2]
      simp only [Int.toNat_natCast]
      by_cases h : Lib.indexByte s.data.toList q.toUInt8 = -1
      · simp [h]
      · simp [h]
  · cases h
end
end Go.CE
end
