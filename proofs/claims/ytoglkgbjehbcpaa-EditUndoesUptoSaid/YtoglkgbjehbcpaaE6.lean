/-
  LE, the engine, part 6: conversions, slices, indices, interfaces, functions, building, make, len, append.
-/
import Derived.Test.YtoglkgbjehbcpaaE5
namespace Go.LE
open Go.RowKit
set_option linter.unusedSimpArgs false
set_option linter.unusedVariables false

section
variable {P : Program} {W : World} {bs : List Nat} {κ : Nat} {E : Nat → Value} {F : Nat → List Nat} {h : Nat → Option Ent} {w : World} {K : Nat → Prop}

/-! ### convert -/
def semConvert (P : Program) (src dst : TypeId) : List SV → R
  | [.v (.int _ n)] => match P.underlying src, P.underlying dst with
    | some _, some (.int k) => .ok (.v (.int k (k.wrap n)))
    | _, _ => .bad
  | [.v (.string s)] => match P.underlying src, P.underlying dst with
    | some .string, some .string => .ok (.v (.string s))
    | _, _ => .bad
  | _ => .bad
theorem convert_good {src dst : TypeId} {x : SV} (hs : HeapSat W bs E F h w) (hside : (semConvert P src dst [x]).side) :
    Good P W bs κ E h (semConvert P src dst [x]) ((do pure (.value (← convert src dst (den E x))) : Sem Next).run P w) := by
  revert hside
  unfold semConvert
  split
  · rename_i k n heq
    simp only [List.cons.injEq, and_true] at heq
    subst heq
    split
    · rename_i d k' h1 h2
      intro _
      refine good_value hs rfl rfl ?_
      simp [R.ok, den, convert, run_underlying h1, run_underlying h2, Conv.intToInt]
    · exact fun hf => hf.elim
  · rename_i s heq
    simp only [List.cons.injEq, and_true] at heq
    subst heq
    split
    · rename_i h1 h2
      intro _
      refine good_value hs rfl rfl ?_
      simp [R.ok, den, convert, run_underlying h1, run_underlying h2]
    · exact fun hf => hf.elim
  · exact fun hf => hf.elim

/-! ### slice -/
def sliceArgs : Bool → Bool → List SV → Option (Option Int × Option Int)
  | true, true, [.v (.int _ a), .v (.int _ b)] => some (some a, some b)
  | true, false, [.v (.int _ a)] => some (some a, none)
  | false, true, [.v (.int _ b)] => some (none, some b)
  | false, false, [] => some (none, none)
  | _, _, _ => none

def semSliceS (P : Program) (T : TypeId) (s : ByteArray) (a b : Int) : R :=
  .req (P.underlying T = some .string ∧ 0 ≤ a ∧ a ≤ b ∧ b ≤ s.size) (.v (.string (s.extract a.toNat b.toNat)))
def semSliceX (P : Program) (T : TypeId) (ao : Option Addr) (n c : Nat) (a b : Int) : R :=
  match P.underlying T with
  | some (.slice e) => match ts P e with
    | some sz => .req (0 ≤ a ∧ a ≤ b ∧ b ≤ c) (.v (.slice (if c = a.toNat then ao else ao.map (·.add (a.toNat * sz))) (b.toNat - a.toNat) (c - a.toNat)))
    | none => .bad
  | _ => .bad

def semSlice (P : Program) (T : TypeId) (lo hi mx : Bool) : List SV → R
  | .v (.string s) :: rest => match mx, sliceArgs lo hi rest with
    | false, some (a, b) => semSliceS P T s (a.getD 0) (b.getD s.size)
    | _, _ => .bad
  | .v (.slice ao n c) :: rest => match mx, sliceArgs lo hi rest with
    | false, some (a, b) => semSliceX P T ao n c (a.getD 0) (b.getD n)
    | _, _ => .bad
  | _ => .bad

/-- the bounds as the operation gets them -/
def argOf (l : List SV) (i : Nat) (E : Nat → Value) : Option Value := l[i]?.map (den E)

theorem sliceBounds_run (isSlice : Bool) (len cap : Nat) {lo hi : Bool} {rest : List SV} {a b : Option Int} (ha : sliceArgs lo hi rest = some (a, b)) (E : Nat → Value)
    (h0 : 0 ≤ a.getD 0) (h1 : a.getD 0 ≤ b.getD len) (h2 : b.getD len ≤ cap) (w : World) :
    (Instr.sliceBounds isSlice len cap (if lo then argOf rest 0 E else none) (if hi then argOf rest (if lo then 1 else 0) E else none) none).run P w = .ok ((a.getD 0).toNat, (b.getD len).toNat, cap) w := by
  unfold sliceArgs at ha
  split at ha <;> simp only [Option.some.injEq, Prod.mk.injEq, reduceCtorEq] at ha <;> obtain ⟨rfl, rfl⟩ := ha <;>
    simp only [Option.getD_some, Option.getD_none] at h0 h1 h2 ⊢
  · rename_i k x k' y
    obtain ⟨y, rfl⟩ := Int.eq_ofNat_of_zero_le (show 0 ≤ y by omega)
    have e1 : (0 ≤ y ∧ y ≤ (cap : Int)) := ⟨by omega, h2⟩
    have e2 : (0 ≤ x ∧ x ≤ (y : Int)) := ⟨h0, h1⟩
    have e1' : (y : Int) ≤ cap := h2
    simp [Instr.sliceBounds, argOf, den, Instr.sliceBound, asIntOf, e1', e2, Int.natCast_nonneg]
    try omega
  · rename_i k x
    have e2 : (0 ≤ x ∧ x ≤ (len : Int)) := ⟨h0, h1⟩
    simp [Instr.sliceBounds, argOf, den, Instr.sliceBound, asIntOf, e2]
  · rename_i k y
    have e1 : (0 ≤ y ∧ y ≤ (cap : Int)) := ⟨by omega, h2⟩
    simp [Instr.sliceBounds, argOf, den, Instr.sliceBound, asIntOf, e1]
  · simp [Instr.sliceBounds]

theorem slice_good {T : TypeId} {lo hi mx : Bool} {x : SV} {rest : List SV} (hs : HeapSat W bs E F h w) (hside : (semSlice P T lo hi mx (x :: rest)).side) :
    Good P W bs κ E h (semSlice P T lo hi mx (x :: rest)) ((do pure (.value (← Instr.sliceAt T (den E x) (if lo then argOf rest 0 E else none) (if hi then argOf rest (if lo then 1 else 0) E else none) none)) : Sem Next).run P w) := by
  revert hside
  unfold semSlice
  split
  · rename_i s rest' heq
    simp only [List.cons.injEq] at heq
    obtain ⟨rfl, rfl⟩ := heq
    split
    · rename_i a b hab
      rintro ⟨hu, h0, h1, h2⟩
      refine good_value hs rfl rfl ?_
      have hb := sliceBounds_run (P := P) false s.size s.size hab E h0 h1 h2 w
      simp only [Instr.sliceAt, Sem.run_bind, run_underlying hu, Result.andThen_ok, den, Instr.slice, Option.isSome_none, Bool.false_eq_true, if_false, hb, semSliceS, R.req, Sem.run_pure]
    · exact fun hf => hf.elim
  · rename_i ao n c rest' heq
    simp only [List.cons.injEq] at heq
    obtain ⟨rfl, rfl⟩ := heq
    split
    · rename_i a b hab
      unfold semSliceX
      split
      · rename_i e hu
        split
        · rename_i sz hsz
          rintro ⟨h0, h1, h2⟩
          refine good_value hs rfl rfl ?_
          have hb := sliceBounds_run (P := P) true n c hab E h0 h1 h2 w
          simp only [Instr.sliceAt, Sem.run_bind, run_underlying hu, Result.andThen_ok, den, Instr.slice, hb, run_ts hsz, R.req, Sem.run_pure]
        · exact fun hf => hf.elim
      · exact fun hf => hf.elim
    · exact fun hf => hf.elim
  · exact fun hf => hf.elim

/-! ### index, indexAddr -/
/-- a byte of a text, as a number; 0 past its end -/
def bt (s : ByteArray) (i : Int) : Int := ((s.data[i.toNat]?.getD 0).toNat : Int)

def semIndex (P : Program) (T : TypeId) : List SV → R
  | [.v (.string s), .v (.int _ i)] => .req (P.underlying T = some .string ∧ 0 ≤ i ∧ i < s.size) (.v (.int .u8 (bt s i)))
  | [.agg l, .v (.int _ i)] => match P.underlying T with
    | some (.array n e) => match ts P e, ta P e with
      | some sz, some ag => { partSV ag (i.toNat * sz) sz l with side := 0 ≤ i ∧ i < n ∧ (partSV ag (i.toNat * sz) sz l).side }
      | _, _ => .bad
    | _ => .bad
  | [.v (.agg cs), .v (.int _ i)] => match P.underlying T with
    | some (.array n e) => match ts P e, ta P e with
      | some sz, some ag => { partSV ag (i.toNat * sz) sz (cs.toList.map .v) with side := 0 ≤ i ∧ i < n ∧ (partSV ag (i.toNat * sz) sz (cs.toList.map .v)).side }
      | _, _ => .bad
    | _ => .bad
  | _ => .bad

theorem run_index_array {T e n sz : Nat} {ag : Bool} (hu : P.underlying T = some (.array n e)) (hsz : ts P e = some sz) (hag : ta P e = some ag) (l : List SV) (k : IntKind) (i : Int) (h0 : 0 ≤ i) (h1 : i < n)
    (hp : (partSV ag (i.toNat * sz) sz l).side) (w : World) : (Instr.index T (.agg (denL E l).toArray) (.int k i)).run P w = .ok (den E (partSV ag (i.toNat * sz) sz l).val) w := by
  have hi : 0 ≤ i ∧ i < (n : Int) := ⟨h0, h1⟩
  simp only [Instr.index, asIntOf, Sem.run_bind, Sem.run_pure, Result.andThen_ok, run_underlying hu, if_pos hi, run_ts hsz]
  exact run_part hsz hag l _ w E hp

theorem index_good {T : TypeId} {x y : SV} (hs : HeapSat W bs E F h w) (hside : (semIndex P T [x, y]).side) :
    Good P W bs κ E h (semIndex P T [x, y]) ((do pure (.value (← Instr.index T (den E x) (den E y))) : Sem Next).run P w) := by
  revert hside
  unfold semIndex
  split
  · rename_i s k i heq
    simp only [List.cons.injEq, and_true] at heq
    obtain ⟨rfl, rfl⟩ := heq
    rintro ⟨hu, h0, h1⟩
    refine good_value hs rfl rfl ?_
    have hlt : i.toNat < s.size := by omega
    have hd : i.toNat < s.data.size := hlt
    have hg : s[i.toNat]? = some (s[i.toNat]'hlt) := by rw [getElem?_pos]
    have hb : s.data[i.toNat]? = some (s[i.toNat]'hlt) := by rw [Array.getElem?_eq_getElem hd]; rfl
    simp only [Instr.index, asIntOf, den, Sem.run_bind, Sem.run_pure, Result.andThen_ok, run_underlying hu, if_pos h0, hg, R.req, bt, hb, Option.getD_some]
  · rename_i l k i heq
    simp only [List.cons.injEq, and_true] at heq
    obtain ⟨rfl, rfl⟩ := heq
    split
    · rename_i n e hu
      split
      · rename_i sz ag hsz hag
        rintro ⟨h0, h1, hp⟩
        refine good_value hs (partSV_upd _ _ _ _).1 (partSV_upd _ _ _ _).2 ?_
        simp only [den]
        exact run_index_array hu hsz hag l k i h0 h1 hp w
      · exact fun hf => hf.elim
    · exact fun hf => hf.elim
  · rename_i cs k i heq
    simp only [List.cons.injEq, and_true] at heq
    obtain ⟨rfl, rfl⟩ := heq
    split
    · rename_i n e hu
      split
      · rename_i sz ag hsz hag
        rintro ⟨h0, h1, hp⟩
        refine good_value hs (partSV_upd _ _ _ _).1 (partSV_upd _ _ _ _).2 ?_
        have := run_index_array (E := E) hu hsz hag (cs.toList.map .v) k i h0 h1 hp w
        rw [denL_map_v] at this
        simpa [den] using this
      · exact fun hf => hf.elim
    · exact fun hf => hf.elim
  · exact fun hf => hf.elim

def semIndexAddr (P : Program) (h : Nat → Option Ent) (T : TypeId) : List SV → R
  | [.hd k, .v (.int _ i)] => match P.underlying T, h k with
    | some (.slice e), some (.row _ size n _) => { side := ts P e = some size ∧ 0 ≤ i ∧ i < n ∧ 0 < size, val := .own k (i.toNat * size), reads := [k] }
    | _, _ => .bad
  | [.own k o, .v (.int _ i)] => match P.underlying T, entVs (h k) with
    | some (.array n e), some vs => match ts P e with
      | some sz => { side := 0 ≤ i ∧ i < n ∧ 1 < n ∧ o < vs.length, val := .own k (o + i.toNat * sz), reads := [k] }
      | none => .bad
    | _, _ => .bad
  | [.v (.slice (some ⟨b, o, none⟩) n _), .v (.int _ i)] => match P.underlying T with
    | some (.slice e) => match ts P e with
      | some sz => .req (0 ≤ i ∧ i < n) (.v (.pointer (some ⟨b, o + i.toNat * sz, none⟩)))
      | none => .bad
    | _ => .bad
  | _ => .bad

theorem add_lit' (b o n : Nat) : (⟨b, o, none⟩ : Addr).add n = ⟨b, o + n, none⟩ := by unfold Addr.add; split <;> simp_all

theorem indexAddr_good {T : TypeId} {x y : SV} (hs : HeapSat W bs E F h w) (hside : (semIndexAddr P h T [x, y]).side) :
    Good P W bs κ E h (semIndexAddr P h T [x, y]) ((do pure (.value (← Instr.indexAt T (den E x) (den E y))) : Sem Next).run P w) := by
  revert hside
  unfold semIndexAddr
  split
  · rename_i k kk i heq
    simp only [List.cons.injEq, and_true] at heq
    obtain ⟨rfl, rfl⟩ := heq
    split
    · rename_i e T' size n vs hu hk
      rintro ⟨hsz, h0, h1, hpos⟩
      refine good_value hs rfl rfl ?_
      obtain ⟨⟨hl, hor⟩, _⟩ := hs.ent k _ hk
      rcases hor with ⟨_, h2⟩ | ⟨g, cap, cur, hE, _, _, _, _, _, _⟩
      · omega
      · have hi : 0 ≤ i ∧ i < (n : Int) := ⟨h0, h1⟩
        have hvv : hv (E k) = Value.slice (some ⟨g, 0, none⟩) n cap := by rw [hE]; rfl
        simp only [den, hvv]
        rw [hE]
        simp [Instr.indexAt, asIntOf, run_underlying hu, hi, run_ts hsz, add_lit', base, ptrAt]
    · exact fun hf => hf.elim
  · rename_i k o kk i heq
    simp only [List.cons.injEq, and_true] at heq
    obtain ⟨rfl, rfl⟩ := heq
    split
    · rename_i n e vs hu hvs
      split
      · rename_i sz hsz
        rintro ⟨h0, h1, hn, hlt⟩
        obtain ⟨b, hb, _⟩ := ent_cells hs hvs (Nat.zero_lt_of_lt hlt)
        refine good_value hs rfl rfl ?_
        have hi : 0 ≤ i ∧ i < (n : Int) := ⟨h0, h1⟩
        simp [den, hb, ptrAt, Instr.indexAt, asIntOf, run_underlying hu, Instr.sureAddr, hi, run_ts hsz, add_lit']
      · exact fun hf => hf.elim
    · exact fun hf => hf.elim
  · rename_i b o n c kk i heq
    simp only [List.cons.injEq, and_true] at heq
    obtain ⟨rfl, rfl⟩ := heq
    split
    · rename_i e hu
      split
      · rename_i sz hsz
        rintro ⟨h0, h1⟩
        refine good_value hs rfl rfl ?_
        have hi : 0 ≤ i ∧ i < (n : Int) := ⟨h0, h1⟩
        simp [R.req, den, Instr.indexAt, asIntOf, run_underlying hu, hi, run_ts hsz, add_lit']
      · exact fun hf => hf.elim
    · exact fun hf => hf.elim
  · exact fun hf => hf.elim
end
end Go.LE
