/-
  LE, the engine, part 7: interfaces, functions, building, make, len, append.
-/
import Derived.Test.YtoglkgbjehbcpaaE6
namespace Go.LE
open Go.RowKit
set_option linter.unusedSimpArgs false
set_option linter.unusedVariables false

section
variable {P : Program} {W : World} {bs : List Nat} {κ : Nat} {E : Nat → Value} {F : Nat → List Nat} {h : Nat → Option Ent} {w : World} {K : Nat → Prop}

/-! ### makeInterface, makeFunc, nilCheck -/
def semMkI (P : Program) (T : TypeId) : List SV → R
  | [.v x] => .req (P.concrete T = true) (.v (.iface T x))
  | [x] => .req (P.concrete T = true) (.ifc T x)
  | _ => .bad
theorem mkI_good {T : TypeId} {x : SV} (hs : HeapSat W bs E F h w) (hside : (semMkI P T [x]).side) :
    Good P W bs κ E h (semMkI P T [x]) ((do pure (.value (← Instr.makeInterface T (den E x))) : Sem Next).run P w) := by
  revert hside
  unfold semMkI
  split
  · rename_i x' heq
    simp only [List.cons.injEq, and_true] at heq
    subst heq
    intro hside
    exact good_value hs rfl rfl (run_makeInterface w T _ hside)
  · rename_i x' _ heq
    simp only [List.cons.injEq, and_true] at heq
    subst heq
    intro hside
    exact good_value hs rfl rfl (run_makeInterface w T _ hside)
  · exact fun hf => hf.elim

def semNilCheck (h : Nat → Option Ent) : List SV → R
  | [.own k o] => match entVs (h k) with
    | some vs => { side := o < vs.length, val := .own k o, reads := [k] }
    | none => .bad
  | [.v (.pointer (some a))] => .ok (.v (.pointer (some a)))
  | _ => .bad
theorem nilCheck_good {x : SV} {o : Oper} {ρ : Operand → Value} {X : Operand} (hop : o.op = .nilCheck X) (hρ : ρ X = den E x) (hs : HeapSat W bs E F h w) (hside : (semNilCheck h [x]).side) :
    Good P W bs κ E h (semNilCheck h [x]) ((execOp ρ o).run P w) := by
  revert hside
  unfold semNilCheck
  split
  · rename_i k off heq
    simp only [List.cons.injEq, and_true] at heq
    subst heq
    split
    · rename_i vs hvs
      intro hlt
      obtain ⟨b, hb, _⟩ := ent_cells hs hvs (Nat.zero_lt_of_lt hlt)
      have : (execOp ρ o).run P w = .ok (.value (den E (.own k off))) w := by simp [execOp, hop, hρ, den, hb, ptrAt]
      rw [this]
      exact Good.pure hs rfl rfl rfl
    · exact fun hf => hf.elim
  · rename_i a heq
    simp only [List.cons.injEq, and_true] at heq
    subst heq
    intro _
    have : (execOp ρ o).run P w = .ok (.value (.pointer (some a))) w := by simp [execOp, hop, hρ, den]
    rw [this]
    exact Good.pure hs rfl rfl rfl
  · exact fun hf => hf.elim

/-! ### build, buildSlice -/
def fillSV (place : Nat → Option (Nat × Nat)) (cells : List SV) : List (Nat × SV) → Option (List SV)
  | [] => some cells
  | (i, x) :: r => match place i with
    | some (off, size) => if (partsOf x).length = size ∧ off + size ≤ cells.length then fillSV place (setRange cells off (partsOf x)) r else none
    | none => none

theorem setRange_length (vs ps : List SV) (o : Nat) (h : o + ps.length ≤ vs.length) : (setRange vs o ps).length = vs.length := by
  simp [setRange]; omega

theorem foldl_set (l : List Value) : ∀ (cs : Array Value) (off j : Nat), off + j + l.length ≤ cs.size →
    ((l.zipIdx j).foldl (fun cs (x : Value × Nat) => cs.setIfInBounds (off + x.2) x.1) cs) = (cs.toList.take (off + j) ++ l ++ cs.toList.drop (off + j + l.length)).toArray := by
  induction l with
  | nil => intro cs off j _; simp
  | cons x r ih =>
    intro cs off j hl
    simp only [List.zipIdx_cons, List.foldl_cons, List.length_cons] at hl ⊢
    rw [ih _ off (j + 1) (by simp; omega)]
    apply Array.ext'
    simp only [Array.toList_setIfInBounds]
    have e1 : off + (j + 1) = off + j + 1 := by omega
    rw [e1]
    have hlt : off + j < cs.toList.length := by simp; omega
    have hs : cs.toList.set (off + j) x = cs.toList.take (off + j) ++ x :: cs.toList.drop (off + j + 1) := by
      rw [List.set_eq_take_append_cons_drop, if_pos hlt]
    have hlen : (cs.toList.take (off + j)).length = off + j := by rw [List.length_take]; omega
    rw [hs]
    have t1 : List.take (off + j + 1) (cs.toList.take (off + j) ++ x :: cs.toList.drop (off + j + 1)) = cs.toList.take (off + j) ++ [x] := by
      have := List.take_length_add_append (l₁ := cs.toList.take (off + j)) (l₂ := x :: cs.toList.drop (off + j + 1)) 1
      rw [hlen] at this
      rw [this]; rfl
    have t2 : List.drop (off + j + 1 + r.length) (cs.toList.take (off + j) ++ x :: cs.toList.drop (off + j + 1)) = cs.toList.drop (off + j + (r.length + 1)) := by
      have := List.drop_length_add_append (l₁ := cs.toList.take (off + j)) (l₂ := x :: cs.toList.drop (off + j + 1)) (1 + r.length)
      rw [hlen] at this
      rw [show off + j + 1 + r.length = off + j + (1 + r.length) by omega, this, Nat.add_comm 1, List.drop_succ_cons, List.drop_drop]
      congr 1; omega
    rw [t1, t2]
    simp

theorem fill_den {place : Nat → Option (Nat × Nat)} (E : Nat → Value) : ∀ {ps : List (Nat × SV)} {cells out : List SV}, fillSV place cells ps = some out →
    Instr.fill place (denL E cells).toArray (ps.map fun p => (p.1, den E p.2)) = some (denL E out).toArray
  | [], cells, out, hf => by simp [fillSV] at hf; subst hf; rfl
  | (i, x) :: r, cells, out, hf => by
    unfold fillSV at hf
    split at hf
    · rename_i off size hpl
      split at hf
      · rename_i hc
        have hcl : (den E x).cells.toList = denL E (partsOf x) := (denL_partsOf E x).symm
        have hcs : (den E x).cells.size = size := by rw [← Array.length_toList, hcl, denL_length, hc.1]
        have ih := fill_den E hf
        simp only [List.map_cons, Instr.fill, hpl]
        have hng : ((den E x).cells.size ≠ size || off + (den E x).cells.size > (denL E cells).toArray.size) = false := by
          simp [hcs, denL_length]; omega
        rw [if_neg (by simp [hcs, denL_length]; omega)]
        have hfo := foldl_set (den E x).cells.toList (denL E cells).toArray off 0 (by rw [Array.length_toList, hcs]; simp [denL_length]; omega)
        have hz : (Array.foldl (fun (cs : Array Value) (x : Value × Nat) => cs.setIfInBounds (off + x.2) x.1) (denL E cells).toArray (den E x).cells.zipIdx) =
            (denL E (setRange cells off (partsOf x))).toArray := by
          rw [← Array.foldl_toList, Array.toList_zipIdx, hfo, hcl, denL_setRange]
          simp [denL_length]
        rw [← ih, ← hz]
      · cases hf
    · cases hf

/-- all fields of a struct: where, how many cells -/
def tfs (P : Program) (S : TypeId) : Option (List (Nat × Nat)) :=
  match P.underlying S with
  | some (.struct fs) => fs.toList.mapM fun d => (ts P d.type).map fun s => (d.offset, s)
  | _ => none

def semBuild (P : Program) (T : TypeId) (idx : List Nat) (args : List SV) : R :=
  match tz P T, tfs P T, P.underlying T with
  | some zs, some fl, some (.struct _) => match fillSV (fun i => fl[i]?) (zs.map .v) (idx.zip args) with
    | some cells => .ok (.agg cells)
    | none => .bad
  | some zs, _, some (.array _ e) => match ts P e with
    | some sz => match fillSV (fun i => some (i * sz, sz)) (zs.map .v) (idx.zip args) with
      | some cells => .ok (.agg cells)
      | none => .bad
    | none => .bad
  | _, _, _ => .bad

def semBuildSlice (P : Program) (κ : Nat) (T : TypeId) (len : Nat) (idx : List Nat) (args : List SV) : R :=
  match P.underlying T with
  | some (.slice e) => match ts P e, tz P e with
    | some sz, some zs => match fillSV (fun i => some (i * sz, sz)) ((List.replicate len zs).flatten.map .v) (idx.zip args) with
      | some cells => { side := len * sz ≤ 16777216 ∧ zs.length = sz ∧ 0 < sz, val := .hd (nk κ), upd := [(nk κ, some (.row e sz len cells))] }
      | none => .bad
    | _, _ => .bad
  | _ => .bad

theorem run_mapM_list {α β : Type} (f : α → Sem β) (g : α → Option β) (w : World) (hfg : ∀ a b, g a = some b → (f a).run P w = .ok b w) :
    ∀ {l : List α} {r : List β}, l.mapM g = some r → (l.mapM f).run P w = .ok r w
  | [], r, h => by simp at h; subst h; simp
  | a :: l, r, h => by
    rw [List.mapM_cons] at h
    obtain ⟨b, hb, h⟩ := Option.bind_eq_some_iff.1 h
    obtain ⟨bs, hbs, h⟩ := Option.bind_eq_some_iff.1 h
    simp at h; subst h
    rw [List.mapM_cons]
    simp [hfg a b hb, run_mapM_list f g w hfg hbs]

theorem zip_map_fst {α β γ : Type} (f : β → γ) (l : List (α × β)) : (l.map fun p => (p.1, f p.2)) = (l.map (·.1)).zip ((l.map (·.2)).map f) := by
  induction l with
  | nil => rfl
  | cons x r ih => simp [ih]
theorem zip_map_den (E : Nat → Value) (idx : List Nat) (args : List SV) : ((idx.zip args).map fun p => (p.1, den E p.2)) = idx.zip (denL E args) := by
  induction idx generalizing args with
  | nil => rfl
  | cons i r ih => cases args with
    | nil => rfl
    | cons a q => simp [denL, ih]

theorem build_good {T : TypeId} {idx : List Nat} {args : List SV} (hs : HeapSat W bs E F h w) (hside : (semBuild P T idx args).side) :
    Good P W bs κ E h (semBuild P T idx args) ((do pure (.value (← Instr.build T (idx.zip (denL E args)).toArray)) : Sem Next).run P w) := by
  revert hside
  unfold semBuild
  split
  · rename_i zs fl fs hz hfl hu
    split
    · rename_i cells hf
      intro _
      refine good_value hs rfl rfl ?_
      obtain ⟨z, rfl, hrun⟩ := run_tz hz
      unfold tfs at hfl
      simp only [hu] at hfl
      have hm := run_mapM_list (P := P) (fun d : Field => do pure (d.offset, ← sizeOf d.type)) (fun d => (ts P d.type).map fun s => (d.offset, s)) w (fun d b hb => by
        obtain ⟨s, hs, rfl⟩ := Option.map_eq_some_iff.1 hb
        simp [run_ts hs]) hfl
      have hfd := fill_den E hf
      rw [denL_map_v, zip_map_den] at hfd
      have hm' : (fs.mapM (m := Sem) fun d : Field => do pure (d.offset, ← sizeOf d.type)).run P w = .ok fl.toArray w := by
        rw [Array.mapM_eq_mapM_toList]
        rw [Sem.run_map, hm]
        rfl
      simp only [Instr.build, Sem.run_bind, hrun, Result.andThen_ok, run_underlying hu, hm', R.ok, den]
      have hpl : (fun (x : Nat) => fl.toArray[x]?) = fun i => fl[i]? := by funext i; simp
      rw [hpl]
      simp only [Array.toArray_toList] at hfd
      simp [hfd]
    · exact fun hf => hf.elim
  · rename_i zs _ n e hz hu
    split
    · rename_i sz hsz
      split
      · rename_i cells hf
        intro _
        refine good_value hs rfl rfl ?_
        obtain ⟨z, rfl, hrun⟩ := run_tz hz
        have hfd := fill_den E hf
        rw [denL_map_v, zip_map_den] at hfd
        simp only [Array.toArray_toList] at hfd
        simp only [Instr.build, Sem.run_bind, hrun, Result.andThen_ok, run_underlying hu, run_ts hsz, R.ok, den]
        simp [hfd]
      · exact fun hf => hf.elim
    · exact fun hf => hf.elim
  · exact fun hf => hf.elim

theorem fillSV_length {place : Nat → Option (Nat × Nat)} : ∀ {ps : List (Nat × SV)} {cells out : List SV}, fillSV place cells ps = some out → out.length = cells.length
  | [], cells, out, hf => by simp [fillSV] at hf; rw [hf]
  | (i, x) :: r, cells, out, hf => by
    unfold fillSV at hf
    split at hf
    · split at hf
      · rename_i hc
        rw [fillSV_length hf, setRange_length _ _ _ (by omega)]
      · cases hf
    · cases hf
theorem fillSV_keys {place : Nat → Option (Nat × Nat)} {k : Nat} : ∀ {ps : List (Nat × SV)} {cells out : List SV}, fillSV place cells ps = some out → k ∈ keysL out → k ∈ keysL cells ∨ k ∈ keysL (ps.map (·.2))
  | [], cells, out, hf, hk => by simp [fillSV] at hf; subst hf; exact .inl hk
  | (i, x) :: r, cells, out, hf, hk => by
    unfold fillSV at hf
    split at hf
    · split at hf
      · rename_i hc
        rcases fillSV_keys hf hk with h1 | h1
        · rw [setRange, keysL_append, keysL_append, keys_partsOf] at h1
          have ht : ∀ n, k ∈ keysL (cells.take n) → k ∈ keysL cells := fun n hn => by
            obtain ⟨y, hy, hky⟩ := keysL_mem.1 hn
            exact keysL_mem.2 ⟨y, List.mem_of_mem_take hy, hky⟩
          have hd : ∀ n, k ∈ keysL (cells.drop n) → k ∈ keysL cells := fun n hn => by
            obtain ⟨y, hy, hky⟩ := keysL_mem.1 hn
            exact keysL_mem.2 ⟨y, List.mem_of_mem_drop hy, hky⟩
          simp only [List.mem_append] at h1
          rcases h1 with (h1 | h1) | h1
          · exact .inl (ht _ h1)
          · right; simp [keysL, h1]
          · exact .inl (hd _ h1)
        · right; simp [keysL, h1]
      · cases hf
    · cases hf

theorem rep_cells (zs : List Value) (sz len : Nat) (hz : zs.length = sz) (z : Array Value) (hzz : z.toList = zs) : ((Array.range (len * sz)).map (fun i => z[i % z.size]!)).toList = (List.replicate len zs).flatten := by
  subst hz hzz
  induction len with
  | zero => simp
  | succ n ih =>
    rw [List.replicate_succ', List.flatten_append, ← ih]
    simp only [Array.length_toList, Array.toList_map, Array.toList_range]
    rw [Nat.succ_mul, List.range_add, List.map_append]
    congr 1
    simp only [List.flatten_singleton, List.map_map]
    apply List.ext_getElem
    · simp
    · intro i h1 h2
      simp only [List.getElem_map, List.getElem_range, Function.comp]
      have hi : i < z.size := by simpa using h1
      rw [Nat.mul_add_mod_self_right, Nat.mod_eq_of_lt hi]
      simp [hi]

theorem buildSlice_good {T len : Nat} {idx : List Nat} {args : List SV} (hs : HeapSat W bs E F h w) (hK : KeysIn K h) (hk : ∀ k, k / 8 = κ → ¬ K k) (hx : ∀ k ∈ keysL args, K k) (hside : (semBuildSlice P κ T len idx args).side) :
    Good P W bs κ E h (semBuildSlice P κ T len idx args) ((do pure (.value (← Instr.buildSlice T len (idx.zip (denL E args)).toArray)) : Sem Next).run P w) := by
  revert hside
  unfold semBuildSlice
  split
  · rename_i e hu
    split
    · rename_i sz zs hsz hz
      split
      · rename_i cells hf
        rintro ⟨hle, hzl, hpos⟩
        obtain ⟨z, hzz, hrun⟩ := run_tz hz
        have hfd := fill_den E hf
        rw [denL_map_v, zip_map_den] at hfd
        have hcl : cells.length = len * sz := by
          rw [fillSV_length hf]; simp [hzl]
        have hle' : ¬ len * sz > 2 ^ 24 := by omega
        have hrs : (do pure (.value (← Instr.buildSlice T len (idx.zip (denL E args)).toArray)) : Sem Next).run P w =
            .ok (.value (.slice (some ⟨w.heap.size, 0, none⟩) len len)) (w.alloc (.cells (denL E cells).toArray e)) := by
          simp only [Instr.buildSlice, Sem.run_bind, run_underlying hu, Result.andThen_ok, run_ts hsz, if_neg hle']
          by_cases h0 : len * sz = 0
          · have hl0 : len = 0 := by
              rcases Nat.mul_eq_zero.1 h0 with h | h
              · exact h
              · omega
            rw [if_pos h0]
            simp only [Sem.run_bind, Sem.run_pure, Result.andThen_ok]
            have hc1 : (Array.range (len * sz)).map (fun x => (#[] : Array Value)[x % (#[] : Array Value).size]!) = ((List.replicate len zs).flatten).toArray := by subst hl0; simp
            rw [hc1, hfd]
            simp [newRow]
          · rw [if_neg h0]
            simp only [Sem.run_bind, Sem.run_pure, Result.andThen_ok, hrun]
            have hc1 : (Array.range (len * sz)).map (fun x => z.cells[x % z.cells.size]!) = ((List.replicate len zs).flatten).toArray := by
              apply Array.ext'; have := rep_cells zs sz len hzl z.cells hzz; simpa using this
            rw [hc1, hfd]
            simp [newRow]
        rw [hrs]
        simp only [Good, Runs]
        have hnk := hk _ (nk_div κ 0 (by omega))
        simp only [Nat.add_zero] at hnk
        have hkc : ∀ k ∈ keysL cells, K k := fun k hkk => by
          rcases fillSV_keys hf hkk with h1 | h1
          · rw [keysL_map_v] at h1; cases h1
          · refine hx k ?_
            obtain ⟨y, hy, hky⟩ := keysL_mem.1 h1
            obtain ⟨p, hp, rfl⟩ := List.mem_map.1 hy
            exact keysL_mem.2 ⟨p.2, (List.of_mem_zip hp).2, hky⟩
        have hsz' : len ≤ 16777216 := Nat.le_trans (Nat.le_mul_of_pos_right len hpos) hle
        refine ⟨trivial, upd E (nk κ) (.slice (some ⟨w.heap.size, 0, none⟩) len len), upd F (nk κ) [w.heap.size], fun k hkk => upd_ne _ _ fun e => hkk (by subst e; exact nk_div0 κ), ?_, ?_⟩
        · simp [den, upd_same, hv, Value.oneCell']
        · refine hs.new hK hnk ?_ (fun b hb => ?_) (keeps_alloc w _)
          · have hd : denL (upd E (nk κ) (.slice (some ⟨w.heap.size, 0, none⟩) len len)) cells = denL E cells := denL_congr cells fun i hi => upd_ne _ _ fun e => hnk (e ▸ hkc i hi)
            refine ⟨⟨by rw [denL_length, hcl], .inr ⟨w.heap.size, len, (denL E cells).toArray, rfl, Nat.zero_le _, heap_alloc_new w _, Nat.le_refl _, ?_, ?_, ?_⟩⟩, rfl⟩
            · unfold maxLen; omega
            · simp [denL_length, hcl]
            · rw [hd]
              rw [List.take_of_length_le (by simp [denL_length, hcl])]
          · simp at hb; subst hb; simp
      · exact fun hf => hf.elim
    · exact fun hf => hf.elim
  · exact fun hf => hf.elim

/-! ### make -/
def semMake (P : Program) (κ : Nat) (T : TypeId) : List SV → R
  | [.v (.int _ l), .v (.int _ c)] => match P.underlying T with
    | some (.slice e) => match ts P e, tz P e, tby P e with
      | some sz, some zs, some by_ => { side := 0 ≤ l ∧ l ≤ c ∧ (by_ : Int) * c ≤ 281474976710656 ∧ c ≤ 9223372036854775807 ∧ zs.length = sz ∧ 0 < sz, val := .hd (nk κ), upd := [(nk κ, some (.row e sz l.toNat ((List.replicate l.toNat zs).flatten.map .v)))] }
      | _, _, _ => .bad
    | _ => .bad
  | _ => .bad

theorem info_of {T : TypeId} {zs : List Value} {b : Nat} (hz : tz P T = some zs) (hb : tby P T = some b) : ∃ i z, P.info? T = some i ∧ i.zero = some z ∧ z.cells.toList = zs ∧ i.bytes = b ∧ ts P T = some i.size := by
  unfold tz at hz
  unfold tby at hb
  cases hi : P.info? T with
  | none => simp [hi] at hz
  | some i =>
    simp only [hi, Option.bind_some] at hz
    cases hzz : i.zero with
    | none => simp [hzz] at hz
    | some z =>
      simp only [hzz, Option.map_some, Option.some.injEq] at hz
      simp only [hi, Option.map_some, Option.some.injEq] at hb
      exact ⟨i, z, rfl, hzz, hz, hb, by simp [ts, hi]⟩

theorem make_good {T : TypeId} {x y : SV} (hs : HeapSat W bs E F h w) (hK : KeysIn K h) (hk : ∀ k, k / 8 = κ → ¬ K k) (hside : (semMake P κ T [x, y]).side) :
    Good P W bs κ E h (semMake P κ T [x, y]) ((do pure (.value (← Instr.makeSlice T (den E x) (den E y))) : Sem Next).run P w) := by
  revert hside
  unfold semMake
  split
  · rename_i kl l kc c heq
    simp only [List.cons.injEq, and_true] at heq
    obtain ⟨rfl, rfl⟩ := heq
    split
    · rename_i e hu
      split
      · rename_i sz zs by_ hsz hz hb
        rintro ⟨h0, hlc, hby, h63, hzl, hpos⟩
        obtain ⟨i, z, hi, hzz, hzs, hbi, hsi⟩ := info_of hz hb
        have hszi : i.size = sz := by rw [hsz] at hsi; exact (Option.some.inj hsi).symm
        have hr := run_make (P := P) w T e i z hu hi hzz kl kc l c h0 hlc (by rw [hbi]; exact hby) h63
        have hrs : (do pure (.value (← Instr.makeSlice T (den E (.v (.int kl l))) (den E (.v (.int kc c))))) : Sem Next).run P w =
            .ok (.value (.slice (some ⟨w.heap.size, 0, none⟩) l.toNat c.toNat)) (w.alloc (.cells (madeCells z.cells (c.toNat * i.size)) e)) := by
          simp only [den, Sem.run_bind, hr, Result.andThen_ok, Sem.run_pure]
        rw [hrs]
        simp only [Good, Runs]
        have hnk := hk _ (nk_div0 κ)
        refine ⟨trivial, upd E (nk κ) (.slice (some ⟨w.heap.size, 0, none⟩) l.toNat c.toNat), upd F (nk κ) [w.heap.size], fun k hkk => upd_ne _ _ fun e => hkk (by subst e; exact nk_div0 κ), ?_, ?_⟩
        · simp [den, upd_same, hv, Value.oneCell']
        · refine hs.new hK hnk ?_ (fun b hb => ?_) (keeps_alloc w _)
          · rw [hszi]
            refine ⟨⟨by rw [denL_map_v]; simp [hzl], .inr ⟨w.heap.size, c.toNat, madeCells z.cells (c.toNat * sz), rfl, Nat.zero_le _, heap_alloc_new w _, by omega, by unfold maxLen; omega, size_madeCells _ _, ?_⟩⟩, rfl⟩
            rw [denL_map_v]
            have := rep_cells zs sz c.toNat hzl z.cells hzs
            unfold madeCells
            rw [this]
            have hcl : c.toNat = l.toNat + (c.toNat - l.toNat) := by omega
            have hll : ((List.replicate l.toNat zs).flatten).length = l.toNat * sz := by simp [hzl]
            rw [hcl, ← List.replicate_append_replicate, List.flatten_append, ← hll, List.take_left]
          · simp at hb; subst hb; simp
      · exact fun hf => hf.elim
    · exact fun hf => hf.elim
  · exact fun hf => hf.elim

/-! ### len, cap, min, max -/
def semLen (P : Program) (h : Nat → Option Ent) (T : TypeId) : List SV → R
  | [.v (.string s)] => .req (P.underlying T = some .string) (.v (.int .i64 s.size))
  | [.v (.slice _ n _)] => .req (∃ e, P.underlying T = some (.slice e)) (.v (.int .i64 n))
  | [.hd k] => match h k with
    | some (.row _ _ n _) => { side := ∃ e, P.underlying T = some (.slice e), val := .v (.int .i64 n), reads := [k] }
    | _ => .bad
  | _ => .bad
theorem len_good {T : TypeId} {tys : Array TypeId} {ty : TypeId} {x : SV} (hs : HeapSat W bs E F h w) (ht : tys[0]? = some T) (hside : (semLen P h T [x]).side) :
    Good P W bs κ E h (semLen P h T [x]) ((do pure (.value (← Builtin.len_ tys ty #[den E x])) : Sem Next).run P w) := by
  revert hside
  unfold semLen
  split
  · rename_i s heq
    simp only [List.cons.injEq, and_true] at heq
    subst heq
    intro hu
    exact good_value hs rfl rfl (by simp [Builtin.len_, ht, run_underlying hu, den, R.req, goInt])
  · rename_i a n c heq
    simp only [List.cons.injEq, and_true] at heq
    subst heq
    rintro ⟨e, hu⟩
    exact good_value hs rfl rfl (by simp [Builtin.len_, ht, run_underlying hu, den, R.req, goInt])
  · rename_i k heq
    simp only [List.cons.injEq, and_true] at heq
    subst heq
    split
    · rename_i T' size n vs hk
      rintro ⟨e, hu⟩
      obtain ⟨⟨hl, hor⟩, _⟩ := hs.ent k _ hk
      have hE : ∃ ao c, E k = .slice ao n c := by
        rcases hor with ⟨h1, h2⟩ | ⟨g, cap, cur, h1, _⟩
        · exact ⟨none, 0, by rw [h1, h2]⟩
        · exact ⟨_, _, h1⟩
      obtain ⟨ao, c, hE⟩ := hE
      refine good_value hs rfl rfl ?_
      simp [Builtin.len_, ht, run_underlying hu, den, hE, hv, Value.oneCell', goInt]
    · exact fun hf => hf.elim
  · exact fun hf => hf.elim

def foldI (f : Int → Int → Int) : Int → List SV → Option Int
  | a, [] => some a
  | a, .v (.int .i64 b) :: r => foldI f (f a b) r
  | _, _ => none
def semMin : List SV → R
  | .v (.int .i64 a) :: r => match foldI (fun x y => if y < x then y else x) a r with | some m => .ok (.v (.int .i64 m)) | none => .bad
  | _ => .bad
def semMax : List SV → R
  | .v (.int .i64 a) :: r => match foldI (fun x y => if x < y then y else x) a r with | some m => .ok (.v (.int .i64 m)) | none => .bad
  | _ => .bad

theorem foldI_min (E : Nat → Value) (w : World) : ∀ {r : List SV} {a m : Int}, foldI (fun x y => if y < x then y else x) a r = some m → ((denL E r).foldlM Builtin.min2 (.int .i64 a)).run P w = .ok (.int .i64 m) w
  | [], a, m, hf => by simp [foldI] at hf; subst hf; simp [denL]
  | x :: r, a, m, hf => by
    unfold foldI at hf
    split at hf
    · rename_i heq; cases heq
    · rename_i a' b r' heq
      simp only [List.cons.injEq] at heq
      obtain ⟨rfl, rfl⟩ := heq
      simp only [denL, den, List.foldlM_cons, Builtin.min2, Sem.run_bind, Sem.run_pure, Result.andThen_ok]
      exact foldI_min E w hf
    · cases hf
theorem foldI_max (E : Nat → Value) (w : World) : ∀ {r : List SV} {a m : Int}, foldI (fun x y => if x < y then y else x) a r = some m → ((denL E r).foldlM Builtin.max2 (.int .i64 a)).run P w = .ok (.int .i64 m) w
  | [], a, m, hf => by simp [foldI] at hf; subst hf; simp [denL]
  | x :: r, a, m, hf => by
    unfold foldI at hf
    split at hf
    · rename_i heq; cases heq
    · rename_i a' b r' heq
      simp only [List.cons.injEq] at heq
      obtain ⟨rfl, rfl⟩ := heq
      simp only [denL, den, List.foldlM_cons, Builtin.max2, Sem.run_bind, Sem.run_pure, Result.andThen_ok]
      exact foldI_max E w hf
    · cases hf
theorem min_good {args : List SV} {tys : Array TypeId} {ty : TypeId} (hs : HeapSat W bs E F h w) (hside : (semMin args).side) :
    Good P W bs κ E h (semMin args) ((do pure (.value (← Builtin.min_ tys ty (denL E args).toArray)) : Sem Next).run P w) := by
  revert hside
  unfold semMin
  split
  · rename_i a r
    split
    · rename_i m hm
      intro _
      refine good_value hs rfl rfl ?_
      simpa [Builtin.min_, denL, den, R.ok] using foldI_min E w hm
    · exact fun hf => hf.elim
  · exact fun hf => hf.elim
theorem max_good {args : List SV} {tys : Array TypeId} {ty : TypeId} (hs : HeapSat W bs E F h w) (hside : (semMax args).side) :
    Good P W bs κ E h (semMax args) ((do pure (.value (← Builtin.max_ tys ty (denL E args).toArray)) : Sem Next).run P w) := by
  revert hside
  unfold semMax
  split
  · rename_i a r
    split
    · rename_i m hm
      intro _
      refine good_value hs rfl rfl ?_
      simpa [Builtin.max_, denL, den, R.ok] using foldI_max E w hm
    · exact fun hf => hf.elim
  · exact fun hf => hf.elim
end
end Go.LE
