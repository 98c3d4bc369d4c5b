/-
  LE, the engine, part 8: append.
-/
import Derived.Test.YtoglkgbjehbcpaaE7
namespace Go.LE
open Go.RowKit
set_option linter.unusedSimpArgs false
set_option linter.unusedVariables false

section
variable {P : Program} {W : World} {bs : List Nat} {κ : Nat} {E : Nat → Value} {F : Nat → List Nat} {h : Nat → Option Ent} {w : World} {K : Nat → Prop}

/-- AN OWN THING THAT GOES ON UNDER ANOTHER KEY: its new handle, its new blocks. -/
theorem HeapSat.move {w' : World} {e e' : Ent} {u : Value} {fp : List Nat} {k q : Nat} (hs : HeapSat W bs E F h w) (hK : KeysIn K h) (hk : h k = some e) (hq : ¬ K q)
    (he : entSat (upd E q u) u fp w' e') (hfp : ∀ b ∈ fp, b ∈ F k ∨ w.heap.size ≤ b) (hlt : ∀ b ∈ fp, b < w'.heap.size) (hkeep : Keeps w (F k) w') :
    HeapSat W bs (upd E q u) (upd F q fp) (upd (upd h k none) q (some e')) w' := by
  have hne : k ≠ q := fun e => hq (e ▸ (hK k _ hk).1)
  have old : ∀ j x, upd h k none j = some x → h j = some x ∧ j ≠ k := fun j x hj => by
    by_cases hjk : j = k
    · subst hjk; rw [upd_same] at hj; cases hj
    · rw [upd_ne _ _ hjk] at hj; exact ⟨hj, hjk⟩
  have blk : ∀ j x, h j = some x → j ≠ k → ∀ b ∈ F j, w'.heap[b]? = w.heap[b]? := fun j x hj hjk b hb =>
    hkeep.block b (hs.lt j x hj b hb) fun hb' => hs.apart j k x e hjk hj hk b hb hb'
  constructor
  · intro j x hj
    by_cases hjq : j = q
    · subst hjq
      simp only [upd_same, Option.some.injEq] at hj ⊢
      subst hj
      exact he
    · rw [upd_ne _ _ hjq] at hj
      obtain ⟨hj, hjk⟩ := old j x hj
      rw [upd_ne _ _ hjq, upd_ne _ _ hjq]
      refine entSat_congr (fun i hi => (upd_ne _ _ (show i ≠ q from fun e => hq (e ▸ (hK j x hj).2 i hi))).symm) (entSat_local (hs.ent j x hj) (blk j x hj hjk))
  · intro j x hj b hb
    by_cases hjq : j = q
    · subst hjq; rw [upd_same] at hb; exact hlt b hb
    · rw [upd_ne _ _ hjq] at hj hb
      obtain ⟨hj, _⟩ := old j x hj
      exact Nat.lt_of_lt_of_le (hs.lt j x hj b hb) hkeep.size
  · intro j x hj b hb
    by_cases hjq : j = q
    · subst hjq; rw [upd_same] at hb
      rcases hfp b hb with h1 | h1
      · exact hs.mine k e hk b h1
      · exact .inl (Nat.le_trans hs.keeps.size h1)
    · rw [upd_ne _ _ hjq] at hj hb
      exact hs.mine j x (old j x hj).1 b hb
  · intro i j x y hij hi hj b hb
    by_cases hiq : i = q
    · subst hiq
      rw [upd_ne _ _ (Ne.symm hij)] at hj ⊢
      obtain ⟨hj, hjk⟩ := old j y hj
      rw [upd_same] at hb
      rcases hfp b hb with h1 | h1
      · exact hs.apart k j e y (Ne.symm hjk) hk hj b h1
      · exact fun hb' => by have := hs.lt j y hj b hb'; omega
    · rw [upd_ne _ _ hiq] at hi hb
      obtain ⟨hi, hik⟩ := old i x hi
      by_cases hjq : j = q
      · subst hjq
        rw [upd_same]
        intro hb'
        rcases hfp b hb' with h1 | h1
        · exact hs.apart i k x e hik hi hk b hb h1
        · have := hs.lt i x hi b hb; omega
      · rw [upd_ne _ _ hjq] at hj ⊢
        exact hs.apart i j x y hij hi (old j y hj).1 b hb
  · exact hs.keeps.trans hkeep fun b hb hlt' => (hs.mine k e hk b hb).resolve_left (by omega)

/-- 'run_append_own' (Laws/AppendOwn), with the block told: the old one, or a new one. -/
theorem run_append_told (t ty e : TypeId) (i : TypeInfo) (z : Value) (ht : P.underlying t = some (.slice e)) (hi : P.info? e = some i) (hz : i.zero = some z)
    (hzs : z.cells.size = i.size) (hsz : 0 < i.size) (v : Value) (n : Nat) (xs : List Value) (hown : w.ownsRow 0 e i.size v n xs)
    (a : Addr) (m c : Nat) (news : List Value) (hl : news.length = m * i.size) (hnews : ∀ j u, news[j]? = some u → w.cell? (a.add j) = some u) (h1 : ∀ u ∈ news, u.oneCell' = true)
    (h63 : n + m ≤ maxLen) (hbytes : (n + m) * i.bytes ≤ 140737488355328) (hm : 0 < m) :
    ∃ v' w', (Builtin.append_ #[t, t] ty #[v, .slice (some a) m c]).run P w = .ok v' w' ∧ w'.ownsRow 0 e i.size v' (n + m) (xs ++ news) ∧ Keeps w v.ownBlock.toList w' ∧
      (v'.ownBlock = v.ownBlock ∨ v'.ownBlock = some w.heap.size) ∧ (∀ b ∈ v'.ownBlock.toList, b < w'.heap.size) := by
  have hsmall : n + m ≤ 9223372036854775807 := by simp only [maxLen] at h63; omega
  have hlen : (xs ++ news).length = (n + m) * i.size := by rw [List.length_append, hown.1, hl, Nat.add_mul]
  have grown : ∀ (old : Nat), old < n + m →
      (w.drew.alloc (.cells (xs.toArray ++ news.toArray ++ Builtin.zeroCells z.cells (grownCap w (n + m) old e - (n + m))) e)).ownsRow 0 e i.size
        (.slice (some ⟨w.heap.size, 0, none⟩) (n + m) (grownCap w (n + m) old e)) (n + m) (xs ++ news) ∧
      ∀ bl, Keeps w bl (w.drew.alloc (.cells (xs.toArray ++ news.toArray ++ Builtin.zeroCells z.cells (grownCap w (n + m) old e - (n + m))) e)) := by
    intro old ho
    have hge := grownCap_ge w (n + m) old e
    have hcm : grownCap w (n + m) old e ≤ maxLen := grownCap_le_maxLen w (n + m) old e h63
    refine ⟨⟨hlen, .inr ⟨w.heap.size, _, _, rfl, Nat.zero_le _, heap_alloc_new w.drew _, hge, hcm, ?_, ?_⟩⟩, fun bl => ⟨rfl, rfl, rfl, by simp, fun k hk _ => Below.heap_alloc w.drew _ k hk⟩⟩
    · simp only [Array.size_append, List.size_toArray, size_zeroCells, hzs, hown.1, hl, ← Nat.add_mul]
      congr 1
      omega
    · simp only [Array.toList_append, List.append_assoc]
      rw [← List.append_assoc, ← hlen]
      exact List.take_left
  rcases hown.2 with ⟨rfl, rfl⟩ | ⟨g, cap, cur, rfl, hbg, hg, hnc, hcm, hcs, htake⟩
  · have hx : xs = [] := List.eq_nil_of_length_eq_zero (by simpa using hown.1)
    subst hx
    have hr := run_append_nil (P := P) w t ty e i z ht hi hz a m c news hl hnews (by omega) (by omega) (by have hb := hbytes; simp only [Nat.zero_add] at hb; omega)
    have hgr := grown 0 (by omega)
    simp only [Nat.zero_add, List.nil_append, Array.empty_append] at hgr ⊢
    exact ⟨_, _, hr, hgr.1, hgr.2 _, .inr rfl, by simp [Value.ownBlock]⟩
  · by_cases hroom : n + m ≤ cap
    · have hfit : n * i.size + news.length ≤ cur.size := by rw [hl, hcs, ← Nat.add_mul]; exact Nat.mul_le_mul_right _ hroom
      have hr := run_append_room (P := P) w t ty e i ht hi g n cap cur hg a m c news hl hnews h1 hroom hfit
      refine ⟨_, _, hr, ⟨hlen, .inr ⟨g, cap, _, rfl, hbg, setRow_heap w g cur _ e _ hg, hroom, hcm, ?_, ?_⟩⟩, keeps_setRow w g _, .inl rfl, ?_⟩
      · simp only [List.size_toArray, List.length_append, List.length_take, List.length_drop, Array.length_toList]
        omega
      · rw [htake, ← hlen]
        exact List.take_left
      · simp [Value.ownBlock]
        exact (Array.getElem?_eq_some_iff.1 hg).1
    · have holds : ∀ j u, xs[j]? = some u → w.cell? ((⟨g, 0, none⟩ : Addr).add j) = some u := hown.cells (g := g) rfl
      have hr := run_append_grow (P := P) w t ty e i z ht hi hz ⟨g, 0, none⟩ n cap xs hown.1 holds a m c news hl hnews (by omega) (by omega) (growslice_fits (by omega) hbytes)
      have hgr := grown cap (by omega)
      exact ⟨_, _, hr, hgr.1, hgr.2 _, .inr rfl, by simp [Value.ownBlock]⟩

/-- what is appended to: an own row, or the nil slice -/
def rowOf (h : Nat → Option Ent) : SV → Option (List Nat × TypeId × Nat × Nat × List SV)
  | .hd k => match h k with
    | some (.row T s n vs) => some ([k], T, s, n, vs)
    | _ => none
  | _ => none

def semApp (P : Program) (κ : Nat) (h : Nat → Option Ent) (tys : List TypeId) : List SV → R
  | [.hd k, .hd j] => match tys, h k, h j with
    | [T, T'], some (.row e sz n vs), some (.row _ sz' m us) => match tby P e, tz P e with
      | some by_, some zs => { side := T' = T ∧ P.underlying T = some (.slice e) ∧ ts P e = some sz ∧ zs.length = sz ∧ 0 < sz ∧ sz' = sz ∧ k ≠ j ∧ 0 < m ∧ n + m ≤ maxLen ∧ (n + m) * by_ ≤ 140737488355328 ∧ us.all oneSV = true, val := .hd (nk κ), upd := [(k, none), (nk κ, some (.row e sz (n + m) (vs ++ us)))], reads := [k, j] }
      | _, _ => .bad
    | _, _, _ => .bad
  | [.v (.slice none 0 0), .hd j] => match tys, h j with
    | [T, T'], some (.row _ sz m us) => match P.underlying T with
      | some (.slice e) => match tby P e, tz P e with
        | some by_, some zs => { side := T' = T ∧ ts P e = some sz ∧ zs.length = sz ∧ 0 < sz ∧ 0 < m ∧ m ≤ maxLen ∧ m * by_ ≤ 140737488355328 ∧ us.all oneSV = true, val := .hd (nk κ), upd := [(nk κ, some (.row e sz m us))], reads := [j] }
        | _, _ => .bad
      | _ => .bad
    | _, _ => .bad
  | _ => .bad

theorem row_src {j m sz : Nat} {T : TypeId} {us : List SV} (hs : HeapSat W bs E F h w) (hj : h j = some (.row T sz m us)) (hm : 0 < m) (hone : us.all oneSV = true) :
    ∃ (g c : Nat), hv (E j) = .slice (some ⟨g, 0, none⟩) m c ∧ (denL E us).length = m * sz ∧ (∀ i u, (denL E us)[i]? = some u → w.cell? ((⟨g, 0, none⟩ : Addr).add i) = some u) ∧ ∀ u ∈ denL E us, u.oneCell' = true := by
  obtain ⟨⟨hl, hor⟩, _⟩ := hs.ent j _ hj
  rcases hor with ⟨_, h2⟩ | ⟨g, cap, cur, hE, _, hh, _, _, hcs, htake⟩
  · omega
  · refine ⟨g, cap, by rw [hE]; rfl, hl, fun i u hi => ?_, fun u hu => ?_⟩
    · rw [add_lit', Nat.zero_add]
      have hlt := (List.getElem?_eq_some_iff.1 hi).1
      rw [← htake, List.getElem?_take, if_pos (by omega)] at hi
      simp [World.cell?, hh]
      simpa using hi
    · rw [denL_eq_map] at hu
      obtain ⟨y, hy, rfl⟩ := List.mem_map.1 hu
      exact oneSV_den E (List.all_eq_true.1 hone y hy)

theorem app_good {tys : List TypeId} {ty : TypeId} {x y : SV} (hs : HeapSat W bs E F h w) (hK : KeysIn K h) (hk : ∀ k, k / 8 = κ → ¬ K k) (hside : (semApp P κ h tys [x, y]).side) :
    Good P W bs κ E h (semApp P κ h tys [x, y]) ((do pure (.value (← Builtin.append_ tys.toArray ty #[den E x, den E y])) : Sem Next).run P w) := by
  have hnk := hk _ (nk_div0 κ)
  revert hside
  unfold semApp
  split
  · rename_i k j heq
    simp only [List.cons.injEq, and_true] at heq
    obtain ⟨rfl, rfl⟩ := heq
    split
    · rename_i T T' e sz n vs T2 sz' m us hkk hjj
      split
      · rename_i by_ zs hb hz
        rintro ⟨rfl, hu, hsz, hzl, hpos, rfl, hkj, hm, h63, hbytes, hone⟩
        obtain ⟨i, z, hi, hzz, hzs, hbi, hsi⟩ := info_of hz hb
        have hszi : i.size = sz' := by rw [hsz] at hsi; exact (Option.some.inj hsi).symm
        subst hbi
        obtain ⟨g, c, hv1, hl, hc, h1⟩ := row_src hs hjj hm hone
        obtain ⟨hown, hF⟩ := hs.ent k _ hkk
        have hEk : hv (E k) = E k := hv_of (entSat_one (hs.ent k _ hkk))
        subst hszi
        obtain ⟨v', w', hrun, hown', hkeep, hblk, hlt⟩ := run_append_told (P := P) T' ty e i z hu hi hzz (by rw [← Array.length_toList, hzs, hzl]) hpos _ n _ hown ⟨g, 0, none⟩ m c _ hl hc h1 h63 hbytes hm
        have hrs : (do pure (.value (← Builtin.append_ [T', T'].toArray ty #[den E (.hd k), den E (.hd j)])) : Sem Next).run P w = .ok (.value v') w' := by
          simp only [den, hEk, hv1, Sem.run_bind]
          simp [hrun]
        rw [hrs]
        simp only [Good, Runs]
        refine ⟨trivial, upd E (nk κ) v', upd F (nk κ) v'.ownBlock.toList, fun q hq => upd_ne _ _ fun e => hq (by subst e; exact nk_div0 κ), ?_, ?_⟩
        · have : hv v' = v' := hv_of (entSat_one (e := .row e i.size (n + m) ((denL E vs ++ denL E us).map .v)) (E := E) (w := w') ⟨by rw [denL_map_v]; exact hown', rfl⟩)
          simp [den, upd_same, this]
        · simp only [updL]
          refine hs.move hK hkk hnk ?_ (fun b hb => ?_) hlt ?_
          · have hd : denL (upd E (nk κ) v') (vs ++ us) = denL E vs ++ denL E us := by
              rw [denL_append]
              congr 1 <;> refine denL_congr _ fun q hq => upd_ne _ _ fun e => hnk (e ▸ ?_)
              · exact (hK k _ hkk).2 q hq
              · exact (hK j _ hjj).2 q hq
            exact ⟨by rw [hd]; exact hown', rfl⟩
          · rw [hF]
            rcases hblk with h1 | h1
            · left; rw [← h1]; exact hb
            · right; rw [h1] at hb; simp at hb; omega
          · rw [hF]; exact hkeep
      · exact fun hf => hf.elim
    · exact fun hf => hf.elim
  · rename_i j heq
    simp only [List.cons.injEq, and_true] at heq
    obtain ⟨rfl, rfl⟩ := heq
    split
    · rename_i T T' T2 sz m us hjj
      split
      · rename_i e hu
        split
        · rename_i by_ zs hb hz
          rintro ⟨rfl, hsz, hzl, hpos, hm, h63, hbytes, hone⟩
          obtain ⟨i, z, hi, hzz, hzs, hbi, hsi⟩ := info_of hz hb
          have hszi : i.size = sz := by rw [hsz] at hsi; exact (Option.some.inj hsi).symm
          subst hbi
          obtain ⟨g, c, hv1, hl, hc, h1⟩ := row_src hs hjj hm hone
          subst hszi
          obtain ⟨v', w', hrun, hown', hkeep, hblk, hlt⟩ := run_append_told (P := P) T' ty e i z hu hi hzz (by rw [← Array.length_toList, hzs, hzl]) hpos _ 0 [] (World.ownsRow_nil w 0 e i.size) ⟨g, 0, none⟩ m c _ hl hc h1 (by omega) (by rw [Nat.zero_add]; exact hbytes) hm
          have hrs : (do pure (.value (← Builtin.append_ [T', T'].toArray ty #[den E (.v (.slice none 0 0)), den E (.hd j)])) : Sem Next).run P w = .ok (.value v') w' := by
            simp only [den, hv1, Sem.run_bind]
            simp [hrun]
          rw [hrs]
          simp only [Nat.zero_add, List.nil_append] at hown'
          simp only [Good, Runs]
          refine ⟨trivial, upd E (nk κ) v', upd F (nk κ) v'.ownBlock.toList, fun q hq => upd_ne _ _ fun e => hq (by subst e; exact nk_div0 κ), ?_, ?_⟩
          · have : hv v' = v' := hv_of (entSat_one (e := .row e i.size m ((denL E us).map .v)) (E := E) (w := w') ⟨by rw [denL_map_v]; exact hown', rfl⟩)
            simp [den, upd_same, this]
          · refine hs.new hK hnk ?_ (fun b hb => ?_) hkeep
            · have hd : denL (upd E (nk κ) v') us = denL E us := denL_congr _ fun q hq => upd_ne _ _ fun e => hnk (e ▸ (hK j _ hjj).2 q hq)
              exact ⟨by rw [hd]; exact hown', rfl⟩
            · rcases hblk with h1 | h1
              · rw [h1] at hb; simp [Value.ownBlock] at hb
              · refine ⟨?_, hlt b hb⟩
                rw [h1] at hb; simp at hb; omega
        · exact fun hf => hf.elim
      · exact fun hf => hf.elim
    · exact fun hf => hf.elim
  · exact fun hf => hf.elim
end
end Go.LE
