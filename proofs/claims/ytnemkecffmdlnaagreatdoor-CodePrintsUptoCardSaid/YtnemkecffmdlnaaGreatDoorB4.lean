/-
 Part 4 of the proof (packed).
-/
import Derived.Test.YtnemkecffmdlnaaGreatDoorB3
set_option linter.unusedSimpArgs false
set_option linter.unusedVariables false
set_option linter.defProp false
namespace Go.Proofs.YtnemkecffmdlnaaGreatDoor
section
open Go.RowKit Go.LE
set_option maxRecDepth 10000
def sD (s : ByteArray) (i : Int) (d : Nat) (op : List Value) : List AV := [.val (.string s), .val (.int .i64 i), .row 3 1 d op]
def dA (c i : Int) : List PanicEntry := [{ v := .iface 39 (tZ c i ⟨#[]⟩), recovered := false }]
theorem VW {s : ByteArray} {i : Int} (h0 : 0 <= i) (h : ¬ i < s.size) : bt s i = 0 := by
 unfold bt
 rw [Array.getElem?_eq_none (by have : s.data.size = s.size := rfl; omega)]
 rfl
theorem xn {w : World} {u : Value} {fp : List Nat} {s : ByteArray} {i : Int} {d : Nat} {op : List Value} (h : bz w u fp 251 (sD s i d op)) :
  ∃ b, u = .pointer (some ⟨b, 0, none⟩) /\ w.cell? ⟨b, 0, none⟩ = some (.string s) /\ w.cell? ⟨b, 0 + 1, none⟩ = some (.int .i64 i) := by
 obtain ⟨b, us, h1, h2, h3⟩ := Kv h
 match us, h2 with
 | [x, y, z], h2 =>
  obtain ⟨rfl, rfl, _, _⟩ := h2
  exact ⟨b, h1, h3 0 (by simp), h3 1 (by simp)⟩
def Uw := (aq @List.replicate_succ.{0} @List.replicate_zero.{0} @av @af jV jW jb (aq cW cX c8 cT cZ c9 cR (aq cV gz gv gi gk gn ez (aq ey eB eC eA ew Qp NZ (aq Rf Nj Of Q3 Qt Qd Ak (aq zz AP zl AJ z7 AE Ae (aq zI zd uJ uL u7 tn uZ (aq uA uH vH uY u5 ue tX (de @sD.eq_1 @tZ.eq_1 @dA.eq_1)))))))))
set_option maxHeartbeats 1000000 in
theorem L3 (s : ByteArray) (i : Int) (b : Nat) (w : World) (g1 : w.cell? ⟨b, 0, none⟩ = some (.string s)) (g2 : w.cell? ⟨b, 0 + 1, none⟩ = some (.int .i64 i)) :
  Calls Tryz.prog 127 #[.pointer (some ⟨b, 0, none⟩)] w fun e w' => e = .returned (.bool (decide ((s.size : Int) <= i))) /\ ai w [] w' := by
 refine aj (nt := 13) [.tmp 2] Tryz.func127 rfl rfl rfl ?_
 refine vR Γ0 Uw ?_
 refine R0 Γ0 (de Uw g1 g2) ?_
 refine wZ Uw ?_
 exact fun E => rfl
def dt : Df Tryz.prog 127 where
 T := 251
 pre := fun W bs fs as_ => match fs, as_ with | [.val (.string s), .val (.int .i64 i), .row 3 1 d op], [] => True | _, _ => False
 res := fun W fs as_ => match fs, as_ with | [.val (.string s), .val (.int .i64 i), .row 3 1 d op], [] => .bool (decide ((s.size : Int) <= i)) | _, _ => undef
 enters := Tryz.call127
 ok := by
  intro W w bs u fp us fs as_ hk ho hu hp
  split at hp
  ·rename_i s i d op
   match us, hu with
   | [], _ =>
    obtain ⟨b, rfl, g1, g2⟩ := xn ho; exact L3 s i b w g1 g2
  ·exact hp.elim
theorem fK (W : World) (s : ByteArray) (i : Int) (d : Nat) (op : List Value) : dt.res W [.val (.string s), .val (.int .i64 i), .row 3 1 d op] [] = .bool (decide ((s.size : Int) <= i)) := rfl
theorem fL (W : World) (bs : List Nat) (s : ByteArray) (i : Int) (d : Nat) (op : List Value) : dt.pre W bs [.val (.string s), .val (.int .i64 i), .row 3 1 d op] [] = (True) := rfl
theorem jv : dt.T = 251 := rfl
def BE := (eH Uw @fK @fL @jv)
set_option maxHeartbeats 1000000 in
theorem Q4 (s : ByteArray) (i : Int) (b : Nat) (w : World) (h0 : 0 <= i) (g1 : w.cell? ⟨b, 0, none⟩ = some (.string s)) (g2 : w.cell? ⟨b, 0 + 1, none⟩ = some (.int .i64 i)) :
  Calls Tryz.prog 179 #[.pointer (some ⟨b, 0, none⟩)] w fun e w' => e = .returned (.int .u8 (bt s i)) /\ ai w [] w' := by
 refine aj (nt := 22) [.tmp 2] Tryz.func179 rfl rfl rfl ?_
 refine vR Γ0 BE ?_
 refine Wp.seq ?_
 refine R0 Γ0 (de BE g1 g2) ?_
 refine wC BE (fun hc => ?_) (fun hc => ?_)
 ·have hi : i < s.size := by simpa using hc
  refine R0 Γ0 (de BE g1 g2) ?_
  refine wZ BE ?_
  exact fun E => rfl
 ·have hi : ¬ i < s.size := by simpa using hc
  rw [VW h0 hi]
  refine wK ?_
  refine vR Γ0 BE ?_
  refine wZ BE ?_
  exact fun E => rfl
def gj : Df Tryz.prog 179 where
 T := 251
 pre := fun W bs fs as_ => match fs, as_ with | [.val (.string s), .val (.int .i64 i), .row 3 1 d op], [] => 0 <= i | _, _ => False
 res := fun W fs as_ => match fs, as_ with | [.val (.string s), .val (.int .i64 i), .row 3 1 d op], [] => .int .u8 (bt s i) | _, _ => undef
 enters := Tryz.call179
 ok := by
  intro W w bs u fp us fs as_ hk ho hu hp
  split at hp
  ·rename_i s i d op
   match us, hu with
   | [], _ =>
    obtain ⟨b, rfl, g1, g2⟩ := xn ho; exact Q4 s i b w hp g1 g2
  ·exact hp.elim
theorem jk (W : World) (s : ByteArray) (i : Int) (d : Nat) (op : List Value) : gj.res W [.val (.string s), .val (.int .i64 i), .row 3 1 d op] [] = .int .u8 (bt s i) := rfl
theorem jg (W : World) (bs : List Nat) (s : ByteArray) (i : Int) (d : Nat) (op : List Value) : gj.pre W bs [.val (.string s), .val (.int .i64 i), .row 3 1 d op] [] = (0 <= i) := rfl
theorem nR : gj.T = 251 := rfl
def Xg := (eH BE @jk @jg @nR)
set_option maxHeartbeats 1000000 in
theorem F7 (s : ByteArray) (i : Int) (d : Nat) (op : List Value) (c j : Int) (u : Value) (fp : List Nat) (w : World) (ho : bz w u fp 251 (sD s i d op)) (hlt : ∀ b ∈ fp, b < w.heap.size) :
  Calls Tryz.prog 128 (#[u] ++ #[.int .i64 c, .int .i64 j]) w fun e w' => fu w u fp 251 e w' (.pan (dA c j) (.tuple #[])) := by
 refine bL (nt := 10) #[.int .i64 c, .int .i64 j] [] (by show 3 <= 7; omega) ho hlt Tryz.func128 rfl rfl rfl ?_
 refine Wp.nY Γ0 bR (ev Xg) ?_ ?_
 ·exact oo
 refine qq ?_
 exact ⟨_, rfl⟩
def eV : dz Tryz.prog 128 where
 T := 251
 pre := fun W bs fs as_ => match fs, as_ with | [.val (.string s), .val (.int .i64 i), .row 3 1 d op], [.val (.int .i64 c), .val (.int .i64 j)] => True | _, _ => False
 out := fun W fs as_ => match fs, as_ with | [.val (.string s), .val (.int .i64 i), .row 3 1 d op], [.val (.int .i64 c), .val (.int .i64 j)] => .pan (dA c j) (.tuple #[]) | _, _ => .pan [] undef
 enters := Tryz.call128
 ok := by
  intro W w bs u fp us fs as_ hk ho hlt hmine hu hp
  split at hp
  ·rename_i s i d op c j
   match us, hu with
   | [u0, u1], hu =>
    obtain ⟨rfl, rfl, _⟩ := hu
    exact F7 s i d op c j u fp w ho hlt
  ·exact hp.elim
theorem hY (W : World) (s : ByteArray) (i : Int) (d : Nat) (op : List Value) (c : Int) (j : Int) : eV.out W [.val (.string s), .val (.int .i64 i), .row 3 1 d op] [.val (.int .i64 c), .val (.int .i64 j)] = .pan (dA c j) (.tuple #[]) := rfl
theorem il (W : World) (bs : List Nat) (s : ByteArray) (i : Int) (d : Nat) (op : List Value) (c : Int) (j : Int) : eV.pre W bs [.val (.string s), .val (.int .i64 i), .row 3 1 d op] [.val (.int .i64 c), .val (.int .i64 j)] = (True) := rfl
theorem kS : eV.T = 251 := rfl
noncomputable def Γ44 : Env Tryz.prog := ⟨fun | 127 => some dt.spec | 179 => some gj.spec | 128 => some eV.spec | _ => none, fun | _ => none, fun _ _ => none⟩
theorem Gt44c127 : Γ44.sp 127 = some dt.spec := rfl
theorem Gt44c179 : Γ44.sp 179 = some gj.spec := rfl
theorem Gt44c128 : Γ44.sp 128 = some eV.spec := rfl
def OA (s : ByteArray) (d : Nat) (op : List Value) : Except (Int × Int) (Int × Int) -> BOut
 | .ok (n, j) => .ret (.int .i64 n) (sD s j d op)
 | .error (c, j) => .pan (dA c j) (.int .i64 0)
theorem IE (s : ByteArray) (d : Nat) (op : List Value) (n j : Int) : OA s d op (.ok (n, j)) = .ret (.int .i64 n) (sD s j d op) := rfl
theorem vf (s : ByteArray) (d : Nat) (op : List Value) (c j : Int) : OA s d op (.error (c, j)) = .pan (dA c j) (.int .i64 0) := rfl
theorem qv (c : Int -> Int) (N : Int) (k : Nat) (n i : Int) (h : ¬ (i < N /\ 48 <= c i /\ c i <= 57)) : iv c N k n i = (n, i) := by
 cases k with
 | zero => rfl
 | succ k => rw [iv, if_neg h]
def bd : Nat -> Int
 | 0 => 999
 | 1 => 99
 | 2 => 9
 | _ => 0
theorem Jd (k : Nat) : bd k <= 999 := by
 match k with
 | 0 => simp [bd]
 | 1 => simp [bd]
 | 2 => simp [bd]
 | n + 3 => simp [bd]
theorem td {k : Nat} (hk : k + 1 <= 3) : 10 * bd (k + 1) + 9 <= bd k := by
 match k, hk with
 | 0, _ => simp [bd]
 | 1, _ => simp [bd]
 | 2, _ => simp [bd]
def pR := (yR Xg @hY @il @kS Gt44c127 Gt44c179 Gt44c128)
set_option maxHeartbeats 2000000 in
theorem HE (s : ByteArray) (i : Int) (d : Nat) (op : List Value) (u : Value) (fp : List Nat) (w : World) (h0 : 0 <= i) (hi1 : i <= s.size) (hs : s.size <= 140737488351232) (ho : bz w u fp 251 (sD s i d op)) (hlt : ∀ b ∈ fp, b < w.heap.size) :
  Calls Tryz.prog 265 (#[u] ++ #[]) w fun e w' => fu w u fp 251 e w' (OA s d op (fU (bt s) s.size i)) := by
 refine bL (nt := 58) #[] [.tmp 2] (by show 3 <= 7; omega) ho hlt Tryz.func265 rfl rfl rfl ?_
 refine vR Γ44 pR ?_
 refine R0 Γ44 pR ?_
 generalize hR : iv (bt s) s.size 3 0 i = R
 have w3 : IntKind.i64.wrap (i + 3) = i + 3 := aa (by omega) (by omega)
 refine Wp.seq (Wp.block ?_)
 refine Wp.loop (fun p : Nat × Int => ⟨20, bQ [(0, .is (.own 0 0)), (3, .is (.v (.int .i64 p.2))), (4, .is (.v (.int .i64 i)))], bY [(0, .cells 251 [.v (.string s), .v (.int .i64 (i + (3 - (p.1 : Nat)))), .hd 3]), (3, .row 3 1 d (op.map .v))]⟩)
  (fun p => p.1 <= 3 /\ (0 <= p.2 /\ p.2 <= bd p.1) /\ i + (3 - (p.1 : Nat)) <= s.size /\ iv (bt s) s.size p.1 p.2 (i + (3 - (p.1 : Nat))) = R) (fun p => p.1) (3, 0) ?_ ⟨by simp, by simp [bd], by simpa using hi1, by simpa using hR⟩ ?_
 ·exact wM (fun k => .key k) (eH pR @Int.sub_self @Int.add_zero (show (3 : Int) - ((3 : Nat) : Int) = 0 from rfl))
 rintro ⟨k, n⟩ ⟨hk, ⟨hn0, hn1⟩, hi, hR'⟩
 simp only at hk hn0 hn1 hi hR'
 have hbd := Jd k
 refine Wp.seq ?_
 refine wR Γ44 (ab pR w3) ?_ ?_
 ·exact ⟨by decide, fun _ => ⟨by decide, by omega⟩, fun _ => ⟨by decide, by omega⟩⟩
 refine wC pR (fun hc => ?_) (fun hc => ?_)
 ·simp only [Bool.and_eq_true, Bool.not_eq_true', decide_eq_true_eq, decide_eq_false_iff_not] at hc
  obtain ⟨⟨⟨h1, h2⟩, h3⟩, h4⟩ := hc
  obtain ⟨k, rfl⟩ : ∃ j, k = j + 1 := ⟨k - 1, by omega⟩
  rw [iv, if_pos ⟨by omega, h3, h4⟩] at hR'
  have hst := td hk
  generalize hat : i + (3 - ((k + 1 : Nat) : Int)) = at_ at *
  have wa : IntKind.i64.wrap (10 * n) = 10 * n := aa (by omega) (by omega)
  have wb : IntKind.u8.wrap (bt s at_ - 48) = bt s at_ - 48 := fH (by omega) (by omega)
  have wc : IntKind.i64.wrap (bt s at_ - 48) = bt s at_ - 48 := aa (by omega) (by omega)
  have wd : IntKind.i64.wrap (10 * n + (bt s at_ - 48)) = 10 * n + (bt s at_ - 48) := aa (by omega) (by omega)
  have we : IntKind.i64.wrap (at_ + 1) = i + (3 - ((k : Nat) : Int)) := by rw [aa (by omega) (by omega)]; omega
  refine wK ?_
  refine Wp.block ?_
  refine wR Γ44 (oc pR wa wb wc wd) ?_ ?_
  ·exact ⟨by decide, by omega⟩
  refine vr Γ44 (ab pR we) ?_
  refine ⟨(k, 10 * n + (bt s at_ - 48)), ⟨by simp only; omega, ⟨by simp only; omega, by simp only; omega⟩, by simp only; omega, by simp only; rw [show i + (3 - (k : Int)) = at_ + 1 by omega]; exact hR'⟩, by simp only; omega, ?_⟩
  exact wM (fun k => .key k) pR
 ·have hst : ¬ ((i + (3 - (k : Int)) < s.size /\ i + (3 - (k : Int)) < i + 3 /\ 48 <= bt s (i + (3 - (k : Int)))) /\ bt s (i + (3 - (k : Int))) <= 57) := fun h => by
   apply Bool.eq_false_iff.1 hc
   simp
   omega
  have hRe : R = (n, i + (3 - (k : Int))) := by
   rw [<- hR']
   cases k with
   | zero => rfl
   | succ k => exact qv _ _ _ _ _ (fun h => hst ⟨⟨h.1, by omega, h.2.1⟩, h.2.2⟩)
  have he : fU (bt s) s.size i = if R.2 = i then .error (20, i) else .ok R := by rw [fU, hR]
  rw [he, hRe]
  refine wE ?_
  refine Wp.seq ?_
  refine vR Γ44 pR ?_
  refine wC pR (fun hc => ?_) (fun hc => ?_)
  ·have h1 : i + (3 - (k : Int)) = i := by simpa using hc
   rw [if_pos h1, vf]
   refine Wp.nY Γ44 bR (ev (ab pR h1)) ?_ ?_
   ·exact ⟨by decide, by simp⟩
   refine qq ?_
   exact ⟨_, rfl⟩
  ·have h1 : ¬ i + (3 - (k : Int)) = i := by simpa using hc
   rw [if_neg h1, IE]
   refine wK ?_
   refine vR Γ44 pR ?_
   refine wZ pR ?_
   exact ⟨_, _, rfl, fun E => rfl, _, _, rfl, by simp only [dS, Op.operands, Value.cells, σ0, σB, Nat.reduceEqDiff, Nat.reduceAdd, Nat.reduceMul, Nat.reduceLT, Nat.reduceLeDiff, Nat.reduceBEq, ae, Int.reduceToNat, Int.reduceLT, Int.reduceLE, Nat.reduceDiv, Nat.reduceMod, Nat.reduceSub, Int.reducePow, Nat.reducePow, σP, σB3, pR, aE]; rfl, by decide⟩
def po : dz Tryz.prog 265 where
 T := 251
 pre := fun W bs fs as_ => match fs, as_ with | [.val (.string s), .val (.int .i64 i), .row 3 1 d op], [] => 0 <= i /\ i <= s.size /\ s.size <= 140737488351232 | _, _ => False
 out := fun W fs as_ => match fs, as_ with | [.val (.string s), .val (.int .i64 i), .row 3 1 d op], [] => OA s d op (fU (bt s) s.size i) | _, _ => .pan [] undef
 enters := Tryz.call265
 ok := by
  intro W w bs u fp us fs as_ hk ho hlt hmine hu hp
  split at hp
  ·rename_i s i d op
   match us, hu with
   | [], _ =>
    exact HE s i d op u fp w hp.1 hp.2.1 hp.2.2 ho hlt
  ·exact hp.elim
theorem Ci (W : World) (s : ByteArray) (i : Int) (d : Nat) (op : List Value) : po.out W [.val (.string s), .val (.int .i64 i), .row 3 1 d op] [] = OA s d op (fU (bt s) s.size i) := rfl
theorem De (W : World) (bs : List Nat) (s : ByteArray) (i : Int) (d : Nat) (op : List Value) : po.pre W bs [.val (.string s), .val (.int .i64 i), .row 3 1 d op] [] = (0 <= i /\ i <= s.size /\ s.size <= 140737488351232) := rfl
theorem Kc : po.T = 251 := rfl
end
section
open Go.RowKit Go.LE
set_option maxRecDepth 10000
theorem eg {r : RL} {W1 : World} {bs1 fp : List Nat} {w : World} {S : Nat -> Prop} {fv : Value} {T : TypeId} {h : Hp} {vs : List SV} {fs' : List AV} {ks : List Nat} (hg : bw W1 (fg (aL w S fp) bs1) fv r.2)
  (h0 : h 0 = some (.cells T vs)) (hv : ay h vs = some (fs', ks)) (hn : (0 :: ks).Nodup) : Oo w S fp T W1 bs1 (.agg [.v (.int .i64 (r.1 : Nat)), .v fv]) h (.fact Sh.two (dk r) fs') :=
 ⟨⟨[.int .i64 (r.1 : Nat), fv], fun E => (ph r fv hg.one).symm, fv, rfl, hg⟩, vs, ks, h0, hv, hn⟩
theorem FN (a : RL) (x : AV) (m n : Int) : (vz a).out [x, .val (.int .i64 m), .val (.int .i64 n)] = .fact Sh.two (dk (cK a m n)) := rfl
theorem GJ (a : RL) (as_ : List AV) (W : World) (S : Nat -> Prop) : (vz a).pre as_ W S = (a.1 <= 2001 /\ ∃ x m n, as_ = [x, .val (.int .i64 m), .val (.int .i64 n)] /\ 0 <= m /\ m <= 255 /\ -1 <= n /\ n <= 255) := rfl
theorem AZ (a : RL) : (vz a).kinds = [some (Sh.two, dk a), none, none] := rfl
noncomputable def Γ45 (G : Nat -> Prop) (a : RL) : Env Tryz.prog := ⟨fun | 127 => some dt.spec | 179 => some gj.spec | 128 => some eV.spec | 265 => some po.spec | 266 => some ((vz a).spec G) | _ => none, fun _ => none, fun _ _ => none⟩
theorem Gt45c127 (G : Nat -> Prop) (a : RL) : (Γ45 G a).sp 127 = some dt.spec := rfl
theorem Gt45c179 (G : Nat -> Prop) (a : RL) : (Γ45 G a).sp 179 = some gj.spec := rfl
theorem Gt45c128 (G : Nat -> Prop) (a : RL) : (Γ45 G a).sp 128 = some eV.spec := rfl
theorem Gt45c265 (G : Nat -> Prop) (a : RL) : (Γ45 G a).sp 265 = some po.spec := rfl
theorem Gt45c266 (G : Nat -> Prop) (a : RL) : (Γ45 G a).sp 266 = some ((vz a).spec G) := rfl
def uq : Value := .agg #[.int .i64 0, .nilFunc]
def QX (a : RL) (s : ByteArray) (d : Nat) (op : List Value) : Except (Int × Int) (Int × Int × Int) -> GOut
 | .ok (m, n, j) => .fact Sh.two (dk (cK a m n)) (sD s j d op)
 | .error (c, j) => .pan (dA c j) uq
theorem JP {c : Int -> Int} {N i n j : Int} (h : fU c N i = .ok (n, j)) : 0 <= n /\ n <= 999 := by
 have key : ∀ (k : Nat) (n i : Int), k <= 3 -> 0 <= n -> n <= bd k -> 0 <= (iv c N k n i).1 /\ (iv c N k n i).1 <= 999 := by
  intro k
  induction k with
  | zero => intro n i _ h0 h1; exact ⟨h0, h1⟩
  | succ k ih =>
   intro n i hk h0 h1
   rw [iv]
   split
   ·rename_i h
    have := td hk
    exact ih _ _ (by omega) (by omega) (by omega)
   ·have := Jd (k + 1)
    exact ⟨h0, by simp only; omega⟩
 unfold fU at h
 split at h
 ·cases h
 ·simp only [Except.ok.injEq] at h
  have := key 3 0 i (Nat.le_refl _) (by omega) (by simp [bd])
  rw [h] at this
  exact this
def cH := (aq @List.replicate_succ.{0} @List.replicate_zero.{0} @av @af jV jW jb (aq cW cX c8 cT cZ c9 cR (aq cV gz gv gi gk gn Of (aq Q3 Qt Qd uJ uL u7 tn (aq uZ uA uH vH uY u5 ue (aq tX qa qb qp py ql pH (aq @sD.eq_1 @tZ.eq_1 @dA.eq_1 @aN @au @aA @az (aq @fz @jH @fK @fL @jv @jk @jg (aq @nR @hY @il @kS @Ci @De @Kc (aq @IE @vf @Gt45c127 @Gt45c179 @Gt45c128 @Gt45c265 @Gt45c266 (de @FN @GJ @AZ)))))))))))
set_option maxHeartbeats 2000000 in
theorem Gg (s : ByteArray) (i : Int) (d : Nat) (op : List Value) (a : RL) (fa : Value) (ha : a.1 <= 2001) (u : Value) (fp : List Nat) (w : World) (S : Nat -> Prop) (h0 : 0 <= i) (hi1 : i < s.size) (hs : s.size <= 140737488351232)
  (ho : bz w u fp 251 (sD s i d op)) (hlt : ∀ b ∈ fp, b < w.heap.size) (hS : ∀ b ∈ fp, ¬ S b) (h1 : bw w S fa a.2) :
  Calls Tryz.prog 262 (#[u] ++ #[gq a fa]) w fun e w' => xZ w S u fp 251 e w' (QX a s d op (lx (bt s) s.size i)) := by
 have ga : partsOf (.v (gq a fa)) = [.v (.int .i64 (a.1 : Nat)), .v fa] := rfl
 have u0 := aL.up w S fp
 have g0 := h1.mono (aL.h9 w S fp hS)
 have w1 : IntKind.i64.wrap (i + 1) = i + 1 := aa (by omega) (by omega)
 refine gO (nt := 88) S #[gq a fa] [.cell 4 254] (by show 3 <= 7; omega) ho hlt Tryz.func262 rfl rfl rfl ?_
 refine vR Γ0 (ab cH ga) ?_
 refine vR Γ0 cH ?_
 refine vR Γ0 (ab cH w1) ?_
 cases hN : fU (bt s) s.size (i + 1) with
 | error e =>
  obtain ⟨c, j⟩ := e
  have he : lx (bt s) s.size i = .error (c, j) := by rw [lx, hN]
  rw [he]
  refine Wp.iJ (Γ45 (aL w S fp) a) bR (ev (de cH hN w1)) ?_ ?_
  ·first | trivial | omega | (simp [hs]; done) | (simp [hs]; omega) | (simp [hs] <;> omega)
  refine qq ?_
  exact ⟨_, rfl⟩
 | ok p =>
  obtain ⟨m, j⟩ := p
  have hj := ti hN
  have hm := JP hN
  refine wR (Γ45 (aL w S fp) a) (de cH hN w1) ?_ ?_
  ·first | trivial | omega | (simp [hs]; done) | (simp [hs]; omega) | (simp [hs] <;> omega)
  refine vR Γ0 cH ?_
  have wj : IntKind.i64.wrap (j + 1) = j + 1 := aa (by omega) (by omega)
  have hb : ∀ n k, vU (bt s) s.size m j = .ok (n, k) -> lx (bt s) s.size i = kW (bt s) s.size m n k i := fun n k h => by rw [lx, hN]; simp only [h]
  cases hU : vU (bt s) s.size m j with
  | error e =>
   obtain ⟨c, k⟩ := e
   have he : lx (bt s) s.size i = .error (c, k) := by rw [lx, hN]; simp only [hU]
   rw [he]
   rw [vU] at hU
   split at hU
   ·rename_i h44
    split at hU
    ·rename_i h125
     refine Wp.seq ?_
     refine wR (Γ45 (aL w S fp) a) cH ?_ ?_
     ·first | trivial | omega | (simp [hs]; done) | (simp [hs]; omega) | (simp [hs] <;> omega)
     refine wC cH (fun hc => ?_) (fun hc => ?_)
     ·skip
      refine vR Γ0 (ab cH wj) ?_
      refine vR Γ0 cH ?_
      refine wR (Γ45 (aL w S fp) a) cH ?_ ?_
      ·first | trivial | omega | (simp [hs]; done) | (simp [hs]; omega) | (simp [hs] <;> omega)
      refine wC cH (fun hc => ?_) (fun hc => ?_)
      ·skip
       refine Wp.nY (Γ45 (aL w S fp) a) bR (ev (ab cH hU)) ?_ ?_
       ·first | trivial | omega | (simp [hs]; done) | (simp [hs]; omega) | (simp [hs] <;> omega)
       refine qq ?_
       exact ⟨_, rfl⟩
      ·exfalso
       apply Bool.eq_false_iff.1 hc
       simp
       omega
     ·exfalso
      apply Bool.eq_false_iff.1 hc
      simp
      omega
    ·cases hU
   ·cases hU
  | ok q =>
   obtain ⟨n, k⟩ := q
   have hbe := hb n k hU
   refine bp ⟨60, bQ [(0, .is (.own 0 0)), (3, .is (.own 8 0)), (4, .is (.own 16 0)), (5, .is (.v (.int .i64 i))), (6, .is (.v (.int .i64 m))), (7, .is (.v (.int .i64 n)))], bY [(0, .cells 251 [.v (.string s), .v (.int .i64 k), .hd 3]), (3, .row 3 1 d (op.map .v)), (8, .cells 254 [.v (.int .i64 (a.1 : Nat)), .v fa]), (16, .cells 254 [.v (.int .i64 0), .v .nilFunc])]⟩ ?_ ?_
   ·skip
    refine wR (Γ45 (aL w S fp) a) cH ?_ ?_
    ·first | trivial | omega | (simp [hs]; done) | (simp [hs]; omega) | (simp [hs] <;> omega)
    refine wC cH (fun hc => ?_) (fun hc => ?_)
    ·have h44 : j < s.size /\ bt s j = 44 := by
      simp at hc
      omega
     rw [vU, if_pos h44] at hU
     refine vR Γ0 (ab cH wj) ?_
     refine vR Γ0 cH ?_
     refine wR (Γ45 (aL w S fp) a) cH ?_ ?_
     ·first | trivial | omega | (simp [hs]; done) | (simp [hs]; omega) | (simp [hs] <;> omega)
     refine wC cH (fun hc => ?_) (fun hc => ?_)
     ·have h125 : ¬ j + 1 < s.size \/ bt s (j + 1) ≠ 125 := by
       simp at hc
       omega
      rw [if_pos h125] at hU
      refine wr (Γ45 (aL w S fp) a) (ab cH hU) ?_ ?_
      ·first | trivial | omega | (simp [hs]; done) | (simp [hs]; omega) | (simp [hs] <;> omega)
      exact wM (fun x => if x = 3 then .key 370 else .key x) cH
     ·have h125 : ¬ (¬ j + 1 < s.size \/ bt s (j + 1) ≠ 125) := by
       simp at hc
       omega
      rw [if_neg h125] at hU
      simp only [Except.ok.injEq, Prod.mk.injEq] at hU
      obtain ⟨rfl, rfl⟩ := hU
      refine wK ?_
      exact wM (fun x => if x = 3 then .key 138 else .key x) cH
    ·have h44 : ¬ (j < s.size /\ bt s j = 44) := fun h => by
      apply Bool.eq_false_iff.1 hc
      simp
      omega
     rw [vU, if_neg h44] at hU
     simp only [Except.ok.injEq, Prod.mk.injEq] at hU
     obtain ⟨rfl, rfl⟩ := hU
     refine wK ?_
     exact wM (fun x => if x = 3 then .key 138 else .key x) cH
   ·have hk : j <= k /\ k <= s.size /\ -1 <= n /\ n <= 999 := by
     rw [vU] at hU
     split at hU
     ·split at hU
      ·have := ti hU
       have := JP hU
       omega
      ·simp only [Except.ok.injEq, Prod.mk.injEq] at hU; omega
     ·simp only [Except.ok.injEq, Prod.mk.injEq] at hU; omega
    have wk : IntKind.i64.wrap (k + 1) = k + 1 := aa (by omega) (by omega)
    rw [hbe]
    refine Wp.seq ?_
    refine wR (Γ45 (aL w S fp) a) cH ?_ ?_
    ·first | trivial | omega | (simp [hs]; done) | (simp [hs]; omega) | (simp [hs] <;> omega)
    refine wC cH (fun hc => ?_) (fun hc => ?_)
    ·have h2 : ¬ k < s.size \/ bt s k ≠ 125 := by
      simp at hc
      omega
     rw [kW, if_pos h2]
     refine Wp.nY (Γ45 (aL w S fp) a) bR (ev cH) ?_ ?_
     ·first | trivial | omega | (simp [hs]; done) | (simp [hs]; omega) | (simp [hs] <;> omega)
     refine qq ?_
     exact ⟨_, rfl⟩
    ·have h2 : ¬ (¬ k < s.size \/ bt s k ≠ 125) := fun h => by
      apply Bool.eq_false_iff.1 hc
      simp
      omega
     rw [kW, if_neg h2]
     refine wK ?_
     refine vR Γ0 (ab cH wk) ?_
     refine Wp.seq ?_
     refine vR Γ0 cH ?_
     refine wC cH (fun hc => ?_) (fun hc => ?_)
     ·have h3 : 255 < m \/ 255 < n \/ 0 <= n /\ n < m := by
       simp at hc
       omega
      rw [if_pos h3]
      refine Wp.nY (Γ45 (aL w S fp) a) bR (ev cH) ?_ ?_
      ·first | trivial | omega | (simp [hs]; done) | (simp [hs]; omega) | (simp [hs] <;> omega)
      refine qq ?_
      exact ⟨_, rfl⟩
     ·have h3 : ¬ (255 < m \/ 255 < n \/ 0 <= n /\ n < m) := fun h => by
       apply Bool.eq_false_iff.1 hc
       simp
       omega
      rw [if_neg h3]
      refine wK ?_
      refine wR (Γ45 (aL w S fp) a) cH ?_ ?_
      ·exact ⟨⟨bV g0, ha, _, _, _, rfl, by omega, by omega, by omega, by omega⟩, u0⟩
      refine Wp.gK 744 (ev (ab cH ga)) (cv.refl _ _) fun W1 bs1 cs hx1 hΦ => ?_
      obtain ⟨fv, rfl, hg, hv1⟩ := ck hΦ
      refine wZ (de cH ga hv1) ?_
      exact eg hg rfl (by simp only [dS, Op.operands, Value.cells, σ0, σB, Nat.reduceEqDiff, Nat.reduceAdd, Nat.reduceMul, Nat.reduceLT, Nat.reduceLeDiff, Nat.reduceBEq, ae, Int.reduceToNat, Int.reduceLT, Int.reduceLE, Nat.reduceDiv, Nat.reduceMod, Nat.reduceSub, Int.reducePow, Nat.reducePow, σP, σB3, cH, aE]; rfl) (by decide)
def nO (a : RL) : yh Tryz.prog 262 where
 T := 251
 kinds := [some (Sh.two, dk a)]
 pre := fun fs as_ W S => ∃ s i d op x, fs = sD s i d op /\ as_ = [x] /\ a.1 <= 2001 /\ 0 <= i /\ i < s.size /\ s.size <= 140737488351232
 premono := fun _ _ _ _ _ _ _ h => h
 out := fun fs as_ => match fs with
  | [.val (.string s), .val (.int .i64 i), .row 3 1 d op] => QX a s d op (lx (bt s) s.size i)
  | _ => .pan [] undef
 enters := Tryz.call262
 ok := by
  intro w S u fp us fs as_ ho hlt hS hu hp
  obtain ⟨s, i, d, op, x, rfl, rfl, ha, h0, hi, hs⟩ := hp
  match us, hu with
  | [u1], hu =>
   obtain ⟨h1, _⟩ := hu
   obtain ⟨fa, rfl, h1'⟩ := ju h1
   exact Gg s i d op a fa ha u fp w S h0 hi hs ho hlt hS h1'
end
section
open Go.RowKit Go.LE
set_option maxRecDepth 10000
theorem Bh (a : RL) (s : ByteArray) (i : Int) (d : Nat) (op : List Value) (as_ : List AV) : (nO a).out [.val (.string s), .val (.int .i64 i), .row 3 1 d op] as_ = QX a s d op (lx (bt s) s.size i) := rfl
theorem BR (a : RL) (fs as_ : List AV) (W : World) (S : Nat -> Prop) : (nO a).pre fs as_ W S = ∃ s i d op x, fs = sD s i d op /\ as_ = [x] /\ a.1 <= 2001 /\ 0 <= i /\ i < s.size /\ s.size <= 140737488351232 := rfl
theorem w5 (a : RL) : (nO a).kinds = [some (Sh.two, dk a)] := rfl
theorem KF (a : RL) : (nO a).T = 251 := rfl
theorem Uy (a : RL) (s : ByteArray) (d : Nat) (op : List Value) (m n j : Int) : QX a s d op (.ok (m, n, j)) = .fact Sh.two (dk (cK a m n)) (sD s j d op) := rfl
theorem Gs (a : RL) (s : ByteArray) (d : Nat) (op : List Value) (c j : Int) : QX a s d op (.error (c, j)) = .pan (dA c j) uq := rfl
noncomputable def Γ46 (G : Nat -> Prop) (a : RL) : Env Tryz.prog := ⟨fun | 127 => some dt.spec | 179 => some gj.spec | 260 => some ((vT a).spec G) | 180 => some ((gC .cat a (eN a)).spec G) | 261 => some ((qH a).spec G) | 262 => some ((nO a).spec G) | _ => none, fun _ => none, fun _ _ => none⟩
theorem Gt46c127 (G : Nat -> Prop) (a : RL) : (Γ46 G a).sp 127 = some dt.spec := rfl
theorem Gt46c179 (G : Nat -> Prop) (a : RL) : (Γ46 G a).sp 179 = some gj.spec := rfl
theorem Gt46c260 (G : Nat -> Prop) (a : RL) : (Γ46 G a).sp 260 = some ((vT a).spec G) := rfl
theorem Gt46c180 (G : Nat -> Prop) (a : RL) : (Γ46 G a).sp 180 = some ((gC .cat a (eN a)).spec G) := rfl
theorem Gt46c261 (G : Nat -> Prop) (a : RL) : (Γ46 G a).sp 261 = some ((qH a).spec G) := rfl
theorem Gt46c262 (G : Nat -> Prop) (a : RL) : (Γ46 G a).sp 262 = some ((nO a).spec G) := rfl
def CH (s : ByteArray) (d : Nat) (op : List Value) : Except (Int × Int) (RL × Int) -> GOut
 | .ok (r, j) => .fact Sh.two (dk r) (sD s j d op)
 | .error (c, j) => .pan (dA c j) uq
theorem ny (s : ByteArray) (d : Nat) (op : List Value) (r : RL) (j : Int) : CH s d op (.ok (r, j)) = .fact Sh.two (dk r) (sD s j d op) := rfl
theorem bH (s : ByteArray) (d : Nat) (op : List Value) (c j : Int) : CH s d op (.error (c, j)) = .pan (dA c j) uq := rfl
theorem yA (a : RL) (m n : Int) (ha : a.1 <= 2001) : (cK a m n).1 <= 2001 := by
 have h1 : (if m = 0 then bA a else a).1 <= 2001 := by split; exact lh a; exact ha
 unfold cK
 split
 ·exact mO a
 ·split
  ·decide
  ·split
   ·exact eJ _ _ _
   ·exact mW _ (fun x => eJ _ _ _) _ _ (mW _ (fun x => eJ _ _ _) _ _ h1)
structure RI where
 W : World
 bs : List Nat
 fo : Value
 r : RL
 i : Int
 n : Nat
def cA := (aq @List.replicate_succ.{0} @List.replicate_zero.{0} @av @af jV jW jb (aq cW cX c8 cT cZ c9 cR (aq cV gz gv gi gk gn uJ (aq uL u7 tn uZ uA uH vH (aq uY u5 ue tX qa qb qp (aq py ql pH xv yP ya @sD.eq_1 (aq @tZ.eq_1 @dA.eq_1 @aN @au @aA @az @fz (aq @jH @fK @fL @jv @jk @jg @nR (aq @vT.eq_1 @gC.eq_1 @qH.eq_1 @Gt46c127 @Gt46c179 @Gt46c260 @Gt46c180 (aq @Gt46c261 @Gt46c262 @Bh @BR @w5 @KF @Uy @Gs))))))))))
set_option maxHeartbeats 4000000 in
theorem Ea (s : ByteArray) (i0 : Int) (d : Nat) (op : List Value) (a : RL) (fa : Value) (ha : a.1 <= 2001) (u : Value) (fp : List Nat) (w : World) (S : Nat -> Prop) (h0 : 0 <= i0) (hi1 : i0 <= s.size) (hs : s.size <= 140737488351232)
  (ho : bz w u fp 251 (sD s i0 d op)) (hlt : ∀ b ∈ fp, b < w.heap.size) (hS : ∀ b ∈ fp, ¬ S b) (h1 : bw w S fa a.2) :
  Calls Tryz.prog 250 (#[u] ++ #[gq a fa]) w fun e w' => xZ w S u fp 251 e w' (CH s d op (gP (bt s) s.size ((s.size : Int).toNat + 1) a i0)) := by
 have ga : partsOf (.v (gq a fa)) = [.v (.int .i64 (a.1 : Nat)), .v fa] := rfl
 have u0 := aL.up w S fp
 have g0 := h1.mono (aL.h9 w S fp hS)
 generalize hR : gP (bt s) s.size ((s.size : Int).toNat + 1) a i0 = R
 refine gO (nt := 38) S #[gq a fa] [.cell 4 254] (by show 3 <= 7; omega) ho hlt Tryz.func250 rfl rfl rfl ?_
 refine vR Γ0 (ab cA ga) ?_
 refine Wp.seq (Wp.block ?_)
 refine Wp.yQ (fun p : RI => ⟨5, bQ [(0, .is (.own 0 0)), (3, .is (.own 8 0)), (4, .is (.own 16 0))], bY [(0, .cells 251 [.v (.string s), .v (.int .i64 p.i), .hd 3]), (3, .row 3 1 d (op.map .v)), (8, .cells 254 [.v (.int .i64 (p.r.1 : Nat)), .v p.fo]), (16, .cells 254 [.v (.int .i64 0), .v .nilFunc])]⟩)
  RI.W RI.bs (fun p => (0 <= p.i /\ p.i <= s.size) /\ p.r.1 <= 2001 /\ ((s.size : Int) - p.i < p.n /\ 1 <= p.n) /\ bw p.W (fg (aL w S fp) p.bs) p.fo p.r.2 /\ gP (bt s) s.size p.n p.r p.i = R) (fun p => p.n) ⟨w, fp, fa, a, i0, (s.size : Int).toNat + 1⟩ rfl rfl ?_ ⟨⟨h0, hi1⟩, ha, ⟨by simp only; omega, by simp only; omega⟩, g0, hR⟩ ?_
 ·exact wM (fun x => .key x) (ab cA ga)
 rintro ⟨W1, bs1, fo, r, i, n⟩ ⟨⟨hi0, hiN⟩, hr, ⟨hn, hn1⟩, hg, hR'⟩ hx1
 simp only at hi0 hiN hr hn hn1 hg hR' hx1
 dsimp only
 obtain ⟨n, rfl⟩ : ∃ m, n = m + 1 := ⟨n - 1, by omega⟩
 have u1 := u0.ext hx1
 refine Wp.seq ?_
 refine wR (Γ46 (aL w S fp) r) cA ?_ ?_
 ·first | trivial | omega | (simp [hs]; done) | (simp [hs]; omega) | (simp [hs] <;> omega)
 refine wC cA (fun hc => ?_) (fun hc => ?_)
 ·have hi : i < s.size := by
   simp at hc
   omega
  rw [gP, if_neg (by omega)] at hR'
  have wi : IntKind.i64.wrap (i + 1) = i + 1 := aa (by omega) (by omega)
  refine wK ?_
  refine Wp.block ?_
  refine Wp.seq ?_
  refine wR (Γ46 (aL w S fp) r) cA ?_ ?_
  ·first | trivial | omega | (simp [hs]; done) | (simp [hs]; omega) | (simp [hs] <;> omega)
  refine Wp.block ?_
  refine vR Γ0 cA ?_
  refine wC cA (fun hc => ?_) (fun hc => ?_)
  ·have h42 : bt s i = 42 := by simpa using hc
   rw [if_pos h42] at hR'
   refine Wp.more ?_
   refine wr (Γ46 (aL w S fp) r) cA ?_ ?_
   ·exact ⟨⟨bV hg, hr, _, rfl⟩, u1⟩
   refine ei ?_
   refine Pw.gK 104 (ev cA) (cv.refl _ _) fun W2 bs2 cs hx2 hΦ => ?_
   obtain ⟨fv, rfl, hg2, hv2⟩ := ck hΦ
   refine Pw.here ?_
   refine qq ?_
   refine vr Γ0 (ab cA wi) ?_
   refine ⟨⟨W2, bs2, fv, eN r, i + 1, n⟩, ⟨by simp only; omega, mO r, by simp only; omega, hg2, hR'⟩, by simp only; omega, rfl, rfl, ?_⟩
   exact wM (fun x => .key x) (ab cA hv2)
  ·have h42 : ¬ bt s i = 42 := by simpa using hc
   rw [if_neg h42] at hR'
   refine vR Γ0 cA ?_
   refine wC cA (fun hc => ?_) (fun hc => ?_)
   ·have h43 : bt s i = 43 := by simpa using hc
    rw [if_pos h43] at hR'
    refine Wp.more ?_
    refine sx (Γ46 (aL w S fp) r) cA ?_ ?_
    ·exact ⟨⟨⟨bV hg, hr, _, rfl⟩, u1⟩, ⟨bV hg, ⟨hr, mO r⟩, _, _, rfl⟩, u1⟩
    refine ei ?_
    refine Pw.gK 136 (ev cA) (cv.refl _ _) fun W2 bs2 cs hx2 hΦ => ?_
    obtain ⟨fv, rfl, hg2, hv2⟩ := ck hΦ
    refine Pw.here ?_
    refine qq ?_
    refine vr Γ0 (ab cA wi) ?_
    refine ⟨⟨W2, bs2, fv, aQ .cat r (eN r), i + 1, n⟩, ⟨by simp only; omega, eJ _ _ _, by simp only; omega, hg2, hR'⟩, by simp only; omega, rfl, rfl, ?_⟩
    exact wM (fun x => .key x) (ab cA hv2)
   ·have h43 : ¬ bt s i = 43 := by simpa using hc
    rw [if_neg h43] at hR'
    refine vR Γ0 cA ?_
    refine wC cA (fun hc => ?_) (fun hc => ?_)
    ·have h63 : bt s i = 63 := by simpa using hc
     rw [if_pos h63] at hR'
     refine Wp.more ?_
     refine wr (Γ46 (aL w S fp) r) cA ?_ ?_
     ·exact ⟨⟨bV hg, hr, _, rfl⟩, u1⟩
     refine ei ?_
     refine Pw.gK 136 (ev cA) (cv.refl _ _) fun W2 bs2 cs hx2 hΦ => ?_
     obtain ⟨fv, rfl, hg2, hv2⟩ := ck hΦ
     refine Pw.here ?_
     refine qq ?_
     refine vr Γ0 (ab cA wi) ?_
     refine ⟨⟨W2, bs2, fv, bA r, i + 1, n⟩, ⟨by simp only; omega, lh r, by simp only; omega, hg2, hR'⟩, by simp only; omega, rfl, rfl, ?_⟩
     exact wM (fun x => .key x) (ab cA hv2)
    ·have h63 : ¬ bt s i = 63 := by simpa using hc
     rw [if_neg h63] at hR'
     refine vR Γ0 cA ?_
     refine wC cA (fun hc => ?_) (fun hc => ?_)
     ·have h123 : bt s i = 123 := by simpa using hc
      rw [if_pos h123] at hR'
      cases hB : lx (bt s) s.size i with
      | error e =>
       obtain ⟨c, j⟩ := e
       rw [hB] at hR'
       simp only at hR'
       rw [<- hR', bH]
       refine Wp.iJ (Γ46 (aL w S fp) r) bR (ev (ab cA hB)) ?_ ?_
       ·exact ⟨⟨bV hg, _, _, _, _, _, rfl, rfl, hr, hi0, hi, hs⟩, by decide, by simp⟩
       refine qq ?_
       exact ⟨_, rfl⟩
      | ok q =>
       obtain ⟨m, k, j⟩ := q
       rw [hB] at hR'
       simp only at hR'
       have hj := tO hB
       refine wR (Γ46 (aL w S fp) r) (ab cA hB) ?_ ?_
       ·exact ⟨⟨bV hg, _, _, _, _, _, rfl, rfl, hr, hi0, hi, hs⟩, by decide, by simp, u1⟩
       refine Wp.gK 167 (ev cA) (cv.refl _ _) fun W2 bs2 cs hx2 hΦ => ?_
       obtain ⟨fv, rfl, hg2, hv2⟩ := ck hΦ
       refine wE ?_
       refine ⟨⟨W2, bs2, fv, cK r m k, j, n⟩, ⟨by simp only; omega, yA _ _ _ hr, by simp only; omega, hg2, hR'⟩, by simp only; omega, rfl, rfl, ?_⟩
       exact wM (fun x => if x = 3 then .key 162 else .key x) (ab cA hv2)
     ·have h123 : ¬ bt s i = 123 := by simpa using hc
      rw [if_neg h123] at hR'
      refine wR Γ0 cA ?_ ?_
      ·exact hg.one
      refine wZ cA ?_
      rw [<- hR']
      exact eg hg rfl (by simp only [dS, Op.operands, Value.cells, σ0, σB, Nat.reduceEqDiff, Nat.reduceAdd, Nat.reduceMul, Nat.reduceLT, Nat.reduceLeDiff, Nat.reduceBEq, ae, Int.reduceToNat, Int.reduceLT, Int.reduceLE, Nat.reduceDiv, Nat.reduceMod, Nat.reduceSub, Int.reducePow, Nat.reducePow, σP, σB3, cA, aE]; rfl) (by decide)
 ·have hi : ¬ i < s.size := by
   simp at hc
   omega
  rw [gP, if_pos hi] at hR'
  refine wE ?_
  refine wR Γ0 cA ?_ ?_
  ·exact hg.one
  refine wZ cA ?_
  rw [<- hR']
  exact eg hg rfl (by simp only [dS, Op.operands, Value.cells, σ0, σB, Nat.reduceEqDiff, Nat.reduceAdd, Nat.reduceMul, Nat.reduceLT, Nat.reduceLeDiff, Nat.reduceBEq, ae, Int.reduceToNat, Int.reduceLT, Int.reduceLE, Nat.reduceDiv, Nat.reduceMod, Nat.reduceSub, Int.reducePow, Nat.reducePow, σP, σB3, cA, aE]; rfl) (by decide)
def lp (a : RL) : yh Tryz.prog 250 where
 T := 251
 kinds := [some (Sh.two, dk a)]
 pre := fun fs as_ W S => ∃ s i d op x, fs = sD s i d op /\ as_ = [x] /\ a.1 <= 2001 /\ 0 <= i /\ i <= s.size /\ s.size <= 140737488351232
 premono := fun _ _ _ _ _ _ _ h => h
 out := fun fs as_ => match fs with
  | [.val (.string s), .val (.int .i64 i), .row 3 1 d op] => CH s d op (gP (bt s) s.size ((s.size : Int).toNat + 1) a i)
  | _ => .pan [] undef
 enters := Tryz.call250
 ok := by
  intro w S u fp us fs as_ ho hlt hS hu hp
  obtain ⟨s, i, d, op, x, rfl, rfl, ha, h0, hi, hs⟩ := hp
  match us, hu with
  | [u1], hu =>
   obtain ⟨h1, _⟩ := hu
   obtain ⟨fa, rfl, h1'⟩ := ju h1
   exact Ea s i d op a fa ha u fp w S h0 hi hs ho hlt hS h1'
end
section
open Go.RowKit Go.LE
set_option maxRecDepth 10000
def fj (s : ByteArray) (i : Int) : Except (Int × Int) (BitVec 256 × Int) := match dr s i with
 | .error j => .error (10, j)
 | .ok (a, j) => .ok (a, j)
def AO (f : FuncId) (E : ByteArray -> Int -> Except (Int × Int) (RL × Int)) (need : ByteArray -> Int -> Prop) (n : Nat) : Prop :=
 ∀ (s : ByteArray) (i : Int) (d : Nat) (op : List Value) (u : Value) (fp : List Nat) (w : World) (S : Nat -> Prop), d + n = 1000 -> op.length = d -> 0 <= i -> need s i -> s.size <= 140737488351232 -> ba w S ->
  bz w u fp 251 (sD s i d op) -> (∀ b ∈ fp, b < w.heap.size) -> (∀ b ∈ fp, ¬ S b) ->
  Calls Tryz.prog f (#[u] ++ #[]) w fun e w' => xZ w S u fp 251 e w' (CH s d op (E s i))
abbrev Cb (n : Nat) : Prop := AO 251 (fun s i => bk (bt s) s.size (fj s) n i) (fun s i => i < s.size) n
abbrev Li (n : Nat) : Prop := AO 216 (fun s i => dT (bt s) s.size (bk (bt s) s.size (fj s) n) ((s.size : Int).toNat + 1) none i) (fun s i => i <= s.size) n
abbrev B9 (n : Nat) : Prop := AO 178 (fun s i => jG (bt s) s.size (dT (bt s) s.size (bk (bt s) s.size (fj s) n) ((s.size : Int).toNat + 1) none) i) (fun s i => i <= s.size) n
abbrev N6 (n : Nat) : Prop := AO 126 (fun s i => sN (bt s) s.size (bk (bt s) s.size (fj s) n) i) (fun s i => i <= s.size) n
def lf (f : FuncId) (E : ByteArray -> Int -> Except (Int × Int) (RL × Int)) (need : ByteArray -> Int -> Prop) (n : Nat) (hen : ∀ args w, (callFunc f args).run Tryz.prog w = .ok (.enter f args) w) (h : AO f E need n) : yh Tryz.prog f where
 T := 251
 kinds := []
 pre := fun fs as_ W S => (∃ s i d op, fs = sD s i d op /\ d + n = 1000 /\ op.length = d /\ 0 <= i /\ need s i /\ s.size <= 140737488351232) /\ ba W S
 premono := fun _ _ _ _ _ _ hs h => ⟨h.1, h.2.mono hs⟩
 out := fun fs as_ => match fs with
  | [.val (.string s), .val (.int .i64 i), .row 3 1 d op] => CH s d op (E s i)
  | _ => .pan [] undef
 enters := hen
 ok := by
  intro w S u fp us fs as_ ho hlt hS hu hp
  obtain ⟨⟨s, i, d, op, rfl, h1, h2, h3, h4, h5⟩, h6⟩ := hp
  match us, as_, hu with
  | [], [], _ => exact h s i d op u fp w S h1 h2 h3 h4 h5 h6 ho hlt hS
theorem pc (f : FuncId) (E : ByteArray -> Int -> Except (Int × Int) (RL × Int)) (need : ByteArray -> Int -> Prop) (n : Nat) (hen) (h : AO f E need n) (s : ByteArray) (i : Int) (d : Nat) (op : List Value) (as_ : List AV) :
  (lf f E need n hen h).out [.val (.string s), .val (.int .i64 i), .row 3 1 d op] as_ = CH s d op (E s i) := rfl
theorem pw (f : FuncId) (E : ByteArray -> Int -> Except (Int × Int) (RL × Int)) (need : ByteArray -> Int -> Prop) (n : Nat) (hen) (h : AO f E need n) (fs as_ : List AV) (W : World) (S : Nat -> Prop) :
  (lf f E need n hen h).pre fs as_ W S = ((∃ s i d op, fs = sD s i d op /\ d + n = 1000 /\ op.length = d /\ 0 <= i /\ need s i /\ s.size <= 140737488351232) /\ ba W S) := rfl
theorem lP (f : FuncId) (E : ByteArray -> Int -> Except (Int × Int) (RL × Int)) (need : ByteArray -> Int -> Prop) (n : Nat) (hen) (h : AO f E need n) : (lf f E need n hen h).kinds = [] := rfl
theorem zy (f : FuncId) (E : ByteArray -> Int -> Except (Int × Int) (RL × Int)) (need : ByteArray -> Int -> Prop) (n : Nat) (hen) (h : AO f E need n) : (lf f E need n hen h).T = 251 := rfl
theorem A0 (a : RL) (s : ByteArray) (i : Int) (d : Nat) (op : List Value) (as_ : List AV) : (lp a).out [.val (.string s), .val (.int .i64 i), .row 3 1 d op] as_ = CH s d op (gP (bt s) s.size ((s.size : Int).toNat + 1) a i) := rfl
theorem yW (a : RL) (fs as_ : List AV) (W : World) (S : Nat -> Prop) : (lp a).pre fs as_ W S = ∃ s i d op x, fs = sD s i d op /\ as_ = [x] /\ a.1 <= 2001 /\ 0 <= i /\ i <= s.size /\ s.size <= 140737488351232 := rfl
theorem tW (a : RL) : (lp a).kinds = [some (Sh.two, dk a)] := rfl
theorem GL (a : RL) : (lp a).T = 251 := rfl
noncomputable def Γ47 (G : Nat -> Prop) (n : Nat) (h : Cb n) (a x y : RL) : Env Tryz.prog := ⟨fun | 127 => some dt.spec | 179 => some gj.spec | 128 => some eV.spec | 249 => some ((lV .eps).spec G) | 180 => some ((gC .cat x y).spec G) | 250 => some ((lp a).spec G) | 251 => some ((lf _ _ _ n Tryz.call251 h).spec G) | _ => none, fun _ => none, fun _ _ => none⟩
section
variable (G : Nat -> Prop) (n : Nat) (h : Cb n) (a x y : RL)
theorem Gt47c127 : (Γ47 G n h a x y).sp 127 = some dt.spec := rfl
theorem Gt47c179 : (Γ47 G n h a x y).sp 179 = some gj.spec := rfl
theorem Gt47c128 : (Γ47 G n h a x y).sp 128 = some eV.spec := rfl
theorem Gt47c249 : (Γ47 G n h a x y).sp 249 = some ((lV .eps).spec G) := rfl
theorem Gt47c180 : (Γ47 G n h a x y).sp 180 = some ((gC .cat x y).spec G) := rfl
theorem Gt47c250 : (Γ47 G n h a x y).sp 250 = some ((lp a).spec G) := rfl
theorem Gt47c251 : (Γ47 G n h a x y).sp 251 = some ((lf _ _ _ n Tryz.call251 h).spec G) := rfl
end
theorem zF {s : ByteArray} : ∀ {n : Nat} {i : Int} {a b : CS} {j : Int}, qU s n i a = .ok (b, j) -> 0 <= i -> i < j /\ j <= s.size
 | 0, i, a, b, j, h, _ => by cases h
 | n + 1, i, a, b, j, h, h0 => by
  rw [qU] at h
  split at h
  ·simp only [Except.ok.injEq, Prod.mk.injEq] at h; omega
  ·cases h1 : dy s i ku with
   | error e => rw [h1] at h; cases h
   | ok p =>
    obtain ⟨lo, k⟩ := p
    rw [h1] at h
    simp only at h
    have g1 := iS h1 h0
    split at h
    ·cases h2 : dy s (k + 1) ku with
     | error e => rw [h2] at h; cases h
     | ok p =>
      obtain ⟨hi, l⟩ := p
      rw [h2] at h
      simp only at h
      have g2 := iS h2 (by omega)
      split at h
      ·cases h
      ·have := zF h (by omega); omega
    ·have := zF h (by omega); omega
theorem vm {s : ByteArray} {i : Int} {a : CS} {j : Int} (h : dr s i = .ok (a, j)) (h0 : 0 <= i) (h1 : i < s.size) : i < j /\ j <= s.size := by
 rw [dr] at h
 split at h
 ·simp only [Except.ok.injEq, Prod.mk.injEq] at h; omega
 ·split at h
  ·rw [dU] at h
   cases hm : qU s (s.size + 1) (if gD s (i + 1) then i + 1 + 1 else i + 1) 0 with
   | error e => rw [hm] at h; cases h
   | ok p =>
    obtain ⟨b, k⟩ := p
    rw [hm] at h
    simp only [ry, Except.ok.injEq, Prod.mk.injEq] at h
    have := zF hm (by split <;> omega)
    have hle : i + 1 <= (if gD s (i + 1) then i + 1 + 1 else i + 1) := by split <;> omega
    omega
  ·cases h2 : dy s i wo with
   | error e => rw [h2] at h; cases h
   | ok p =>
    obtain ⟨b, k⟩ := p
    rw [h2] at h
    simp only [Uk, Except.ok.injEq, Prod.mk.injEq] at h
    have := iS h2 h0
    omega
theorem sg (s : ByteArray) : qW s.size (fj s) := fun i S j h0 h1 h => by
 rw [fj] at h
 cases h2 : dr s i with
 | error e => rw [h2] at h; cases h
 | ok p =>
  obtain ⟨a, k⟩ := p
  rw [h2] at h
  simp only [Except.ok.injEq, Prod.mk.injEq] at h
  have := vm h2 h0 h1
  omega
theorem GM {s : ByteArray} {n : Nat} (hn : n <= 1000) {i j : Int} {r : RL} (h0 : 0 <= i) (hi : i < s.size) (he : ¬ ff (bt s i)) (hp : ¬ bf (bt s i)) (h : bk (bt s) s.size (fj s) n i = .ok (r, j)) : i < j /\ j <= s.size /\ r.1 <= 2001 := by
 have := o4 (c := bt s) (sg s) n i (fe 0) (List.replicate (1000 - n) (fe 0)) h0 hi he hp (by simp; omega)
 rw [h] at this
 obtain ⟨h1, h2, t, rfl, _⟩ := this
 exact ⟨h1, h2, rP t⟩
theorem kO {s : ByteArray} : ∀ {n : Nat} {r r' : RL} {i j : Int}, gP (bt s) s.size n r i = .ok (r', j) -> i <= s.size -> r.1 <= 2001 -> i <= j /\ j <= s.size /\ r'.1 <= 2001
 | 0, r, r', i, j, h, hi, hr => by
  simp only [gP, Except.ok.injEq, Prod.mk.injEq] at h
  obtain ⟨rfl, rfl⟩ := h
  exact ⟨Int.le_refl _, hi, hr⟩
 | n + 1, r, r', i, j, h, hi, hr => by
  rw [gP] at h
  split at h
  ·simp only [Except.ok.injEq, Prod.mk.injEq] at h
   obtain ⟨rfl, rfl⟩ := h
   exact ⟨Int.le_refl _, hi, hr⟩
  ·split at h
   ·have := kO h (by omega) (mO _); exact ⟨by omega, this.2⟩
   ·split at h
    ·have := kO h (by omega) (eJ _ _ _); exact ⟨by omega, this.2⟩
    ·split at h
     ·have := kO h (by omega) (lh _); exact ⟨by omega, this.2⟩
     ·split at h
      ·cases hB : lx (bt s) s.size i with
       | error e => rw [hB] at h; cases h
       | ok q =>
        obtain ⟨m, k, l⟩ := q
        rw [hB] at h
        have hl := tO hB
        have := kO h (by omega) (yA _ _ _ hr)
        exact ⟨by omega, this.2⟩
      ·simp only [Except.ok.injEq, Prod.mk.injEq] at h
       obtain ⟨rfl, rfl⟩ := h
       exact ⟨Int.le_refl _, hi, hr⟩
theorem TR (o : Option RL) (p : RL) (hp : p.1 <= 2001) : (tR o p).1 <= 2001 := by
 cases o with
 | none => exact hp
 | some x => exact eJ _ _ _
structure RO where
 W : World
 bs : List Nat
 fo : Value
 o : Option RL
 i : Int
 n : Nat
def bu := (aq @List.replicate_succ.{0} @List.replicate_zero.{0} @av @af jV jW jb (aq cW cX c8 cT cZ c9 cR (aq cV gz gv gi gk gn Of (aq Q3 Qt Qd rU rV sb rX (aq uJ uL u7 tn uZ uA uH (aq vH uY u5 ue tX qa qb (aq qp py ql pH Ik H4 JB (aq IU Jc Jj IL xv yP ya (aq @sD.eq_1 @tZ.eq_1 @dA.eq_1 @aN @au @aA @az (aq @fz @jH @fK @fL @jv @jk @jg (aq @nR @hY @il @kS @lV.eq_1 @gC.eq_1 @ny (aq @bH @pc @pw @lP @zy @A0 @yW (aq @tW @GL @Gt47c127 @Gt47c179 @Gt47c128 @Gt47c249 @Gt47c180 (ab @Gt47c250 @Gt47c251))))))))))))))
set_option maxHeartbeats 4000000 in
theorem I5 (n : Nat) (hA : Cb n) : Li n := by
 intro s i0 d op u fp w S hdn hop h0 hi1 hs hesc ho hlt hS
 have u0 := aL.up w S fp
 have e0 := hesc.mono (aL.h9 w S fp hS)
 dsimp only
 generalize hR : dT (bt s) s.size (bk (bt s) s.size (fj s) n) ((s.size : Int).toNat + 1) none i0 = R
 refine gO (nt := 41) S #[] [.cell 2 254] (by show 3 <= 7; omega) ho hlt Tryz.func216 rfl rfl rfl ?_
 refine vR Γ0 bu ?_
 refine wR (Γ47 (aL w S fp) n hA (bK .eps) (bK .eps) (bK .eps)) bu ?_ ?_
 ·exact ⟨rfl, u0⟩
 refine Wp.gK 32 (ev bu) (cv.refl _ _) fun W0 bs0 cs hx0 hΦ => ?_
 obtain ⟨fv, rfl, hg, hv1⟩ := ck hΦ
 have u00 := u0.ext hx0
 refine Wp.seq (Wp.block ?_)
 refine Wp.yQ (fun p : RO => ⟨10, bQ [(0, .is (.own 0 0)), (2, .is (.own 8 0)), (3, .is (.own 40 0)), (4, .is (.v (.bool p.o.isSome)))], bY [(0, .cells 251 [.v (.string s), .v (.int .i64 p.i), .hd 3]), (3, .row 3 1 d (op.map .v)), (8, .cells 254 [.v (.int .i64 0), .v .nilFunc]), (40, .cells 254 [.v (.int .i64 ((qx p.o).1 : Nat)), .v p.fo])]⟩)
  RO.W RO.bs (fun p => (0 <= p.i /\ p.i <= s.size) /\ (qx p.o).1 <= 2001 /\ ((s.size : Int) - p.i < p.n /\ 1 <= p.n) /\ bw p.W (fg (aL w S fp) p.bs) p.fo (qx p.o).2 /\ dT (bt s) s.size (bk (bt s) s.size (fj s) n) p.n p.o p.i = R) (fun p => p.n) ⟨W0, bs0, fv, none, i0, (s.size : Int).toNat + 1⟩ rfl rfl ?_ ⟨⟨h0, hi1⟩, by show 1 <= 2001; omega, ⟨by simp only; omega, by simp only; omega⟩, hg, hR⟩ ?_
 ·exact wM (fun x => .key x) (oc bu hv1 @qx.eq_1 @bK.eq_1 @Option.getD_none.{0})
 rintro ⟨W1, bs1, fo, o, i, k⟩ ⟨⟨hi0, hiN⟩, hr, ⟨hn, hn1⟩, hg, hR'⟩ hx1
 simp only at hi0 hiN hr hn hn1 hg hR' hx1
 dsimp only
 obtain ⟨k, rfl⟩ : ∃ m, k = m + 1 := ⟨k - 1, by omega⟩
 have hx01 := hx0.trans hx1
 have u1 := u0.ext hx01
 have e1 := e0.mono hx01.Bf
 refine Wp.seq ?_
 refine wR (Γ47 (aL w S fp) n hA (bK .eps) (bK .eps) (bK .eps)) bu ?_ ?_
 ·first | trivial | omega | (simp [hs]; done) | (simp [hs]; omega) | (simp [hs] <;> omega)
 refine wC bu (fun hc => ?_) (fun hc => ?_)
 ·have hi : i < s.size := by
   simp at hc
   omega
  rw [dT, if_neg (by omega)] at hR'
  refine wK ?_
  refine Wp.block ?_
  refine Wp.seq ?_
  refine wR (Γ47 (aL w S fp) n hA (bK .eps) (bK .eps) (bK .eps)) bu ?_ ?_
  ·first | trivial | omega | (simp [hs]; done) | (simp [hs]; omega) | (simp [hs] <;> omega)
  refine Wp.block ?_
  refine bp ⟨30, bQ [(0, .is (.own 0 0)), (2, .is (.own 8 0)), (3, .is (.own 40 0)), (4, .is (.v (.bool o.isSome))), (13, .is (.v (.int .u8 (bt s i)))), (14, .is (.v (.bool (decide (ff (bt s i))))))], bY [(0, .cells 251 [.v (.string s), .v (.int .i64 i), .hd 3]), (3, .row 3 1 d (op.map .v)), (8, .cells 254 [.v (.int .i64 0), .v .nilFunc]), (40, .cells 254 [.v (.int .i64 ((qx o).1 : Nat)), .v fo])]⟩ ?_ ?_
  ·skip
   refine vR Γ0 bu ?_
   refine wC bu (fun hc => ?_) (fun hc => ?_)
   ·have e : decide (ff (bt s i)) = true := decide_eq_true (show ff (bt s i) from .inl (by simpa using hc))
    refine wK ?_
    exact wM (fun x => .key x) (de bu hc e)
   ·have hc1 := hc
    refine vR Γ0 bu ?_
    refine wC bu (fun hc => ?_) (fun hc => ?_)
    ·have e : decide (ff (bt s i)) = true := decide_eq_true (show ff (bt s i) from .inr (.inl (by simpa using hc)))
     refine wK ?_
     exact wM (fun x => .key x) (de bu hc e)
    ·have hc2 := hc
     refine vR Γ0 bu ?_
     refine wC bu (fun hc => ?_) (fun hc => ?_)
     ·have e : decide (ff (bt s i)) = true := decide_eq_true (show ff (bt s i) from .inr (.inr (.inl (by simpa using hc))))
      refine wK ?_
      exact wM (fun x => .key x) (de bu hc e)
     ·have e : decide (ff (bt s i)) = decide (bt s i = 41) := by
       have g1 : ¬ bt s i = 124 := by simpa using hc1
       have g2 : ¬ bt s i = 38 := by simpa using hc2
       have g3 : ¬ bt s i = 45 := by simpa using hc
       rw [decide_eq_decide]
       unfold ff
       omega
      refine vr Γ0 bu ?_
      exact wM (fun x => .key x) (ab bu e)
  refine wC bu (fun hc => ?_) (fun hc => ?_)
  ·have he : ff (bt s i) := by simpa using hc
   rw [if_pos he] at hR'
   refine wR Γ0 bu ?_ ?_
   ·exact hg.one
   refine wZ bu ?_
   rw [<- hR']
   exact eg hg rfl (by simp only [dS, Op.operands, Value.cells, σ0, σB, Nat.reduceEqDiff, Nat.reduceAdd, Nat.reduceMul, Nat.reduceLT, Nat.reduceLeDiff, Nat.reduceBEq, ae, Int.reduceToNat, Int.reduceLT, Int.reduceLE, Nat.reduceDiv, Nat.reduceMod, Nat.reduceSub, Int.reducePow, Nat.reducePow, σP, σB3, bu, aE]; rfl) (by decide)
  ·have he : ¬ ff (bt s i) := by simpa using hc
   rw [if_neg he] at hR'
   refine bp ⟨50, bQ [(0, .is (.own 0 0)), (2, .is (.own 8 0)), (3, .is (.own 40 0)), (4, .is (.v (.bool o.isSome))), (20, .is (.v (.bool (decide (bf (bt s i))))))], bY [(0, .cells 251 [.v (.string s), .v (.int .i64 i), .hd 3]), (3, .row 3 1 d (op.map .v)), (8, .cells 254 [.v (.int .i64 0), .v .nilFunc]), (40, .cells 254 [.v (.int .i64 ((qx o).1 : Nat)), .v fo])]⟩ ?_ ?_
   ·skip
    refine vR Γ0 bu ?_
    refine wC bu (fun hc => ?_) (fun hc => ?_)
    ·have e : decide (bf (bt s i)) = true := decide_eq_true (show bf (bt s i) from .inl (by simpa using hc))
     refine wK ?_
     exact wM (fun x => .key x) (de bu hc e)
    ·have hc1 := hc
     refine vR Γ0 bu ?_
     refine wC bu (fun hc => ?_) (fun hc => ?_)
     ·have e : decide (bf (bt s i)) = true := decide_eq_true (show bf (bt s i) from .inr (.inl (by simpa using hc)))
      refine wK ?_
      exact wM (fun x => .key x) (de bu hc e)
     ·have hc2 := hc
      refine vR Γ0 bu ?_
      refine wC bu (fun hc => ?_) (fun hc => ?_)
      ·have e : decide (bf (bt s i)) = true := decide_eq_true (show bf (bt s i) from .inr (.inr (.inl (by simpa using hc))))
       refine wK ?_
       exact wM (fun x => .key x) (de bu hc e)
      ·have e : decide (bf (bt s i)) = decide (bt s i = 123) := by
        have g1 : ¬ bt s i = 42 := by simpa using hc1
        have g2 : ¬ bt s i = 43 := by simpa using hc2
        have g3 : ¬ bt s i = 63 := by simpa using hc
        rw [decide_eq_decide]
        unfold bf
        omega
       refine vr Γ0 bu ?_
       exact wM (fun x => .key x) (ab bu e)
   refine wC bu (fun hc => ?_) (fun hc => ?_)
   ·have hp : bf (bt s i) := by simpa using hc
    rw [if_pos hp] at hR'
    rw [<- hR', bH]
    refine Wp.nY (Γ47 (aL w S fp) n hA (bK .eps) (bK .eps) (bK .eps)) bR (ev bu) ?_ ?_
    ·first | trivial | omega | (simp [hs]; done) | (simp [hs]; omega) | (simp [hs] <;> omega)
    refine qq ?_
    exact ⟨_, rfl⟩
   ·have hp : ¬ bf (bt s i) := by simpa using hc
    rw [if_neg hp] at hR'
    refine wK ?_
    cases hAt : bk (bt s) s.size (fj s) n i with
    | error e =>
     obtain ⟨c, j⟩ := e
     rw [hAt] at hR'
     simp only at hR'
     rw [<- hR', bH]
     refine Wp.iJ (Γ47 (aL w S fp) n hA (bK .eps) (bK .eps) (bK .eps)) bR (ev (ab bu hAt)) ?_ ?_
     ·exact ⟨⟨⟨_, _, _, _, rfl, hdn, hop, hi0, hi, hs⟩, e1⟩, by decide, by simp⟩
     refine qq ?_
     exact ⟨_, rfl⟩
    | ok q =>
     obtain ⟨a, j⟩ := q
     have ha := GM (by omega) hi0 hi he hp hAt
     rw [hAt] at hR'
     simp only at hR'
     cases hRp : gP (bt s) s.size ((s.size : Int).toNat + 1) a j with
     | error e =>
      obtain ⟨c, l⟩ := e
      rw [hRp] at hR'
      simp only at hR'
      rw [<- hR', bH]
      have hRp' := hRp
      rw [Int.toNat_natCast] at hRp'
      refine Wp.iJ (Γ47 (aL w S fp) n hA a (bK .eps) (bK .eps)) bR (ev (de bu hAt hRp')) ?_ ?_
      ·exact ⟨⟨⟨⟨_, _, _, _, rfl, hdn, hop, hi0, hi, hs⟩, e1⟩, by decide, by simp, u1⟩, ⟨_, _, _, _, _, rfl, rfl, ha.2.2, by omega, ha.2.1, hs⟩, by decide, by simp⟩
      refine qq ?_
      exact ⟨_, rfl⟩
     | ok q =>
      obtain ⟨p, l⟩ := q
      have hp1 := kO hRp ha.2.1 ha.2.2
      rw [hRp] at hR'
      simp only at hR'
      have hRp' := hRp
      rw [Int.toNat_natCast] at hRp'
      refine wR (Γ47 (aL w S fp) n hA a (bK .eps) (bK .eps)) (de bu hAt hRp') ?_ ?_
      ·exact ⟨⟨⟨⟨_, _, _, _, rfl, hdn, hop, hi0, hi, hs⟩, e1⟩, by decide, by simp, u1⟩, ⟨_, _, _, _, _, rfl, rfl, ha.2.2, by omega, ha.2.1, hs⟩, by decide, by simp, u1⟩
      refine Wp.gK 431 (ev bu) (cv.refl _ _) fun W2 bs2 cs hx2 hΦ => ?_
      obtain ⟨fp2, rfl, hg2, hv2⟩ := ck hΦ
      have hgo := hg.mono hx2.Bf
      have u2 := u1.ext hx2
      refine iR (fun p2 : TI => ⟨70, bQ [(0, .is (.own 0 0)), (2, .is (.own 8 0)), (3, .is (.own 40 0)), (5, .is (.own 432 0))], bY [(0, .cells 251 [.v (.string s), .v (.int .i64 l), .hd 3]), (3, .row 3 1 d (op.map .v)), (8, .cells 254 [.v (.int .i64 0), .v .nilFunc]), (40, .cells 254 [.v (.int .i64 ((qx o).1 : Nat)), .v fo]), (432, .cells 254 [.v (.int .i64 ((tR o p).1 : Nat)), .v p2.fo])]⟩) TI.W TI.bs
       (fun p2 => bw p2.W (fg (aL w S fp) p2.bs) p2.fo (tR o p).2) ?_ ?_
      ·skip
       refine vR Γ0 bu ?_
       refine wC bu (fun hc => ?_) (fun hc => ?_)
       ·obtain ⟨x, rfl⟩ := Option.isSome_iff_exists.1 hc
        refine Wp.more ?_
        refine wr (Γ47 (aL w S fp) n hA a x p) (de bu hv2 @qx.eq_1) ?_ ?_
        ·exact ⟨⟨⟨bV hgo, bV hg2⟩, ⟨hr, hp1.2.2⟩, _, _, rfl⟩, u2⟩
        refine ei ?_
        refine Pw.gK 472 (ev (ab bu hv2)) (cv.refl _ _) fun W3 bs3 cs hx3 hΦ3 => ?_
        obtain ⟨fp3, rfl, hg3, hv3⟩ := ck hΦ3
        refine Pw.here ?_
        refine qq ?_
        refine ⟨⟨W3, bs3, fp3, 0⟩, hg3, rfl, rfl, ?_⟩
        exact wM (fun x => if x = 3 then .key 426 else .key x) (oc bu hv2 hv3 @tR.eq_1 @tR.eq_2)
       ·have ho2 : o = none := by cases o with | none => rfl | some x => cases hc
        subst ho2
        refine wK ?_
        refine ⟨⟨W2, bs2, fp2, 0⟩, hg2, rfl, rfl, ?_⟩
        exact wM (fun x => if x = 3 then .key 426 else .key x) (eH bu hv2 @tR.eq_1 @tR.eq_2)
      rintro ⟨W3, bs3, fo3, j3⟩ hg3 hx3
      simp only at hg3 hx3
      dsimp only
      refine wr Γ0 bu ?_ ?_
      ·exact hg3.one
      refine ⟨⟨W3, bs3, fo3, some (tR o p), l, k⟩, ⟨by simp only; omega, TR o p hp1.2.2, by simp only; omega, hg3, hR'⟩, by simp only; omega, rfl, rfl, ?_⟩
      exact wM (fun x => .key x) (ab bu @qx.eq_1)
 ·have hi : ¬ i < s.size := by
   simp at hc
   omega
  rw [dT, if_pos hi] at hR'
  refine wE ?_
  refine wR Γ0 bu ?_ ?_
  ·exact hg.one
  refine wZ bu ?_
  rw [<- hR']
  exact eg hg rfl (by simp only [dS, Op.operands, Value.cells, σ0, σB, Nat.reduceEqDiff, Nat.reduceAdd, Nat.reduceMul, Nat.reduceLT, Nat.reduceLeDiff, Nat.reduceBEq, ae, Int.reduceToNat, Int.reduceLT, Int.reduceLE, Nat.reduceDiv, Nat.reduceMod, Nat.reduceSub, Int.reducePow, Nat.reducePow, σP, σB3, bu, aE]; rfl) (by decide)
end
section
open Go.RowKit Go.LE
set_option maxRecDepth 10000
noncomputable def Γ48 (G : Nat -> Prop) (n : Nat) (h : Li n) (x y : RL) : Env Tryz.prog := ⟨fun | 127 => some dt.spec | 179 => some gj.spec | 180 => some ((gC .and x y).spec G) | 216 => some ((lf _ _ _ n Tryz.call216 h).spec G) | _ => none, fun _ => none, fun _ _ => none⟩
noncomputable def Γ49 (G : Nat -> Prop) (n : Nat) (h : Li n) (x y : RL) : Env Tryz.prog := ⟨fun | 127 => some dt.spec | 179 => some gj.spec | 180 => some ((gC .minus x y).spec G) | 216 => some ((lf _ _ _ n Tryz.call216 h).spec G) | _ => none, fun _ => none, fun _ _ => none⟩
noncomputable def Γ50 (G : Nat -> Prop) (n : Nat) (h : B9 n) (x y : RL) : Env Tryz.prog := ⟨fun | 127 => some dt.spec | 179 => some gj.spec | 180 => some ((gC .alt x y).spec G) | 178 => some ((lf _ _ _ n Tryz.call178 h).spec G) | _ => none, fun _ => none, fun _ _ => none⟩
def WT : FK := ⟨fun _ _ _ => True, fun _ _ => trivial⟩
def vF := (aq @List.replicate_succ.{0} @List.replicate_zero.{0} @av @af jV jW jb (aq cW cX c8 cT cZ c9 cR (aq cV gz gv gi gk gn uJ (aq uL u7 tn uZ uA uH vH (aq uY u5 ue tX It JK IF (aq qa qb qp py ql pH xv (aq yP ya @sD.eq_1 @tZ.eq_1 @dA.eq_1 @aN @au (aq @aA @az @fz @jH @fK @fL @jv (aq @jk @jg @nR @gC.eq_1 @ny @bH @pc (lX @pw @lP @zy @Gt40c219 @sd @rH))))))))))
set_option maxHeartbeats 2000000 in
theorem L4 (na nb : Nat) (fa fb g : Value) (ha : na <= 2001) (hb : nb <= 2001) (h1 : fa.oneCell' = true) (h2 : fb.oneCell' = true) (h3 : g.oneCell' = true) (hg : partsOf (.v g) = [.v g]) (w : World) (S : Nat -> Prop) :
  Calls Tryz.prog 180 #[.agg #[.int .i64 (na : Nat), fa], .agg #[.int .i64 (nb : Nat), fb], g] w fun e w' => mw w S e w' (.fact Sh.two WT) := by
 have ga : partsOf (.v (.agg #[.int .i64 (na : Nat), fa])) = [.v (.int .i64 (na : Nat)), .v fa] := rfl
 have gb : partsOf (.v (.agg #[.int .i64 (nb : Nat), fb])) = [.v (.int .i64 (nb : Nat)), .v fb] := rfl
 have w1 := IQ ha hb
 refine eI (nt := 16) S [.cell 6 254] Tryz.func180 rfl rfl rfl ?_
 refine vR Γ40 (eH vF ga gb hg) ?_
 refine vR Γ40 (lX vF ga gb hg w1 @jl) ?_
 refine Wp.l7 0 (ev (eH vF ga gb hg)) (fun E => by simp only [an, den, ga, gb, hg]; exact rfl) fun W1 bs1 b3 hx1 hb3 hn3 hc3 => ?_
 refine Wp.l7 8 (ev (eH vF ga gb hg)) (fun E => by simp only [an, den, ga, gb, hg]; exact rfl) fun W2 bs2 b4 hx2 hb4 hn4 hc4 => ?_
 refine Wp.l7 16 (ev (eH vF ga gb hg)) (fun E => by simp only [an, den, ga, gb, hg]; exact rfl) fun W3 bs3 b5 hx3 hb5 hn5 hc5 => ?_
 refine wZ (lX vF ga gb hg w1 @jl) ?_
 exact ⟨[.int .i64 ((ca (1 + na + nb) : Nat) : Int), .func (.func 220) #[] #[lG b5, lG b3, lG b4]], fun E => rfl, trivial⟩
def Dd : lg Tryz.prog 180 where
 kinds := [none, none, none]
 pre := fun as_ _ _ => ∃ (na nb : Nat) (fa fb : Value) (g : Jn), as_ = [.val (.agg #[.int .i64 (na : Nat), fa]), .val (.agg #[.int .i64 (nb : Nat), fb]), .val g.v] /\ na <= 2001 /\ nb <= 2001 /\ fa.oneCell' = true /\ fb.oneCell' = true
 premono := fun _ _ _ _ _ _ h => h
 out := fun _ => .fact Sh.two WT
 enters := Tryz.call180
 ok := by
  intro w S us as_ hu hp
  obtain ⟨na, nb, fa, fb, g, rfl, ha, hb, h1, h2⟩ := hp
  match us, hu with
  | [u1, u2, u3], hu =>
   obtain ⟨rfl, rfl, rfl, _⟩ := hu
   exact L4 na nb fa fb g.v ha hb h1 h2 rfl rfl w S
noncomputable def Γ51 (G : Nat -> Prop) (n : Nat) (h : Li n) : Env Tryz.prog := ⟨fun | 180 => some (Dd.spec G) | 216 => some ((lf _ _ _ n Tryz.call216 h).spec G) | _ => none, fun _ => none, fun _ _ => none⟩
noncomputable def Γ52 (G : Nat -> Prop) (n : Nat) (h : B9 n) : Env Tryz.prog := ⟨fun | 180 => some (Dd.spec G) | 178 => some ((lf _ _ _ n Tryz.call178 h).spec G) | _ => none, fun _ => none, fun _ _ => none⟩
section
variable (G : Nat -> Prop) (n : Nat) (h : Li n) (h' : B9 n) (x y : RL)
theorem Gt51c180 : (Γ51 G n h).sp 180 = some (Dd.spec G) := rfl
theorem Gt51c216 : (Γ51 G n h).sp 216 = some ((lf _ _ _ n Tryz.call216 h).spec G) := rfl
theorem Gt52c180 : (Γ52 G n h').sp 180 = some (Dd.spec G) := rfl
theorem Gt52c178 : (Γ52 G n h').sp 178 = some ((lf _ _ _ n Tryz.call178 h').spec G) := rfl
theorem Gt48c127 : (Γ48 G n h x y).sp 127 = some dt.spec := rfl
theorem Gt48c179 : (Γ48 G n h x y).sp 179 = some gj.spec := rfl
theorem Gt48c180 : (Γ48 G n h x y).sp 180 = some ((gC .and x y).spec G) := rfl
theorem Gt48c216 : (Γ48 G n h x y).sp 216 = some ((lf _ _ _ n Tryz.call216 h).spec G) := rfl
theorem Gt49c127 : (Γ49 G n h x y).sp 127 = some dt.spec := rfl
theorem Gt49c179 : (Γ49 G n h x y).sp 179 = some gj.spec := rfl
theorem Gt49c180 : (Γ49 G n h x y).sp 180 = some ((gC .minus x y).spec G) := rfl
theorem Gt49c216 : (Γ49 G n h x y).sp 216 = some ((lf _ _ _ n Tryz.call216 h).spec G) := rfl
theorem Gt50c127 : (Γ50 G n h' x y).sp 127 = some dt.spec := rfl
theorem Gt50c179 : (Γ50 G n h' x y).sp 179 = some gj.spec := rfl
theorem Gt50c180 : (Γ50 G n h' x y).sp 180 = some ((gC .alt x y).spec G) := rfl
theorem Gt50c178 : (Γ50 G n h' x y).sp 178 = some ((lf _ _ _ n Tryz.call178 h').spec G) := rfl
end
theorem rC {s : ByteArray} {m : Nat} (hm : m <= 1000) {i j : Int} {r : RL} (h0 : 0 <= i) (hi : i <= s.size) (h : dT (bt s) s.size (bk (bt s) s.size (fj s) m) ((s.size : Int).toNat + 1) none i = .ok (r, j)) : i <= j /\ j <= s.size /\ r.1 <= 2001 := by
 have := AA (sg s) (o4 (c := bt s) (sg s) m) ((s.size : Int).toNat + 1) i (fe 0) (List.replicate (1000 - m) (fe 0)) h0 hi (by omega) (fun h => absurd rfl h) (by simp; omega)
 have e0 : (rowOf (fe 0).row (fe 0).fac).map RT.val = none := rfl
 rw [e0, h] at this
 obtain ⟨h1, h2, _, row, fac, rfl, _⟩ := this
 exact ⟨h1, h2, rP _⟩
theorem uV {s : ByteArray} {m : Nat} (hm : m <= 1000) {i j : Int} {r : RL} (h0 : 0 <= i) (hi : i <= s.size) (h : jG (bt s) s.size (dT (bt s) s.size (bk (bt s) s.size (fj s) m) ((s.size : Int).toNat + 1) none) i = .ok (r, j)) : i <= j /\ j <= s.size /\ r.1 <= 2001 := by
 have := uQ (sg s) (o4 (c := bt s) (sg s) m) i (fe 0) (List.replicate (1000 - m) (fe 0)) h0 hi (by simp; omega) rfl rfl rfl
 rw [h] at this
 obtain ⟨h1, h2, _, g, _, _, rfl, _⟩ := this
 exact ⟨h1, h2, rP _⟩
theorem xE {s : ByteArray} {m : Nat} (hm : m <= 1000) {i j : Int} {r : RL} (h0 : 0 <= i) (hi : i <= s.size) (h : sN (bt s) s.size (bk (bt s) s.size (fj s) m) i = .ok (r, j)) : i <= j /\ j <= s.size /\ r.1 <= 2001 /\ (j < s.size -> bt s j = 41) := by
 have := A2 (sg s) (o4 (c := bt s) (sg s) m) i 0 (List.replicate (1000 - m) (fe 0)) h0 hi (by simp; omega)
 rw [h] at this
 obtain ⟨h1, h2, h3, g, _, rfl, _⟩ := this
 exact ⟨h1, h2, rP _, h3⟩
def bW := (aq vF @Gt51c180 @Gt51c216 @Gt52c180 @Gt52c178 @Dd.eq_1 @uq.eq_1 (aq @Gt48c127 @Gt48c179 @Gt48c180 @Gt48c216 @Gt49c127 @Gt49c179 @Gt49c180 (oc @Gt49c216 @Gt50c127 @Gt50c179 @Gt50c180 @Gt50c178)))
set_option maxHeartbeats 4000000 in
theorem yi (n : Nat) (hA : Li n) : B9 n := by
 intro s i0 d op u fp w S hdn hop h0 hi1 hs hesc ho hlt hS
 have u0 := aL.up w S fp
 have e0 := hesc.mono (aL.h9 w S fp hS)
 dsimp only
 unfold jG
 refine gO (nt := 39) S #[] [.cell 2 254] (by show 3 <= 7; omega) ho hlt Tryz.func178 rfl rfl rfl ?_
 refine vR Γ0 bW ?_
 cases hF : dT (bt s) s.size (bk (bt s) s.size (fj s) n) ((s.size : Int).toNat + 1) none i0 with
 | error e =>
  obtain ⟨c, j⟩ := e
  simp only
  rw [bH]
  have hF' := hF
  rw [Int.toNat_natCast] at hF'
  refine Wp.iJ (Γ48 (aL w S fp) n hA (bK .eps) (bK .eps)) bR (ev (ab bW hF')) ?_ ?_
  ·exact ⟨⟨⟨_, _, _, _, rfl, hdn, hop, h0, hi1, hs⟩, e0⟩, by decide, by simp⟩
  refine qq ?_
  exact ⟨_, rfl⟩
 | ok q =>
  obtain ⟨r0, j0⟩ := q
  simp only
  have hr0 := rC (by omega) h0 hi1 hF
  have hF' := hF
  rw [Int.toNat_natCast] at hF'
  generalize hR : jn (bt s) s.size (dT (bt s) s.size (bk (bt s) s.size (fj s) n) ((s.size : Int).toNat + 1) none) ((s.size : Int).toNat + 1) r0 j0 = R
  refine wR (Γ48 (aL w S fp) n hA (bK .eps) (bK .eps)) (ab bW hF') ?_ ?_
  ·exact ⟨⟨⟨_, _, _, _, rfl, hdn, hop, h0, hi1, hs⟩, e0⟩, by decide, by simp, u0⟩
  refine Wp.gK 31 (ev bW) (cv.refl _ _) fun W0 bs0 cs hx0 hΦ => ?_
  obtain ⟨fv, rfl, hg, hv1⟩ := ck hΦ
  have u00 := u0.ext hx0
  refine Wp.seq (Wp.block ?_)
  refine Wp.yQ (fun p : RI => ⟨10, bQ [(0, .is (.own 0 0)), (2, .is (.own 8 0)), (3, .is (.own 32 0))], bY [(0, .cells 251 [.v (.string s), .v (.int .i64 p.i), .hd 3]), (3, .row 3 1 d (op.map .v)), (8, .cells 254 [.v (.int .i64 0), .v .nilFunc]), (32, .cells 254 [.v (.int .i64 (p.r.1 : Nat)), .v p.fo])]⟩)
   RI.W RI.bs (fun p => (0 <= p.i /\ p.i <= s.size) /\ p.r.1 <= 2001 /\ ((s.size : Int) - p.i < p.n /\ 1 <= p.n) /\ bw p.W (fg (aL w S fp) p.bs) p.fo p.r.2 /\ jn (bt s) s.size (dT (bt s) s.size (bk (bt s) s.size (fj s) n) ((s.size : Int).toNat + 1) none) p.n p.r p.i = R) (fun p => p.n) ⟨W0, bs0, fv, r0, j0, (s.size : Int).toNat + 1⟩ rfl rfl ?_ ⟨⟨by simp only; omega, hr0.2.1⟩, hr0.2.2, ⟨by simp only; omega, by simp only; omega⟩, hg, hR⟩ ?_
  ·exact wM (fun x => if x = 3 then .key 26 else .key x) (ab bW hv1)
  rintro ⟨W1, bs1, fo, r, i, k⟩ ⟨⟨hi0, hiN⟩, hr, ⟨hn, hn1⟩, hg, hR'⟩ hx1
  simp only at hi0 hiN hr hn hn1 hg hR' hx1
  dsimp only
  obtain ⟨k, rfl⟩ : ∃ m, k = m + 1 := ⟨k - 1, by omega⟩
  have hx01 := hx0.trans hx1
  have u1 := u0.ext hx01
  have e1 := e0.mono hx01.Bf
  refine Wp.seq ?_
  refine wR (Γ48 (aL w S fp) n hA (bK .eps) (bK .eps)) bW ?_ ?_
  ·first | trivial | omega | (simp [hs]; done) | (simp [hs]; omega) | (simp [hs] <;> omega)
  refine wC bW (fun hc => ?_) (fun hc => ?_)
  ·have hi : i < s.size := by
    simp at hc
    omega
   rw [jn, if_neg (by omega)] at hR'
   refine wK ?_
   refine Wp.block ?_
   refine wR (Γ48 (aL w S fp) n hA (bK .eps) (bK .eps)) bW ?_ ?_
   ·first | trivial | omega | (simp [hs]; done) | (simp [hs]; omega) | (simp [hs] <;> omega)
   refine Wp.block ?_
   refine vR Γ0 bW ?_
   refine wC bW (fun hc => ?_) (fun hc => ?_)
   ·have h38 : bt s i = 38 := by simpa using hc
    rw [if_pos h38] at hR'
    have wi : IntKind.i64.wrap (i + 1) = i + 1 := aa (by omega) (by omega)
    refine vR Γ0 (ab bW wi) ?_
    cases hF2 : dT (bt s) s.size (bk (bt s) s.size (fj s) n) ((s.size : Int).toNat + 1) none (i + 1) with
    | error e =>
     obtain ⟨c, j⟩ := e
     rw [hF2] at hR'
     simp only at hR'
     rw [<- hR', bH]
     have hF2' := hF2
     rw [Int.toNat_natCast] at hF2'
     refine Wp.JI (Γ51 (aL w S fp) n hA) bR (ev (de bW hF2' wi)) rfl (by kernel_rfl) ?_ ?_
     ·exact ⟨⟨⟨⟨_, _, _, _, rfl, hdn, hop, by omega, by omega, hs⟩, e1⟩, by decide, by simp⟩, ⟨r.1, 0, fo, .nilFunc, .and, rfl, hr, by omega, hg.one, rfl⟩, u1⟩
     refine qq ?_
     exact ⟨_, rfl⟩
    | ok q =>
     obtain ⟨r2, j2⟩ := q
     rw [hF2] at hR'
     simp only at hR'
     have hr2 := rC (by omega) (by omega) (by omega) hF2
     have hF2' := hF2
     rw [Int.toNat_natCast] at hF2'
     refine Wp.more ?_
     refine sx (Γ48 (aL w S fp) n hA r r2) (de bW hF2' wi) ?_ ?_
     ·exact ⟨⟨⟨⟨_, _, _, _, rfl, hdn, hop, by omega, by omega, hs⟩, e1⟩, by decide, by simp, u1⟩, ⟨bV hg, ⟨hr, hr2.2.2⟩, _, _, rfl⟩, u1⟩
     refine ei ?_
     refine Pw.gK 224 (ev bW) (cv.refl _ _) fun W2 bs2 cs hx2 hΦ2 => ?_
     obtain ⟨fv2, rfl, hg2, hv2⟩ := ck hΦ2
     refine Pw.here ?_
     refine qq ?_
     refine ⟨⟨W2, bs2, fv2, aQ .and r r2, j2, k⟩, ⟨by simp only; omega, eJ _ _ _, by simp only; omega, hg2, hR'⟩, by simp only; omega, rfl, rfl, ?_⟩
     exact wM (fun x => if x = 3 then .key 218 else .key x) (ab bW hv2)
   ·have h38 : ¬ bt s i = 38 := by simpa using hc
    rw [if_neg h38] at hR'
    refine vR Γ0 bW ?_
    refine wC bW (fun hc => ?_) (fun hc => ?_)
    ·have h45 : bt s i = 45 := by simpa using hc
     rw [if_pos h45] at hR'
     have wi : IntKind.i64.wrap (i + 1) = i + 1 := aa (by omega) (by omega)
     refine vR Γ0 (ab bW wi) ?_
     cases hF2 : dT (bt s) s.size (bk (bt s) s.size (fj s) n) ((s.size : Int).toNat + 1) none (i + 1) with
     | error e =>
      obtain ⟨c, j⟩ := e
      rw [hF2] at hR'
      simp only at hR'
      rw [<- hR', bH]
      have hF2' := hF2
      rw [Int.toNat_natCast] at hF2'
      refine Wp.JI (Γ51 (aL w S fp) n hA) bR (ev (de bW hF2' wi)) rfl (by kernel_rfl) ?_ ?_
      ·exact ⟨⟨⟨⟨_, _, _, _, rfl, hdn, hop, by omega, by omega, hs⟩, e1⟩, by decide, by simp⟩, ⟨r.1, 0, fo, .nilFunc, .minus, rfl, hr, by omega, hg.one, rfl⟩, u1⟩
      refine qq ?_
      exact ⟨_, rfl⟩
     | ok q =>
      obtain ⟨r2, j2⟩ := q
      rw [hF2] at hR'
      simp only at hR'
      have hr2 := rC (by omega) (by omega) (by omega) hF2
      have hF2' := hF2
      rw [Int.toNat_natCast] at hF2'
      refine Wp.more ?_
      refine sx (Γ49 (aL w S fp) n hA r r2) (de bW hF2' wi) ?_ ?_
      ·exact ⟨⟨⟨⟨_, _, _, _, rfl, hdn, hop, by omega, by omega, hs⟩, e1⟩, by decide, by simp, u1⟩, ⟨bV hg, ⟨hr, hr2.2.2⟩, _, _, rfl⟩, u1⟩
      refine ei ?_
      refine Pw.gK 240 (ev bW) (cv.refl _ _) fun W2 bs2 cs hx2 hΦ2 => ?_
      obtain ⟨fv2, rfl, hg2, hv2⟩ := ck hΦ2
      refine Pw.here ?_
      refine qq ?_
      refine ⟨⟨W2, bs2, fv2, aQ .minus r r2, j2, k⟩, ⟨by simp only; omega, eJ _ _ _, by simp only; omega, hg2, hR'⟩, by simp only; omega, rfl, rfl, ?_⟩
      exact wM (fun x => if x = 3 then .key 234 else .key x) (ab bW hv2)
    ·have h45 : ¬ bt s i = 45 := by simpa using hc
     rw [if_neg h45] at hR'
     refine wR Γ0 bW ?_ ?_
     ·exact hg.one
     refine wZ bW ?_
     rw [<- hR']
     exact eg hg rfl (by simp only [dS, Op.operands, Value.cells, σ0, σB, Nat.reduceEqDiff, Nat.reduceAdd, Nat.reduceMul, Nat.reduceLT, Nat.reduceLeDiff, Nat.reduceBEq, ae, Int.reduceToNat, Int.reduceLT, Int.reduceLE, Nat.reduceDiv, Nat.reduceMod, Nat.reduceSub, Int.reducePow, Nat.reducePow, σP, σB3, bW, aE]; rfl) (by decide)
  ·have hi : ¬ i < s.size := by
    simp at hc
    omega
   rw [jn, if_pos hi] at hR'
   refine wE ?_
   refine wR Γ0 bW ?_ ?_
   ·exact hg.one
   refine wZ bW ?_
   rw [<- hR']
   exact eg hg rfl (by simp only [dS, Op.operands, Value.cells, σ0, σB, Nat.reduceEqDiff, Nat.reduceAdd, Nat.reduceMul, Nat.reduceLT, Nat.reduceLeDiff, Nat.reduceBEq, ae, Int.reduceToNat, Int.reduceLT, Int.reduceLE, Nat.reduceDiv, Nat.reduceMod, Nat.reduceSub, Int.reducePow, Nat.reducePow, σP, σB3, bW, aE]; rfl) (by decide)
set_option maxHeartbeats 4000000 in
theorem B6 (n : Nat) (hA : B9 n) : N6 n := by
 intro s i0 d op u fp w S hdn hop h0 hi1 hs hesc ho hlt hS
 have u0 := aL.up w S fp
 have e0 := hesc.mono (aL.h9 w S fp hS)
 dsimp only
 unfold sN VM
 refine gO (nt := 26) S #[] [.cell 2 254] (by show 3 <= 7; omega) ho hlt Tryz.func126 rfl rfl rfl ?_
 refine vR Γ0 bW ?_
 cases hF : jG (bt s) s.size (dT (bt s) s.size (bk (bt s) s.size (fj s) n) ((s.size : Int).toNat + 1) none) i0 with
 | error e =>
  obtain ⟨c, j⟩ := e
  simp only
  rw [bH]
  have hF' := hF
  rw [Int.toNat_natCast] at hF'
  refine Wp.iJ (Γ50 (aL w S fp) n hA (bK .eps) (bK .eps)) bR (ev (ab bW hF')) ?_ ?_
  ·exact ⟨⟨⟨_, _, _, _, rfl, hdn, hop, h0, hi1, hs⟩, e0⟩, by decide, by simp⟩
  refine qq ?_
  exact ⟨_, rfl⟩
 | ok q =>
  obtain ⟨r0, j0⟩ := q
  simp only
  have hr0 := uV (by omega) h0 hi1 hF
  have hF' := hF
  rw [Int.toNat_natCast] at hF'
  generalize hR : uo (bt s) s.size (jG (bt s) s.size (dT (bt s) s.size (bk (bt s) s.size (fj s) n) ((s.size : Int).toNat + 1) none)) ((s.size : Int).toNat + 1) r0 j0 = R
  refine wR (Γ50 (aL w S fp) n hA (bK .eps) (bK .eps)) (ab bW hF') ?_ ?_
  ·exact ⟨⟨⟨_, _, _, _, rfl, hdn, hop, h0, hi1, hs⟩, e0⟩, by decide, by simp, u0⟩
  refine Wp.gK 31 (ev bW) (cv.refl _ _) fun W0 bs0 cs hx0 hΦ => ?_
  obtain ⟨fv, rfl, hg, hv1⟩ := ck hΦ
  have u00 := u0.ext hx0
  refine Wp.seq (Wp.block ?_)
  refine Wp.yQ (fun p : RI => ⟨10, bQ [(0, .is (.own 0 0)), (2, .is (.own 8 0)), (3, .is (.own 32 0))], bY [(0, .cells 251 [.v (.string s), .v (.int .i64 p.i), .hd 3]), (3, .row 3 1 d (op.map .v)), (8, .cells 254 [.v (.int .i64 0), .v .nilFunc]), (32, .cells 254 [.v (.int .i64 (p.r.1 : Nat)), .v p.fo])]⟩)
   RI.W RI.bs (fun p => (0 <= p.i /\ p.i <= s.size) /\ p.r.1 <= 2001 /\ ((s.size : Int) - p.i < p.n /\ 1 <= p.n) /\ bw p.W (fg (aL w S fp) p.bs) p.fo p.r.2 /\ uo (bt s) s.size (jG (bt s) s.size (dT (bt s) s.size (bk (bt s) s.size (fj s) n) ((s.size : Int).toNat + 1) none)) p.n p.r p.i = R) (fun p => p.n) ⟨W0, bs0, fv, r0, j0, (s.size : Int).toNat + 1⟩ rfl rfl ?_ ⟨⟨by simp only; omega, hr0.2.1⟩, hr0.2.2, ⟨by simp only; omega, by simp only; omega⟩, hg, hR⟩ ?_
  ·exact wM (fun x => if x = 3 then .key 26 else .key x) (ab bW hv1)
  rintro ⟨W1, bs1, fo, r, i, k⟩ ⟨⟨hi0, hiN⟩, hr, ⟨hn, hn1⟩, hg, hR'⟩ hx1
  simp only at hi0 hiN hr hn hn1 hg hR' hx1
  dsimp only
  obtain ⟨k, rfl⟩ : ∃ m, k = m + 1 := ⟨k - 1, by omega⟩
  have hx01 := hx0.trans hx1
  have u1 := u0.ext hx01
  have e1 := e0.mono hx01.Bf
  refine Wp.seq ?_
  refine wR (Γ50 (aL w S fp) n hA (bK .eps) (bK .eps)) bW ?_ ?_
  ·first | trivial | omega | (simp [hs]; done) | (simp [hs]; omega) | (simp [hs] <;> omega)
  refine wC bW (fun hc => ?_) (fun hc => ?_)
  ·have hi : i < s.size /\ bt s i = 124 := by
    simp at hc
    omega
   rw [uo, if_pos hi] at hR'
   refine wK ?_
   refine Wp.block ?_
   have wi : IntKind.i64.wrap (i + 1) = i + 1 := aa (by omega) (by omega)
   refine vR Γ0 (ab bW wi) ?_
   cases hF2 : jG (bt s) s.size (dT (bt s) s.size (bk (bt s) s.size (fj s) n) ((s.size : Int).toNat + 1) none) (i + 1) with
   | error e =>
    obtain ⟨c, j⟩ := e
    rw [hF2] at hR'
    simp only at hR'
    rw [<- hR', bH]
    have hF2' := hF2
    rw [Int.toNat_natCast] at hF2'
    refine Wp.JI (Γ52 (aL w S fp) n hA) bR (ev (de bW hF2' wi)) rfl (by kernel_rfl) ?_ ?_
    ·exact ⟨⟨⟨⟨_, _, _, _, rfl, hdn, hop, by omega, by omega, hs⟩, e1⟩, by decide, by simp⟩, ⟨r.1, 0, fo, .nilFunc, .alt, rfl, hr, by omega, hg.one, rfl⟩, u1⟩
    refine qq ?_
    exact ⟨_, rfl⟩
   | ok q =>
    obtain ⟨r2, j2⟩ := q
    rw [hF2] at hR'
    simp only at hR'
    have hr2 := uV (by omega) (by omega) (by omega) hF2
    have hF2' := hF2
    rw [Int.toNat_natCast] at hF2'
    refine Wp.more ?_
    refine sx (Γ50 (aL w S fp) n hA r r2) (de bW hF2' wi) ?_ ?_
    ·exact ⟨⟨⟨⟨_, _, _, _, rfl, hdn, hop, by omega, by omega, hs⟩, e1⟩, by decide, by simp, u1⟩, ⟨bV hg, ⟨hr, hr2.2.2⟩, _, _, rfl⟩, u1⟩
    refine ei ?_
    refine Pw.gK 232 (ev bW) (cv.refl _ _) fun W2 bs2 cs hx2 hΦ2 => ?_
    obtain ⟨fv2, rfl, hg2, hv2⟩ := ck hΦ2
    refine Pw.here ?_
    refine qq ?_
    refine ⟨⟨W2, bs2, fv2, aQ .alt r r2, j2, k⟩, ⟨by simp only; omega, eJ _ _ _, by simp only; omega, hg2, hR'⟩, by simp only; omega, rfl, rfl, ?_⟩
    exact wM (fun x => if x = 3 then .key 226 else .key x) (ab bW hv2)
  ·have hi : ¬ (i < s.size /\ bt s i = 124) := fun h => by
    apply Bool.eq_false_iff.1 hc
    simp
    omega
   rw [uo, if_neg hi] at hR'
   refine wE ?_
   refine wR Γ0 bW ?_ ?_
   ·exact hg.one
   refine wZ bW ?_
   rw [<- hR']
   exact eg hg rfl (by simp only [dS, Op.operands, Value.cells, σ0, σB, Nat.reduceEqDiff, Nat.reduceAdd, Nat.reduceMul, Nat.reduceLT, Nat.reduceLeDiff, Nat.reduceBEq, ae, Int.reduceToNat, Int.reduceLT, Int.reduceLE, Nat.reduceDiv, Nat.reduceMod, Nat.reduceSub, Int.reducePow, Nat.reducePow, σP, σB3, bW, aE]; rfl) (by decide)
end
section
open Go.RowKit Go.LE
set_option maxRecDepth 10000
def Ah : EqSpec Tryz.prog 39 where
 f := fun xs ys => match xs, ys with
  | [.int .i64 a, .int .i64 b, .string s], [.int .i64 a', .int .i64 b', .string s'] => some (decide (a = a') && decide (b = b') && decide (s = s'))
  | _, _ => none
 ok := by
  intro xs ys b w h
  split at h
  ·rename_i a b s a' b' s'
   cases h
   refine ⟨?_, ?_⟩
   ·simp [eqGuard, go_sem, Tryz.eqGuardType39]
   ·simp only [Op.equal, Op.maxDepth, run_equalIn_agg w 9999 39 _ _ Tryz.underlying39 Tryz.stoodInHeld39]
    have e : s.toList = s'.toList ↔ s = s' := by
     have := B0 s s'
     rw [Bool.eq_iff_iff] at this
     simpa using this
    simp [go_sem, e]
    by_cases h1 : a = a' <;> by_cases h2 : b = b' <;> by_cases h3 : s = s' <;> simp [h1, h2, h3]
  ·cases h
theorem uB (a b a' b' : Int) (s s' : ByteArray) : Ah.f [.int .i64 a, .int .i64 b, .string s] [.int .i64 a', .int .i64 b', .string s'] = some (decide (a = a') && decide (b = b') && decide (s = s')) := rfl
def JD : aU Tryz.prog 263 where
 pre := fun W bs => fun | [.val (.string s), .val (.int .i64 i)] => s.size <= 140737488351232 /\ ba W (Out bs) | _ => False
 res := fun W => fun | [.val (.string s), .val (.int .i64 i)] => qk s i | _ => undef
 enters := Tryz.call263
 ok := by
  intro W w bs us as_ hk hu hp
  split at hp
  ·rename_i s i
   match us, hu with
   | [u0, u1], hu =>
    obtain ⟨rfl, rfl, _⟩ := hu
    exact QY s i w hp.1 (hp.2.fM hk (by simp))
  ·exact hp.elim
theorem KG (W : World) (s : ByteArray) (i : Int) : JD.res W [.val (.string s), .val (.int .i64 i)] = qk s i := rfl
theorem K2 (W : World) (bs : List Nat) (s : ByteArray) (i : Int) : JD.pre W bs [.val (.string s), .val (.int .i64 i)] = (s.size <= 140737488351232 /\ ba W (Out bs)) := rfl
noncomputable def Γ53 (G : Nat -> Prop) (t : Rx) : Env Tryz.prog := ⟨fun | 127 => some dt.spec | 179 => some gj.spec | 128 => some eV.spec | 263 => some JD.spec | 249 => some ((lV t).spec G) | _ => none, fun | 39 => some Ah | _ => none, fun _ _ => none⟩
noncomputable def Γ54 (G : Nat -> Prop) (n : Nat) (h : N6 n) : Env Tryz.prog := ⟨fun | 126 => some ((lf _ _ _ n Tryz.call126 h).spec G) | _ => none, fun _ => none, fun _ _ => none⟩
section
variable (G : Nat -> Prop) (t : Rx) (n : Nat) (h : N6 n)
theorem Gt53c127 : (Γ53 G t).sp 127 = some dt.spec := rfl
theorem Gt53c179 : (Γ53 G t).sp 179 = some gj.spec := rfl
theorem Gt53c128 : (Γ53 G t).sp 128 = some eV.spec := rfl
theorem Gt53c263 : (Γ53 G t).sp 263 = some JD.spec := rfl
theorem Gt53c249 : (Γ53 G t).sp 249 = some ((lV t).spec G) := rfl
theorem Gt53ceq39 : (Γ53 G t).eqs 39 = some Ah := rfl
theorem Gt54c126 : (Γ54 G n h).sp 126 = some ((lf _ _ _ n Tryz.call126 h).spec G) := rfl
end
def dc := (aq @List.replicate_succ.{0} @List.replicate_zero.{0} @av @af jV jW HS (aq HB E9 jb cW cX c8 cT (aq cZ c9 cR cV gz gv gi (aq gk gn ez ey eB eC eA (aq ew Qp NZ Rf Nj Of Q3 (aq Qt Qd Ak zz AP zl AJ (aq z7 AE Ae zI zd CX B8 (aq BC Du rU rV sb rX o6 (aq pB p6 qn uJ uL u7 tn (aq uZ uA uH vH uY u5 ue (aq tX qa qb qp py ql pH (aq rF r9 r8 sf US Vm Va (aq U4 Vq Vi U8 Vk XA Xy (aq @sD.eq_1 @tZ.eq_1 @dA.eq_1 @aN @au @aA @az (aq @fz @jH @fK @fL @jv @jk @jg (aq @nR @hY @il @kS @lV.eq_1 @ny @bH (aq @pc @pw @lP @zy @dm @jO @kF (aq @kC @ji @nv @dM @zC @gH @List.drop_nil.{0} (aq KG K2 @Gt53c127 @Gt53c179 @Gt53c128 @Gt53c263 @Gt53c249 (de @Gt53ceq39 @Gt54c126 @uB))))))))))))))))))))
set_option maxHeartbeats 4000000 in
theorem CL (n : Nat) (hA : ∀ m, n = m + 1 -> N6 m) : Cb n := by
 intro s i d op u fp w S hdn hop h0 hi hs hesc ho hlt hS
 have u0 := aL.up w S fp
 have e0 := hesc.mono (aL.h9 w S fp hS)
 have e0' : ba w (Out fp) := e0.mono fun b _ hb => ⟨rfl, hb.2⟩
 dsimp only
 have wi : IntKind.i64.wrap (i + 1) = i + 1 := aa (by omega) (by omega)
 refine gO (nt := 108) S #[] [.cell 2 254] (by show 3 <= 7; omega) ho hlt Tryz.func251 rfl rfl rfl ?_
 refine vR Γ0 dc ?_
 refine Wp.seq ?_
 refine wR (Γ53 (aL w S fp) .eps) dc ?_ ?_
 ·first | trivial | omega | (simp [hs]; done) | (simp [hs]; omega) | (simp [hs] <;> omega)
 refine wC dc (fun hc => ?_) (fun hc => ?_)
 ·have h40 : ¬ bt s i = 40 := by simpa using hc
  have hL : bk (bt s) s.size (fj s) n i = px (fj s) i := by
   cases n with
   | zero => rw [bk, if_neg h40]
   | succ n => rw [bk, if_neg h40]
  rw [hL]
  have hre : qk s i = match dr s i with
    | .error j => oq 10 0 0 j
    | .ok (a, j) => oq 0 a j 0 := by
   rw [qk, if_neg (by omega)]
   cases dr s i <;> rfl
  cases hI : dr s i with
  | error j =>
   rw [hI] at hre
   simp only [oq] at hre
   have hE : px (fj s) i = .error (10, j) := by rw [px, fj, hI]
   rw [hE, bH]
   refine l9 (Γ53 (aL w S fp) .eps) (ab dc hre) ?_ ?_
   ·exact ⟨hs, e0'⟩
   refine Wp.seq ?_
   refine wR (Γ53 (aL w S fp) .eps) (ab dc hre) ?_ ?_
   ·first | trivial | omega | (simp [hs]; done) | (simp [hs]; omega) | (simp [hs] <;> omega)
   refine wC dc (fun hc => ?_) (fun hc => ?_)
   ·skip
    refine Wp.nY (Γ53 (aL w S fp) .eps) bR (ev (ab dc hre)) ?_ ?_
    ·first | trivial | omega | (simp [hs]; done) | (simp [hs]; omega) | (simp [hs] <;> omega)
    refine qq ?_
    exact ⟨_, rfl⟩
   ·exfalso
    simp at hc
  | ok q =>
   obtain ⟨a, j⟩ := q
   have hj := vm hI h0 hi
   rw [hI] at hre
   simp only [oq] at hre
   have hE : px (fj s) i = .ok (bK (.cls a), j) := by rw [px, fj, hI]
   rw [hE, ny]
   refine l9 (Γ53 (aL w S fp) .eps) (ab dc hre) ?_ ?_
   ·exact ⟨hs, e0'⟩
   refine Wp.seq ?_
   refine wR (Γ53 (aL w S fp) .eps) (ab dc hre) ?_ ?_
   ·first | trivial | omega | (simp [hs]; done) | (simp [hs]; omega) | (simp [hs] <;> omega)
   refine wC dc (fun hc => ?_) (fun hc => ?_)
   ·exfalso
    simp at hc
   ·refine wK ?_
    refine vR Γ0 dc ?_
    refine wR (Γ53 (aL w S fp) (.cls a)) dc ?_ ?_
    ·exact ⟨rfl, u0⟩
    refine Wp.gK 272 (ev dc) (cv.refl _ _) fun W1 bs1 cs hx1 hΦ => ?_
    obtain ⟨fv, rfl, hg, hv1⟩ := ck hΦ
    refine wZ (ab dc hv1) ?_
    exact eg hg rfl (by simp only [dS, Op.operands, Value.cells, σ0, σB, Nat.reduceEqDiff, Nat.reduceAdd, Nat.reduceMul, Nat.reduceLT, Nat.reduceLeDiff, Nat.reduceBEq, ae, Int.reduceToNat, Int.reduceLT, Int.reduceLE, Nat.reduceDiv, Nat.reduceMod, Nat.reduceSub, Int.reducePow, Nat.reducePow, σP, σB3, dc, aE]; rfl) (by decide)
 ·have h40 : bt s i = 40 := by simpa using hc
  refine wK ?_
  refine Wp.seq ?_
  refine vR Γ0 dc ?_
  refine wC dc (fun hc => ?_) (fun hc => ?_)
  ·have hd : 1000 <= d := by
    simp at hc
    omega
   obtain rfl : n = 0 := by omega
   rw [bk, if_pos h40, bH]
   refine Wp.nY (Γ53 (aL w S fp) .eps) bR (ev dc) ?_ ?_
   ·first | trivial | omega | (simp [hs]; done) | (simp [hs]; omega) | (simp [hs] <;> omega)
   refine qq ?_
   exact ⟨_, rfl⟩
  ·have hd : ¬ 1000 <= d := by
    simp at hc
    omega
   obtain ⟨n, rfl⟩ : ∃ m, n = m + 1 := ⟨n - 1, by omega⟩
   have hA' := hA n rfl
   rw [bk, if_pos h40]
   refine wK ?_
   have hap : List.map SV.v op ++ [SV.v (.int .i64 i)] = List.map SV.v (op ++ [.int .i64 i]) := by simp
   refine l9 Γ0 dc ?_ ?_
   ·unfold maxLen; omega
   refine vR Γ0 (ab dc wi) ?_
   have hlen : (op ++ [Value.int .i64 i]).length = d + 1 := by simp [hop]
   cases hF : sN (bt s) s.size (bk (bt s) s.size (fj s) n) (i + 1) with
   | error e =>
    obtain ⟨c, j⟩ := e
    rw [qE, bH]
    refine Wp.iJ (Γ54 (aL w S fp) n hA') bR (ev (eH dc hF wi hap)) ?_ ?_
    ·exact ⟨⟨⟨_, _, _, _, rfl, by omega, hlen, by omega, by omega, hs⟩, e0⟩, by decide, by simp⟩
    refine qq ?_
    exact ⟨_, rfl⟩
   | ok q =>
    obtain ⟨r, j⟩ := q
    have hr := xE (by omega) (by omega) (by omega) hF
    have wd : IntKind.i64.wrap (((d + 1 : Nat) : Int) - 1) = ((d : Nat) : Int) := by rw [aa (by omega) (by omega)]; omega
    have htk : List.take d (List.map SV.v (op ++ [Value.int .i64 i])) = List.map SV.v op := by
     rw [<- List.map_take, <- hop, List.take_left]
    have hix : (List.map SV.v (op ++ [Value.int .i64 i])).getD d (.v undef) = .v (.int .i64 i) := by
     rw [<- hop]; simp
    refine wR (Γ54 (aL w S fp) n hA') (eH dc hF wi hap) ?_ ?_
    ·exact ⟨⟨⟨_, _, _, _, rfl, by omega, hlen, by omega, by omega, hs⟩, e0⟩, by decide, by simp, u0⟩
    refine Wp.gK 279 (ev dc) (cv.refl _ _) fun W1 bs1 cs hx1 hΦ => ?_
    obtain ⟨fv, rfl, hg, hv1⟩ := ck hΦ
    refine Wp.seq ?_
    refine wR (Γ53 (aL w S fp) .eps) (ab dc hap) ?_ ?_
    ·first | trivial | omega | (simp [hs]; done) | (simp [hs]; omega) | (simp [hs] <;> omega)
    refine wC dc (fun hc => ?_) (fun hc => ?_)
    ·have hj : ¬ j < s.size := by
      simp at hc
      omega
     rw [qE, if_pos hj, bH]
     refine Wp.JI (Γ53 (aL w S fp) .eps) bR (ev (eH dc hap wd hix)) rfl (by kernel_rfl) ?_ ?_
     ·exact ⟨⟨_, rfl⟩, ⟨by omega, by omega⟩, by simp [hop], by decide, by simp⟩
     refine qq ?_
     exact ⟨_, rfl⟩
    ·have hj : j < s.size := by
      simp at hc
      omega
     have wj : IntKind.i64.wrap (j + 1) = j + 1 := aa (by omega) (by omega)
     rw [qE, if_neg (by omega), ny]
     refine wK ?_
     refine vR Γ0 (ab dc wj) ?_
     refine l9 Γ0 (de dc wd htk) ?_ ?_
     ·exact ⟨⟨_, rfl⟩, by omega, by omega⟩
     refine wR Γ0 (ab dc hv1) ?_ ?_
     ·exact hg.one
     refine wZ (ab dc hv1) ?_
     exact eg hg rfl (by simp only [dS, Op.operands, Value.cells, σ0, σB, Nat.reduceEqDiff, Nat.reduceAdd, Nat.reduceMul, Nat.reduceLT, Nat.reduceLeDiff, Nat.reduceBEq, ae, Int.reduceToNat, Int.reduceLT, Int.reduceLE, Nat.reduceDiv, Nat.reduceMod, Nat.reduceSub, Int.reducePow, Nat.reducePow, σP, σB3, dc, aE]; rfl) (by decide)
theorem levels : ∀ n, Cb n
 | 0 => CL 0 fun m h => by omega
 | n + 1 => CL (n + 1) fun m h => by
  obtain rfl : n = m := by omega
  exact B6 n (yi n (I5 n (levels n)))
theorem B3 (n : Nat) : N6 n := B6 n (yi n (I5 n (levels n)))
end
section
open Go.RowKit Go.LE
set_option maxRecDepth 10000
noncomputable def Γ55 (G : Nat -> Prop) : Env Tryz.prog := ⟨fun | 127 => some dt.spec | 128 => some eV.spec | 126 => some ((lf _ _ _ 1000 Tryz.call126 (B3 1000)).spec G) | f => ET 0 (tg 0) f, fun _ => none, fun _ _ => none⟩
theorem Gt55c127 (G : Nat -> Prop) : (Γ55 G).sp 127 = some dt.spec := rfl
theorem Gt55c128 (G : Nat -> Prop) : (Γ55 G).sp 128 = some eV.spec := rfl
theorem Gt55c126 (G : Nat -> Prop) : (Γ55 G).sp 126 = some ((lf _ _ _ 1000 Tryz.call126 (B3 1000)).spec G) := rfl
def fN := (aq @List.replicate_succ.{0} @List.replicate_zero.{0} @av @af jV jW HS (aq HB E9 jb cW cX c8 cT (aq cZ c9 cR cV ez ey eB (aq eC eA ew Qp NZ Rf Nj (aq Of Q3 Qt Qd Ak zz AP (aq zl AJ z7 AE Ae zI zd (aq rU rV sb rX uJ uL u7 (aq tn uZ uA uH vH uY u5 (aq ue tX It JK IF qa qb (aq qp py ql pH @sD.eq_1 @tZ.eq_1 @dA.eq_1 (aq @aN @au @aA @az @fz @jH @fK (aq @fL @jv @hY @il @kS @ny @bH (aq @pc @pw @lP @zy @σR.eq_1 @σL.eq_1 @mz.eq_1 (aq @mz.eq_2 @uw.eq_1 @uw.eq_2 @Gt55c127 @Gt55c128 @Gt55c126 @yp @yg))))))))))))))
noncomputable def Rm : CatchC Tryz.prog 125 where
 Ts := [151, 39]
 enters := Tryz.call125
 pre := fun vss pv => (∃ a f g h, vss = [[a], [f, g, h]]) /\ ∃ c i t, pv = .iface 39 (tZ c i t)
 out := fun vss pv => [[.nilIface], match pv with | .iface _ (.agg x) => x.toList | _ => []]
 bh := fun vss pv => [.nilIface, match pv with | .iface _ x => x | _ => undef]
 vals_ok := by
  rintro vss pv ⟨_, c, i, t, rfl⟩
  refine ⟨.inr ⟨by simp only [dS, Op.operands, Value.cells, σ0, σB, Nat.reduceEqDiff, Nat.reduceAdd, Nat.reduceMul, Nat.reduceLT, Nat.reduceLeDiff, Nat.reduceBEq, ae, Int.reduceToNat, Int.reduceLT, Int.reduceLE, Nat.reduceDiv, Nat.reduceMod, Nat.reduceSub, Int.reducePow, Nat.reducePow, σP, σB3, fN], rfl⟩, .inl ⟨by simp only [dS, Op.operands, Value.cells, σ0, σB, Nat.reduceEqDiff, Nat.reduceAdd, Nat.reduceMul, Nat.reduceLT, Nat.reduceLeDiff, Nat.reduceBEq, ae, Int.reduceToNat, Int.reduceLT, Int.reduceLE, Nat.reduceDiv, Nat.reduceMod, Nat.reduceSub, Int.reducePow, Nat.reducePow, σP, σB3, fN] <;> rfl, by simp only [dS, Op.operands, Value.cells, σ0, σB, Nat.reduceEqDiff, Nat.reduceAdd, Nat.reduceMul, Nat.reduceLT, Nat.reduceLeDiff, Nat.reduceBEq, ae, Int.reduceToNat, Int.reduceLT, Int.reduceLE, Nat.reduceDiv, Nat.reduceMod, Nat.reduceSub, Int.reducePow, Nat.reducePow, σP, σB3, fN], rfl⟩, trivial⟩
 quiet := fun w us hl => by
  match us, hl with
  | [u0, u1], _ =>
   refine pO (nt := 8) w _ Tryz.func125 rfl rfl (by omega) (by omega) rfl ?_
   refine vR Γ0 fN ?_
   refine wC fN (fun hc => ?_) (fun hc => ?_)
   ·simp at hc
   ·refine wK ?_
    simp only [dS, Op.operands, Value.cells, σ0, σB, Nat.reduceEqDiff, Nat.reduceAdd, Nat.reduceMul, Nat.reduceLT, Nat.reduceLeDiff, Nat.reduceBEq, ae, Int.reduceToNat, Int.reduceLT, Int.reduceLE, Nat.reduceDiv, Nat.reduceMod, Nat.reduceSub, Int.reducePow, Nat.reducePow, σP, σB3, nw, gJ, kB, jr, fN]
    done
 caught := fun w us bl vss pv hl hn hlt hp => by
  obtain ⟨⟨a, f, g, h, rfl⟩, k, i, t, rfl⟩ := hp
  have h3 := hl.len.1
  refine oh (nt := 8) Tryz.func125 rfl rfl (by omega) (by omega) ?_ hl hn hlt ?_ ?_
  ·rw [h3]; rfl
  ·rw [h3]; decide
  intro us _
  refine vR Γ0 fN ?_
  refine wC fN (fun hc => ?_) (fun hc => ?_)
  ·skip
   refine Y3 Γ0 (ab fN @tZ.eq_1) ?_
   refine wS fN ?_
   exact ⟨rfl, rfl, trivial⟩
  ·cases hc
def oe (s : ByteArray) : Except (Int × Int) Rx := vV (bt s) s.size (fj s)
def oR : Except (Int × Int) Rx -> Value
 | .ok t => .tuple #[aF t, tZ 0 0 ⟨#[]⟩]
 | .error (c, j) => .tuple #[.nilIface, tZ c j ⟨#[]⟩]
set_option maxHeartbeats 4000000 in
theorem Lh (s : ByteArray) (w : World) (hs : s.size <= 140737488351232) (hg : ba w (Out [])) :
  Calls Tryz.prog 71 #[.string s] w fun e w' => e = .returned (oR (oe s)) /\ ai w [] w' := by
 have u0 : Up (fun _ => True) w [] := Up.true _ _
 have e0 : ba w (fg (fun _ => True) []) := hg.mono fun b _ hb => ⟨rfl, trivial, hb⟩
 refine sw (nt := 33) Tryz.func71 rfl rfl ?_
 refine jY.seq' (rs := [.cell 2 151, .cell 3 39]) rfl ?_
 refine vr Γ0 fN ?_
 refine jY.seq' (rs := [.cell 2 151, .cell 3 39]) rfl ?_
 refine vR Γ0 fN ?_
 refine wC fN (fun hc => ?_) (fun hc => ?_)
 ·have hb : 1048576 < (s.size : Int) := by simpa using hc
  have he : oe s = .error (1, 0) := by rw [oe, vV, if_pos hb]
  rw [he]
  refine vR Γ0 fN ?_
  refine wZ fN ?_
  exact fun E => rfl
 ·have hb : ¬ 1048576 < (s.size : Int) := by simpa using hc
  have he : oe s = Kl s.size (alts (bt s) s.size (fj s) 1000 0) := by rw [oe, vV, if_neg hb]
  refine wK ?_
  refine jY.PY (rs := [.cell 2 151, .cell 3 39]) rfl Rm [2, 3] [0, 8] rfl (by decide) rfl (by decide) rfl rfl ?_ ?_ fun us hus => ?_
  ·rintro p hp
   simp only [List.zip_cons_cons, List.zip_nil_right, List.mem_cons, List.not_mem_nil, or_false] at hp
   rcases hp with rfl | rfl <;> rfl
  ·rintro k hk
   simp only [List.mem_cons, List.not_mem_nil, or_false] at hk
   rcases hk with rfl | rfl <;> exact ⟨_, _, rfl⟩
  refine vR Γ0 fN ?_
  match us, hus with
  | [u0', u1'], _ =>
  refine Wp.XG (σ' := ⟨20, bQ [(2, .is (.own 0 0)), (3, .is (.own 8 0)), (4, .is (.own 72 0))], bY [(0, .cells 151 [.v .nilIface]), (8, .cells 39 [.v (.int .i64 0), .v (.int .i64 0), .v (.string ⟨#[]⟩)]), (72, .cells 251 [.v (.string s), .v (.int .i64 0), .hd 88]), (88, .row 3 1 0 [])]⟩) ?_ ?_
  ·exact wM (fun x => if x = 88 then .nil else .key x) fN
  have hal : alts (bt s) s.size (fj s) 1000 0 = sN (bt s) s.size (bk (bt s) s.size (fj s) 1000) 0 := rfl
  rw [hal] at he
  cases hF : sN (bt s) s.size (bk (bt s) s.size (fj s) 1000) 0 with
  | error e =>
   obtain ⟨c, j⟩ := e
   rw [hF] at he
   simp only [Kl] at he
   rw [he]
   refine Wp.iJ (Γ55 (fun _ => True)) bR (ev (ab fN hF)) ?_ ?_
   ·exact ⟨⟨⟨_, _, _, _, rfl, rfl, rfl, by omega, by simp, hs⟩, e0⟩, by decide, by simp⟩
   refine qq ?_
   refine wS fN ?_
   refine ⟨.iface 39 (tZ c j ⟨#[]⟩), [[.nilIface], [.int .i64 0, .int .i64 0, .string ⟨#[]⟩]], rfl, ⟨?_, ?_, ?_, ?_, trivial⟩, ⟨⟨_, _, _, _, rfl⟩, c, j, ⟨#[]⟩, rfl⟩, fun E => rfl⟩
   all_goals rfl
  | ok q =>
   obtain ⟨r, j⟩ := q
   have hr := xE (s := s) (m := 1000) (by omega) (by omega) (by simp) hF
   rw [hF] at he
   simp only [Kl] at he
   refine wR (Γ55 (fun _ => True)) (ab fN hF) ?_ ?_
   ·exact ⟨⟨⟨_, _, _, _, rfl, rfl, rfl, by omega, by simp, hs⟩, e0⟩, by decide, by simp, u0⟩
   refine Wp.gK 175 (ev fN) (cv.refl _ _) fun W1 bs1 cs hx1 hΦ => ?_
   obtain ⟨fv, rfl, hg1, hv1⟩ := ck hΦ
   refine Wp.seq ?_
   refine wR (Γ55 (fun _ => True)) fN ?_ ?_
   ·first | trivial | omega | (simp [hs]; done) | (simp [hs]; omega) | (simp [hs] <;> omega)
   refine wC fN (fun hc => ?_) (fun hc => ?_)
   ·have hj : j < s.size := by
     simp at hc
     omega
    rw [if_pos hj] at he
    rw [he]
    refine Wp.nY (Γ55 (fun _ => True)) bR (ev fN) ?_ ?_
    ·first | trivial | omega | (simp [hs]; done) | (simp [hs]; omega) | (simp [hs] <;> omega)
    refine qq ?_
    refine wS fN ?_
    refine ⟨.iface 39 (tZ 20 j ⟨#[]⟩), [[.nilIface], [.int .i64 0, .int .i64 0, .string ⟨#[]⟩]], rfl, ⟨?_, ?_, ?_, ?_, trivial⟩, ⟨⟨_, _, _, _, rfl⟩, 20, j, ⟨#[]⟩, rfl⟩, fun E => rfl⟩
    all_goals rfl
   ·have hj : ¬ j < s.size := by
     simp at hc
     omega
    rw [if_neg hj] at he
    refine wK ?_
    refine Wp.seq ?_
    refine vR Γ0 (ab fN hv1) ?_
    refine wC fN (fun hc => ?_) (fun hc => ?_)
    ·have hz : 2000 < r.1 := by
      simp at hc
      omega
     rw [if_pos hz] at he
     rw [he]
     refine vR Γ0 fN ?_
     refine wZ fN ?_
     exact fun E => rfl
    ·have hz : ¬ 2000 < r.1 := by
      simp at hc
      omega
     rw [if_neg hz] at he
     rw [he]
     obtain ⟨f, cap, rfl, hf⟩ := hg1.shape
     obtain ⟨cap, rfl⟩ : ∃ l : List Value, cap = l.toArray := ⟨cap.toList, by simp⟩
     have hgr := jC hg1
     have hsp := Gt43cgrow (dp r.2 + 1) (tg _) f hf
     refine wK ?_
     refine wR (Γ43 (dp r.2 + 1) (tg _)) (yR fN hsp hgr @lJ hv1 @gG @bM) ?_ ?_
     ·exact ⟨⟨cap, r.2, rfl, hg1.mono fun b _ h => ⟨rfl, h.2⟩, by omega⟩, bM _⟩
     refine wT ?_
     simp only [dS, Op.operands, Value.cells, σ0, σB, Nat.reduceEqDiff, Nat.reduceAdd, Nat.reduceMul, Nat.reduceLT, Nat.reduceLeDiff, Nat.reduceBEq, ae, Int.reduceToNat, Int.reduceLT, Int.reduceLE, Nat.reduceDiv, Nat.reduceMod, Nat.reduceSub, Int.reducePow, Nat.reducePow, σP, σB3, nw, gJ, kB, jr, fN, kB, gG, bM, iG (bM _)]
     exact fun E => rfl
def ze : aU Tryz.prog 71 where
 pre := fun W bs => fun | [.val (.string s)] => s.size <= 140737488351232 /\ ba W (Out bs) | _ => False
 res := fun W => fun | [.val (.string s)] => oR (oe s) | _ => undef
 enters := Tryz.call71
 ok := by
  intro W w bs us as_ hk hu hp
  split at hp
  ·rename_i s
   match us, hu with
   | [u0], hu =>
    obtain ⟨rfl, _⟩ := hu
    exact Lh s w hp.1 (hp.2.fM hk (by simp))
  ·exact hp.elim
theorem He (W : World) (s : ByteArray) : ze.res W [.val (.string s)] = oR (oe s) := rfl
theorem GI (W : World) (bs : List Nat) (s : ByteArray) : ze.pre W bs [.val (.string s)] = (s.size <= 140737488351232 /\ ba W (Out bs)) := rfl
end
section
open Go.RowKit Go.LE
set_option maxRecDepth 10000
def iU (q : ByteArray) (b : Int) : Bool := decide (0 <= ix q b)
def AK (q : ByteArray) (b : Int) : Bool := (List.range q.size).any fun j => decide (bt q (j : Int) = b)
theorem K6 {q : ByteArray} {b : Int} {j : Nat} (hj : j < q.size) (h : bt q j = b) : AK q b = true :=
 List.any_eq_true.2 ⟨j, List.mem_range.2 hj, decide_eq_true h⟩
theorem HR {q : ByteArray} {b : Int} (h : ∀ j : Nat, j < q.size -> bt q j ≠ b) : AK q b = false :=
 List.any_eq_false.2 fun j hj => by simpa using h j (List.mem_range.1 hj)
def pE := (aq @List.replicate_succ.{0} @List.replicate_zero.{0} @av @af jb cW cX (aq c8 cT cZ c9 cR cV gz (aq gv gi gk gn ez ey eB (yR eC eA ew @aN @au @aA @az))))
set_option maxHeartbeats 1000000 in
theorem Vy (q : ByteArray) (b : Int) (w : World) (hs : q.size <= 140737488351232) : Calls Tryz.prog 244 #[.string q, .int .u8 b] w fun e w' => e = .returned (.bool (AK q b)) /\ ai w [] w' := by
 refine aj (nt := 17) [.tmp 4] Tryz.func244 rfl rfl rfl ?_
 refine vR Γ0 pE ?_
 refine Wp.seq ?_
 refine vR Γ0 pE ?_
 refine Wp.block ?_
 refine Wp.loop (fun j : Nat => ⟨2, bQ [(0, .is (.v (.string q))), (1, .is (.v (.int .u8 b))), (5, .is (.v (.int .i64 (j : Nat))))], bY []⟩) (fun j => j <= q.size /\ ∀ i : Nat, i < j -> bt q i ≠ b) (fun j => q.size - j) 0 ?_ ⟨Nat.zero_le _, fun i h => by omega⟩ ?_
 ·exact wM (fun k => .key k) pE
 rintro j ⟨hj, hn⟩
 refine Wp.seq ?_
 refine vR Γ0 pE ?_
 refine wC pE (fun hc => ?_) (fun hc => ?_)
 ·have hlt : j < q.size := by
   simp at hc
   omega
  refine wK ?_
  refine Wp.seq (Wp.block ?_)
  refine vR Γ0 pE ?_
  refine wC pE (fun hc => ?_) (fun hc => ?_)
  ·have hb : bt q j = b := by simpa using hc
   rw [K6 hlt hb]
   refine vR Γ0 pE ?_
   refine wZ pE ?_
   exact fun E => rfl
  ·have hb : ¬ bt q j = b := by simpa using hc
   have wj : IntKind.i64.wrap ((j : Int) + 1) = ((j + 1 : Nat) : Int) := by rw [aa (by omega) (by omega)]; omega
   refine wK ?_
   refine vr Γ0 (ab pE wj) ?_
   refine ⟨j + 1, ⟨by omega, fun i hi => ?_⟩, by omega, ?_⟩
   ·by_cases h : i = j
    ·rw [h]; exact hb
    ·exact hn i (by omega)
   ·exact wM (fun k => .key k) pE
 ·have hlt : ¬ j < q.size := by
   simp at hc
   omega
  rw [HR fun i hi => hn i (by omega)]
  refine wE ?_
  refine vR Γ0 pE ?_
  refine wZ pE ?_
  exact fun E => rfl
def Yo : aU Tryz.prog 244 where
 pre := fun W bs => fun | [.val (.string q), .val (.int .u8 b)] => q.size <= 140737488351232 | _ => False
 res := fun W => fun | [.val (.string q), .val (.int .u8 b)] => .bool (AK q b) | _ => undef
 enters := Tryz.call244
 ok := by
  intro W w bs us as_ hk hu hp
  split at hp
  ·rename_i q b
   match us, hu with
   | [u0, u1], hu =>
    obtain ⟨rfl, rfl, _⟩ := hu
    exact Vy q b w hp
  ·exact hp.elim
theorem Sf (W : World) (q : ByteArray) (b : Int) : Yo.res W [.val (.string q), .val (.int .u8 b)] = .bool (AK q b) := rfl
theorem Tw (W : World) (bs : List Nat) (q : ByteArray) (b : Int) : Yo.pre W bs [.val (.string q), .val (.int .u8 b)] = (q.size <= 140737488351232) := rfl
noncomputable def Γ60 : Env Tryz.prog := ⟨fun | 244 => some Yo.spec | _ => none, fun | _ => none, fun _ _ => none⟩
theorem Gt60c244 : Γ60.sp 244 = some Yo.spec := rfl
theorem UC {b : Int} (h0 : 0 <= b) (h1 : b < 256) : AK wo b = iU wo b := by
 obtain ⟨n, rfl⟩ := Int.eq_ofNat_of_zero_le h0
 have : ∀ b : Fin 256, AK wo ((b.val : Nat) : Int) = iU wo ((b.val : Nat) : Int) := by decide +kernel
 exact this ⟨n, by omega⟩
theorem UH {b : Int} (h0 : 0 <= b) (h1 : b < 256) : AK ku b = iU ku b := by
 obtain ⟨n, rfl⟩ := Int.eq_ofNat_of_zero_le h0
 have : ∀ b : Fin 256, AK ku ((b.val : Nat) : Int) = iU ku ((b.val : Nat) : Int) := by decide +kernel
 exact this ⟨n, by omega⟩
theorem VH : (⟨#[40, 41, 91, 93, 123, 125, 124, 38, 45, 42, 43, 63, 46, 92, 47, 94]⟩ : ByteArray) = wo := rfl
theorem Vz : (⟨#[92, 93, 91, 45, 94, 47]⟩ : ByteArray) = ku := rfl
def Ht := (eH pE Sf Tw Gt60c244)
set_option maxHeartbeats 1000000 in
theorem Bx (b : Int) (h0 : 0 <= b) (h1 : b < 256) (w : World) : Calls Tryz.prog 205 #[.int .u8 b] w fun e w' => e = .returned (.bool (iU wo b)) /\ ai w [] w' := by
 rw [<- UC h0 h1]
 refine aj (nt := 5) [.tmp 2] Tryz.func205 rfl rfl rfl ?_
 refine vR Γ60 Ht ?_
 refine wR Γ60 Ht ?_ ?_
 ·decide
 refine wZ Ht ?_
 exact fun E => rfl
set_option maxHeartbeats 1000000 in
theorem KY (b : Int) (h0 : 0 <= b) (h1 : b < 256) (w : World) : Calls Tryz.prog 206 #[.int .u8 b] w fun e w' => e = .returned (.bool (iU ku b)) /\ ai w [] w' := by
 rw [<- UH h0 h1]
 refine aj (nt := 5) [.tmp 2] Tryz.func206 rfl rfl rfl ?_
 refine vR Γ60 Ht ?_
 refine wR Γ60 Ht ?_ ?_
 ·decide
 refine wZ Ht ?_
 exact fun E => rfl
def kT : aU Tryz.prog 205 where
 pre := fun W bs => fun | [.val (.int .u8 b)] => 0 <= b /\ b < 256 | _ => False
 res := fun W => fun | [.val (.int .u8 b)] => .bool (iU wo b) | _ => undef
 enters := Tryz.call205
 ok := by
  intro W w bs us as_ hk hu hp
  split at hp
  ·rename_i b
   match us, hu with
   | [u0], hu =>
    obtain ⟨rfl, _⟩ := hu
    exact Bx b hp.1 hp.2 w
  ·exact hp.elim
theorem pd (W : World) (b : Int) : kT.res W [.val (.int .u8 b)] = .bool (iU wo b) := rfl
theorem oY (W : World) (bs : List Nat) (b : Int) : kT.pre W bs [.val (.int .u8 b)] = (0 <= b /\ b < 256) := rfl
def re : aU Tryz.prog 206 where
 pre := fun W bs => fun | [.val (.int .u8 b)] => 0 <= b /\ b < 256 | _ => False
 res := fun W => fun | [.val (.int .u8 b)] => .bool (iU ku b) | _ => undef
 enters := Tryz.call206
 ok := by
  intro W w bs us as_ hk hu hp
  split at hp
  ·rename_i b
   match us, hu with
   | [u0], hu =>
    obtain ⟨rfl, _⟩ := hu
    exact KY b hp.1 hp.2 w
  ·exact hp.elim
theorem uW (W : World) (b : Int) : re.res W [.val (.int .u8 b)] = .bool (iU ku b) := rfl
theorem tD (W : World) (bs : List Nat) (b : Int) : re.pre W bs [.val (.int .u8 b)] = (0 <= b /\ b < 256) := rfl
theorem Kf {c : Int} (h0 : 0 <= c) (h1 : c < 256) : ix dW c = if 48 <= c /\ c <= 57 then c - 48 else if 97 <= c /\ c <= 102 then c - 97 + 10 else -1 := by
 obtain ⟨n, rfl⟩ := Int.eq_ofNat_of_zero_le h0
 have : ∀ c : Fin 256, ix dW ((c.val : Nat) : Int) = if 48 <= ((c.val : Nat) : Int) /\ ((c.val : Nat) : Int) <= 57 then ((c.val : Nat) : Int) - 48 else if 97 <= ((c.val : Nat) : Int) /\ ((c.val : Nat) : Int) <= 102 then ((c.val : Nat) : Int) - 97 + 10 else -1 := by decide +kernel
 exact this ⟨n, by omega⟩
def sC := (oc Ht @pd @oY @uW @tD)
set_option maxHeartbeats 1000000 in
theorem Qq (c : Int) (h0 : 0 <= c) (h1 : c < 256) (w : World) : Calls Tryz.prog 214 #[.int .u8 c] w fun e w' => e = .returned (.int .i64 (ix dW c)) /\ ai w [] w' := by
 rw [Kf h0 h1]
 refine aj (nt := 22) [.tmp 2] Tryz.func214 rfl rfl rfl ?_
 refine vR Γ0 sC ?_
 refine Wp.seq ?_
 refine vR Γ0 sC ?_
 refine wC sC (fun hc => ?_) (fun hc => ?_)
 ·have hd : 48 <= c /\ c <= 57 := by simpa using hc
  have w1 : IntKind.u8.wrap (c - 48) = c - 48 := fH (by omega) (by omega)
  have w2 : IntKind.i64.wrap (c - 48) = c - 48 := aa (by omega) (by omega)
  rw [if_pos hd]
  refine vR Γ0 (de sC w1 w2) ?_
  refine wZ sC ?_
  exact fun E => rfl
 ·have hd : ¬ (48 <= c /\ c <= 57) := by simpa using hc
  rw [if_neg hd]
  refine wK ?_
  refine Wp.seq ?_
  refine vR Γ0 sC ?_
  refine wC sC (fun hc => ?_) (fun hc => ?_)
  ·have hd2 : 97 <= c /\ c <= 102 := by simpa using hc
   have w1 : IntKind.u8.wrap (c - 97) = c - 97 := fH (by omega) (by omega)
   have w2 : IntKind.i64.wrap (c - 97) = c - 97 := aa (by omega) (by omega)
   have w3 : IntKind.i64.wrap (c - 97 + 10) = c - 97 + 10 := aa (by omega) (by omega)
   rw [if_pos hd2]
   refine vR Γ0 (eH sC w1 w2 w3) ?_
   refine wZ sC ?_
   exact fun E => rfl
  ·have hd2 : ¬ (97 <= c /\ c <= 102) := by simpa using hc
   rw [if_neg hd2]
   refine wK ?_
   refine vR Γ0 sC ?_
   refine wZ sC ?_
   exact fun E => rfl
def H9 : aU Tryz.prog 214 where
 pre := fun W bs => fun | [.val (.int .u8 c)] => 0 <= c /\ c < 256 | _ => False
 res := fun W => fun | [.val (.int .u8 c)] => .int .i64 (ix dW c) | _ => undef
 enters := Tryz.call214
 ok := by
  intro W w bs us as_ hk hu hp
  split at hp
  ·rename_i c
   match us, hu with
   | [u0], hu =>
    obtain ⟨rfl, _⟩ := hu
    exact Qq c hp.1 hp.2 w
  ·exact hp.elim
theorem LY (W : World) (c : Int) : H9.res W [.val (.int .u8 c)] = .int .i64 (ix dW c) := rfl
theorem LO (W : World) (bs : List Nat) (c : Int) : H9.pre W bs [.val (.int .u8 c)] = (0 <= c /\ c < 256) := rfl
noncomputable def Γ61 : Env Tryz.prog := ⟨fun | 205 => some kT.spec | 206 => some re.spec | 214 => some H9.spec | _ => none, fun | _ => none, fun _ _ => none⟩
theorem Gt61c205 : Γ61.sp 205 = some kT.spec := rfl
theorem Gt61c206 : Γ61.sp 206 = some re.spec := rfl
theorem Gt61c214 : Γ61.sp 214 = some H9.spec := rfl
def QT : Except Int (Int × Int) -> Value
 | .ok (b, j) => .tuple #[.int .u8 b, .int .i64 j, .int .i64 (-1)]
 | .error j => .tuple #[.int .u8 0, .int .i64 0, .int .i64 j]
theorem lM (b j : Int) : QT (.ok (b, j)) = .tuple #[.int .u8 b, .int .i64 j, .int .i64 (-1)] := rfl
theorem gL (j : Int) : QT (.error j) = .tuple #[.int .u8 0, .int .i64 0, .int .i64 j] := rfl
def iI (inner : Bool) : ByteArray := bif inner then ku else wo
def cc := (lX sC LY LO Gt61c205 Gt61c206 Gt61c214)
set_option maxHeartbeats 4000000 in
theorem E2 (s : ByteArray) (i : Int) (inner : Bool) (h0 : 0 <= i) (hi : i <= s.size) (hs : s.size <= 140737488351232) (w : World) :
  Calls Tryz.prog 174 #[.string s, .int .i64 i, .bool inner] w fun e w' => e = .returned (QT (dy s i (iI inner))) /\ ai w [] w' := by
 obtain ⟨b0, b1⟩ := dV s i
 refine aj (nt := 144) [.tmp 6, .tmp 7, .tmp 8] Tryz.func174 rfl rfl rfl ?_
 refine vR Γ61 cc ?_
 refine Wp.seq ?_
 refine vR Γ61 cc ?_
 refine wC cc (fun hc => ?_) (fun hc => ?_)
 ·have hN : ¬ i < s.size := by
   simp at hc
   omega
  obtain rfl : i = s.size := by omega
  have he : dy s s.size (iI inner) = .error s.size := by rw [dy, if_neg (by omega), if_pos (by omega)]
  rw [he, gL]
  refine vR Γ61 cc ?_
  refine wZ cc ?_
  exact fun E => rfl
 ·have hN : i < s.size := by
   simp at hc
   omega
  have w1 : IntKind.i64.wrap (i + 1) = i + 1 := aa (by omega) (by omega)
  have w2 : IntKind.i64.wrap (i + 2) = i + 2 := aa (by omega) (by omega)
  refine wK ?_
  refine vR Γ61 cc ?_
  refine Wp.seq ?_
  refine vR Γ61 cc ?_
  refine wC cc (fun hc => ?_) (fun hc => ?_)
  ·have h92 : ¬ bt s i = 92 := by simpa using hc
   have hE : dy s i (iI inner) = if (bt s i < 32 \/ 126 < bt s i) \/ 0 <= ix (iI inner) (bt s i) then .error i else .ok (bt s i, i + 1) := by
    rw [dy, if_neg (by omega)]
    by_cases h : (bt s i < 32 \/ 126 < bt s i) \/ 0 <= ix (iI inner) (bt s i)
    ·rw [if_pos h, if_pos (by omega)]
    ·rw [if_neg h, if_neg (by omega)]
   refine vR Γ61 cc ?_
   refine bp ⟨60, bQ [(0, .is (.v (.string s))), (1, .is (.v (.int .i64 i))), (9, .is (.v (.int .u8 (bt s i)))), (10, .is (.v (.bool (decide (bt s i < 32) || decide (126 < bt s i) || iU (iI inner) (bt s i)))))], bY []⟩ ?_ ?_
   ·skip
    refine vR Γ61 cc ?_
    refine wC cc (fun hc => ?_) (fun hc => ?_)
    ·subst hc
     refine wr Γ61 cc ?_ ?_
     ·exact fun _ => ⟨b0, b1⟩
     exact wM (fun k => .key k) (ab cc @iI.eq_1)
    ·subst hc
     refine wr Γ61 cc ?_ ?_
     ·exact fun _ => ⟨b0, b1⟩
     exact wM (fun k => .key k) (ab cc @iI.eq_1)
   refine Wp.seq ?_
   refine vR Γ61 cc ?_
   refine wC cc (fun hc => ?_) (fun hc => ?_)
   ·have hb : (bt s i < 32 \/ 126 < bt s i) \/ 0 <= ix (iI inner) (bt s i) := by simpa [iU] using hc
    rw [hE, if_pos hb, gL]
    refine vR Γ61 cc ?_
    refine wZ cc ?_
    exact fun E => rfl
   ·have hb : ¬ ((bt s i < 32 \/ 126 < bt s i) \/ 0 <= ix (iI inner) (bt s i)) := fun h => by
     apply Bool.eq_false_iff.1 hc
     simpa [iU] using h
    rw [hE, if_neg hb, lM]
    refine wK ?_
    refine vR Γ61 (ab cc w1) ?_
    refine wZ cc ?_
    exact fun E => rfl
  ·have h92 : bt s i = 92 := by simpa using hc
   have hE : dy s i (iI inner) = dC s (i + 1) := by rw [dy, if_pos ⟨hN, h92⟩]
   rw [hE]
   obtain ⟨c0, c1⟩ := dV s (i + 1)
   refine wK ?_
   refine Wp.seq ?_
   refine vR Γ61 (ab cc w1) ?_
   refine wC cc (fun hc => ?_) (fun hc => ?_)
   ·have hN2 : ¬ i + 1 < s.size := by
     simp at hc
     omega
    have he : dC s (i + 1) = .error s.size := by rw [dC, if_pos hN2, show i + 1 = (s.size : Int) by omega]
    rw [he, gL]
    refine vR Γ61 cc ?_
    refine wZ cc ?_
    exact fun E => rfl
   ·have hN2 : i + 1 < s.size := by
     simp at hc
     omega
    refine wK ?_
    refine wR Γ61 (ab cc w1) ?_ ?_
    ·omega
    refine Wp.seq ?_
    refine vR Γ61 cc ?_
    refine wC cc (fun hc => ?_) (fun hc => ?_)
    ·have h110 : bt s (i + 1) = 110 := by simpa using hc
     have w12 : i + 1 + 1 = i + 2 := by omega
     have he : dC s (i + 1) = .ok (10, i + 2) := by rw [dC, if_neg (by omega), if_pos h110, w12]
     rw [he, lM]
     refine vR Γ61 (ab cc w2) ?_
     refine wZ cc ?_
     exact fun E => rfl
    ·have h110 : ¬ bt s (i + 1) = 110 := by simpa using hc
     refine wK ?_
     refine Wp.seq ?_
     refine vR Γ61 cc ?_
     refine wC cc (fun hc => ?_) (fun hc => ?_)
     ·have h114 : bt s (i + 1) = 114 := by simpa using hc
      have w12 : i + 1 + 1 = i + 2 := by omega
      have he : dC s (i + 1) = .ok (13, i + 2) := by rw [dC, if_neg (by omega), if_neg h110, if_pos h114, w12]
      rw [he, lM]
      refine vR Γ61 (ab cc w2) ?_
      refine wZ cc ?_
      exact fun E => rfl
     ·have h114 : ¬ bt s (i + 1) = 114 := by simpa using hc
      refine wK ?_
      refine Wp.seq ?_
      refine vR Γ61 cc ?_
      refine wC cc (fun hc => ?_) (fun hc => ?_)
      ·have h116 : bt s (i + 1) = 116 := by simpa using hc
       have w12 : i + 1 + 1 = i + 2 := by omega
       have he : dC s (i + 1) = .ok (9, i + 2) := by rw [dC, if_neg (by omega), if_neg h110, if_neg h114, if_pos h116, w12]
       rw [he, lM]
       refine vR Γ61 (ab cc w2) ?_
       refine wZ cc ?_
       exact fun E => rfl
      ·have h116 : ¬ bt s (i + 1) = 116 := by simpa using hc
       refine wK ?_
       refine Wp.seq ?_
       refine vR Γ61 cc ?_
       refine wC cc (fun hc => ?_) (fun hc => ?_)
       ·have h120 : bt s (i + 1) = 120 := by simpa using hc
        have hX : dC s (i + 1) = match fT s (i + 1 + 1) with
          | .error j => .error j
          | .ok (h, j) => match fT s j with
           | .error k => .error k
           | .ok (l, k) => .ok (16 * h + l, k) := by
         rw [dC, if_neg (by omega), if_neg h110, if_neg h114, if_neg h116, if_pos h120]
         cases fT s (i + 1 + 1) with
         | error j => rfl
         | ok p =>
          obtain ⟨h, j⟩ := p
          simp only
          cases fT s j <;> rfl
        have gd : ∀ p : Int, fT s p = if p < s.size /\ 0 <= ix dW (bt s p) then .ok (ix dW (bt s p), p + 1) else .error p := fun p => rfl
        have rng : ∀ p : Int, 0 <= bt s p /\ bt s p < 256 := fun p => dV s p
        refine Wp.seq ?_
        refine vR Γ61 cc ?_
        refine Wp.block ?_
        refine Wp.loop (fun k : Nat => ⟨90, bQ [(0, .is (.v (.string s))), (1, .is (.v (.int .i64 i))), (11, .is (.v (.int .i64 (k : Nat))))], bY []⟩) (fun k => (2 <= k /\ k <= 4) /\ ∀ m : Nat, 2 <= m -> m < k -> i + m < s.size /\ 0 <= ix dW (bt s (i + m))) (fun k => 4 - k) 2 ?_ ⟨⟨by omega, by omega⟩, fun m h1 h2 => by omega⟩ ?_
        ·exact wM (fun k => .key k) cc
        rintro k ⟨⟨hk2, hk4⟩, hk⟩
        have wk : IntKind.i64.wrap (i + (k : Int)) = i + k := aa (by omega) (by omega)
        refine Wp.seq ?_
        refine vR Γ61 cc ?_
        refine wC cc (fun hc => ?_) (fun hc => ?_)
        ·have hk3 : k < 4 := by
          simp at hc
          omega
         obtain ⟨d0, d1⟩ := rng (i + k)
         refine wK ?_
         refine Wp.seq (Wp.block ?_)
         refine wR Γ61 (ab cc wk) ?_ ?_
         ·simp; omega
         refine wC cc (fun hc => ?_) (fun hc => ?_)
         ·have hb : ¬ (i + k < s.size /\ 0 <= ix dW (bt s (i + k))) := by
           simp at hc
           omega
          have hx : fT s (i + k) = .error (i + k) := by rw [gd, if_neg hb]
          have he : dC s (i + 1) = .error (i + k) := by
           have hk23 : k = 2 \/ k = 3 := by omega
           rcases hk23 with rfl | rfl
           ·rw [hX, show i + 1 + 1 = i + ((2 : Nat) : Int) by omega, hx]
           ·have h2 := hk 2 (by omega) (by omega)
            have hx2 : fT s (i + ((2 : Nat) : Int)) = .ok (ix dW (bt s (i + ((2 : Nat) : Int))), i + ((3 : Nat) : Int)) := by rw [gd, if_pos h2, show i + ((2 : Nat) : Int) + 1 = i + ((3 : Nat) : Int) by omega]
            rw [hX, show i + 1 + 1 = i + ((2 : Nat) : Int) by omega, hx2]
            simp only [hx]
          rw [he, gL]
          refine vR Γ61 (ab cc wk) ?_
          refine wZ cc ?_
          exact fun E => rfl
         ·have hb : i + k < s.size /\ 0 <= ix dW (bt s (i + k)) := by
           simp at hc
           omega
          have wk1 : IntKind.i64.wrap ((k : Int) + 1) = ((k + 1 : Nat) : Int) := by rw [aa (by omega) (by omega)]; omega
          refine wK ?_
          refine vr Γ61 (ab cc wk1) ?_
          refine ⟨k + 1, ⟨⟨by omega, by omega⟩, fun m h1 h2 => ?_⟩, by omega, ?_⟩
          ·by_cases h : m = k
           ·rw [h]; exact hb
           ·exact hk m h1 (by omega)
          ·exact wM (fun k => .key k) cc
        ·have hk3 : k = 4 := by
          simp at hc
          omega
         subst hk3
         have g2 := hk 2 (by omega) (by omega)
         have g3 := hk 3 (by omega) (by omega)
         have l2 := sS _ (rng (i + ((2 : Nat) : Int))).1 (rng (i + ((2 : Nat) : Int))).2
         have l3 := sS _ (rng (i + ((3 : Nat) : Int))).1 (rng (i + ((3 : Nat) : Int))).2
         have r2 := rng (i + 2)
         have r3 := rng (i + 3)
         have w3 : IntKind.i64.wrap (i + 3) = i + 3 := aa (by omega) (by omega)
         have w4 : IntKind.i64.wrap (i + 4) = i + 4 := aa (by omega) (by omega)
         rw [show ((2 : Nat) : Int) = 2 from rfl] at g2 l2
         rw [show ((3 : Nat) : Int) = 3 from rfl] at g3 l3
         have hx2 : fT s (i + 2) = .ok (ix dW (bt s (i + 2)), i + 3) := by rw [gd, if_pos g2, show i + 2 + 1 = i + 3 by omega]
         have hx3 : fT s (i + 3) = .ok (ix dW (bt s (i + 3)), i + 4) := by rw [gd, if_pos g3, show i + 3 + 1 = i + 4 by omega]
         have he : dC s (i + 1) = .ok (16 * ix dW (bt s (i + 2)) + ix dW (bt s (i + 3)), i + 4) := by
          rw [hX, show i + 1 + 1 = i + 2 by omega, hx2]
          simp only [hx3]
         have wa : IntKind.i64.wrap (16 * ix dW (bt s (i + 2))) = 16 * ix dW (bt s (i + 2)) := aa (by omega) (by omega)
         have wb : IntKind.i64.wrap (16 * ix dW (bt s (i + 2)) + ix dW (bt s (i + 3))) = 16 * ix dW (bt s (i + 2)) + ix dW (bt s (i + 3)) := aa (by omega) (by omega)
         have wc : IntKind.u8.wrap (16 * ix dW (bt s (i + 2)) + ix dW (bt s (i + 3))) = 16 * ix dW (bt s (i + 2)) + ix dW (bt s (i + 3)) := fH (by omega) (by omega)
         rw [he, lM]
         refine wE ?_
         refine l9 Γ61 (yR cc w2 w3 w4 wa wb wc) ?_ ?_
         ·omega
         refine wZ cc ?_
         exact fun E => rfl
       ·have h120 : ¬ bt s (i + 1) = 120 := by simpa using hc
        refine wK ?_
        refine vR Γ61 cc ?_
        refine Wp.seq ?_
        refine vR Γ61 cc ?_
        refine wC cc (fun hc => ?_) (fun hc => ?_)
        ·have hb : (((bt s (i + 1) < 32 \/ 126 < bt s (i + 1)) \/ 48 <= bt s (i + 1) /\ bt s (i + 1) <= 57) \/ 97 <= bt s (i + 1) /\ bt s (i + 1) <= 122) \/ 65 <= bt s (i + 1) /\ bt s (i + 1) <= 90 := by
          simp at hc
          omega
         have he : dC s (i + 1) = .error (i + 1) := by rw [dC, if_neg (by omega), if_neg h110, if_neg h114, if_neg h116, if_neg h120, if_pos hb]
         rw [he, gL]
         refine vR Γ61 (ab cc w1) ?_
         refine wZ cc ?_
         exact fun E => rfl
        ·have hb : ¬ ((((bt s (i + 1) < 32 \/ 126 < bt s (i + 1)) \/ 48 <= bt s (i + 1) /\ bt s (i + 1) <= 57) \/ 97 <= bt s (i + 1) /\ bt s (i + 1) <= 122) \/ 65 <= bt s (i + 1) /\ bt s (i + 1) <= 90) := fun h => by
          apply Bool.eq_false_iff.1 hc
          simp
          omega
         have w12 : i + 1 + 1 = i + 2 := by omega
         have he : dC s (i + 1) = .ok (bt s (i + 1), i + 2) := by rw [dC, if_neg (by omega), if_neg h110, if_neg h114, if_neg h116, if_neg h120, if_neg hb, w12]
         rw [he, lM]
         refine wK ?_
         refine vR Γ61 (ab cc w2) ?_
         refine wZ cc ?_
         exact fun E => rfl
end
section
open Go.RowKit Go.LE
set_option maxRecDepth 10000
def eW (f : Nat -> Bool) : List Value := (List.range 256).map fun i => .bool (f i)
theorem nF (f : Nat -> Bool) : (eW f).length = 256 := by simp [eW]
theorem dd (f : Nat -> Bool) : (List.map SV.v (eW f)).length = 256 := by simp [eW]
theorem q5 {f g : Nat -> Bool} (h : ∀ i, i < 256 -> f i = g i) : eW f = eW g := List.map_congr_left fun i hi => by rw [h i (List.mem_range.1 hi)]
theorem kY : List.replicate 256 (Value.bool false) = eW fun _ => false := by
 simp [eW, List.map_const']
theorem kh (f : Nat -> Bool) (i : Nat) (hi : i < 256) : (List.map SV.v (eW f)).getD i (.v undef) = .v (.bool (f i)) := by
 simp [eW, List.getD_eq_getElem?_getD, hi]
theorem s4 (f : Nat -> Bool) (i : Nat) (b : Bool) (hi : i < 256) : List.take i (List.map SV.v (eW f)) ++ [SV.v (.bool b)] ++ List.drop (i + 1) (List.map SV.v (eW f)) = List.map SV.v (eW fun k => if k = i then b else f k) := by
 apply List.ext_getElem
 ·simp [eW]; omega
 ·intro n h1 h2
  simp only [List.length_map, eW, List.length_range] at h2
  by_cases hn : n < i
  ·rw [List.getElem_append_left (by simp [eW]; omega), List.getElem_append_left (by simp [eW]; omega)]
   simp [eW, show ¬ n = i by omega]
  ·by_cases hn2 : n = i
   ·subst hn2
    rw [List.getElem_append_left (by simp [eW]; omega), List.getElem_append_right (by simp [eW]; omega)]
    simp [eW]
   ·rw [List.getElem_append_right (by simp [eW]; omega)]
    simp [eW, hn2]
    congr 3
    omega
theorem jI (f : Nat -> Bool) : List.take 256 (List.map SV.v (eW f)) = List.map SV.v (eW f) := List.take_of_length_le (by rw [dd]; omega)
theorem kZ (f : Nat -> Bool) : List.drop 256 (List.map SV.v (eW f)) = [] := List.drop_of_length_le (by rw [dd]; omega)
theorem j8 (f : Nat -> Bool) : (List.map SV.v (eW f)).all cu = true := by
 rw [List.all_eq_true]
 intro x hx
 obtain ⟨v, hv, rfl⟩ := List.mem_map.1 hx
 obtain ⟨i, _, rfl⟩ := List.mem_map.1 hv
 rfl
def kv (S : CS) : Value := .agg (eW S.getLsbD).toArray
def Yl (f : Nat -> Bool) : Value := .agg (eW f).toArray
theorem gp (E : Nat -> Value) (f : Nat -> Bool) : den E (.agg ((eW f).map SV.v)) = Yl f := by
 simp only [den, aB, Yl]
theorem At {f : Nat -> Bool} {S : CS} (h : ∀ i, i < 256 -> f i = S.getLsbD i) : Yl f = kv S := by rw [Yl, q5 h]; rfl
def s6 : aU Tryz.prog 174 where
 pre := fun W bs => fun | [.val (.string s), .val (.int .i64 i), .val (.bool inner)] => 0 <= i /\ i <= s.size /\ s.size <= 140737488351232 | _ => False
 res := fun W => fun | [.val (.string s), .val (.int .i64 i), .val (.bool inner)] => QT (dy s i (iI inner)) | _ => undef
 enters := Tryz.call174
 ok := by
  intro W w bs us as_ hk hu hp
  split at hp
  ·rename_i s i inner
   match us, hu with
   | [u0, u1, u2], hu =>
    obtain ⟨rfl, rfl, rfl, _⟩ := hu
    exact E2 s i inner hp.1 hp.2.1 hp.2.2 w
  ·exact hp.elim
theorem Cn (W : World) (s : ByteArray) (i : Int) (inner : Bool) : s6.res W [.val (.string s), .val (.int .i64 i), .val (.bool inner)] = QT (dy s i (iI inner)) := rfl
theorem Cy (W : World) (bs : List Nat) (s : ByteArray) (i : Int) (inner : Bool) : s6.pre W bs [.val (.string s), .val (.int .i64 i), .val (.bool inner)] = (0 <= i /\ i <= s.size /\ s.size <= 140737488351232) := rfl
noncomputable def Γ62 : Env Tryz.prog := ⟨fun | 174 => some s6.spec | _ => none, fun | _ => none, fun _ _ => none⟩
theorem Gt62c174 : Γ62.sp 174 = some s6.spec := rfl
def Wt : Except Int (CS × Int) -> Value
 | .ok (a, j) => .tuple #[kv a, .int .i64 j, .int .i64 0, .int .i64 0]
 | .error j => .tuple #[kv 0, .int .i64 0, .int .i64 10, .int .i64 j]
theorem V8 (i : Nat) (hi : i < 256) : (~~~(Ef ⟨#[10]⟩ 1)).getLsbD i = decide (i ≠ 10) := by
 have h : Ef ⟨#[10]⟩ 1 = ru 0 10 := by decide
 rw [BitVec.getLsbD_not, h, pe _ _ _ (by omega)]
 simp [hi]
theorem BS {s : ByteArray} {i j : Int} (h : fT s i = .error j) : j = i := by
 rw [fT] at h
 split at h
 ·cases h
 ·exact (Except.error.inj h).symm
theorem Pm {s : ByteArray} {i j : Int} (h : dC s i = .error j) (h0 : 0 <= i) : 0 <= j := by
 rw [dC] at h
 split at h
 ·obtain rfl := Except.error.inj h; exact h0
 ·split at h
  ·cases h
  ·split at h
   ·cases h
   ·split at h
    ·cases h
    ·split at h
     ·cases h2 : fT s (i + 1) with
      | error k =>
       rw [h2] at h
       obtain rfl := Except.error.inj h
       have := BS h2
       omega
      | ok p =>
       obtain ⟨a, k⟩ := p
       have g := p5 h2 (by omega)
       rw [h2] at h
       simp only at h
       cases h3 : fT s k with
       | error l =>
        rw [h3] at h
        obtain rfl := Except.error.inj h
        have := BS h3
        omega
       | ok p => rw [h3] at h; cases h
     ·split at h
      ·obtain rfl := Except.error.inj h; exact h0
      ·cases h
theorem ve {s q : ByteArray} {i j : Int} (h : dy s i q = .error j) (h0 : 0 <= i) : 0 <= j := by
 rw [dy] at h
 split at h
 ·exact Pm h (by omega)
 ·split at h
  ·obtain rfl := Except.error.inj h; exact h0
  ·cases h
structure MI where
 n : Nat
 i : Int
 a : CS
theorem Sp (a : CS) (lo hi : Int) (h0 : 0 <= lo) (h2 : 0 <= hi) (h1 : hi < 256) (k : Nat) (hk : k < 256) : (a ||| j9 lo hi).getLsbD k = (a.getLsbD k || (decide (lo <= k) && decide ((k : Int) <= hi))) := by
 rw [BitVec.getLsbD_or, j9, Dt _ _ _ (by omega), <- Bool.decide_and]
 congr 1
 rw [decide_eq_decide]
 omega
def aY := (aq @av @af jV jW jb cW cX (aq c8 cT cZ c9 cR cV gz (aq gv gi gk gn ez ey eB (aq eC eA ew yt xp yw xi (aq Xq Xv @aN @au @aA @az @kY (aq @dd @jI @kZ @j8 @aE @gp Cn (eH Cy Gt62c174 @lM @gL)))))))
set_option maxHeartbeats 4000000 in
theorem Mc (s : ByteArray) (i : Int) (h0 : 0 <= i) (hi : i < s.size) (hs : s.size <= 140737488351232) (w : World) :
  Calls Tryz.prog 122 #[.string s, .int .i64 i] w fun e w' => e = .returned (Wt (dr s i)) /\ ai w [] w' := by
 have hz : ∀ E, den E (.agg ((eW fun _ => false).map SV.v)) = kv 0 := fun E => by rw [gp]; exact At fun i _ => by simp
 have w1 : IntKind.i64.wrap (i + 1) = i + 1 := aa (by omega) (by omega)
 refine aj (nt := 157) [.cell 4 241, .tmp 5, .tmp 6, .tmp 7] Tryz.func122 rfl rfl rfl ?_
 refine vR Γ0 aY ?_
 refine vR Γ0 aY ?_
 refine Wp.seq ?_
 refine vR Γ0 aY ?_
 refine wC aY (fun hc => ?_) (fun hc => ?_)
 ·exfalso
  simp at hc
  omega
 ·refine wK ?_
  refine Wp.seq ?_
  refine vR Γ0 aY ?_
  refine wC aY (fun hc => ?_) (fun hc => ?_)
  ·have h46 : bt s i = 46 := by simpa using hc
   have hI : dr s i = .ok (~~~(Ef ⟨#[10]⟩ 1), i + 1) := by rw [dr, if_pos h46]
   rw [hI]
   refine Wp.seq ?_
   refine vR Γ0 aY ?_
   refine Wp.block ?_
   refine Wp.loop (fun j : Nat => ⟨20, bQ [(0, .is (.v (.string s))), (1, .is (.v (.int .i64 i))), (4, .is (.own 0 0)), (8, .is (.own 32 0)), (9, .is (.v (.int .i64 (j : Nat))))], bY [(0, .cells 241 ((eW fun _ => false).map .v)), (32, .cells 241 ((eW fun k => decide (k < j) && decide (k ≠ 10)).map .v))]⟩) (fun j => j <= 256) (fun j => 256 - j) 0 ?_ (Nat.zero_le _) ?_
   ·exact wM (fun x => .key x) (de aY @Nat.not_lt_zero @Bool.false_and)
   rintro j hj
   refine Wp.seq ?_
   refine vR Γ0 aY ?_
   refine wC aY (fun hc => ?_) (fun hc => ?_)
   ·have hlt : j < 256 := by
     simp at hc
     omega
    have wj : IntKind.i64.wrap ((j : Int) + 1) = ((j + 1 : Nat) : Int) := by rw [aa (by omega) (by omega)]; omega
    refine wK ?_
    refine Wp.seq (Wp.block ?_)
    refine Wp.Bf Γ0 bR (by simp only [dS, Op.operands, Value.cells, σ0, σB, Nat.reduceEqDiff, Nat.reduceAdd, Nat.reduceMul, Nat.reduceLT, Nat.reduceLeDiff, Nat.reduceBEq, ae, Int.reduceToNat, Int.reduceLT, Int.reduceLE, Nat.reduceDiv, Nat.reduceMod, Nat.reduceSub, Int.reducePow, Nat.reducePow, σP, σB3, aY, s4 _ j _ hlt]; exact rfl) rfl ?_ ?_
    ·omega
    refine qq ?_
    refine vr Γ0 (ab aY wj) ?_
    have e : (fun k => if k = j then !decide ((j : Int) = 10) else decide (k < j) && decide (¬k = 10)) = fun k => decide (k < j + 1) && decide (¬k = 10) := by
     funext k
     by_cases hk : k = j
     ·subst hk
      rw [if_pos rfl, decide_eq_true (show k < k + 1 by omega), Bool.true_and, <- decide_not, decide_eq_decide]
      omega
     ·rw [if_neg hk]
      congr 1
      rw [decide_eq_decide]
      omega
    refine ⟨j + 1, by omega, by omega, ?_⟩
    exact wM (fun x => .key x) (ab aY e)
   ·have hlt : j = 256 := by
     simp at hc
     omega
    subst hlt
    refine wE ?_
    refine vR Γ0 (ab aY w1) ?_
    refine wZ aY ?_
    intro E
    show Value.tuple #[den E (.agg _), .int .i64 (i + 1), .int .i64 0, .int .i64 0] = _
    rw [gp, At (S := ~~~(Ef ⟨#[10]⟩ 1)) fun k hk => by rw [V8 k hk, decide_eq_true hk, Bool.true_and]]
    rfl
  ·have h46 : ¬ bt s i = 46 := by simpa using hc
   refine wK ?_
   refine Wp.seq ?_
   refine vR Γ0 aY ?_
   refine wC aY (fun hc => ?_) (fun hc => ?_)
   ·have h91 : ¬ bt s i = 91 := by simpa using hc
    have hI : dr s i = Uk (dy s i wo) := by rw [dr, if_neg h46, if_neg h91]
    rw [hI]
    have hb : dy s i (iI false) = dy s i wo := rfl
    cases hO : dy s i wo with
    | error j =>
     have hj : (0 : Int) <= j := ve hO h0
     refine wR Γ62 (de aY hb hO) ?_ ?_
     ·exact ⟨by omega, by omega, hs⟩
     refine Wp.seq ?_
     refine vR Γ0 aY ?_
     refine wC aY (fun hc => ?_) (fun hc => ?_)
     ·skip
      refine vR Γ0 aY ?_
      refine wZ aY ?_
      intro E
      show Value.tuple #[den E (.agg _), .int .i64 0, .int .i64 10, .int .i64 j] = _
      rw [hz]; rfl
     ·exfalso
      simp at hc
      omega
    | ok q =>
     obtain ⟨b, j⟩ := q
     have hb1 := iS hO h0
     refine wR Γ62 (de aY hb hO) ?_ ?_
     ·exact ⟨by omega, by omega, hs⟩
     refine Wp.seq ?_
     refine vR Γ0 aY ?_
     refine wC aY (fun hc => ?_) (fun hc => ?_)
     ·exfalso
      simp at hc
     ·obtain ⟨c, rfl⟩ := Int.eq_ofNat_of_zero_le hb1.1
      have wc : IntKind.i64.wrap ((c : Nat) : Int) = ((c : Nat) : Int) := aa (by omega) (by omega)
      refine wK ?_
      refine Wp.nZ Γ0 bR (by simp only [dS, Op.operands, Value.cells, σ0, σB, Nat.reduceEqDiff, Nat.reduceAdd, Nat.reduceMul, Nat.reduceLT, Nat.reduceLeDiff, Nat.reduceBEq, ae, Int.reduceToNat, Int.reduceLT, Int.reduceLE, Nat.reduceDiv, Nat.reduceMod, Nat.reduceSub, Int.reducePow, Nat.reducePow, σP, σB3, aY, wc, s4 _ c _ (show c < 256 by omega)]; exact rfl) rfl ?_ ?_
      ·omega
      refine vR Γ0 aY ?_
      refine wZ aY ?_
      intro E
      show Value.tuple #[den E (.agg _), .int .i64 j, .int .i64 0, .int .i64 0] = _
      rw [gp, At (S := j9 (c : Int) (c : Int)) fun k hk => by
       rw [j9, Dt _ _ _ (by omega)]
       by_cases h : k = c
       ·rw [if_pos h, h]; simp
       ·rw [if_neg h, eq_comm, decide_eq_false_iff_not]; omega]
      rfl
   ·have h91 : bt s i = 91 := by simpa using hc
    have hI : dr s i = dU s (i + 1) := by rw [dr, if_neg h46, if_pos h91]
    rw [hI]
    refine wK ?_
    refine vR Γ0 (ab aY w1) ?_
    refine wR Γ0 aY ?_ ?_
    ·simp; omega
    generalize hi0 : (if gD s (i + 1) then i + 1 + 1 else i + 1) = i0
    have hj0 : 0 <= i0 /\ i0 <= s.size := by
     rw [<- hi0]
     split
     ·rename_i h
      simp [gD] at h
      omega
     ·omega
    generalize hR : qU s (s.size + 1) i0 0 = R
    have hm : dU s (i + 1) = ry (gD s (i + 1)) R := by rw [dU, hi0, hR]
    rw [hm]
    refine bp ⟨40, bQ [(0, .is (.v (.string s))), (4, .is (.own 0 0)), (8, .is (.own 32 0)), (13, .is (.v (.int .i64 i0))), (14, .is (.v (.bool (gD s (i + 1)))))], bY [(0, .cells 241 ((eW fun _ => false).map .v)), (32, .cells 241 ((eW fun _ => false).map .v))]⟩ ?_ ?_
    ·skip
     refine vR Γ0 aY ?_
     refine wC aY (fun hc => ?_) (fun hc => ?_)
     ·have hcar : gD s (i + 1) = true := hc
      rw [hcar] at hi0
      simp only [if_true] at hi0
      subst hi0
      have w2 : IntKind.i64.wrap (i + 1 + 1) = i + 1 + 1 := aa (by omega) (by omega)
      refine vr Γ0 (ab aY w2) ?_
      exact wM (fun x => .key x) (ab aY @gD.eq_1)
     ·have hcar : gD s (i + 1) = false := hc
      rw [hcar] at hi0
      simp only [Bool.false_eq_true, if_false] at hi0
      subst hi0
      refine wK ?_
      exact wM (fun x => .key x) (ab aY @gD.eq_1)
    have e0 : (0 : CS).getLsbD = fun _ => false := by funext k; simp
    refine Wp.seq (Wp.block ?_)
    refine Wp.loop (fun p : MI => ⟨50, bQ [(0, .is (.v (.string s))), (4, .is (.own 0 0)), (8, .is (.own 32 0)), (13, .is (.v (.int .i64 p.i))), (14, .is (.v (.bool (gD s (i + 1)))))], bY [(0, .cells 241 ((eW fun _ => false).map .v)), (32, .cells 241 ((eW p.a.getLsbD).map .v))]⟩)
     (fun p => (0 <= p.i /\ p.i <= s.size) /\ (s.size - p.i < p.n /\ 1 <= p.n) /\ qU s p.n p.i p.a = R) (fun p => p.n) ⟨s.size + 1, i0, 0⟩ ?_ ⟨hj0, ⟨by simp only; omega, by simp only; omega⟩, hR⟩ ?_
    ·exact wM (fun x => .key x) (ab aY e0)
    rintro ⟨n, i', a⟩ ⟨⟨k0, k4⟩, ⟨k1, k3⟩, k2⟩
    simp only at k0 k1 k2 k3 k4
    dsimp only
    obtain ⟨n, rfl⟩ : ∃ m, n = m + 1 := ⟨n - 1, by omega⟩
    rw [qU] at k2
    refine Wp.seq ?_
    refine wR Γ0 aY ?_ ?_
    ·simp; omega
    refine wC aY (fun hc => ?_) (fun hc => ?_)
    ·have hn : ¬ (i' < s.size /\ bt s i' = 93) := by
      simp at hc
      omega
     rw [if_neg hn] at k2
     refine wK ?_
     refine Wp.block ?_
     have hb : dy s i' (iI true) = dy s i' ku := rfl
     cases h1 : dy s i' ku with
     | error j =>
      have hj := ve h1 k0
      rw [h1] at k2
      simp only at k2
      rw [<- k2, ry]
      refine wR Γ62 (de aY hb h1) ?_ ?_
      ·exact ⟨k0, k4, hs⟩
      refine Wp.seq ?_
      refine vR Γ0 aY ?_
      refine wC aY (fun hc => ?_) (fun hc => ?_)
      ·skip
       refine vR Γ0 aY ?_
       refine wZ aY ?_
       intro E
       show Value.tuple #[den E (.agg _), .int .i64 0, .int .i64 10, .int .i64 j] = _
       rw [hz]; rfl
      ·exfalso
       simp at hc
       omega
     | ok p =>
      obtain ⟨lo, j⟩ := p
      obtain ⟨o0, o1, o2, o3⟩ := iS h1 k0
      rw [h1] at k2
      simp only at k2
      refine wR Γ62 (de aY hb h1) ?_ ?_
      ·exact ⟨k0, k4, hs⟩
      refine Wp.seq ?_
      refine vR Γ0 aY ?_
      refine wC aY (fun hc => ?_) (fun hc => ?_)
      ·exfalso
       simp at hc
      ·refine wK ?_
       refine vR Γ0 aY ?_
       refine vR Γ0 aY ?_
       refine iR (fun p : Int × Int => ⟨110, bQ [(0, .is (.v (.string s))), (4, .is (.own 0 0)), (8, .is (.own 32 0)), (13, .is (.v (.int .i64 p.2))), (14, .is (.v (.bool (gD s (i + 1))))), (15, .is (.v (.int .u8 lo))), (18, .is (.v (.int .u8 p.1)))], bY [(0, .cells 241 ((eW fun _ => false).map .v)), (32, .cells 241 ((eW a.getLsbD).map .v))]⟩) (fun _ => w) (fun _ => [])
        (fun p => (0 <= p.1 /\ p.1 < 256) /\ (i' < p.2 /\ p.2 <= s.size) /\ qU s n p.2 (a ||| j9 lo p.1) = R) ?_ ?_
       ·skip
        refine wR Γ0 aY ?_ ?_
        ·simp; omega
        refine wC aY (fun hc => ?_) (fun hc => ?_)
        ·have h45 : j < s.size /\ bt s j = 45 := by
          simp at hc
          omega
         rw [if_pos h45] at k2
         have wj : IntKind.i64.wrap (j + 1) = j + 1 := aa (by omega) (by omega)
         have hb2 : dy s (j + 1) (iI true) = dy s (j + 1) ku := rfl
         refine vR Γ0 (ab aY wj) ?_
         cases h2 : dy s (j + 1) ku with
         | error l =>
          have hl := ve h2 (by omega)
          rw [h2] at k2
          simp only at k2
          rw [<- k2, ry]
          refine wR Γ62 (de aY hb2 h2) ?_ ?_
          ·exact ⟨by omega, by omega, hs⟩
          refine Wp.seq ?_
          refine vR Γ0 aY ?_
          refine wC aY (fun hc => ?_) (fun hc => ?_)
          ·skip
           refine vR Γ0 aY ?_
           refine wZ aY ?_
           intro E
           show Value.tuple #[den E (.agg _), .int .i64 0, .int .i64 10, .int .i64 l] = _
           rw [hz]; rfl
          ·exfalso
           simp at hc
           omega
         | ok q =>
          obtain ⟨hi', l⟩ := q
          obtain ⟨q0, q1, q2, q3⟩ := iS h2 (by omega)
          rw [h2] at k2
          simp only at k2
          refine wR Γ62 (de aY hb2 h2) ?_ ?_
          ·exact ⟨by omega, by omega, hs⟩
          refine Wp.seq ?_
          refine vR Γ0 aY ?_
          refine wC aY (fun hc => ?_) (fun hc => ?_)
          ·exfalso
           simp at hc
          ·refine wK ?_
           refine Wp.seq ?_
           refine vR Γ0 aY ?_
           refine wC aY (fun hc => ?_) (fun hc => ?_)
           ·have hlt : hi' < lo := by simpa using hc
            rw [if_pos hlt] at k2
            rw [<- k2, ry]
            refine vR Γ0 aY ?_
            refine wZ aY ?_
            intro E
            show Value.tuple #[den E (.agg _), .int .i64 0, .int .i64 10, .int .i64 (j + 1)] = _
            rw [hz]; rfl
           ·have hlt : ¬ hi' < lo := by simpa using hc
            rw [if_neg hlt] at k2
            refine wK ?_
            refine vr Γ0 aY ?_
            refine ⟨(hi', l), ⟨⟨q0, q1⟩, ⟨by simp only; omega, q3⟩, k2⟩, rfl, rfl, ?_⟩
            exact wM (fun x => .key x) aY
        ·have h45 : ¬ (j < s.size /\ bt s j = 45) := fun h => by
          apply Bool.eq_false_iff.1 hc
          simp
          exact h
         rw [if_neg h45] at k2
         refine wK ?_
         refine ⟨(lo, j), ⟨⟨o0, o1⟩, ⟨by simp only; omega, o3⟩, k2⟩, rfl, rfl, ?_⟩
         exact wM (fun x => .key x) aY
       rintro ⟨hi', j'⟩ ⟨⟨q0, q1⟩, ⟨q2, q3⟩, q4⟩ _
       simp only at q0 q1 q2 q3 q4
       dsimp only
       obtain ⟨lo, rfl⟩ := Int.eq_ofNat_of_zero_le o0
       obtain ⟨hi', rfl⟩ := Int.eq_ofNat_of_zero_le q0
       have wl : IntKind.i64.wrap ((lo : Nat) : Int) = ((lo : Nat) : Int) := aa (by omega) (by omega)
       have wh : IntKind.i64.wrap ((hi' : Nat) : Int) = ((hi' : Nat) : Int) := aa (by omega) (by omega)
       refine vR Γ0 (ab aY wl) ?_
       refine Wp.block ?_
       refine Wp.loop (fun m : Nat => ⟨120, bQ [(0, .is (.v (.string s))), (4, .is (.own 0 0)), (8, .is (.own 32 0)), (13, .is (.v (.int .i64 j'))), (14, .is (.v (.bool (gD s (i + 1))))), (18, .is (.v (.int .u8 (hi' : Nat)))), (20, .is (.v (.int .i64 ((lo + m : Nat) : Int))))], bY [(0, .cells 241 ((eW fun _ => false).map .v)), (32, .cells 241 ((eW fun k => a.getLsbD k || (decide (lo <= k) && decide (k < lo + m))).map .v))]⟩)
        (fun m => m <= hi' + 1 - lo) (fun m => hi' + 1 - lo - m) 0 ?_ (Nat.zero_le _) ?_
       ·have e : (fun k => a.getLsbD k || (decide (lo <= k) && decide (k < lo + 0))) = a.getLsbD := by
         funext k
         have : (decide (lo <= k) && decide (k < lo + 0)) = false := by
          rw [<- Bool.decide_and, decide_eq_false_iff_not]; omega
         rw [this, Bool.or_false]
        rw [e]
        exact wM (fun x => .key x) aY
       rintro m hm'
       refine Wp.seq ?_
       refine vR Γ0 (ab aY wh) ?_
       refine wC aY (fun hc => ?_) (fun hc => ?_)
       ·have hlt : lo + m <= hi' := by
         simp at hc
         omega
        have wm : IntKind.i64.wrap (((lo + m : Nat) : Int) + 1) = ((lo + (m + 1) : Nat) : Int) := by rw [aa (by omega) (by omega)]; omega
        refine wK ?_
        refine Wp.seq (Wp.block ?_)
        refine Wp.Bf Γ0 bR (by simp only [dS, Op.operands, Value.cells, σ0, σB, Nat.reduceEqDiff, Nat.reduceAdd, Nat.reduceMul, Nat.reduceLT, Nat.reduceLeDiff, Nat.reduceBEq, ae, Int.reduceToNat, Int.reduceLT, Int.reduceLE, Nat.reduceDiv, Nat.reduceMod, Nat.reduceSub, Int.reducePow, Nat.reducePow, σP, σB3, aY, s4 _ (lo + m) _ (show lo + m < 256 by omega)]; exact rfl) rfl ?_ ?_
        ·omega
        refine qq ?_
        refine vr Γ0 (ab aY wm) ?_
        have e : (fun k => if k = lo + m then true else a.getLsbD k || (decide (lo <= k) && decide (k < lo + m))) = fun k => a.getLsbD k || (decide (lo <= k) && decide (k < lo + (m + 1))) := by
         funext k
         by_cases hk : k = lo + m
         ·rw [if_pos hk, decide_eq_true (show lo <= k by omega), decide_eq_true (show k < lo + (m + 1) by omega)]; simp
         ·rw [if_neg hk]
          congr 2
          rw [decide_eq_decide]
          omega
        refine ⟨m + 1, by omega, by omega, ?_⟩
        exact wM (fun x => .key x) (ab aY e)
       ·have hlt : ¬ lo + m <= hi' := by
         simp at hc
         omega
        have e : eW (fun k => a.getLsbD k || (decide (lo <= k) && decide (k < lo + m))) = eW (a ||| j9 (lo : Int) (hi' : Int)).getLsbD := q5 fun k hk => by
         rw [Sp a _ _ (by omega) (by omega) (by omega) k hk]
         congr 1
         rw [<- Bool.decide_and, <- Bool.decide_and, decide_eq_decide]
         omega
        refine wE ?_
        refine ⟨⟨n, j', a ||| j9 (lo : Int) (hi' : Int)⟩, ⟨⟨by simp only; omega, q3⟩, ⟨by simp only; omega, by simp only; omega⟩, q4⟩, by simp only; omega, ?_⟩
        exact wM (fun x => .key x) (ab aY e)
    ·have hn : i' < s.size /\ bt s i' = 93 := by
      simp at hc
      omega
     rw [if_pos hn] at k2
     have wi : IntKind.i64.wrap (i' + 1) = i' + 1 := aa (by omega) (by omega)
     refine wE ?_
     refine bp ⟨90, bQ [(4, .is (.own 0 0)), (8, .is (.own 32 0)), (13, .is (.v (.int .i64 i')))], bY [(0, .cells 241 ((eW fun _ => false).map .v)), (32, .cells 241 ((eW (Io (gD s (i + 1)) a).getLsbD).map .v))]⟩ ?_ ?_
     ·skip
      refine vR Γ0 aY ?_
      refine wC aY (fun hc => ?_) (fun hc => ?_)
      ·have hcar : gD s (i + 1) = true := hc
       rw [hcar]
       refine vR Γ0 aY ?_
       refine Wp.block ?_
       refine Wp.loop (fun m : Nat => ⟨80, bQ [(4, .is (.own 0 0)), (8, .is (.own 32 0)), (13, .is (.v (.int .i64 i'))), (21, .is (.v (.int .i64 (m : Nat))))], bY [(0, .cells 241 ((eW fun _ => false).map .v)), (32, .cells 241 ((eW fun k => if k < m then !a.getLsbD k else a.getLsbD k).map .v))]⟩)
        (fun m => m <= 256) (fun m => 256 - m) 0 ?_ (Nat.zero_le _) ?_
       ·have e : (fun k => if k < 0 then !a.getLsbD k else a.getLsbD k) = a.getLsbD := by
         funext k
         rw [if_neg (by omega)]
        rw [e]
        exact wM (fun x => .key x) aY
       rintro m hm'
       refine Wp.seq ?_
       refine vR Γ0 aY ?_
       refine wC aY (fun hc => ?_) (fun hc => ?_)
       ·have hlt : m < 256 := by
         simp at hc
         omega
        have wm : IntKind.i64.wrap ((m : Int) + 1) = ((m + 1 : Nat) : Int) := by rw [aa (by omega) (by omega)]; omega
        refine wK ?_
        refine Wp.seq (Wp.block ?_)
        refine Wp.Bf Γ0 bR (by simp only [dS, Op.operands, Value.cells, σ0, σB, Nat.reduceEqDiff, Nat.reduceAdd, Nat.reduceMul, Nat.reduceLT, Nat.reduceLeDiff, Nat.reduceBEq, ae, Int.reduceToNat, Int.reduceLT, Int.reduceLE, Nat.reduceDiv, Nat.reduceMod, Nat.reduceSub, Int.reducePow, Nat.reducePow, σP, σB3, aY, s4 _ m _ hlt, kh _ m hlt]; exact rfl) rfl ?_ ?_
        ·omega
        refine qq ?_
        refine vr Γ0 (ab aY wm) ?_
        have e : (fun k => if k = m then !(if m < m then !a.getLsbD m else a.getLsbD m) else if k < m then !a.getLsbD k else a.getLsbD k) = fun k => if k < m + 1 then !a.getLsbD k else a.getLsbD k := by
         funext k
         by_cases hk : k = m
         ·subst hk
          rw [if_pos rfl, if_neg (by omega), if_pos (by omega)]
         ·rw [if_neg hk]
          by_cases h : k < m
          ·rw [if_pos h, if_pos (by omega)]
          ·rw [if_neg h, if_neg (by omega)]
        refine ⟨m + 1, by omega, by omega, ?_⟩
        exact wM (fun x => .key x) (ab aY e)
       ·have hlt : m = 256 := by
         simp at hc
         omega
        subst hlt
        have e : eW (fun k => if k < 256 then !a.getLsbD k else a.getLsbD k) = eW (Io true a).getLsbD := q5 fun k hk => by
         rw [if_pos hk]
         show _ = (~~~a).getLsbD k
         rw [BitVec.getLsbD_not]
         simp [hk]
        refine wE ?_
        exact wM (fun x => .key x) (ab aY e)
      ·have hcar : gD s (i + 1) = false := hc
       rw [hcar]
       refine wK ?_
       exact wM (fun x => .key x) (de aY @Io.eq_1 @Bool.false_eq_true)
     rw [<- k2, ry]
     refine vR Γ0 (ab aY wi) ?_
     refine wZ aY ?_
     intro E
     show Value.tuple #[den E (.agg _), .int .i64 (i' + 1), .int .i64 0, .int .i64 0] = _
     rw [gp]; rfl
def AN : aU Tryz.prog 122 where
 pre := fun W bs => fun | [.val (.string s), .val (.int .i64 i)] => 0 <= i /\ i < s.size /\ s.size <= 140737488351232 | _ => False
 res := fun W => fun | [.val (.string s), .val (.int .i64 i)] => Wt (dr s i) | _ => undef
 enters := Tryz.call122
 ok := by
  intro W w bs us as_ hk hu hp
  split at hp
  ·rename_i s i
   match us, hu with
   | [u0, u1], hu =>
    obtain ⟨rfl, rfl, _⟩ := hu
    exact Mc s i hp.1 hp.2.1 hp.2.2 w
  ·exact hp.elim
theorem FW (W : World) (s : ByteArray) (i : Int) : AN.res W [.val (.string s), .val (.int .i64 i)] = Wt (dr s i) := rfl
theorem Hq (W : World) (bs : List Nat) (s : ByteArray) (i : Int) : AN.pre W bs [.val (.string s), .val (.int .i64 i)] = (0 <= i /\ i < s.size /\ s.size <= 140737488351232) := rfl
end
section
open Go.RowKit Go.LE
set_option maxRecDepth 10000
def sE (s : ByteArray) (i : Int) : Bool := (decide (i < s.size) && decide (48 <= bt s i)) && decide (bt s i <= 57)
def SW := (aq jV jW HS HB E9 jb cW (aq cX c8 cT cZ c9 cR cV (aq gz gv gi gk gn ez ey (aq eB eC eA ew rG rQ sr (aq pY IG Jz I0 I6 IW Iz (aq I3 Ji Ia Jo Jv IX Iu (aq Iv H3 Jm Iw H0 Jh Js (aq H5 Ii pX sc sv qg su (aq rT rS rJ sa rD sq @aN (de @au @aA @az))))))))))
set_option maxHeartbeats 1000000 in
theorem Mm (s : ByteArray) (i : Int) (h0 : 0 <= i) (w : World) : Calls Tryz.prog 172 #[.string s, .int .i64 i] w fun e w' => e = .returned (.bool (sE s i)) /\ ai w [] w' := by
 refine aj (nt := 21) [.tmp 4] Tryz.func172 rfl rfl rfl ?_
 refine vR Γ0 SW ?_
 refine wR Γ0 SW ?_ ?_
 ·simp [h0]; omega
 refine wZ SW ?_
 exact fun E => rfl
def yS : aU Tryz.prog 172 where
 pre := fun W bs => fun | [.val (.string s), .val (.int .i64 i)] => 0 <= i | _ => False
 res := fun W => fun | [.val (.string s), .val (.int .i64 i)] => .bool (sE s i) | _ => undef
 enters := Tryz.call172
 ok := by
  intro W w bs us as_ hk hu hp
  split at hp
  ·rename_i s i
   match us, hu with
   | [u0, u1], hu =>
    obtain ⟨rfl, rfl, _⟩ := hu
    exact Mm s i hp w
  ·exact hp.elim
theorem vE (W : World) (s : ByteArray) (i : Int) : yS.res W [.val (.string s), .val (.int .i64 i)] = .bool (sE s i) := rfl
theorem vP (W : World) (bs : List Nat) (s : ByteArray) (i : Int) : yS.pre W bs [.val (.string s), .val (.int .i64 i)] = (0 <= i) := rfl
def tF (c : Int) : Bool := decide (bf c)
def Tv := (de SW @vE @vP)
set_option maxHeartbeats 1000000 in
theorem D3 (c : Int) (w : World) : Calls Tryz.prog 117 #[.int .u8 c] w fun e w' => e = .returned (.bool (tF c)) /\ ai w [] w' := by
 have e : tF c = (((decide (c = 42) || decide (c = 43)) || decide (c = 63)) || decide (c = 123)) := by
  rw [tF, <- Bool.decide_or, <- Bool.decide_or, <- Bool.decide_or, decide_eq_decide]
  unfold bf
  omega
 rw [e]
 refine aj (nt := 17) [.tmp 2] Tryz.func117 rfl rfl rfl ?_
 refine vR Γ0 Tv ?_
 refine vR Γ0 Tv ?_
 refine wZ Tv ?_
 exact fun E => rfl
def qm : aU Tryz.prog 117 where
 pre := fun W bs => fun | [.val (.int .u8 c)] => True | _ => False
 res := fun W => fun | [.val (.int .u8 c)] => .bool (tF c) | _ => undef
 enters := Tryz.call117
 ok := by
  intro W w bs us as_ hk hu hp
  split at hp
  ·rename_i c
   match us, hu with
   | [u0], hu =>
    obtain ⟨rfl, _⟩ := hu
    exact D3 c w
  ·exact hp.elim
theorem p9 (W : World) (c : Int) : qm.res W [.val (.int .u8 c)] = .bool (tF c) := rfl
theorem p7 (W : World) (bs : List Nat) (c : Int) : qm.pre W bs [.val (.int .u8 c)] = (True) := rfl
structure Fm where
 place : Int
 alt : Int
 meet : Int
 sgn : Int
 row : Int
 fac : Int
def Fm.bh (f : Fm) : List Value := [.int .i64 f.place, .int .i64 f.alt, .int .i64 f.meet, .int .u8 f.sgn, .int .i64 f.row, .int .i64 f.fac]
def iE (i : Int) : Fm := ⟨i, -1, -1, 0, -1, -1⟩
def S0 := (de Tv @p9 @p7)
set_option maxHeartbeats 1000000 in
theorem Ry (i : Int) (w : World) : Calls Tryz.prog 116 #[.int .i64 i] w fun e w' => e = .returned (.agg (iE i).bh.toArray) /\ ai w [] w' := by
 refine aj (nt := 5) [.cell 2 234] Tryz.func116 rfl rfl rfl ?_
 refine vR Γ0 S0 ?_
 refine vR Γ0 (ab S0 @av) ?_
 refine wZ S0 ?_
 exact fun E => rfl
def yK : aU Tryz.prog 116 where
 pre := fun W bs => fun | [.val (.int .i64 i)] => True | _ => False
 res := fun W => fun | [.val (.int .i64 i)] => .agg (iE i).bh.toArray | _ => undef
 enters := Tryz.call116
 ok := by
  intro W w bs us as_ hk hu hp
  split at hp
  ·rename_i i
   match us, hu with
   | [u0], hu =>
    obtain ⟨rfl, _⟩ := hu
    exact Ry i w
  ·exact hp.elim
theorem x9 (W : World) (i : Int) : yK.res W [.val (.int .i64 i)] = .agg (iE i).bh.toArray := rfl
theorem x8 (W : World) (bs : List Nat) (i : Int) : yK.pre W bs [.val (.int .i64 i)] = (True) := rfl
structure Nd where
 op : Int
 set : CS
 a : Int
 b : Int
 m : Int
 n : Int
def Nd.bh (d : Nd) : List Value := .int .i64 d.op :: (eW d.set.getLsbD ++ [.int .i64 d.a, .int .i64 d.b, .int .i64 d.m, .int .i64 d.n])
def cN (l : List Nd) : List Value := l.flatMap Nd.bh
theorem Nd.fZ (d : Nd) : d.bh.length = 261 := by simp [Nd.bh, nF]
theorem JO (l : List Nd) : (cN l).length = l.length * 261 := by
 induction l with
 | nil => rfl
 | cons d r ih =>
  have : cN (d :: r) = d.bh ++ cN r := rfl
  rw [this, List.length_append, ih, Nd.fZ, List.length_cons]; omega
def bP (op a b : Int) : Nd := ⟨op, 0, a, b, 0, 0⟩
theorem pz (op a b : Int) : df Tryz.prog 243 [0, 2, 3] [.v (.int .i64 op), .v (.int .i64 a), .v (.int .i64 b)] = ⟨True, .agg ((bP op a b).bh.map .v), [], none, [], []⟩ := by
 kernel_rfl
theorem MT {P : Program} {T e : TypeId} {sz : Nat} {zs : List Value} (κ : Nat) (l : List SV) (h1 : P.underlying T = some (.slice e)) (h2 : ts P e = some sz) (h3 : tz P e = some zs) (h4 : zs.length = sz) (h5 : sz <= 16777216) (h6 : 0 < sz) (h7 : l.length = sz) :
  bj P κ T 1 [0] [.agg l] = ⟨True, .hd (8 * κ), [(8 * κ, some (.row e sz 1 l))], none, [], []⟩ := by
 have hp : partsOf (.agg l) = l := rfl
 have hf : cS (fun i => some (i * sz, sz)) ((List.replicate 1 zs).flatten.map .v) ([0].zip [.agg l]) = some l := by
  simp only [List.zip_cons_cons, List.zip_nil_right, cS, hp, Nat.zero_mul, Nat.zero_add]
  rw [if_pos ⟨h7, by simp [h4]⟩]
  simp [ae, h7, <- h4]
 unfold bj
 simp only [h1, h2, h3, hf]
 congr 1
 exact eq_true ⟨by omega, h4, h6⟩
theorem pC (κ : Nat) (d : Nd) : bj Tryz.prog κ 62 1 [0] [.agg (d.bh.map .v)] = ⟨True, .hd (8 * κ), [(8 * κ, some (.row 243 261 1 (d.bh.map .v)))], none, [], []⟩ :=
 MT κ _ pY pX qg (by simp) (by omega) (by omega) (by rw [List.length_map, Nd.fZ])
theorem pq (l : List Nd) (d : Nd) : List.map SV.v (cN l) ++ List.map SV.v d.bh = List.map SV.v (cN (l ++ [d])) := by simp [cN]
theorem DO (l : List Nd) (d : Nd) : l.length + 1 = (l ++ [d]).length := by simp
theorem Nd.dn (d : Nd) : (List.map SV.v d.bh).all cu = true := by
 show (List.map SV.v (Value.int .i64 d.op :: (eW d.set.getLsbD ++ [.int .i64 d.a, .int .i64 d.b, .int .i64 d.m, .int .i64 d.n]))).all cu = true
 rw [List.map_cons, List.all_cons, List.map_append, List.all_append, j8]
 rfl
def RK := (aq S0 @x9 @x8 @kY @dd @jI @kZ (lX @j8 @aE @gp @pz @pC @pq))
set_option maxHeartbeats 1000000 in
theorem T0 (l : List Nd) (op a b : Int) (xs : List Value) (u : Value) (fp : List Nat) (w : World) (hl : l.length <= 4000000) (ho : lQ w u fp 232 [.row 243 261 l.length (cN l)] xs) (hlt : ∀ b ∈ fp, b < w.heap.size) :
  Calls Tryz.prog 173 (#[u] ++ #[.int .i64 op, .int .i64 a, .int .i64 b]) w fun e w' => I8 w u fp 232 xs e w' (.ret (.int .i64 (l.length : Nat)) [.row 243 261 (l ++ [bP op a b]).length (cN (l ++ [bP op a b]))]) := by
 rw [<- DO]
 refine HH (nt := 28) #[.int .i64 op, .int .i64 a, .int .i64 b] [.tmp 8] (by show 1 <= 7; omega) ho hlt Tryz.func173 rfl rfl rfl ?_
 refine vR Γ0 RK ?_
 refine wR Γ0 RK ?_ ?_
 ·exact ⟨by omega, by omega, by omega, ⟨by simp [nF], by unfold maxLen; omega, by omega, Nd.dn _⟩, by omega⟩
 have w1 : IntKind.i64.wrap (((l.length + 1 : Nat) : Int) - 1) = ((l.length : Nat) : Int) := by rw [aa (by omega) (by omega)]; omega
 refine wR Γ0 (ab RK w1) ?_ ?_
 ·exact ⟨by omega, by omega, by omega, _, rfl⟩
 refine wZ RK ?_
 exact ⟨_, _, rfl, fun E => rfl, [_], _, rfl, by simp only [dS, Op.operands, Value.cells, σ0, σB, Nat.reduceEqDiff, Nat.reduceAdd, Nat.reduceMul, Nat.reduceLT, Nat.reduceLeDiff, Nat.reduceBEq, ae, Int.reduceToNat, Int.reduceLT, Int.reduceLE, Nat.reduceDiv, Nat.reduceMod, Nat.reduceSub, Int.reducePow, Nat.reducePow, σP, σB3, RK, aE]; rfl, by decide⟩
def CA : Jw Tryz.prog 173 where
 T := 232
 m := 1
 pre := fun W bs fs as_ => match fs, as_ with | [.row 243 261 n vs], [.val (.int .i64 op), .val (.int .i64 a), .val (.int .i64 b)] => ∃ l : List Nd, vs = cN l /\ n = l.length /\ l.length <= 4000000 | _, _ => False
 out := fun W fs as_ => match fs, as_ with | [.row 243 261 n vs], [.val (.int .i64 op), .val (.int .i64 a), .val (.int .i64 b)] => .ret (.int .i64 (n : Nat)) [.row 243 261 (n + 1) (vs ++ (bP op a b).bh)] | _, _ => .pan [] undef
 enters := Tryz.call173
 ok := by
  intro W w bs u fp us fs as_ xs hk ho hlt hmine hu hp
  split at hp
  ·rename_i n vs op a b
   match us, hu with
   | [u0, u1, u2], hu =>
    obtain ⟨rfl, rfl, rfl, _⟩ := hu
    obtain ⟨l, rfl, rfl, hl⟩ := hp; have := T0 l op a b xs u fp w hl ho hlt; rw [<- DO] at this; rw [show cN l ++ (bP op a b).bh = cN (l ++ [bP op a b]) by simp [cN]]; exact this
  ·exact hp.elim
theorem Cr (W : World) (n : Nat) (vs : List Value) (op : Int) (a : Int) (b : Int) : CA.out W [.row 243 261 n vs] [.val (.int .i64 op), .val (.int .i64 a), .val (.int .i64 b)] = .ret (.int .i64 (n : Nat)) [.row 243 261 (n + 1) (vs ++ (bP op a b).bh)] := rfl
theorem BG (W : World) (bs : List Nat) (n : Nat) (vs : List Value) (op : Int) (a : Int) (b : Int) : CA.pre W bs [.row 243 261 n vs] [.val (.int .i64 op), .val (.int .i64 a), .val (.int .i64 b)] = (∃ l : List Nd, vs = cN l /\ n = l.length /\ l.length <= 4000000) := rfl
theorem RU : CA.T = 232 := rfl
theorem PS : CA.m = 1 := rfl
end
section
def aD (ar : List Nd) (f : Fm) : List Nd × Fm :=
 if f.fac < 0 then (ar, f)
 else if f.row < 0 then (ar, { f with row := f.fac, fac := -1 })
 else (ar ++ [bP 2 f.row f.fac], { f with row := ar.length, fac := -1 })
def iA (ar : List Nd) (f : Fm) : List Nd × Fm :=
 if f.row < 0 then (ar ++ [bP 0 0 0], { f with row := ar.length }) else (ar, f)
def kA (ar : List Nd) (f : Fm) : List Nd × Fm :=
 if f.meet < 0 then (ar, { f with meet := f.row, row := -1 })
 else if f.sgn = 38 then (ar ++ [bP 5 f.meet f.row], { f with meet := ar.length, row := -1 })
 else (ar ++ [bP 6 f.meet f.row], { f with meet := ar.length, row := -1 })
def eM (ar : List Nd) (f : Fm) : List Nd × Fm :=
 kA (iA (aD ar f).1 (aD ar f).2).1 (iA (aD ar f).1 (aD ar f).2).2
def rN (ar : List Nd) (f : Fm) : List Nd × Fm :=
 if f.alt < 0 then (ar, { f with alt := f.meet, meet := -1 })
 else (ar ++ [bP 3 f.alt f.meet], { f with alt := ar.length, meet := -1 })
def aJ (ar : List Nd) (f : Fm) : List Nd × Fm := rN (eM ar f).1 (eM ar f).2
def rq (m n : Int) : Prop := (m = -2 /\ n = -1) \/ (0 <= m /\ m <= 255 /\ n <= 255 /\ (n = -1 \/ (0 <= n /\ m <= n)))
inductive NM (ts : List RT) : Nd -> RT -> Prop where
 | eps (d : Nd) : d.op = 0 -> d.set = 0 -> NM ts d .eps
 | cls (d : Nd) : d.op = 1 -> NM ts d (.cls d.set)
 | cat (d : Nd) (a b : RT) : d.op = 2 -> 0 <= d.a -> ts[d.a.toNat]? = some a -> 0 <= d.b -> ts[d.b.toNat]? = some b -> NM ts d (.cat a b)
 | alt (d : Nd) (a b : RT) : d.op = 3 -> 0 <= d.a -> ts[d.a.toNat]? = some a -> 0 <= d.b -> ts[d.b.toNat]? = some b -> NM ts d (.alt a b)
 | and (d : Nd) (a b : RT) : d.op = 5 -> 0 <= d.a -> ts[d.a.toNat]? = some a -> 0 <= d.b -> ts[d.b.toNat]? = some b -> NM ts d (.and a b)
 | minus (d : Nd) (a b : RT) : d.op = 6 -> 0 <= d.a -> ts[d.a.toNat]? = some a -> 0 <= d.b -> ts[d.b.toNat]? = some b -> NM ts d (.minus a b)
 | rep (d : Nd) (a : RT) : d.op = 7 -> 0 <= d.a -> ts[d.a.toNat]? = some a -> rq d.m d.n -> NM ts d (.rep a d.m d.n)
inductive AR : List Nd -> List RT -> Prop where
 | nil : AR [] []
 | snoc {ar ts d t} : AR ar ts -> NM ts d t -> AR (ar ++ [d]) (ts ++ [t])
theorem AR.len {ar : List Nd} {ts : List RT} (h : AR ar ts) : ts.length = ar.length := by
 induction h with
 | nil => rfl
 | snoc _ _ ih => simp [ih]
def OD (ts : List RT) (x : Int) : Option RT -> Prop
 | none => x < 0
 | some t => 0 <= x /\ ts[x.toNat]? = some t
theorem OD.app {ts : List RT} {x : Int} {o : Option RT} (h : OD ts x o) (l : List RT) : OD (ts ++ l) x o := by
 cases o with
 | none => exact h
 | some t =>
  refine ⟨h.1, ?_⟩
  rw [List.getElem?_append_left (List.getElem?_eq_some_iff.1 h.2).1]
  exact h.2
theorem OD.last {ar : List Nd} {ts : List RT} (h : AR ar ts) (t : RT) : OD (ts ++ [t]) ar.length (some t) := by
 refine ⟨by omega, ?_⟩
 rw [Int.toNat_natCast, <- h.len]
 simp
structure FR (ts : List RT) (f : Fm) (L : Lv) : Prop where
 place : f.place = L.place
 alt : OD ts f.alt L.alt
 meet : OD ts f.meet L.meet
 sgn : f.sgn = L.sgn
 row : OD ts f.row L.row
 fac : OD ts f.fac L.fac
theorem FR.app {ts : List RT} {f : Fm} {L : Lv} (h : FR ts f L) (l : List RT) : FR (ts ++ l) f L :=
 ⟨h.place, h.alt.app l, h.meet.app l, h.sgn, h.row.app l, h.fac.app l⟩
def M5 (ts : List RT) : List Fm -> List Lv -> Prop
 | [], [] => True
 | f :: r, L :: s => FR ts f L /\ M5 ts r s
 | _, _ => False
theorem M5.app {ts : List RT} : ∀ {r : List Fm} {s : List Lv}, M5 ts r s -> ∀ l, M5 (ts ++ l) r s
 | [], [], _, _ => trivial
 | [], _ :: _, h, _ => h.elim
 | _ :: _, [], h, _ => h.elim
 | f :: r, L :: s, h, l => ⟨h.1.app l, M5.app h.2 l⟩
theorem M5.len {ts : List RT} : ∀ {r : List Fm} {s : List Lv}, M5 ts r s -> r.length = s.length
 | [], [], _ => rfl
 | [], _ :: _, h => h.elim
 | _ :: _, [], h => h.elim
 | f :: r, L :: s, h => by rw [List.length_cons, List.length_cons, M5.len h.2]
theorem oz {ar : List Nd} {ts : List RT} {f : Fm} {L : Lv} (ha : AR ar ts) (h : FR ts f L) : ∃ l, AR (aD ar f).1 (ts ++ l) /\ FR (ts ++ l) (aD ar f).2 (dO L) := by
 unfold aD
 cases hf : L.fac with
 | none =>
  have h1 := h.fac
  rw [hf] at h1
  have h2 : f.fac < 0 := h1
  rw [if_pos h2]
  refine ⟨[], by simpa using ha, ?_⟩
  rw [List.append_nil]
  refine ⟨h.place, h.alt, h.meet, h.sgn, ?_, ?_⟩
  ·show OD ts f.row (rowOf L.row L.fac)
   rw [hf]; exact h.row
  ·exact h2
 | some p =>
  have h1 := h.fac
  rw [hf] at h1
  have hf0 : ¬ f.fac < 0 := by have := h1.1; omega
  rw [if_neg hf0]
  cases hr : L.row with
  | none =>
   have h3 := h.row
   rw [hr] at h3
   have h4 : f.row < 0 := h3
   rw [if_pos h4]
   refine ⟨[], by simpa using ha, ?_⟩
   rw [List.append_nil]
   refine ⟨h.place, h.alt, h.meet, h.sgn, ?_, ?_⟩
   ·show OD ts f.fac (rowOf L.row L.fac)
    rw [hf, hr]; exact h1
   ·show (-1 : Int) < 0
    omega
  | some r =>
   have h3 := h.row
   rw [hr] at h3
   have h4 : ¬ f.row < 0 := by have := h3.1; omega
   rw [if_neg h4]
   refine ⟨[.cat r p], .snoc ha (.cat _ r p rfl h3.1 h3.2 h1.1 h1.2), ?_⟩
   refine ⟨h.place, h.alt.app _, h.meet.app _, h.sgn, ?_, ?_⟩
   ·show OD _ (ar.length : Int) (rowOf L.row L.fac)
    rw [hf, hr]; exact OD.last ha _
   ·show (-1 : Int) < 0
    omega
theorem S7 {ar : List Nd} {ts : List RT} {f : Fm} {L : Lv} (ha : AR ar ts) (h : FR ts f L) : ∃ l, AR (iA ar f).1 (ts ++ l) /\ FR (ts ++ l) (iA ar f).2 { L with row := some (L.row.getD .eps) } := by
 unfold iA
 cases hr : L.row with
 | none =>
  have h3 := h.row
  rw [hr] at h3
  have h4 : f.row < 0 := h3
  rw [if_pos h4]
  exact ⟨[.eps], .snoc ha (.eps _ rfl rfl), h.place, h.alt.app _, h.meet.app _, h.sgn, OD.last ha _, h.fac.app _⟩
 | some r =>
  have h3 := h.row
  rw [hr] at h3
  have h4 : ¬ f.row < 0 := by have := h3.1; omega
  rw [if_neg h4]
  refine ⟨[], by simpa using ha, ?_⟩
  rw [List.append_nil]
  exact ⟨h.place, h.alt, h.meet, h.sgn, h3, h.fac⟩
theorem Qr {ar : List Nd} {ts : List RT} {f : Fm} {L : Lv} {r : RT} (ha : AR ar ts) (h : FR ts f L) (hr : L.row = some r) : ∃ l, AR (kA ar f).1 (ts ++ l) /\ FR (ts ++ l) (kA ar f).2 { L with meet := some (jJ L.meet L.sgn r), row := none } := by
 have h3 := h.row
 rw [hr] at h3
 unfold kA
 cases hm : L.meet with
 | none =>
  have h1 := h.meet
  rw [hm] at h1
  have h2 : f.meet < 0 := h1
  rw [if_pos h2]
  refine ⟨[], by simpa using ha, ?_⟩
  rw [List.append_nil]
  exact ⟨h.place, h.alt, h3, h.sgn, (by show (-1 : Int) < 0; omega), h.fac⟩
 | some m =>
  have h1 := h.meet
  rw [hm] at h1
  have h2 : ¬ f.meet < 0 := by have := h1.1; omega
  rw [if_neg h2]
  by_cases hs : f.sgn = 38
  ·rw [if_pos hs]
   refine ⟨[.and m r], .snoc ha (.and _ m r rfl h1.1 h1.2 h3.1 h3.2), h.place, h.alt.app _, ?_, h.sgn, (by show (-1 : Int) < 0; omega), h.fac.app _⟩
   show OD _ (ar.length : Int) (some (jJ (some m) L.sgn r))
   rw [show jJ (some m) L.sgn r = .and m r by simp [jJ, <- h.sgn, hs]]
   exact OD.last ha _
  ·rw [if_neg hs]
   refine ⟨[.minus m r], .snoc ha (.minus _ m r rfl h1.1 h1.2 h3.1 h3.2), h.place, h.alt.app _, ?_, h.sgn, (by show (-1 : Int) < 0; omega), h.fac.app _⟩
   show OD _ (ar.length : Int) (some (jJ (some m) L.sgn r))
   rw [show jJ (some m) L.sgn r = .minus m r by simp [jJ, <- h.sgn, hs]]
   exact OD.last ha _
theorem DH {ar : List Nd} {ts : List RT} {f : Fm} {L : Lv} (ha : AR ar ts) (h : FR ts f L) : ∃ l, AR (eM ar f).1 (ts ++ l) /\ FR (ts ++ l) (eM ar f).2 (j5 L) := by
 obtain ⟨l1, a1, f1⟩ := oz ha h
 obtain ⟨l2, a2, f2⟩ := S7 a1 f1
 obtain ⟨l3, a3, f3⟩ := Qr a2 f2 rfl
 refine ⟨l1 ++ l2 ++ l3, ?_, ?_⟩
 ·rw [<- List.append_assoc, <- List.append_assoc]; exact a3
 ·rw [<- List.append_assoc, <- List.append_assoc]; exact f3
theorem nN {ar : List Nd} {ts : List RT} {f : Fm} {L : Lv} (ha : AR ar ts) (h : FR ts f L) : ∃ l, AR (aJ ar f).1 (ts ++ l) /\ FR (ts ++ l) (aJ ar f).2 (oy L) := by
 obtain ⟨l1, a1, f1⟩ := DH ha h
 have hm : (j5 L).meet = some (dL L) := rfl
 have h1 := f1.meet
 rw [hm] at h1
 unfold aJ rN
 cases hal : L.alt with
 | none =>
  have h2 := f1.alt
  rw [show (j5 L).alt = L.alt from rfl, hal] at h2
  have h3 : (eM ar f).2.alt < 0 := h2
  rw [if_pos h3]
  refine ⟨l1, a1, f1.place, ?_, (by show (-1 : Int) < 0; omega), f1.sgn, f1.row, f1.fac⟩
  show OD _ _ (some (gu L))
  rw [show gu L = dL L by unfold gu; rw [hal]; rfl]
  exact h1
 | some a =>
  have h2 := f1.alt
  rw [show (j5 L).alt = L.alt from rfl, hal] at h2
  have h3 : ¬ (eM ar f).2.alt < 0 := by have := h2.1; omega
  rw [if_neg h3]
  refine ⟨l1 ++ [.alt a (dL L)], ?_, ?_⟩
  ·rw [<- List.append_assoc]
   exact .snoc a1 (.alt _ _ _ rfl h2.1 h2.2 h1.1 h1.2)
  ·rw [<- List.append_assoc]
   refine ⟨f1.place, ?_, (by show (-1 : Int) < 0; omega), f1.sgn, f1.row.app _, f1.fac.app _⟩
   show OD _ _ (some (gu L))
   rw [show gu L = .alt a (dL L) by unfold gu; rw [hal]; rfl]
   exact OD.last a1 _
end
section
section
variable (c : Int -> Int) (N : Int) (rd : Int -> Except (Int × Int) (BitVec 256 × Int))
def M4 (i : Int) : Except (Int × Int) (Int × Int × Int) :=
 if c i = 43 then .ok (-2, -1, i + 1) else if c i = 63 then .ok (0, 1, i + 1) else if c i = 123 then lx c N i else .ok (0, -1, i + 1)
def CU (i : Int) (ar : List Nd) (f : Fm) (rest : List Fm) : Except (Int × Int) (Int × List Nd × Fm × List Fm) :=
 match M4 c N i with
 | .error e => .error e
 | .ok (m, n, j) => .ok (j, ar ++ [⟨7, 0, f.fac, 0, m, n⟩], { f with fac := ar.length }, rest)
def Wd (i : Int) (ar : List Nd) (f : Fm) : List Fm -> Except (Int × Int) (Int × List Nd × Fm × List Fm)
 | [] => .error (20, i)
 | g :: r => .ok (i + 1, (aJ ar f).1, { g with fac := (aJ ar f).2.alt }, r)
def JC (i : Int) (ar : List Nd) (f : Fm) (rest : List Fm) : Except (Int × Int) (Int × List Nd × Fm × List Fm) :=
 match rd i with
 | .error e => .error e
 | .ok (S, j) => .ok (j, (aD ar f).1 ++ [⟨1, S, 0, 0, 0, 0⟩], { (aD ar f).2 with fac := (aD ar f).1.length }, rest)
def l4 (i : Int) (ar : List Nd) (f : Fm) (rest : List Fm) : Except (Int × Int) (Int × List Nd × Fm × List Fm) :=
 if bf (c i) then (if f.fac < 0 then .error (20, i) else CU c N i ar f rest)
 else if c i = 124 then .ok (i + 1, (aJ ar f).1, (aJ ar f).2, rest)
 else if c i = 38 \/ c i = 45 then .ok (i + 1, (eM ar f).1, { (eM ar f).2 with sgn := c i }, rest)
 else if c i = 41 then Wd i ar f rest
 else if c i = 40 then
  if 1000 < rest.length + 1 then .error (23, i) else .ok (i + 1, (aD ar f).1, iE i, (aD ar f).2 :: rest)
 else JC rd i ar f rest
def ow : Nat -> Int -> List Nd -> Fm -> List Fm -> Except (Int × Int) (List Nd × Fm × List Fm)
 | 0, _, ar, f, rest => .ok (ar, f, rest)
 | n + 1, i, ar, f, rest =>
  if i < N then match l4 c N rd i ar f rest with
   | .error e => .error e
   | .ok (j, ar', g, r) => ow n j ar' g r
  else .ok (ar, f, rest)
end
def mj (z : List Int) (d : Nd) : Int :=
 if d.op = 0 \/ d.op = 1 then 1
 else if d.op = 7 then cU (z.getD d.a.toNat 0) d.m d.n
 else 1 + z.getD d.a.toNat 0 + z.getD d.b.toNat 0
def Gt (z : List Int) (d : Nd) : Int := if 2001 < mj z d then 2001 else mj z d
def lU (ar : List Nd) : List Int := ar.foldl (fun z d => z ++ [Gt z d]) []
def Aw : Except (Int × Int) (List Nd × Fm × List Fm) -> Except (Int × Int) (List Nd × Int)
 | .error e => .error e
 | .ok (ar, f, rest) => if rest ≠ [] then .error (21, f.place)
  else if 2000 < (lU (aJ ar f).1).getD (aJ ar f).2.alt.toNat 0 then .error (24, 0) else .ok ((aJ ar f).1, (aJ ar f).2.alt)
def iD (c : Int -> Int) (N : Int) (rd : Int -> Except (Int × Int) (BitVec 256 × Int)) : Except (Int × Int) (List Nd × Int) :=
 if 1048576 < N then .error (1, 0) else Aw (ow c N rd (N.toNat + 1) 0 [] (iE (-1)) [])
theorem KO {c : Int -> Int} {N i m n j : Int} (h : lx c N i = .ok (m, n, j)) : m <= 255 /\ n <= 255 := by
 unfold lx at h
 cases h1 : fU c N (i + 1) with
 | error e => rw [h1] at h; cases h
 | ok p =>
  obtain ⟨m', j'⟩ := p
  rw [h1] at h
  simp only at h
  cases h2 : vU c N m' j' with
  | error e => rw [h2] at h; cases h
  | ok p =>
   obtain ⟨n', j2⟩ := p
   rw [h2] at h
   simp only at h
   unfold kW at h
   split at h
   ·cases h
   ·split at h
    ·cases h
    ·rename_i hn
     simp only [Except.ok.injEq, Prod.mk.injEq] at h
     obtain ⟨rfl, rfl, _⟩ := h
     omega
theorem Wh {c : Int -> Int} {N i m n j : Int} (h : M4 c N i = .ok (m, n, j)) : rq m n := by
 unfold M4 at h
 unfold rq
 split at h
 ·simp only [Except.ok.injEq, Prod.mk.injEq] at h; omega
 ·split at h
  ·simp only [Except.ok.injEq, Prod.mk.injEq] at h; omega
  ·split at h
   ·have h1 := Q0 h
    have h2 := KO h
    omega
   ·simp only [Except.ok.injEq, Prod.mk.injEq] at h; omega
section
variable {c : Int -> Int} {N : Int} {rd : Int -> Except (Int × Int) (BitVec 256 × Int)}
def Xx (ts : List RT) : Except (Int × Int) (Int × Lv × List Lv) -> Except (Int × Int) (Int × List Nd × Fm × List Fm) -> Prop
 | .error e, .error e' => e = e'
 | .ok (j, L, Ls), .ok (j', ar, f, r) => j = j' /\ ∃ l, AR ar (ts ++ l) /\ FR (ts ++ l) f L /\ M5 (ts ++ l) r Ls
 | _, _ => False
theorem Tf {i : Int} {L : Lv} {p : RT} (hp : bf (c i)) : ni c N i L p = match M4 c N i with
  | .error e => .error e
  | .ok (m, n, j) => .ok (j, { L with fac := some (.rep p m n) }) := by
 unfold ni M4
 unfold bf at hp
 by_cases h42 : c i = 42
 ·rw [if_pos h42, if_neg (by omega), if_neg (by omega), if_neg (by omega)]
 ·rw [if_neg h42]
  by_cases h43 : c i = 43
  ·rw [if_pos h43, if_pos h43]
  ·rw [if_neg h43, if_neg h43]
   by_cases h63 : c i = 63
   ·rw [if_pos h63, if_pos h63]
   ·rw [if_neg h63, if_neg h63, if_pos (by omega)]
    cases lx c N i <;> rfl
theorem RR {i : Int} {ar : List Nd} {ts : List RT} {f : Fm} {L : Lv} {rest : List Fm} {Ls : List Lv} (ha : AR ar ts) (hf : FR ts f L) (hr : M5 ts rest Ls) : Xx ts (dJ c N rd i L Ls) (l4 c N rd i ar f rest) := by
 unfold dJ l4
 by_cases hp : bf (c i)
 ·rw [if_pos hp, if_pos hp]
  cases hL : L.fac with
  | none =>
   have h1 := hf.fac
   rw [hL] at h1
   have h2 : f.fac < 0 := h1
   rw [if_pos h2]
   rfl
  | some p =>
   have h1 := hf.fac
   rw [hL] at h1
   have h2 : ¬ f.fac < 0 := by have := h1.1; omega
   rw [if_neg h2]
   simp only [Tf hp, CU]
   cases hm : M4 c N i with
   | error e => rfl
   | ok q =>
    obtain ⟨m, n, j⟩ := q
    refine ⟨rfl, [.rep p m n], .snoc ha (.rep ⟨7, 0, f.fac, 0, m, n⟩ p rfl h1.1 h1.2 (Wh hm)), ⟨hf.place, hf.alt.app _, hf.meet.app _, hf.sgn, hf.row.app _, OD.last ha _⟩, hr.app _⟩
 ·rw [if_neg hp, if_neg hp]
  by_cases h124 : c i = 124
  ·rw [if_pos h124, if_pos h124]
   obtain ⟨l, a1, f1⟩ := nN ha hf
   exact ⟨rfl, l, a1, f1, hr.app l⟩
  ·rw [if_neg h124, if_neg h124]
   by_cases h2 : c i = 38 \/ c i = 45
   ·rw [if_pos h2, if_pos h2]
    obtain ⟨l, a1, f1⟩ := DH ha hf
    exact ⟨rfl, l, a1, ⟨f1.place, f1.alt, f1.meet, rfl, f1.row, f1.fac⟩, hr.app l⟩
   ·rw [if_neg h2, if_neg h2]
    by_cases h41 : c i = 41
    ·rw [if_pos h41, if_pos h41]
     match rest, Ls, hr with
     | [], [], _ => rfl
     | g :: r, M :: Ms, hr =>
      obtain ⟨l, a1, f1⟩ := nN ha hf
      have g1 := hr.1.app l
      exact ⟨rfl, l, a1, ⟨g1.place, g1.alt, g1.meet, g1.sgn, g1.row, f1.alt⟩, hr.2.app l⟩
    ·rw [if_neg h41, if_neg h41]
     by_cases h40 : c i = 40
     ·rw [if_pos h40, if_pos h40, hr.len]
      by_cases hd : 1000 < Ls.length + 1
      ·rw [if_pos hd, if_pos hd]; rfl
      ·rw [if_neg hd, if_neg hd]
       obtain ⟨l, a1, f1⟩ := oz ha hf
       have hm : ∀ o : Int, o = -1 -> OD (ts ++ l) o none := fun o h => by show o < 0; omega
       exact ⟨rfl, l, a1, ⟨rfl, hm _ rfl, hm _ rfl, rfl, hm _ rfl, hm _ rfl⟩, f1, hr.app l⟩
     ·rw [if_neg h40, if_neg h40]
      unfold JC
      cases hS : rd i with
      | error e => rfl
      | ok q =>
       obtain ⟨S, j⟩ := q
       obtain ⟨l, a1, f1⟩ := oz ha hf
       refine ⟨rfl, l ++ [.cls S], ?_, ?_, ?_⟩
       ·rw [<- List.append_assoc]
        exact .snoc a1 (.cls ⟨1, S, 0, 0, 0, 0⟩ rfl)
       ·rw [<- List.append_assoc]
        exact ⟨f1.place, f1.alt.app _, f1.meet.app _, f1.sgn, f1.row.app _, OD.last a1 _⟩
       ·exact hr.app _
def WR : Except (Int × Int) (Lv × List Lv) -> Except (Int × Int) (List Nd × Fm × List Fm) -> Prop
 | .error e, .error e' => e = e'
 | .ok (L, Ls), .ok (ar, f, r) => ∃ ts, AR ar ts /\ FR ts f L /\ M5 ts r Ls
 | _, _ => False
theorem zP : ∀ (n : Nat) (i : Int) (ar : List Nd) (ts : List RT) (f : Fm) (L : Lv) (rest : List Fm) (Ls : List Lv), AR ar ts -> FR ts f L -> M5 ts rest Ls -> WR (runN c N rd n i L Ls) (ow c N rd n i ar f rest)
 | 0, i, ar, ts, f, L, rest, Ls, ha, hf, hr => ⟨ts, ha, hf, hr⟩
 | n + 1, i, ar, ts, f, L, rest, Ls, ha, hf, hr => by
  rw [runN, ow]
  by_cases hi : i < N
  ·rw [if_pos hi, if_pos hi]
   have h1 := RR (c := c) (N := N) (rd := rd) (i := i) ha hf hr
   revert h1
   cases dJ c N rd i L Ls with
   | error e =>
    cases l4 c N rd i ar f rest with
    | error e' => exact fun h => h
    | ok q => exact fun h => h.elim
   | ok p =>
    obtain ⟨j, L', Ls'⟩ := p
    cases l4 c N rd i ar f rest with
    | error e' => exact fun h => h.elim
    | ok q =>
     obtain ⟨j', ar', f', r'⟩ := q
     rintro ⟨rfl, l, a1, f1, r1⟩
     exact zP n j ar' _ f' L' r' Ls' a1 f1 r1
  ·rw [if_neg hi, if_neg hi]
   exact ⟨ts, ha, hf, hr⟩
end
theorem xG {a m n : Int} (ha : 0 <= a) (h : rq m n) : 0 <= cU a m n := by
 unfold rq at h
 unfold cU
 split
 ·omega
 ·split
  ·omega
  ·split
   ·have : 0 <= m * a := Int.mul_nonneg (by omega) ha
    omega
   ·split
    ·omega
    ·split
     ·have : 0 <= n * (a + 2) := Int.mul_nonneg (by omega) (by omega)
      omega
     ·have h1 : 0 <= m * a := Int.mul_nonneg (by omega) ha
      have h2 : 0 <= (n - m) * (a + 2 + 1) := Int.mul_nonneg (by omega) (by omega)
      omega
theorem WA {ts : List RT} {d : Nd} {t : RT} (h : NM ts d t) : Gt (ts.map fun t => (t.sz : Int)) d = (t.sz : Int) := by
 have at' : ∀ (x : Int) (a : RT), ts[x.toNat]? = some a -> (ts.map fun t => (t.sz : Int)).getD x.toNat 0 = (a.sz : Int) := fun x a hx => by
  rw [List.getD_eq_getElem?_getD, List.getElem?_map, hx]; rfl
 have cap : ∀ v : Nat, (if (2001 : Int) < (v : Int) then (2001 : Int) else (v : Int)) = ((ca v : Nat) : Int) := fun v => by unfold ca; split <;> omega
 cases h with
 | eps h0 _ =>
  have hv : mj (ts.map fun t => (t.sz : Int)) d = ((1 : Nat) : Int) := by rw [mj, if_pos (.inl h0)]; rfl
  rw [Gt, hv, cap]; rfl
 | cls h0 =>
  have hv : mj (ts.map fun t => (t.sz : Int)) d = ((1 : Nat) : Int) := by rw [mj, if_pos (.inr h0)]; rfl
  rw [Gt, hv, cap]; rfl
 | cat a b h0 h1 h2 h3 h4 =>
  have hv : mj (ts.map fun t => (t.sz : Int)) d = ((1 + a.sz + b.sz : Nat) : Int) := by rw [mj, if_neg (by omega), if_neg (by omega), at' _ _ h2, at' _ _ h4]; omega
  rw [Gt, hv, cap]; rfl
 | alt a b h0 h1 h2 h3 h4 =>
  have hv : mj (ts.map fun t => (t.sz : Int)) d = ((1 + a.sz + b.sz : Nat) : Int) := by rw [mj, if_neg (by omega), if_neg (by omega), at' _ _ h2, at' _ _ h4]; omega
  rw [Gt, hv, cap]; rfl
 | and a b h0 h1 h2 h3 h4 =>
  have hv : mj (ts.map fun t => (t.sz : Int)) d = ((1 + a.sz + b.sz : Nat) : Int) := by rw [mj, if_neg (by omega), if_neg (by omega), at' _ _ h2, at' _ _ h4]; omega
  rw [Gt, hv, cap]; rfl
 | minus a b h0 h1 h2 h3 h4 =>
  have hv : mj (ts.map fun t => (t.sz : Int)) d = ((1 + a.sz + b.sz : Nat) : Int) := by rw [mj, if_neg (by omega), if_neg (by omega), at' _ _ h2, at' _ _ h4]; omega
  rw [Gt, hv, cap]; rfl
 | rep a h0 h1 h2 h3 =>
  have hn := xG (a := (a.sz : Int)) (by omega) h3
  obtain ⟨v, hv⟩ := Int.eq_ofNat_of_zero_le hn
  have hz : mj (ts.map fun t => (t.sz : Int)) d = ((v : Nat) : Int) := by rw [mj, if_neg (by omega), if_pos h0, at' _ _ h2, hv]
  rw [Gt, hz, cap]
  show _ = ((ca (cU a.sz d.m d.n).toNat : Nat) : Int)
  rw [hv]; rfl
theorem Oq {ar : List Nd} {ts : List RT} (h : AR ar ts) : lU ar = ts.map fun t => (t.sz : Int) := by
 induction h with
 | nil => rfl
 | snoc ha hn ih =>
  unfold lU at ih ⊢
  rw [List.foldl_append, ih]
  simp [WA hn]
theorem kE {c : Int -> Int} {N : Int} {rd : Int -> Except (Int × Int) (BitVec 256 × Int)} (hN : 0 <= N) : match gA c N rd, iD c N rd with
  | .error e, .error e' => e = e'
  | .ok t, .ok (ar, x) => ∃ ts, AR ar ts /\ 0 <= x /\ ts[x.toNat]? = some t
  | _, _ => False := by
 unfold gA iD
 by_cases hb : 1048576 < N
 ·rw [if_pos hb, if_pos hb]
 ·rw [if_neg hb, if_neg hb]
  have hm : ∀ o : Int, o = -1 -> OD [] o none := fun o h => by show o < 0; omega
  have h1 := zP (c := c) (N := N) (rd := rd) (N.toNat + 1) 0 [] [] (iE (-1)) (fe (-1)) [] [] .nil ⟨rfl, hm _ rfl, hm _ rfl, rfl, hm _ rfl, hm _ rfl⟩ trivial
  have e : run c N rd 0 (fe (-1)) [] = runN c N rd (N.toNat + 1) 0 (fe (-1)) [] := by
   unfold run
   rw [Int.sub_zero]
  rw [e]
  revert h1
  cases runN c N rd (N.toNat + 1) 0 (fe (-1)) [] with
  | error e =>
   cases ow c N rd (N.toNat + 1) 0 [] (iE (-1)) [] with
   | error e' => exact fun h => h
   | ok q => exact fun h => h.elim
  | ok p =>
   obtain ⟨L, Ls⟩ := p
   cases ow c N rd (N.toNat + 1) 0 [] (iE (-1)) [] with
   | error e' => exact fun h => h.elim
   | ok q =>
    obtain ⟨ar, f, r⟩ := q
    rintro ⟨ts, ha, hf, hr⟩
    simp only [mT, Aw]
    match r, Ls, hr with
    | g :: r, M :: Ms, hr =>
     rw [if_pos (by simp), if_pos (by simp)]
     rw [hf.place]
    | [], [], _ =>
     rw [if_neg (show ¬ ([] : List Lv) ≠ [] by simp), if_neg (show ¬ ([] : List Fm) ≠ [] by simp)]
     obtain ⟨l, a1, f1⟩ := nN ha hf
     have h2 := f1.alt
     rw [show (oy L).alt = some (gu L) from rfl] at h2
     have h3 : (lU (aJ ar f).1).getD (aJ ar f).2.alt.toNat 0 = ((gu L).sz : Int) := by
      rw [Oq a1, List.getD_eq_getElem?_getD, List.getElem?_map, h2.2]; rfl
     rw [h3]
     by_cases hz : 2000 < (gu L).sz
     ·rw [if_pos hz, if_pos (by omega)]
     ·rw [if_neg hz, if_neg (by omega)]
      exact ⟨_, a1, h2.1, h2.2⟩
end
section
open Go.RowKit Go.LE
set_option maxRecDepth 10000
def pL (l : List Fm) : List Value := l.flatMap Fm.bh
theorem TL (l : List Fm) : (pL l).length = l.length * 6 := by
 induction l with
 | nil => rfl
 | cons d r ih =>
  have : pL (d :: r) = d.bh ++ pL r := rfl
  rw [this, List.length_append, ih, List.length_cons]
  show 6 + _ = _
  omega
def AL (ar : List Nd) (pre : List Fm) (f : Fm) : List AV := [.row 243 261 ar.length (cN ar), .row 234 6 (pre.length + 1) (pL pre ++ f.bh)]
theorem pJ (ar : List Nd) (d : Nd) (pre : List Fm) (f : Fm) : AL (ar ++ [d]) pre f = [.row 243 261 (ar.length + 1) (cN ar ++ d.bh), .row 234 6 (pre.length + 1) (pL pre ++ f.bh)] := by
 simp [AL, cN]
theorem dD (pre : List Fm) (f : Fm) : List.map SV.v (pL pre ++ f.bh) = List.map SV.v (pL pre) ++ [.v (.int .i64 f.place), .v (.int .i64 f.alt), .v (.int .i64 f.meet), .v (.int .u8 f.sgn), .v (.int .i64 f.row), .v (.int .i64 f.fac)] := by
 rw [List.map_append]; rfl
section
variable (pre : List Fm) (B : List SV) (d : SV) (j : Nat)
theorem sY : (List.map SV.v (pL pre)).length = pre.length * 6 := by rw [List.length_map, TL]
theorem Fv : (List.map SV.v (pL pre) ++ B).length = pre.length * 6 + B.length := by rw [List.length_append, sY]
theorem Ax : (List.map SV.v (pL pre) ++ B).getD (pre.length * 6 + j) d = B.getD j d := by
 rw [List.getD_eq_getElem?_getD, List.getD_eq_getElem?_getD, <- sY, List.getElem?_append_right (by omega), Nat.add_sub_cancel_left]
theorem yY : (List.map SV.v (pL pre) ++ B).getD (pre.length * 6) d = B.getD 0 d := Ax pre B d 0
theorem sV : List.take (pre.length * 6 + j) (List.map SV.v (pL pre) ++ B) = List.map SV.v (pL pre) ++ List.take j B := by
 rw [<- sY, List.take_length_add_append]
theorem uG : List.take (pre.length * 6) (List.map SV.v (pL pre) ++ B) = List.map SV.v (pL pre) := by
 have := sV pre B 0
 simpa using this
theorem pI : List.drop (pre.length * 6 + j) (List.map SV.v (pL pre) ++ B) = List.drop j B := by
 rw [<- sY, List.drop_length_add_append]
theorem ui : List.drop (pre.length * 6 + j + 1) (List.map SV.v (pL pre) ++ B) = List.drop (j + 1) B := pI pre B (j + 1)
theorem qS : List.drop (pre.length * 6 + 1) (List.map SV.v (pL pre) ++ B) = List.drop 1 B := pI pre B 1
end
theorem dF (A : List Value) (B : List SV) : cI (List.map SV.v A ++ B) = (cI B).map (A ++ ·) := by
 induction A with
 | nil => simp
 | cons x r ih => simp [cI, ih, Option.map_map, Function.comp_def]
theorem sQ (pre : List Fm) (h : pre.length <= 2000) : IntKind.i64.wrap (((pre.length + 1 : Nat) : Int) - 1) = ((pre.length : Nat) : Int) := by
 rw [aa (by omega) (by omega)]; omega
noncomputable def Γ63 : Env Tryz.prog := ⟨fun | 173 => some CA.spec | _ => none, fun | _ => none, fun _ _ => none⟩
theorem Gt63c173 : Γ63.sp 173 = some CA.spec := rfl
def oC := (aq jV jW jb cW cX c8 cT (aq cZ c9 cR cV IG Jz I0 (aq I6 IW Nb QV Ox Pk Iz (aq I3 Ji Ia Jo Jv IX Iu (aq Iv H3 Jm Iw H0 Jh Js (aq H5 Ii Oz RS P2 QW PD (aq @aN @au @aA @az @dD @Fv @Ax (aq @yY @sV @uG @pI @ui @qS @List.append_assoc.{0} (lX @dF @Cr @BG @RU @PS @Gt63c173)))))))))
set_option maxHeartbeats 1000000 in
theorem lT (ar : List Nd) (pre : List Fm) (f : Fm) (u : Value) (fp : List Nat) (w : World) (hl : ar.length <= 4000000) (hp : pre.length <= 2000) (ho : bz w u fp 232 (AL ar pre f)) (hlt : ∀ b ∈ fp, b < w.heap.size) :
  Calls Tryz.prog 121 (#[u] ++ #[]) w fun e w' => fu w u fp 232 e w' (.ret (.tuple #[]) (AL (aD ar f).1 pre (aD ar f).2)) := by
 have wp := sQ pre hp
 refine bL (nt := 47) #[] [] (by show 2 <= 7; omega) ho hlt Tryz.func121 rfl rfl rfl ?_
 refine l9 Γ0 (de oC @AL.eq_1 wp) ?_ ?_
 ·exact ⟨⟨_, rfl⟩, by omega, by omega⟩
 refine Wp.seq ?_
 refine wR Γ0 oC ?_ ?_
 ·omega
 refine wC oC (fun hc => ?_) (fun hc => ?_)
 ·have hf : f.fac < 0 := by simpa using hc
  have he : aD ar f = (ar, f) := by rw [aD, if_pos hf]
  rw [he]
  refine wZ oC ?_
  exact ⟨_, _, rfl, fun E => rfl, _, _, rfl, by simp only [dS, Op.operands, Value.cells, σ0, σB, Nat.reduceEqDiff, Nat.reduceAdd, Nat.reduceMul, Nat.reduceLT, Nat.reduceLeDiff, Nat.reduceBEq, ae, Int.reduceToNat, Int.reduceLT, Int.reduceLE, Nat.reduceDiv, Nat.reduceMod, Nat.reduceSub, Int.reducePow, Nat.reducePow, σP, σB3, oC, aE, dF]; rfl, by decide⟩
 ·have hf : ¬ f.fac < 0 := by simpa using hc
  refine wK ?_
  refine Wp.seq ?_
  refine vR Γ0 oC ?_
  refine wC oC (fun hc => ?_) (fun hc => ?_)
  ·have hr : f.row < 0 := by simpa using hc
   have he : aD ar f = (ar, { f with row := f.fac, fac := -1 }) := by rw [aD, if_neg hf, if_pos hr]
   rw [he]
   refine wr Γ0 oC ?_ ?_
   ·omega
   refine wr Γ0 oC ?_ ?_
   ·omega
   refine wS oC ?_
   exact ⟨_, _, rfl, fun E => rfl, _, _, rfl, by simp only [dS, Op.operands, Value.cells, σ0, σB, Nat.reduceEqDiff, Nat.reduceAdd, Nat.reduceMul, Nat.reduceLT, Nat.reduceLeDiff, Nat.reduceBEq, ae, Int.reduceToNat, Int.reduceLT, Int.reduceLE, Nat.reduceDiv, Nat.reduceMod, Nat.reduceSub, Int.reducePow, Nat.reducePow, σP, σB3, oC, aE, dF]; rfl, by decide⟩
  ·have hr : ¬ f.row < 0 := by simpa using hc
   have he : aD ar f = (ar ++ [bP 2 f.row f.fac], { f with row := ar.length, fac := -1 }) := by rw [aD, if_neg hf, if_neg hr]
   rw [he, pJ]
   refine sx Γ63 oC ?_ ?_
   ·refine ⟨by omega, by omega, by omega, by omega, by omega, by omega, ⟨⟨ar, rfl, rfl, hl⟩, by decide, by simp⟩, by omega, by omega, by omega⟩
   refine wr Γ0 oC ?_ ?_
   ·omega
   refine wS oC ?_
   exact ⟨_, _, rfl, fun E => rfl, _, _, rfl, by simp only [dS, Op.operands, Value.cells, σ0, σB, Nat.reduceEqDiff, Nat.reduceAdd, Nat.reduceMul, Nat.reduceLT, Nat.reduceLeDiff, Nat.reduceBEq, ae, Int.reduceToNat, Int.reduceLT, Int.reduceLE, Nat.reduceDiv, Nat.reduceMod, Nat.reduceSub, Int.reducePow, Nat.reducePow, σP, σB3, oC, aE, dF]; rfl, by decide⟩
def WJ (f : FuncId) (g : List Nd -> Fm -> List Nd × Fm) (hen : ∀ args w, (callFunc f args).run Tryz.prog w = .ok (.enter f args) w)
  (h : ∀ (ar : List Nd) (pre : List Fm) (fm : Fm) (u : Value) (fp : List Nat) (w : World), ar.length <= 4000000 -> pre.length <= 2000 -> bz w u fp 232 (AL ar pre fm) -> (∀ b ∈ fp, b < w.heap.size) ->
   Calls Tryz.prog f (#[u] ++ #[]) w fun e w' => fu w u fp 232 e w' (.ret (.tuple #[]) (AL (g ar fm).1 pre (g ar fm).2))) (ar : List Nd) (pre : List Fm) (fm : Fm) : dz Tryz.prog f where
 T := 232
 pre := fun _ _ fs as_ => (fs = AL ar pre fm /\ as_ = []) /\ ar.length <= 4000000 /\ pre.length <= 2000
 out := fun _ _ _ => .ret (.tuple #[]) (AL (g ar fm).1 pre (g ar fm).2)
 enters := hen
 ok := by
  intro W w bs u fp us fs as_ hk ho hlt hmine hu hp
  obtain ⟨⟨rfl, rfl⟩, h1, h2⟩ := hp
  match us, hu with
  | [], _ => exact h ar pre fm u fp w h1 h2 ho hlt
end
section
open Go.RowKit Go.LE
set_option maxRecDepth 10000
noncomputable def Γ64 (ar : List Nd) (pre : List Fm) (f : Fm) : Env Tryz.prog := ⟨fun | 121 => some (WJ 121 aD Tryz.call121 lT ar pre f).spec | 173 => some CA.spec | _ => none, fun _ => none, fun _ _ => none⟩
theorem Gt64c121 (ar : List Nd) (pre : List Fm) (f : Fm) : (Γ64 ar pre f).sp 121 = some (WJ 121 aD Tryz.call121 lT ar pre f).spec := rfl
theorem mV (ar : List Nd) (f : Fm) : (aD ar f).1.length <= ar.length + 1 := by
 unfold aD
 split
 ·simp
 ·split
  ·simp
  ·simp
theorem pP (ar : List Nd) (f : Fm) : (iA ar f).1.length <= ar.length + 1 := by
 unfold iA
 split <;> simp
theorem yv (ar : List Nd) (f : Fm) : (kA ar f).1.length <= ar.length + 1 := by
 unfold kA
 split
 ·simp
 ·split <;> simp
theorem LF (ar : List Nd) (f : Fm) : (eM ar f).1.length <= ar.length + 3 := by
 have h1 := mV ar f
 have h2 := pP (aD ar f).1 (aD ar f).2
 have h3 := yv (iA (aD ar f).1 (aD ar f).2).1 (iA (aD ar f).1 (aD ar f).2).2
 unfold eM
 omega
theorem qG (l : List Nd) (d : Nd) : (l ++ [d]).length = l.length + 1 := by simp
theorem K7 (l : List Nd) (d : Nd) : cN (l ++ [d]) = cN l ++ d.bh := by simp [cN]
def hZ := (aq jV jW jb cW cX c8 cT (aq cZ c9 cR cV gz gv gi (aq gk gn IG Jz I0 I6 IW (aq Nb QV Ox Pk Iz I3 Ji (aq Ia Jo Jv IX Iu Iv H3 (aq Jm Iw H0 Jh Js H5 Ii (aq Oz RS P2 QW PD @aN @au (aq @aA @az @dD @Fv @Ax @yY @sV (aq @uG @pI @ui @qS @List.append_assoc.{0} @dF @Cr (yR @BG @RU @PS @Gt63c173 @WJ.eq_1 @AL.eq_1 @Gt64c121))))))))))
set_option maxHeartbeats 2000000 in
theorem NT (ar : List Nd) (pre : List Fm) (f : Fm) (u : Value) (fp : List Nat) (w : World) (hl : ar.length <= 3999990) (hp : pre.length <= 2000) (ho : bz w u fp 232 (AL ar pre f)) (hlt : ∀ b ∈ fp, b < w.heap.size) :
  Calls Tryz.prog 120 (#[u] ++ #[]) w fun e w' => fu w u fp 232 e w' (.ret (.tuple #[]) (AL (eM ar f).1 pre (eM ar f).2)) := by
 have wp := sQ pre hp
 have l1 := mV ar f
 have l2 := pP (aD ar f).1 (aD ar f).2
 refine bL (nt := 72) #[] [] (by show 2 <= 7; omega) ho hlt Tryz.func120 rfl rfl rfl ?_
 refine wR (Γ64 ar pre f) hZ ?_ ?_
 ·exact ⟨⟨rfl, by omega, hp⟩, by decide, by simp⟩
 have hfo : eM ar f = kA (iA (aD ar f).1 (aD ar f).2).1 (iA (aD ar f).1 (aD ar f).2).2 := rfl
 rw [hfo]
 generalize (aD ar f).2 = f1 at *
 generalize (aD ar f).1 = ar1 at *
 refine l9 Γ0 (ab hZ wp) ?_ ?_
 ·exact ⟨⟨_, rfl⟩, by omega, by omega⟩
 refine bp ⟨40, bQ [(0, .is (.own 0 0)), (2, .is (.own 17 (pre.length * 6)))], bY [(0, .cells 232 [.hd 3, .hd 17]), (3, .row 243 261 (iA ar1 f1).1.length ((cN (iA ar1 f1).1).map .v)), (17, .row 234 6 (pre.length + 1) ((pL pre ++ (iA ar1 f1).2.bh).map .v))]⟩ ?_ ?_
 ·skip
  refine wR Γ0 hZ ?_ ?_
  ·omega
  refine wC hZ (fun hc => ?_) (fun hc => ?_)
  ·have hr : f1.row < 0 := by simpa using hc
   have he : iA ar1 f1 = (ar1 ++ [bP 0 0 0], { f1 with row := ar1.length }) := by rw [iA, if_pos hr]
   rw [he]
   refine wr Γ63 hZ ?_ ?_
   ·exact ⟨⟨⟨ar1, rfl, rfl, by omega⟩, by decide, by simp⟩, by omega, by omega, by omega⟩
   exact wM (fun x => if x = 3 then .key 176 else .key x) (lX hZ @Fm.bh.eq_1 @qG @K7 @List.map_append.{0,0} @a6)
  ·have hr : ¬ f1.row < 0 := by simpa using hc
   have he : iA ar1 f1 = (ar1, f1) := by rw [iA, if_neg hr]
   rw [he]
   refine wK ?_
   exact wM (fun x => if x = 3 then .key 16 else .key x) (ab hZ @a6)
 generalize (iA ar1 f1).2 = f2 at *
 generalize (iA ar1 f1).1 = ar2 at *
 refine Wp.seq ?_
 refine wR Γ0 hZ ?_ ?_
 ·omega
 refine wC hZ (fun hc => ?_) (fun hc => ?_)
 ·have hm : f2.meet < 0 := by simpa using hc
  have he : kA ar2 f2 = (ar2, { f2 with meet := f2.row, row := -1 }) := by rw [kA, if_pos hm]
  rw [he]
  refine wr Γ0 hZ ?_ ?_
  ·omega
  refine wr Γ0 hZ ?_ ?_
  ·omega
  refine wS hZ ?_
  exact ⟨_, _, rfl, fun E => rfl, _, _, rfl, by simp only [dS, Op.operands, Value.cells, σ0, σB, Nat.reduceEqDiff, Nat.reduceAdd, Nat.reduceMul, Nat.reduceLT, Nat.reduceLeDiff, Nat.reduceBEq, ae, Int.reduceToNat, Int.reduceLT, Int.reduceLE, Nat.reduceDiv, Nat.reduceMod, Nat.reduceSub, Int.reducePow, Nat.reducePow, σP, σB3, hZ, aE, dF]; rfl, by decide⟩
 ·have hm : ¬ f2.meet < 0 := by simpa using hc
  refine wR Γ0 hZ ?_ ?_
  ·omega
  refine wC hZ (fun hc => ?_) (fun hc => ?_)
  ·have hs : f2.sgn = 38 := by simpa using hc
   have he : kA ar2 f2 = (ar2 ++ [bP 5 f2.meet f2.row], { f2 with meet := ar2.length, row := -1 }) := by rw [kA, if_neg hm, if_pos hs]
   rw [he, pJ]
   refine sx Γ63 hZ ?_ ?_
   ·exact ⟨by omega, by omega, by omega, by omega, by omega, by omega, ⟨⟨ar2, rfl, rfl, by omega⟩, by decide, by simp⟩, by omega, by omega, by omega⟩
   refine wr Γ0 hZ ?_ ?_
   ·omega
   refine wS hZ ?_
   exact ⟨_, _, rfl, fun E => rfl, _, _, rfl, by simp only [dS, Op.operands, Value.cells, σ0, σB, Nat.reduceEqDiff, Nat.reduceAdd, Nat.reduceMul, Nat.reduceLT, Nat.reduceLeDiff, Nat.reduceBEq, ae, Int.reduceToNat, Int.reduceLT, Int.reduceLE, Nat.reduceDiv, Nat.reduceMod, Nat.reduceSub, Int.reducePow, Nat.reducePow, σP, σB3, hZ, aE, dF]; rfl, by decide⟩
  ·have hs : ¬ f2.sgn = 38 := by simpa using hc
   have he : kA ar2 f2 = (ar2 ++ [bP 6 f2.meet f2.row], { f2 with meet := ar2.length, row := -1 }) := by rw [kA, if_neg hm, if_neg hs]
   rw [he, pJ]
   refine sx Γ63 hZ ?_ ?_
   ·exact ⟨by omega, by omega, by omega, by omega, by omega, by omega, ⟨⟨ar2, rfl, rfl, by omega⟩, by decide, by simp⟩, by omega, by omega, by omega⟩
   refine wr Γ0 hZ ?_ ?_
   ·omega
   refine wS hZ ?_
   exact ⟨_, _, rfl, fun E => rfl, _, _, rfl, by simp only [dS, Op.operands, Value.cells, σ0, σB, Nat.reduceEqDiff, Nat.reduceAdd, Nat.reduceMul, Nat.reduceLT, Nat.reduceLeDiff, Nat.reduceBEq, ae, Int.reduceToNat, Int.reduceLT, Int.reduceLE, Nat.reduceDiv, Nat.reduceMod, Nat.reduceSub, Int.reducePow, Nat.reducePow, σP, σB3, hZ, aE, dF]; rfl, by decide⟩
def yf (ar : List Nd) (pre : List Fm) (fm : Fm) : dz Tryz.prog 120 where
 T := 232
 pre := fun _ _ fs as_ => (fs = AL ar pre fm /\ as_ = []) /\ ar.length <= 3999990 /\ pre.length <= 2000
 out := fun _ _ _ => .ret (.tuple #[]) (AL (eM ar fm).1 pre (eM ar fm).2)
 enters := Tryz.call120
 ok := by
  intro W w bs u fp us fs as_ hk ho hlt hmine hu hp
  obtain ⟨⟨rfl, rfl⟩, h1, h2⟩ := hp
  match us, hu with
  | [], _ => exact NT ar pre fm u fp w h1 h2 ho hlt
noncomputable def Γ65 (ar : List Nd) (pre : List Fm) (f : Fm) : Env Tryz.prog := ⟨fun | 120 => some (yf ar pre f).spec | 173 => some CA.spec | _ => none, fun _ => none, fun _ _ => none⟩
theorem Gt65c120 (ar : List Nd) (pre : List Fm) (f : Fm) : (Γ65 ar pre f).sp 120 = some (yf ar pre f).spec := rfl
def wJ := (de hZ @Gt65c120 @yf.eq_1)
set_option maxHeartbeats 2000000 in
theorem MM (ar : List Nd) (pre : List Fm) (f : Fm) (u : Value) (fp : List Nat) (w : World) (hl : ar.length <= 3999980) (hp : pre.length <= 2000) (ho : bz w u fp 232 (AL ar pre f)) (hlt : ∀ b ∈ fp, b < w.heap.size) :
  Calls Tryz.prog 119 (#[u] ++ #[]) w fun e w' => fu w u fp 232 e w' (.ret (.tuple #[]) (AL (aJ ar f).1 pre (aJ ar f).2)) := by
 have wp := sQ pre hp
 have l1 := LF ar f
 refine bL (nt := 44) #[] [] (by show 2 <= 7; omega) ho hlt Tryz.func119 rfl rfl rfl ?_
 refine wR (Γ65 ar pre f) wJ ?_ ?_
 ·exact ⟨⟨rfl, by omega, hp⟩, by decide, by simp⟩
 have hfo : aJ ar f = rN (eM ar f).1 (eM ar f).2 := rfl
 rw [hfo]
 generalize (eM ar f).2 = f1 at *
 generalize (eM ar f).1 = ar1 at *
 refine l9 Γ0 (ab wJ wp) ?_ ?_
 ·exact ⟨⟨_, rfl⟩, by omega, by omega⟩
 refine Wp.seq ?_
 refine wR Γ0 wJ ?_ ?_
 ·omega
 refine wC wJ (fun hc => ?_) (fun hc => ?_)
 ·have hm : f1.alt < 0 := by simpa using hc
  have he : rN ar1 f1 = (ar1, { f1 with alt := f1.meet, meet := -1 }) := by rw [rN, if_pos hm]
  rw [he]
  refine wr Γ0 wJ ?_ ?_
  ·omega
  refine wr Γ0 wJ ?_ ?_
  ·omega
  refine wS wJ ?_
  exact ⟨_, _, rfl, fun E => rfl, _, _, rfl, by simp only [dS, Op.operands, Value.cells, σ0, σB, Nat.reduceEqDiff, Nat.reduceAdd, Nat.reduceMul, Nat.reduceLT, Nat.reduceLeDiff, Nat.reduceBEq, ae, Int.reduceToNat, Int.reduceLT, Int.reduceLE, Nat.reduceDiv, Nat.reduceMod, Nat.reduceSub, Int.reducePow, Nat.reducePow, σP, σB3, hZ, aE, dF]; rfl, by decide⟩
 ·have hm : ¬ f1.alt < 0 := by simpa using hc
  have he : rN ar1 f1 = (ar1 ++ [bP 3 f1.alt f1.meet], { f1 with alt := ar1.length, meet := -1 }) := by rw [rN, if_neg hm]
  rw [he, pJ]
  refine sx Γ63 wJ ?_ ?_
  ·exact ⟨by omega, by omega, by omega, by omega, by omega, by omega, ⟨⟨ar1, rfl, rfl, by omega⟩, by decide, by simp⟩, by omega, by omega, by omega⟩
  refine wr Γ0 wJ ?_ ?_
  ·omega
  refine wS wJ ?_
  exact ⟨_, _, rfl, fun E => rfl, _, _, rfl, by simp only [dS, Op.operands, Value.cells, σ0, σB, Nat.reduceEqDiff, Nat.reduceAdd, Nat.reduceMul, Nat.reduceLT, Nat.reduceLeDiff, Nat.reduceBEq, ae, Int.reduceToNat, Int.reduceLT, Int.reduceLE, Nat.reduceDiv, Nat.reduceMod, Nat.reduceSub, Int.reducePow, Nat.reducePow, σP, σB3, hZ, aE, dF]; rfl, by decide⟩
def EJ (ar : List Nd) (pre : List Fm) (fm : Fm) : dz Tryz.prog 119 where
 T := 232
 pre := fun _ _ fs as_ => (fs = AL ar pre fm /\ as_ = []) /\ ar.length <= 3999980 /\ pre.length <= 2000
 out := fun _ _ _ => .ret (.tuple #[]) (AL (aJ ar fm).1 pre (aJ ar fm).2)
 enters := Tryz.call119
 ok := by
  intro W w bs u fp us fs as_ hk ho hlt hmine hu hp
  obtain ⟨⟨rfl, rfl⟩, h1, h2⟩ := hp
  match us, hu with
  | [], _ => exact MM ar pre fm u fp w h1 h2 ho hlt
end
section
open Go.RowKit Go.LE
set_option maxRecDepth 10000
noncomputable def Γ66 : Env Tryz.prog := ⟨fun | 172 => some yS.spec | _ => none, fun | _ => none, fun _ _ => none⟩
theorem Gt66c172 : Γ66.sp 172 = some yS.spec := rfl
def QS : Except (Int × Int) (Int × Int × Int) -> Value
 | .error (c, j) => .tuple #[.int .i64 0, .int .i64 0, .int .i64 0, .int .i64 c, .int .i64 j]
 | .ok (m, n, j) => .tuple #[.int .i64 m, .int .i64 n, .int .i64 j, .int .i64 0, .int .i64 0]
theorem kX (s : ByteArray) (i : Int) : sE s i = true ↔ (i < s.size /\ 48 <= bt s i /\ bt s i <= 57) := by simp [sE, and_assoc]
theorem JJ (s : ByteArray) (i : Int) (h : sE s i = false) : fU (bt s) s.size i = .error (20, i) := by
 have h' : ¬ sE s i = true := by simp [h]
 rw [kX] at h'
 rw [fU, iv, if_neg h', if_pos rfl]
theorem CW (s : ByteArray) (i : Int) (h : sE s i = true) : fU (bt s) s.size i = .ok (iv (bt s) s.size 3 0 i) := by
 rw [kX] at h
 have h2 := (Je (c := bt s) (N := s.size) 2 (10 * 0 + (bt s i - 48)) (i + 1)).1
 rw [fU, if_neg]
 rw [iv, if_pos h]
 omega
def okB (s : ByteArray) (i : Int) (p : Int × Int × Int × Int) : Prop :=
 (p.1 = 0 /\ p.2.1 = 0 /\ p.2.2.1 = 0 /\ p.2.2.2 = i + 1) \/
 (p.1 = 1 /\ p.2.2.1 = 0 /\ (0 <= p.2.1 /\ p.2.1 <= 999) /\ (i < p.2.2.2 /\ p.2.2.2 <= s.size) /\ fU (bt s) s.size (i + 1) = .ok (p.2.1, p.2.2.2 - 1) /\ vU (bt s) s.size p.2.1 (p.2.2.2 - 1) = fU (bt s) s.size p.2.2.2) \/
 (p.1 = 2 /\ (0 <= p.2.1 /\ p.2.1 <= 999) /\ (-1 <= p.2.2.1 /\ p.2.2.1 <= 999) /\ (i < p.2.2.2 /\ p.2.2.2 <= s.size) /\ ∃ l, fU (bt s) s.size (i + 1) = .ok (p.2.1, l) /\ vU (bt s) s.size p.2.1 l = .ok (p.2.2.1, p.2.2.2))
def Zc (s : ByteArray) (i : Int) (p : Int × Int × Int × Int) : Prop :=
 (p.1 = 1 /\ p.2.2.1 = 0 /\ (0 <= p.2.1 /\ p.2.1 <= 999) /\ (i < p.2.2.2 /\ p.2.2.2 <= s.size) /\ fU (bt s) s.size (i + 1) = .ok (p.2.1, p.2.2.2) /\ vU (bt s) s.size p.2.1 p.2.2.2 = .ok (p.2.1, p.2.2.2)) \/
 (p.1 = 2 /\ (0 <= p.2.1 /\ p.2.1 <= 999) /\ (-1 <= p.2.2.1 /\ p.2.2.1 <= 999) /\ (i < p.2.2.2 /\ p.2.2.2 <= s.size) /\ ∃ l, fU (bt s) s.size (i + 1) = .ok (p.2.1, l) /\ vU (bt s) s.size p.2.1 l = .ok (p.2.2.1, p.2.2.2))
def bJ := (aq jV jW jb cW cX c8 cT (aq cZ c9 cR cV gz gv gi (aq gk gn ez ey eB eC eA (aq ew XD XO Xf WY @aN @au (oc @aA @az @vE @vP Gt66c172)))))
set_option maxHeartbeats 4000000 in
theorem BK (s : ByteArray) (i : Int) (h0 : 0 <= i) (hi : i < s.size) (hs : s.size <= 140737488351232) (w : World) : Calls Tryz.prog 118 #[.string s, .int .i64 i] w fun e w' => e = .returned (QS (lx (bt s) s.size i)) /\ ai w [] w' := by
 refine aj (nt := 117) [.tmp 4, .tmp 5, .tmp 6, .tmp 7, .tmp 8] Tryz.func118 rfl rfl rfl ?_
 have w1 : IntKind.i64.wrap (i + 1) = i + 1 := aa (by omega) (by omega)
 have wl1 : IntKind.i64.wrap (0 + 1) = 1 := rfl
 have wl2 : IntKind.i64.wrap (1 + 1) = 2 := rfl
 refine vR Γ0 bJ ?_
 refine vR Γ0 (ab bJ w1) ?_
 refine vR Γ0 bJ ?_
 refine vR Γ0 bJ ?_
 refine iR (fun p : Int × Int × Int × Int => ⟨200, bQ [(0, .is (.v (.string s))), (1, .is (.v (.int .i64 i))), (9, .is (.v (.int .i64 p.2.2.2))), (10, .is (.own 64 0)), (11, .is (.v (.int .i64 p.1)))], bY [(64, .cells 298 [.v (.int .i64 p.2.1), .v (.int .i64 p.2.2.1)])]⟩) (fun _ => w) (fun _ => []) (Zc s i) ?_ ?_
 ·refine Wp.block ?_
  refine Wp.loop (fun p : Int × Int × Int × Int => ⟨30, bQ [(0, .is (.v (.string s))), (1, .is (.v (.int .i64 i))), (9, .is (.v (.int .i64 p.2.2.2))), (10, .is (.own 64 0)), (11, .is (.v (.int .i64 p.1)))], bY [(64, .cells 298 [.v (.int .i64 p.2.1), .v (.int .i64 p.2.2.1)])]⟩)
   (okB s i) (fun p => (2 - p.1).toNat) (0, 0, 0, i + 1) ?_ (.inl ⟨rfl, rfl, rfl, rfl⟩) ?_
  ·exact wM (fun k => .key k) bJ
  rintro ⟨p, m, n, j⟩ (⟨hp, hm, hn, hj⟩ | ⟨hp, hn, hm, hj, hN, hU⟩ | ⟨hp, hm, hn, hj, l, hN, hU⟩)
  ·simp only at hp hm hn hj
   subst hp hn hm hj
   have hjj : i < i + 1 /\ i + 1 <= s.size := by omega
   generalize hj : i + 1 = j at *
   refine Wp.seq ?_
   refine vR Γ0 bJ ?_
   refine wC bJ (fun hc => ?_) (fun hc => ?_)
   rotate_left
   ·exfalso
    simp at hc
   refine wK ?_
   refine Wp.block ?_
   refine Wp.seq ?_
   refine wR Γ66 bJ ?_ ?_
   ·omega
   refine wC bJ (fun hc => ?_) (fun hc => ?_)
   ·have hd : sE s j = false := by simpa using hc
    have he : lx (bt s) s.size i = .error (20, j) := by
     rw [lx, hj, JJ s j hd]
    rw [he]
    refine vR Γ0 bJ ?_
    refine wZ bJ ?_
    exact fun E => rfl
   have hd : sE s j = true := by simpa using hc
   have hE := CW s j hd
   refine wK ?_
   generalize hR : iv (bt s) s.size 3 0 j = R at *
   refine iR (fun q : Int × Int => ⟨200, bQ [(0, .is (.v (.string s))), (1, .is (.v (.int .i64 i))), (9, .is (.v (.int .i64 q.2))), (10, .is (.own 64 0)), (11, .is (.v (.int .i64 0)))], bY [(64, .cells 298 [.v (.int .i64 q.1), .v (.int .i64 0)])]⟩) (fun _ => w) (fun _ => []) (fun q => R = q /\ (0 <= q.1 /\ q.1 <= 999) /\ (j <= q.2 /\ q.2 <= s.size)) ?_ ?_
   ·skip
    refine vR Γ0 bJ ?_
    refine Wp.block ?_
    refine Wp.loop (fun q : Nat × Int => ⟨70, bQ [(0, .is (.v (.string s))), (1, .is (.v (.int .i64 i))), (9, .is (.v (.int .i64 (j + (3 - (q.1 : Nat)))))), (10, .is (.own 64 0)), (11, .is (.v (.int .i64 0))), (12, .is (.v (.int .i64 (3 - (q.1 : Nat)))))], bY [(64, .cells 298 [.v (.int .i64 q.2), .v (.int .i64 0)])]⟩)
     (fun q => q.1 <= 3 /\ (0 <= q.2 /\ q.2 <= bd q.1) /\ j + (3 - (q.1 : Nat)) <= s.size /\ iv (bt s) s.size q.1 q.2 (j + (3 - (q.1 : Nat))) = R) (fun q => q.1) (3, 0) ?_ ⟨by simp, by simp [bd], by simp only; omega, by simpa using hR⟩ ?_
    ·exact wM (fun k => .key k) (eH bJ @Int.sub_self @Int.add_zero (show (3 : Int) - ((3 : Nat) : Int) = 0 from rfl))
    rintro ⟨k, x⟩ ⟨hk, ⟨hx0, hx1⟩, hi', hR'⟩
    simp only at hk hx0 hx1 hi' hR'
    have hbd := Jd k
    refine Wp.seq ?_
    refine wR Γ66 bJ ?_ ?_
    ·exact fun _ => by omega
    refine wC bJ (fun hc => ?_) (fun hc => ?_)
    ·simp only [Bool.and_eq_true, decide_eq_true_eq, kX] at hc
     obtain ⟨h1, h2⟩ := hc
     obtain ⟨k, rfl⟩ : ∃ j, k = j + 1 := ⟨k - 1, by omega⟩
     rw [iv, if_pos h2] at hR'
     obtain ⟨h2, h3, h4⟩ := h2
     have hst := td hk
     generalize hat : j + (3 - ((k + 1 : Nat) : Int)) = at_ at *
     have wa : IntKind.i64.wrap (10 * x) = 10 * x := aa (by omega) (by omega)
     have wb : IntKind.u8.wrap (bt s at_ - 48) = bt s at_ - 48 := fH (by omega) (by omega)
     have wc : IntKind.i64.wrap (bt s at_ - 48) = bt s at_ - 48 := aa (by omega) (by omega)
     have wd : IntKind.i64.wrap (10 * x + (bt s at_ - 48)) = 10 * x + (bt s at_ - 48) := aa (by omega) (by omega)
     have we : IntKind.i64.wrap (at_ + 1) = j + (3 - ((k : Nat) : Int)) := by rw [aa (by omega) (by omega)]; omega
     have wf : IntKind.i64.wrap (3 - ((k + 1 : Nat) : Int) + 1) = 3 - ((k : Nat) : Int) := by rw [aa (by omega) (by omega)]; omega
     refine wK ?_
     refine Wp.seq (Wp.block ?_)
     refine l9 Γ0 (oc bJ wa wb wc wd) ?_ ?_
     ·exact ⟨by omega, by omega⟩
     refine vr Γ0 (ab bJ we) ?_
     refine vr Γ0 (ab bJ wf) ?_
     refine ⟨(k, 10 * x + (bt s at_ - 48)), ⟨by simp only; omega, ⟨by simp only; omega, by simp only; omega⟩, by simp only; omega, by simp only; rw [show j + (3 - (k : Int)) = at_ + 1 by omega]; exact hR'⟩, by simp only; omega, ?_⟩
     exact wM (fun k => .key k) bJ
    ·have hst : ¬ (3 - (k : Int) < 3 /\ (j + (3 - (k : Int)) < s.size /\ 48 <= bt s (j + (3 - (k : Int))) /\ bt s (j + (3 - (k : Int))) <= 57)) := fun h => by
      apply Bool.eq_false_iff.1 hc
      simp only [Bool.and_eq_true, decide_eq_true_eq, kX]
      exact h
     have hRe : R = (x, j + (3 - (k : Int))) := by
      rw [<- hR']
      cases k with
      | zero => rfl
      | succ k => exact qv _ _ _ _ _ (fun h => hst ⟨by omega, h⟩)
     refine wE ?_
     refine ⟨(x, j + (3 - (k : Int))), ⟨hRe, ⟨hx0, by simp only; omega⟩, by simp only; omega, hi'⟩, rfl, rfl, ?_⟩
     exact wM (fun k => .key k) bJ
   rintro ⟨x, l⟩ ⟨hRe, hx, hl⟩ -
   simp only at hRe hx hl
   rw [hRe] at hE
   subst hRe
   clear hR
   dsimp only
   refine vR Γ0 (de bJ wl1 wl2) ?_
   refine Wp.seq ?_
   refine wR Γ0 bJ ?_ ?_
   ·exact fun h => by simp only [Bool.not_eq_true', Bool.or_eq_false_iff, decide_eq_false_iff_not] at h; omega
   refine wC bJ (fun hc => ?_) (fun hc => ?_)
   ·have h44 : ¬ (l < s.size /\ bt s l = 44) := by
     simp only [Bool.or_eq_true, decide_eq_true_eq, Bool.not_eq_true', decide_eq_false_iff_not] at hc
     omega
    refine wE ?_
    refine ⟨(1, x, 0, l), .inl ⟨rfl, rfl, hx, ⟨by simp only; omega, by simp only; omega⟩, by rw [hj]; exact hE, by rw [vU, if_neg h44]⟩, rfl, rfl, ?_⟩
    exact wM (fun k => .key k) bJ
   have h44 : l < s.size /\ bt s l = 44 := by
    simp only [Bool.or_eq_false_iff, decide_eq_false_iff_not, Bool.not_eq_false', decide_eq_true_eq] at hc
    omega
   have wl : IntKind.i64.wrap (l + 1) = l + 1 := aa (by omega) (by omega)
   refine wK ?_
   refine vR Γ0 (ab bJ wl) ?_
   refine wR Γ0 bJ ?_ ?_
   ·first | exact fun h => by omega | exact fun h => by (simp at h; omega)
   refine wC bJ (fun hc => ?_) (fun hc => ?_)
   ·have h125 : ¬ (¬ l + 1 < s.size \/ bt s (l + 1) ≠ 125) := by
     simp only [Bool.and_eq_true, decide_eq_true_eq] at hc
     omega
    refine vR Γ0 bJ ?_
    refine vr Γ0 bJ ?_
    refine ⟨(2, x, -1, l + 1), .inr (.inr ⟨rfl, hx, by simp only; omega, ⟨by simp only; omega, by simp only; omega⟩, l, by rw [hj]; exact hE, by rw [vU, if_pos h44, if_neg h125]⟩), by simp, ?_⟩
    exact wM (fun k => .key k) bJ
   ·have h125 : ¬ l + 1 < s.size \/ bt s (l + 1) ≠ 125 := by
     simp only [Bool.and_eq_false_iff, decide_eq_false_iff_not] at hc
     omega
    refine wK ?_
    refine ⟨(1, x, 0, l + 1), .inr (.inl ⟨rfl, rfl, hx, ⟨by simp only; omega, by simp only; omega⟩, by rw [hj]; show fU _ _ _ = .ok (x, l + 1 - 1); rw [Int.add_sub_cancel]; exact hE, by show vU _ _ x (l + 1 - 1) = _; rw [Int.add_sub_cancel, vU, if_pos h44, if_pos h125]⟩), by simp, ?_⟩
    exact wM (fun k => .key k) bJ
  ·simp only at hp hm hn hj hN hU
   subst hp hn
   have hjj := hj
   refine Wp.seq ?_
   refine vR Γ0 bJ ?_
   refine wC bJ (fun hc => ?_) (fun hc => ?_)
   rotate_left
   ·exfalso
    simp at hc
   refine wK ?_
   refine Wp.block ?_
   refine Wp.seq ?_
   refine wR Γ66 bJ ?_ ?_
   ·omega
   refine wC bJ (fun hc => ?_) (fun hc => ?_)
   ·have hd : sE s j = false := by simpa using hc
    have he : lx (bt s) s.size i = .error (20, j) := by
     rw [lx, hN]; simp only [hU, JJ s j hd]
    rw [he]
    refine vR Γ0 bJ ?_
    refine wZ bJ ?_
    exact fun E => rfl
   have hd : sE s j = true := by simpa using hc
   have hE := CW s j hd
   refine wK ?_
   generalize hR : iv (bt s) s.size 3 0 j = R at *
   refine iR (fun q : Int × Int => ⟨200, bQ [(0, .is (.v (.string s))), (1, .is (.v (.int .i64 i))), (9, .is (.v (.int .i64 q.2))), (10, .is (.own 64 0)), (11, .is (.v (.int .i64 1)))], bY [(64, .cells 298 [.v (.int .i64 m), .v (.int .i64 q.1)])]⟩) (fun _ => w) (fun _ => []) (fun q => R = q /\ (0 <= q.1 /\ q.1 <= 999) /\ (j <= q.2 /\ q.2 <= s.size)) ?_ ?_
   ·skip
    refine vR Γ0 bJ ?_
    refine Wp.block ?_
    refine Wp.loop (fun q : Nat × Int => ⟨70, bQ [(0, .is (.v (.string s))), (1, .is (.v (.int .i64 i))), (9, .is (.v (.int .i64 (j + (3 - (q.1 : Nat)))))), (10, .is (.own 64 0)), (11, .is (.v (.int .i64 1))), (12, .is (.v (.int .i64 (3 - (q.1 : Nat)))))], bY [(64, .cells 298 [.v (.int .i64 m), .v (.int .i64 q.2)])]⟩)
     (fun q => q.1 <= 3 /\ (0 <= q.2 /\ q.2 <= bd q.1) /\ j + (3 - (q.1 : Nat)) <= s.size /\ iv (bt s) s.size q.1 q.2 (j + (3 - (q.1 : Nat))) = R) (fun q => q.1) (3, 0) ?_ ⟨by simp, by simp [bd], by simp only; omega, by simpa using hR⟩ ?_
    ·exact wM (fun k => .key k) (eH bJ @Int.sub_self @Int.add_zero (show (3 : Int) - ((3 : Nat) : Int) = 0 from rfl))
    rintro ⟨k, x⟩ ⟨hk, ⟨hx0, hx1⟩, hi', hR'⟩
    simp only at hk hx0 hx1 hi' hR'
    have hbd := Jd k
    refine Wp.seq ?_
    refine wR Γ66 bJ ?_ ?_
    ·exact fun _ => by omega
    refine wC bJ (fun hc => ?_) (fun hc => ?_)
    ·simp only [Bool.and_eq_true, decide_eq_true_eq, kX] at hc
     obtain ⟨h1, h2⟩ := hc
     obtain ⟨k, rfl⟩ : ∃ j, k = j + 1 := ⟨k - 1, by omega⟩
     rw [iv, if_pos h2] at hR'
     obtain ⟨h2, h3, h4⟩ := h2
     have hst := td hk
     generalize hat : j + (3 - ((k + 1 : Nat) : Int)) = at_ at *
     have wa : IntKind.i64.wrap (10 * x) = 10 * x := aa (by omega) (by omega)
     have wb : IntKind.u8.wrap (bt s at_ - 48) = bt s at_ - 48 := fH (by omega) (by omega)
     have wc : IntKind.i64.wrap (bt s at_ - 48) = bt s at_ - 48 := aa (by omega) (by omega)
     have wd : IntKind.i64.wrap (10 * x + (bt s at_ - 48)) = 10 * x + (bt s at_ - 48) := aa (by omega) (by omega)
     have we : IntKind.i64.wrap (at_ + 1) = j + (3 - ((k : Nat) : Int)) := by rw [aa (by omega) (by omega)]; omega
     have wf : IntKind.i64.wrap (3 - ((k + 1 : Nat) : Int) + 1) = 3 - ((k : Nat) : Int) := by rw [aa (by omega) (by omega)]; omega
     refine wK ?_
     refine Wp.seq (Wp.block ?_)
     refine l9 Γ0 (oc bJ wa wb wc wd) ?_ ?_
     ·exact ⟨by omega, by omega⟩
     refine vr Γ0 (ab bJ we) ?_
     refine vr Γ0 (ab bJ wf) ?_
     refine ⟨(k, 10 * x + (bt s at_ - 48)), ⟨by simp only; omega, ⟨by simp only; omega, by simp only; omega⟩, by simp only; omega, by simp only; rw [show j + (3 - (k : Int)) = at_ + 1 by omega]; exact hR'⟩, by simp only; omega, ?_⟩
     exact wM (fun k => .key k) bJ
    ·have hst : ¬ (3 - (k : Int) < 3 /\ (j + (3 - (k : Int)) < s.size /\ 48 <= bt s (j + (3 - (k : Int))) /\ bt s (j + (3 - (k : Int))) <= 57)) := fun h => by
      apply Bool.eq_false_iff.1 hc
      simp only [Bool.and_eq_true, decide_eq_true_eq, kX]
      exact h
     have hRe : R = (x, j + (3 - (k : Int))) := by
      rw [<- hR']
      cases k with
      | zero => rfl
      | succ k => exact qv _ _ _ _ _ (fun h => hst ⟨by omega, h⟩)
     refine wE ?_
     refine ⟨(x, j + (3 - (k : Int))), ⟨hRe, ⟨hx0, by simp only; omega⟩, by simp only; omega, hi'⟩, rfl, rfl, ?_⟩
     exact wM (fun k => .key k) bJ
   rintro ⟨x, l⟩ ⟨hRe, hx, hl⟩ -
   simp only at hRe hx hl
   rw [hRe] at hE
   subst hRe
   clear hR
   dsimp only
   refine vR Γ0 (de bJ wl1 wl2) ?_
   refine Wp.seq ?_
   refine wR Γ0 bJ ?_ ?_
   ·first | trivial | exact fun h => by simp at h | (trace_state; omega)
   refine wC bJ (fun hc => ?_) (fun hc => ?_)
   rotate_left
   ·exfalso
    simp at hc
   refine wE ?_
   refine ⟨(2, m, x, l), .inr ⟨rfl, hm, by simp only; omega, ⟨by simp only; omega, by simp only; omega⟩, j - 1, hN, by rw [hU, hE]⟩, rfl, rfl, ?_⟩
   exact wM (fun k => .key k) bJ
  ·simp only at hp hm hn hj hN hU
   subst hp
   refine Wp.seq ?_
   refine vR Γ0 bJ ?_
   refine wC bJ (fun hc => ?_) (fun hc => ?_)
   ·exfalso
    simp at hc
   refine wE ?_
   refine ⟨(2, m, n, j), .inr ⟨rfl, hm, hn, hj, l, hN, hU⟩, rfl, rfl, ?_⟩
   exact wM (fun k => .key k) bJ
 have fin : ∀ m n j : Int, (0 <= m /\ m <= 999) -> (-1 <= n /\ n <= 999) -> (i < j /\ j <= s.size) -> lx (bt s) s.size i = kW (bt s) s.size m n j i ->
   ∃ m' n' : Int, True := fun m n j _ _ _ _ => ⟨m, n, trivial⟩
 refine fun p hp _ => iR (fun p : Int × Int × Int => ⟨300, bQ [(0, .is (.v (.string s))), (1, .is (.v (.int .i64 i))), (9, .is (.v (.int .i64 p.2.2))), (10, .is (.own 64 0))], bY [(64, .cells 298 [.v (.int .i64 p.1), .v (.int .i64 p.2.1)])]⟩) (fun _ => w) (fun _ => [])
  (fun p => (0 <= p.1 /\ p.1 <= 999) /\ (-1 <= p.2.1 /\ p.2.1 <= 999) /\ (i < p.2.2 /\ p.2.2 <= s.size) /\ lx (bt s) s.size i = kW (bt s) s.size p.1 p.2.1 p.2.2 i) ?_ ?_
 ·obtain ⟨p, m, n, j⟩ := p
  rcases hp with ⟨hp, hn, hm, hj, hN, hU⟩ | ⟨hp, hm, hn, hj, l, hN, hU⟩
  ·simp only at hp hn hm hj hN hU
   subst hp hn
   dsimp only
   refine vR Γ0 bJ ?_
   refine wC bJ (fun hc => ?_) (fun hc => ?_)
   rotate_left
   ·exfalso
    simp at hc
   refine vr Γ0 bJ ?_
   refine ⟨(m, m, j), ⟨hm, by simp only; omega, hj, by rw [lx, hN]; simp only [hU]⟩, rfl, rfl, ?_⟩
   exact wM (fun k => .key k) bJ
  ·simp only at hp hn hm hj hN hU
   subst hp
   dsimp only
   refine vR Γ0 bJ ?_
   refine wC bJ (fun hc => ?_) (fun hc => ?_)
   ·exfalso
    simp at hc
   refine wK ?_
   refine ⟨(m, n, j), ⟨hm, hn, hj, by rw [lx, hN]; simp only [hU]⟩, rfl, rfl, ?_⟩
   exact wM (fun k => .key k) bJ
 rintro ⟨m, n, j⟩ ⟨hm, hn, hj, he⟩ -
 simp only at hm hn hj he
 rw [he]
 dsimp only
 refine Wp.seq ?_
 refine wR Γ0 bJ ?_ ?_
 ·exact fun h => by simp only [Bool.not_eq_true', Bool.or_eq_false_iff, decide_eq_false_iff_not] at h; omega
 refine wC bJ (fun hc => ?_) (fun hc => ?_)
 ·have h125 : ¬ j < s.size \/ bt s j ≠ 125 := by
   simp only [Bool.or_eq_true, decide_eq_true_eq, Bool.not_eq_true', decide_eq_false_iff_not] at hc
   omega
  rw [kW, if_pos h125]
  refine vR Γ0 bJ ?_
  refine wZ bJ ?_
  exact fun E => rfl
 have h125 : ¬ (¬ j < s.size \/ bt s j ≠ 125) := by
  simp only [Bool.or_eq_false_iff, decide_eq_false_iff_not, Bool.not_eq_false', decide_eq_true_eq] at hc
  omega
 refine wK ?_
 refine Wp.seq ?_
 refine vR Γ0 bJ ?_
 refine wC bJ (fun hc => ?_) (fun hc => ?_)
 ·have hb : 255 < m \/ 255 < n \/ (0 <= n /\ n < m) := by
   simp only [Bool.or_eq_true, Bool.and_eq_true, decide_eq_true_eq] at hc
   omega
  rw [kW, if_neg h125, if_pos hb]
  refine vR Γ0 bJ ?_
  refine wZ bJ ?_
  exact fun E => rfl
 have hb : ¬ (255 < m \/ 255 < n \/ (0 <= n /\ n < m)) := by
  intro hb
  apply Bool.eq_false_iff.1 hc
  simp only [Bool.or_eq_true, Bool.and_eq_true, decide_eq_true_eq]
  omega
 rw [kW, if_neg h125, if_neg hb]
 refine wK ?_
 have wj : IntKind.i64.wrap (j + 1) = j + 1 := aa (by omega) (by omega)
 refine R0 Γ0 (ab bJ wj) ?_
 refine wZ bJ ?_
 exact fun E => rfl
def o5 : aU Tryz.prog 118 where
 pre := fun W bs => fun | [.val (.string s), .val (.int .i64 i)] => 0 <= i /\ i < s.size /\ s.size <= 140737488351232 | _ => False
 res := fun W => fun | [.val (.string s), .val (.int .i64 i)] => QS (lx (bt s) s.size i) | _ => undef
 enters := Tryz.call118
 ok := by
  intro W w bs us as_ hk hu hp
  split at hp
  ·rename_i s i
   match us, hu with
   | [u0, u1], hu =>
    obtain ⟨rfl, rfl, _⟩ := hu
    exact BK s i hp.1 hp.2.1 hp.2.2 w
  ·exact hp.elim
theorem Ar (W : World) (s : ByteArray) (i : Int) : o5.res W [.val (.string s), .val (.int .i64 i)] = QS (lx (bt s) s.size i) := rfl
theorem zO (W : World) (bs : List Nat) (s : ByteArray) (i : Int) : o5.pre W bs [.val (.string s), .val (.int .i64 i)] = (0 <= i /\ i < s.size /\ s.size <= 140737488351232) := rfl
end
section
open Go.RowKit Go.LE
set_option maxRecDepth 10000
theorem F8 {x y p q : Int} (h0 : 0 <= x) (h1 : x <= p) (h2 : 0 <= y) (h3 : y <= q) : 0 <= x * y /\ x * y <= p * q :=
 ⟨Int.mul_nonneg h0 h2, Int.mul_le_mul h1 h3 h2 (by omega)⟩
def jR := (aq jb cW cX c8 cT cZ c9 (lX cR cV @aN @au @aA @az))
set_option maxHeartbeats 2000000 in
theorem Em (a m n : Int) (h0 : 0 <= a) (h1 : a <= 2001) (hmn : rq m n) (w : World) : Calls Tryz.prog 175 #[.int .i64 a, .int .i64 m, .int .i64 n] w fun e w' => e = .returned (.int .i64 (cU a m n)) /\ ai w [] w' := by
 refine aj (nt := 59) [.tmp 6] Tryz.func175 rfl rfl rfl ?_
 unfold rq at hmn
 refine vR Γ0 jR ?_
 refine Wp.seq ?_
 refine vR Γ0 jR ?_
 refine wC jR (fun hc => ?_) (fun hc => ?_)
 ·have hm : m = -2 := by simpa using hc
  have e1 : IntKind.i64.wrap (a + 1) = a + 1 := aa (by omega) (by omega)
  have e2 : IntKind.i64.wrap (a + 1 + a) = a + 1 + a := aa (by omega) (by omega)
  have e3 : IntKind.i64.wrap (a + 1 + a + 1) = a + 1 + a + 1 := aa (by omega) (by omega)
  rw [cU, if_pos hm]
  refine vR Γ0 (eH jR e1 e2 e3) ?_
  refine wZ jR ?_
  exact fun E => rfl
 have hm : ¬ m = -2 := by simpa using hc
 have hm0 : 0 <= m /\ m <= 255 /\ n <= 255 := by omega
 have hma := F8 hm0.1 hm0.2.1 h0 h1
 rw [cU, if_neg hm]
 refine wK ?_
 refine Wp.seq ?_
 refine vR Γ0 jR ?_
 refine wC jR (fun hc => ?_) (fun hc => ?_)
 ·have h2 : n < 0 /\ m = 0 := by simpa using hc
  have e1 : IntKind.i64.wrap (a + 1) = a + 1 := aa (by omega) (by omega)
  rw [if_pos h2]
  refine vR Γ0 (ab jR e1) ?_
  refine wZ jR ?_
  exact fun E => rfl
 have h2 : ¬ (n < 0 /\ m = 0) := by
  intro h
  apply Bool.eq_false_iff.1 hc
  simp [h.1, h.2]
 rw [if_neg h2]
 refine wK ?_
 refine Wp.seq ?_
 refine vR Γ0 jR ?_
 refine wC jR (fun hc => ?_) (fun hc => ?_)
 ·have h3 : n < 0 := by simpa using hc
  have e0 : IntKind.i64.wrap (m * a) = m * a := aa (by omega) (by omega)
  have e1 : IntKind.i64.wrap (m * a + m) = m * a + m := aa (by omega) (by omega)
  have e2 : IntKind.i64.wrap (m * a + m - 1) = m * a + m - 1 := aa (by omega) (by omega)
  have e3 : IntKind.i64.wrap (m * a + m - 1 + 1) = m * a + m - 1 + 1 := aa (by omega) (by omega)
  have e4 : IntKind.i64.wrap (m * a + m - 1 + 1 + a) = m * a + m - 1 + 1 + a := aa (by omega) (by omega)
  have e5 : IntKind.i64.wrap (m * a + m - 1 + 1 + a + 1) = m * a + m - 1 + 1 + a + 1 := aa (by omega) (by omega)
  rw [if_pos h3]
  refine vR Γ0 (yR jR e0 e1 e2 e3 e4 e5) ?_
  refine wZ jR ?_
  exact fun E => rfl
 have h3 : ¬ n < 0 := by simpa using hc
 rw [if_neg h3]
 refine wK ?_
 refine Wp.seq ?_
 refine vR Γ0 jR ?_
 refine wC jR (fun hc => ?_) (fun hc => ?_)
 ·have h4 : n = 0 := by simpa using hc
  rw [if_pos h4]
  refine vR Γ0 jR ?_
  refine wZ jR ?_
  exact fun E => rfl
 have h4 : ¬ n = 0 := by simpa using hc
 rw [if_neg h4]
 refine wK ?_
 refine Wp.seq ?_
 refine vR Γ0 jR ?_
 refine wC jR (fun hc => ?_) (fun hc => ?_)
 ·have h5 : m = 0 := by simpa using hc
  have hna := F8 (x := n) (y := a + 2) (p := 255) (q := 2003) (by omega) (by omega) (by omega) (by omega)
  have e0 : IntKind.i64.wrap (a + 2) = a + 2 := aa (by omega) (by omega)
  have e1 : IntKind.i64.wrap (n * (a + 2)) = n * (a + 2) := aa (by omega) (by omega)
  have e2 : IntKind.i64.wrap (n * (a + 2) + n) = n * (a + 2) + n := aa (by omega) (by omega)
  have e3 : IntKind.i64.wrap (n * (a + 2) + n - 1) = n * (a + 2) + n - 1 := aa (by omega) (by omega)
  rw [if_pos h5]
  refine vR Γ0 (oc jR e0 e1 e2 e3) ?_
  refine wZ jR ?_
  exact fun E => rfl
 have h5 : ¬ m = 0 := by simpa using hc
 have hnm := F8 (x := n - m) (y := a + 2 + 1) (p := 255) (q := 2004) (by omega) (by omega) (by omega) (by omega)
 have e0 : IntKind.i64.wrap (m * a) = m * a := aa (by omega) (by omega)
 have e1 : IntKind.i64.wrap (m * a + m) = m * a + m := aa (by omega) (by omega)
 have e2 : IntKind.i64.wrap (m * a + m - 1) = m * a + m - 1 := aa (by omega) (by omega)
 have e3 : IntKind.i64.wrap (n - m) = n - m := aa (by omega) (by omega)
 have e4 : IntKind.i64.wrap (a + 2) = a + 2 := aa (by omega) (by omega)
 have e5 : IntKind.i64.wrap (a + 2 + 1) = a + 2 + 1 := aa (by omega) (by omega)
 have e6 : IntKind.i64.wrap ((n - m) * (a + 2 + 1)) = (n - m) * (a + 2 + 1) := aa (by omega) (by omega)
 have e7 : IntKind.i64.wrap (m * a + m - 1 + (n - m) * (a + 2 + 1)) = m * a + m - 1 + (n - m) * (a + 2 + 1) := aa (by omega) (by omega)
 rw [if_neg h5]
 refine wK ?_
 refine vR Γ0 (aq jR e0 e1 e2 e3 e4 e5 (ab e6 e7)) ?_
 refine wZ jR ?_
 exact fun E => rfl
def sT : aU Tryz.prog 175 where
 pre := fun W bs => fun | [.val (.int .i64 a), .val (.int .i64 m), .val (.int .i64 n)] => (0 <= a /\ a <= 2001) /\ rq m n | _ => False
 res := fun W => fun | [.val (.int .i64 a), .val (.int .i64 m), .val (.int .i64 n)] => .int .i64 (cU a m n) | _ => undef
 enters := Tryz.call175
 ok := by
  intro W w bs us as_ hk hu hp
  split at hp
  ·rename_i a m n
   match us, hu with
   | [u0, u1, u2], hu =>
    obtain ⟨rfl, rfl, rfl, _⟩ := hu
    exact Em a m n hp.1.1 hp.1.2 hp.2 w
  ·exact hp.elim
theorem Eb (W : World) (a : Int) (m : Int) (n : Int) : sT.res W [.val (.int .i64 a), .val (.int .i64 m), .val (.int .i64 n)] = .int .i64 (cU a m n) := rfl
theorem Cf (W : World) (bs : List Nat) (a : Int) (m : Int) (n : Int) : sT.pre W bs [.val (.int .i64 a), .val (.int .i64 m), .val (.int .i64 n)] = ((0 <= a /\ a <= 2001) /\ rq m n) := rfl
end
section
open Go.RowKit Go.LE
set_option maxRecDepth 10000
noncomputable def Γ67 : Env Tryz.prog := ⟨fun | 175 => some sT.spec | _ => none, fun | _ => none, fun _ _ => none⟩
theorem Gt67c175 : Γ67.sp 175 = some sT.spec := rfl
def Ha (ar : List Nd) : Prop := ∀ k (h : k < ar.length), (0 <= ar[k].op /\ ar[k].op <= 7) /\ (2 <= ar[k].op -> 0 <= ar[k].a /\ ar[k].a < k) /\ (2 <= ar[k].op -> ar[k].op ≠ 7 -> 0 <= ar[k].b /\ ar[k].b < k) /\ (ar[k].op = 7 -> rq ar[k].m ar[k].n)
theorem NM.ok {ts : List RT} {d : Nd} {t : RT} (h : NM ts d t) : (0 <= d.op /\ d.op <= 7) /\ (2 <= d.op -> 0 <= d.a /\ d.a < ts.length) /\ (2 <= d.op -> d.op ≠ 7 -> 0 <= d.b /\ d.b < ts.length) /\ (d.op = 7 -> rq d.m d.n) := by
 have lt : ∀ {x : Int} {a : RT}, 0 <= x -> ts[x.toNat]? = some a -> x < ts.length := fun {x a} h0 h => by
  have := (List.getElem?_eq_some_iff.1 h).1
  omega
 cases h with
 | eps h0 _ => exact ⟨by omega, fun h => by omega, fun h => by omega, fun h => by omega⟩
 | cls h0 => exact ⟨by omega, fun h => by omega, fun h => by omega, fun h => by omega⟩
 | cat a b h0 h1 h2 h3 h4 => exact ⟨by omega, fun h => ⟨h1, lt h1 h2⟩, fun h _ => ⟨h3, lt h3 h4⟩, fun h => by omega⟩
 | alt a b h0 h1 h2 h3 h4 => exact ⟨by omega, fun h => ⟨h1, lt h1 h2⟩, fun h _ => ⟨h3, lt h3 h4⟩, fun h => by omega⟩
 | and a b h0 h1 h2 h3 h4 => exact ⟨by omega, fun h => ⟨h1, lt h1 h2⟩, fun h _ => ⟨h3, lt h3 h4⟩, fun h => by omega⟩
 | minus a b h0 h1 h2 h3 h4 => exact ⟨by omega, fun h => ⟨h1, lt h1 h2⟩, fun h _ => ⟨h3, lt h3 h4⟩, fun h => by omega⟩
 | rep a h0 h1 h2 h3 => exact ⟨by omega, fun h => ⟨h1, lt h1 h2⟩, fun h h' => absurd h0 h', fun _ => h3⟩
theorem AR.ok {ar : List Nd} {ts : List RT} (h : AR ar ts) : Ha ar := by
 induction h with
 | nil => intro k hk; cases hk
 | @snoc ar ts d t ha hn ih =>
  intro k hk
  by_cases hlt : k < ar.length
  ·rw [List.getElem_append_left hlt]
   exact ih k hlt
  ·have hk' : k = ar.length := by simp at hk; omega
   subst hk'
   have := hn.ok
   rw [ha.len] at this
   rw [List.getElem_append_right (Nat.le_refl _)]
   simpa using this
theorem Eo : ∀ (l : List Nd) (k j : Nat) (hk : k < l.length), j < 261 -> (cN l)[k * 261 + j]? = l[k].bh[j]?
 | d :: r, 0, j, _, hj => by
  show (d.bh ++ cN r)[0 * 261 + j]? = _
  rw [List.getElem?_append_left (by rw [Nd.fZ]; omega)]
  simp
 | d :: r, k + 1, j, hk, hj => by
  show (d.bh ++ cN r)[(k + 1) * 261 + j]? = _
  rw [List.getElem?_append_right (by rw [Nd.fZ]; omega), Nd.fZ, show (k + 1) * 261 + j - 261 = k * 261 + j by omega]
  have := Eo r k j (by simpa using hk) hj
  simpa using this
theorem Nd.Wb (d : Nd) : d.bh[0]? = some (.int .i64 d.op) := rfl
theorem Nd.mZ (d : Nd) (j : Nat) : d.bh[257 + j]? = [Value.int .i64 d.a, .int .i64 d.b, .int .i64 d.m, .int .i64 d.n][j]? := by
 have e : d.bh = (Value.int .i64 d.op :: eW d.set.getLsbD) ++ [.int .i64 d.a, .int .i64 d.b, .int .i64 d.m, .int .i64 d.n] := rfl
 rw [e, List.getElem?_append_right (by rw [List.length_cons, nF]; omega), List.length_cons, nF, show 257 + j - (256 + 1) = j by omega]
theorem kn.nd {w : World} {ao : Option Addr} {l : List Nd} (h : kn w ao (cN l)) {k : Nat} (hk : k < l.length) : ∃ b o, ao = some ⟨b, o, none⟩ /\
  w.cell? ⟨b, o + k * 261, none⟩ = some (.int .i64 l[k].op) /\ w.cell? ⟨b, o + k * 261 + 257, none⟩ = some (.int .i64 l[k].a) /\ w.cell? ⟨b, o + k * 261 + 258, none⟩ = some (.int .i64 l[k].b) /\
  w.cell? ⟨b, o + k * 261 + 259, none⟩ = some (.int .i64 l[k].m) /\ w.cell? ⟨b, o + k * 261 + 260, none⟩ = some (.int .i64 l[k].n) := by
 have hl := JO l
 rcases h with h | ⟨b, o, rfl, hc⟩
 ·rw [h] at hl; simp at hl; omega
 ·have key : ∀ j (hj : j < 261) (v : Value), l[k].bh[j]? = some v -> w.cell? ⟨b, o + k * 261 + j, none⟩ = some v := fun j hj v hv => by
   have hlt : k * 261 + j < (cN l).length := by omega
   have h1 := hc (k * 261 + j) hlt
   have h2 := Eo l k j hk hj
   rw [List.getElem?_eq_getElem hlt, hv] at h2
   rw [<- Nat.add_assoc] at h1
   rw [h1, h2]
  exact ⟨b, o, rfl, key 0 (by omega) _ (Nd.Wb _), key 257 (by omega) _ (Nd.mZ _ 0), key 258 (by omega) _ (Nd.mZ _ 1), key 259 (by omega) _ (Nd.mZ _ 2), key 260 (by omega) _ (Nd.mZ _ 3)⟩
def iV (Z : List Int) : List Value := Z.map (.int .i64)
theorem IV (Z : List Int) : (List.map SV.v (iV Z)).length = Z.length := by simp [iV]
theorem yZ (Z : List Int) (k : Nat) (hk : k < Z.length) : (List.map SV.v (iV Z)).getD k (.v undef) = .v (.int .i64 (Z.getD k 0)) := by
 simp [iV, List.getD_eq_getElem?_getD, hk]
theorem tL (Z : List Int) (k : Nat) (x : Int) (hk : k < Z.length) : List.take k (List.map SV.v (iV Z)) ++ [SV.v (.int .i64 x)] ++ List.drop (k + 1) (List.map SV.v (iV Z)) = List.map SV.v (iV (Z.set k x)) := by
 rw [List.set_eq_take_append_cons_drop, if_pos hk]
 simp [iV]
def zZ (ar : List Nd) (k : Nat) : List Int := lU (ar.take k) ++ List.replicate (ar.length - k) 0
theorem vq (ar : List Nd) (d : Nd) : lU (ar ++ [d]) = lU ar ++ [Gt (lU ar) d] := by
 unfold lU
 rw [List.foldl_append]; rfl
theorem Ja {α : Type} {P : List α -> Prop} (h0 : P []) (h1 : ∀ l d, P l -> P (l ++ [d])) (l : List α) : P l := by
 have key : ∀ m : List α, P m.reverse := fun m => by
  induction m with
  | nil => exact h0
  | cons d r ih => rw [List.reverse_cons]; exact h1 _ _ ih
 have := key l.reverse
 rwa [List.reverse_reverse] at this
theorem kb (ar : List Nd) : (lU ar).length = ar.length := by
 refine Ja (P := fun ar => (lU ar).length = ar.length) rfl (fun ar d ih => ?_) ar
 ·rw [vq, List.length_append, List.length_append, ih]; rfl
theorem VF (ar : List Nd) (k : Nat) (hk : k <= ar.length) : (zZ ar k).length = ar.length := by
 rw [zZ, List.length_append, kb, List.length_take, List.length_replicate]; omega
theorem VO (ar : List Nd) (k j : Nat) (hj : j < k) (hk : k <= ar.length) : (zZ ar k).getD j 0 = (lU (ar.take k)).getD j 0 := by
 rw [List.getD_eq_getElem?_getD, List.getD_eq_getElem?_getD, zZ, List.getElem?_append_left (by rw [kb, List.length_take]; omega)]
theorem Wm (ar : List Nd) (k : Nat) (hk : k < ar.length) : (zZ ar k).set k (Gt (lU (ar.take k)) ar[k]) = zZ ar (k + 1) := by
 have hl : (lU (ar.take k)).length = k := by rw [kb, List.length_take]; omega
 have ht : ar.take (k + 1) = ar.take k ++ [ar[k]] := by rw [List.take_succ_eq_append_getElem hk]
 rw [zZ, zZ, ht, vq, List.set_append_right _ _ (by omega), hl, Nat.sub_self, show ar.length - k = (ar.length - (k + 1)) + 1 by omega, List.replicate_succ, List.set_cons_zero, List.append_assoc]
 rfl
theorem Td (ar : List Nd) : List.map SV.v (List.replicate ar.length [Value.int .i64 0]).flatten = List.map SV.v (iV (zZ ar 0)) := by
 have : ∀ n : Nat, (List.replicate n [Value.int .i64 0]).flatten = iV (List.replicate n 0) := fun n => by
  induction n with
  | zero => rfl
  | succ n ih => rw [List.replicate_succ, List.flatten_cons, ih]; rfl
 rw [this]
 simp [zZ, lU]
theorem Wg (ar : List Nd) (hok : Ha ar) : ∀ j, j < ar.length -> 0 <= (lU ar).getD j 0 /\ (lU ar).getD j 0 <= 2001 := by
 revert hok
 refine Ja (P := fun ar => Ha ar -> ∀ j, j < ar.length -> 0 <= (lU ar).getD j 0 /\ (lU ar).getD j 0 <= 2001) (fun _ j hj => by cases hj) (fun ar d ih hok => ?_) ar
 ·skip
  have hok' : Ha ar := fun k hk => by
   have := hok k (by simp; omega)
   rw [List.getElem_append_left hk] at this
   exact this
  intro j hj
  rw [vq, List.getD_eq_getElem?_getD]
  by_cases hlt : j < ar.length
  ·rw [List.getElem?_append_left (by rw [kb]; exact hlt), <- List.getD_eq_getElem?_getD]
   exact ih hok' j hlt
  ·have hj' : j = ar.length := by simp at hj; omega
   subst hj'
   have hd := hok ar.length (by simp)
   rw [List.getElem_append_right (Nat.le_refl _)] at hd
   simp only [Nat.sub_self, List.getElem_cons_zero] at hd
   rw [List.getElem?_append_right (by rw [kb]; exact Nat.le_refl _), kb, Nat.sub_self]
   show 0 <= Gt (lU ar) d /\ Gt (lU ar) d <= 2001
   have hv : 0 <= mj (lU ar) d := by
    unfold mj
    split
    ·omega
    ·rename_i h1
     have ha := hd.2.1 (by omega)
     have hA := ih hok' d.a.toNat (by omega)
     split
     ·rename_i h7
      exact xG hA.1 (hd.2.2.2 h7)
     ·rename_i h7
      have hb := hd.2.2.1 (by omega) h7
      have hB := ih hok' d.b.toNat (by omega)
      omega
   unfold Gt
   split <;> omega
def eo := (aq jV jW jb cW cX c8 cT (aq cZ c9 cR cV rG rQ sr (aq pY CX B8 BC Du pX sc (aq sv qg su rT rS rJ sa (aq rD sq @aN @au @aA @az @Eb (de @Cf Gt67c175 @IV))))))
set_option maxHeartbeats 2000000 in
theorem JW (ar : List Nd) (hok : Ha ar) (hln : ar.length <= 4000000) (ao : Option Addr) (c : Nat) (w : World) (hl : kn w ao (cN ar)) :
  Calls Tryz.prog 123 #[.slice ao ar.length c] w fun e w' =>
   ∃ u fp, e = .returned u /\ (∀ E', bn E' u fp w' (.row 3 1 ar.length ((iV (lU ar)).map .v))) /\ (∀ b ∈ fp, w.heap.size <= b /\ b < w'.heap.size) /\ ai w [] w' := by
 refine mP (nt := 80) id [.tmp 2] Tryz.func123 rfl rfl rfl ?_
 refine vR Γ0 eo ?_
 refine vR Γ0 (ab eo @Td) ?_
 refine Wp.seq ?_
 refine vR Γ0 eo ?_
 refine Wp.block ?_
 refine Wp.loop (fun k : Nat => ⟨20, bQ [(0, .is (.v (.slice ao ar.length c))), (3, .is (.hd 24)), (4, .is (.v (.int .i64 (k : Nat))))], bY [(24, .row 3 1 ar.length (List.map SV.v (iV (zZ ar k))))]⟩) (fun k => k <= ar.length) (fun k => ar.length - k) 0 ?_ (Nat.zero_le _) ?_
 ·exact wM (fun k => .key k) eo
 rintro k h1
 refine Wp.seq ?_
 refine vR Γ0 eo ?_
 refine wC eo (fun hc => ?_) (fun hc => ?_)
 ·have hk : k < ar.length := by
   simp at hc
   omega
  obtain ⟨b, o, rfl, c0, c1, c2, c3, c4⟩ := kn.nd hl hk
  have hd := hok k hk
  have hS := Wm ar k hk
  have hZl := VF ar k h1
  have hZb : ∀ x : Int, 0 <= x -> x < k -> (zZ ar k).getD x.toNat 0 = (lU (ar.take k)).getD x.toNat 0 := fun x h0 hx => VO ar k x.toNat (by omega) h1
  have hok' : Ha (ar.take k) := fun j hj => by
   rw [List.length_take] at hj
   rw [List.getElem_take]
   exact hok j (by omega)
  have hB := Wg (ar.take k) hok'
  have hB' : ∀ x : Int, 0 <= x -> x < k -> 0 <= (lU (ar.take k)).getD x.toNat 0 /\ (lU (ar.take k)).getD x.toNat 0 <= 2001 := fun x h0 hx => hB x.toNat (by rw [List.length_take]; omega)
  have hsz : Gt (lU (ar.take k)) ar[k] = if 2001 < mj (lU (ar.take k)) ar[k] then 2001 else mj (lU (ar.take k)) ar[k] := rfl
  have wk : IntKind.i64.wrap ((k : Int) + 1) = ((k + 1 : Nat) : Int) := by rw [aa (by omega) (by omega)]; omega
  rw [hsz] at hS
  generalize ar[k] = d at *
  generalize hsL : lU (ar.take k) = sz at *
  generalize hZZ : zZ ar k = Z at *
  generalize hZ1 : zZ ar (k + 1) = Z1 at *
  refine wK ?_
  refine Wp.seq (Wp.block ?_)
  refine vR Γ0 eo ?_
  refine bp ⟨40, bQ [(0, .is (.v (.slice (some ⟨b, o, none⟩) ar.length c))), (3, .is (.hd 24)), (4, .is (.v (.int .i64 (k : Nat)))), (5, .is (.v (.int .i64 (if 2 <= d.op then sz.getD d.a.toNat 0 else 0))))], bY [(24, .row 3 1 ar.length (List.map SV.v (iV Z)))]⟩ ?_ ?_
  ·skip
   refine wR Γ0 (ab eo c0) ?_ ?_
   ·omega
   refine wC eo (fun hc => ?_) (fun hc => ?_)
   ·have h2 : 2 <= d.op := by simpa using hc
    have ha := hd.2.1 h2
    rw [if_pos h2]
    refine wr Γ0 (eH eo c1 (yZ Z d.a.toNat (by omega)) (hZb d.a ha.1 ha.2)) ?_ ?_
    ·omega
    exact wM (fun k => .key k) eo
   ·have h2 : ¬ 2 <= d.op := by simpa using hc
    rw [if_neg h2]
    refine wK ?_
    exact wM (fun k => .key k) eo
  generalize h5 : (if 2 <= d.op then sz.getD d.a.toNat 0 else 0) = t5
  refine bp ⟨70, bQ [(0, .is (.v (.slice (some ⟨b, o, none⟩) ar.length c))), (3, .is (.hd 24)), (4, .is (.v (.int .i64 (k : Nat))))], bY [(24, .row 3 1 ar.length (List.map SV.v (iV (Z.set k (mj sz d)))))]⟩ ?_ ?_
  ·skip
   refine wR Γ0 (ab eo c0) ?_ ?_
   ·omega
   refine Wp.block ?_
   refine Wp.seq ?_
   refine vR Γ0 eo ?_
   refine wC eo (fun hc => ?_) (fun hc => ?_)
   ·have h0 : d.op = 0 := by simpa using hc
    have hv : mj sz d = 1 := by rw [mj, if_pos (.inl h0)]
    rw [hv]
    refine wK ?_
    refine wC eo (fun hc => ?_) (fun hc => ?_)
    rotate_left
    ·exfalso
     simp [h0] at hc
    refine wr Γ0 (ab eo (tL Z k 1 (by omega))) ?_ ?_
    ·omega
    exact wM (fun k => .key k) eo
   have h0 : ¬ d.op = 0 := by simpa using hc
   refine vr Γ0 eo ?_
   refine wC eo (fun hc => ?_) (fun hc => ?_)
   ·have h1' : d.op = 1 := by simpa using hc
    have hv : mj sz d = 1 := by rw [mj, if_pos (.inr h1')]
    rw [hv]
    refine wr Γ0 (ab eo (tL Z k 1 (by omega))) ?_ ?_
    ·omega
    exact wM (fun k => .key k) eo
   have h1' : ¬ d.op = 1 := by simpa using hc
   have h2 : 2 <= d.op := by omega
   have ha := hd.2.1 h2
   have hA := hB' d.a ha.1 ha.2
   rw [if_pos h2] at h5
   rw [h5] at hA
   refine vR Γ0 eo ?_
   refine wC eo (fun hc => ?_) (fun hc => ?_)
   ·have h7 : d.op = 7 := by simpa using hc
    have hv : mj sz d = cU t5 d.m d.n := by rw [mj, if_neg (by omega), if_pos h7, h5]
    have hmn := hd.2.2.2 h7
    rw [hv]
    refine sx Γ67 (eH eo c3 c4 (tL Z k (cU t5 d.m d.n) (by omega))) ?_ ?_
    ·exact ⟨by omega, by omega, ⟨hA, hmn⟩, by omega, by omega⟩
    exact wM (fun k => .key k) eo
   ·have h7 : ¬ d.op = 7 := by simpa using hc
    have hb := hd.2.2.1 h2 h7
    have hBb := hB' d.b hb.1 hb.2
    have hv : mj sz d = 1 + t5 + sz.getD d.b.toNat 0 := by rw [mj, if_neg (by omega), if_neg h7, h5]
    have e1 : IntKind.i64.wrap (1 + t5) = 1 + t5 := aa (by omega) (by omega)
    have e2 : IntKind.i64.wrap (1 + t5 + sz.getD d.b.toNat 0) = 1 + t5 + sz.getD d.b.toNat 0 := aa (by omega) (by omega)
    rw [hv]
    refine wr Γ0 (yR eo c2 (yZ Z d.b.toNat (by omega)) (hZb d.b hb.1 hb.2) e1 e2 (tL Z k (1 + t5 + sz.getD d.b.toNat 0) (by omega))) ?_ ?_
    ·omega
    exact wM (fun k => .key k) eo
  have hgs : (Z.set k (mj sz d)).getD k 0 = mj sz d := by
   rw [List.getD_eq_getElem?_getD, List.getElem?_set_self (by omega)]; rfl
  have hls : (Z.set k (mj sz d)).length = ar.length := by rw [List.length_set, hZl]
  refine wR Γ0 (de eo (yZ (Z.set k (mj sz d)) k (by omega)) hgs) ?_ ?_
  ·omega
  refine wC eo (fun hc => ?_) (fun hc => ?_)
  ·have hc' : 2001 < mj sz d := by simpa using hc
   rw [if_pos hc'] at hS
   refine wr Γ0 (eH eo (tL (Z.set k (mj sz d)) k 2001 (by omega)) @List.set_set.{0} hS) ?_ ?_
   ·omega
   refine vr Γ0 (ab eo wk) ?_
   refine ⟨k + 1, by omega, by omega, ?_⟩
   rw [hZ1]
   exact wM (fun k => .key k) eo
  ·have hc' : ¬ 2001 < mj sz d := by simpa using hc
   rw [if_neg hc'] at hS
   refine wK ?_
   refine vr Γ0 (ab eo wk) ?_
   refine ⟨k + 1, by omega, by omega, ?_⟩
   rw [hZ1]
   exact wM (fun k => .key k) (ab eo hS)
 ·have hk : k = ar.length := by
   simp at hc
   omega
  have hz : zZ ar k = lU ar := by
   rw [hk, zZ, List.take_length, Nat.sub_self]
   simp
  refine wE ?_
  refine vR Γ0 eo ?_
  refine wZ eo ?_
  refine ⟨_, ⟨by decide, .inl ⟨_, rfl, ?_⟩⟩, fun E => rfl⟩
  rw [<- hz]
  rfl
def EO (ar : List Nd) : xP Tryz.prog 123 where
 pre := fun W bs as_ => (∃ a, as_ = [a] /\ X0 W bs 261 ar.length (cN ar) a) /\ Ha ar /\ ar.length <= 4000000
 T := 3
 s := 1
 n := fun _ _ => ar.length
 vs := fun _ _ => iV (lU ar)
 tm := fun _ _ x => x
 g := fun _ _ v => v
 tmg := fun _ _ _ _ => rfl
 tmk := fun _ _ _ _ h => h
 enters := Tryz.call123
 ok := by
  intro W w bs us as_ hk hu hp
  obtain ⟨⟨a, rfl, h1⟩, h2, h3⟩ := hp
  match us, hu with
  | [u], hu =>
   obtain ⟨ao, c, rfl, hsl⟩ := Ti hk hu.1 h1
   exact JW ar h2 h3 ao c w hsl
end
section
open Go.RowKit Go.LE
set_option maxRecDepth 10000
def aG : Rx -> Nat
 | .eps => 1
 | .cls _ => 1
 | .cat a b => aG a + aG b + 1
 | .alt a b => aG a + aG b + 1
 | .star a => aG a + 1
 | .and a b => aG a + aG b + 1
 | .minus a b => aG a + aG b + 1
def dx (n : Nat) : Rx -> List Nd
 | .eps => [bP 0 0 0]
 | .cls S => [⟨1, S, 0, 0, 0, 0⟩]
 | .cat a b => dx n a ++ (dx (n + aG a) b ++ [bP 2 ((n + aG a - 1 : Nat) : Int) ((n + aG a + aG b - 1 : Nat) : Int)])
 | .alt a b => dx n a ++ (dx (n + aG a) b ++ [bP 3 ((n + aG a - 1 : Nat) : Int) ((n + aG a + aG b - 1 : Nat) : Int)])
 | .star a => dx n a ++ [bP 4 ((n + aG a - 1 : Nat) : Int) 0]
 | .and a b => dx n a ++ (dx (n + aG a) b ++ [bP 5 ((n + aG a - 1 : Nat) : Int) ((n + aG a + aG b - 1 : Nat) : Int)])
 | .minus a b => dx n a ++ (dx (n + aG a) b ++ [bP 6 ((n + aG a - 1 : Nat) : Int) ((n + aG a + aG b - 1 : Nat) : Int)])
theorem gY (t : Rx) : 1 <= aG t := by cases t <;> simp [aG]
theorem eZ (t : Rx) : ∀ n, (dx n t).length = aG t := by
 induction t with
 | eps => intro n; rfl
 | cls S => intro n; rfl
 | star a ih => intro n; simp [dx, aG, ih]
 | cat a b iha ihb => intro n; simp only [dx, aG, List.length_append, iha, ihb, List.length_cons, List.length_nil]; omega
 | alt a b iha ihb => intro n; simp only [dx, aG, List.length_append, iha, ihb, List.length_cons, List.length_nil]; omega
 | and a b iha ihb => intro n; simp only [dx, aG, List.length_append, iha, ihb, List.length_cons, List.length_nil]; omega
 | minus a b iha ihb => intro n; simp only [dx, aG, List.length_append, iha, ihb, List.length_cons, List.length_nil]; omega
theorem bF (l m : List Nd) : cN (l ++ m) = cN l ++ cN m := by simp [cN]
theorem ki (d : Nd) : cN [d] = d.bh := by simp [cN]
def Rj := (aq jV jW HS HB E9 jb cW (aq cX c8 cT rG rQ sr pY (aq vL vO vp vj tE ub pX (aq sc sv qg su rT rS rJ (aq sa rD sq CG DG Cd DE (aq Db @aN @au @aA @az @pz @pC @pq))))))
set_option maxHeartbeats 1000000 in
theorem Ux (l : List Nd) (r : Int) (op a b : Int) (u : Value) (fp : List Nat) (w : World) (hl : l.length <= 4000000) (ho : bz w u fp 64 [.row 243 261 l.length (cN l), .val (.int .i64 r)]) (hlt : ∀ b ∈ fp, b < w.heap.size) :
  Calls Tryz.prog 177 (#[u] ++ #[.int .i64 op, .int .i64 a, .int .i64 b]) w fun e w' => fu w u fp 64 e w' (.ret (.int .i64 (l.length : Nat)) [.row 243 261 (l.length + 1) (cN l ++ (bP op a b).bh), .val (.int .i64 r)]) := by
 rw [show cN l ++ (bP op a b).bh = cN (l ++ [bP op a b]) by simp [cN]]
 refine bL (nt := 28) #[.int .i64 op, .int .i64 a, .int .i64 b] [.tmp 8] (by show 2 <= 7; omega) ho hlt Tryz.func177 rfl rfl rfl ?_
 refine vR Γ0 Rj ?_
 refine wR Γ0 Rj ?_ ?_
 ·exact ⟨by simp, by unfold maxLen; omega, by omega, Nd.dn _⟩
 have w1 : IntKind.i64.wrap (((l.length + 1 : Nat) : Int) - 1) = ((l.length : Nat) : Int) := by rw [aa (by omega) (by omega)]; omega
 refine vR Γ0 (ab Rj w1) ?_
 refine wZ Rj ?_
 exact ⟨_, _, rfl, fun E => rfl, _, _, rfl, by simp only [dS, Op.operands, Value.cells, σ0, σB, Nat.reduceEqDiff, Nat.reduceAdd, Nat.reduceMul, Nat.reduceLT, Nat.reduceLeDiff, Nat.reduceBEq, ae, Int.reduceToNat, Int.reduceLT, Int.reduceLE, Nat.reduceDiv, Nat.reduceMod, Nat.reduceSub, Int.reducePow, Nat.reducePow, σP, σB3, Rj, aE, List.map_append]; rfl, by decide⟩
def Ac : dz Tryz.prog 177 where
 T := 64
 pre := fun W bs fs as_ => match fs, as_ with | [.row 243 261 n vs, .val (.int .i64 r)], [.val (.int .i64 op), .val (.int .i64 a), .val (.int .i64 b)] => ∃ l : List Nd, vs = cN l /\ n = l.length /\ l.length <= 4000000 | _, _ => False
 out := fun W fs as_ => match fs, as_ with | [.row 243 261 n vs, .val (.int .i64 r)], [.val (.int .i64 op), .val (.int .i64 a), .val (.int .i64 b)] => .ret (.int .i64 (n : Nat)) [.row 243 261 (n + 1) (vs ++ (bP op a b).bh), .val (.int .i64 r)] | _, _ => .pan [] undef
 enters := Tryz.call177
 ok := by
  intro W w bs u fp us fs as_ hk ho hlt hmine hu hp
  split at hp
  ·rename_i n vs r op a b
   match us, hu with
   | [u0, u1, u2], hu =>
    obtain ⟨rfl, rfl, rfl, _⟩ := hu
    obtain ⟨l, rfl, rfl, hl⟩ := hp; exact Ux l r op a b u fp w hl ho hlt
  ·exact hp.elim
theorem vX (W : World) (n : Nat) (vs : List Value) (r : Int) (op : Int) (a : Int) (b : Int) : Ac.out W [.row 243 261 n vs, .val (.int .i64 r)] [.val (.int .i64 op), .val (.int .i64 a), .val (.int .i64 b)] = .ret (.int .i64 (n : Nat)) [.row 243 261 (n + 1) (vs ++ (bP op a b).bh), .val (.int .i64 r)] := rfl
theorem vv (W : World) (bs : List Nat) (n : Nat) (vs : List Value) (r : Int) (op : Int) (a : Int) (b : Int) : Ac.pre W bs [.row 243 261 n vs, .val (.int .i64 r)] [.val (.int .i64 op), .val (.int .i64 a), .val (.int .i64 b)] = (∃ l : List Nd, vs = cN l /\ n = l.length /\ l.length <= 4000000) := rfl
theorem Fh : Ac.T = 64 := rfl
end
section
open Go.RowKit Go.LE
set_option maxRecDepth 10000
theorem MX {W w : World} {bs fp : List Nat} (hk : ai W bs w) (h : ∀ b ∈ fp, W.heap.size <= b \/ b ∈ bs) : cv W (Out bs) w (Out fp) := fun b hb hs =>
 ⟨hk.block b hb hs, fun hf => (h b hf).elim (fun g => by omega) hs⟩
theorem UK (a b : Nd) : cN [a, b] = a.bh ++ b.bh := by simp [cN]
abbrev ED (ar : List Nd) (ao : Option Addr) (c : Nat) (f : FuncId) (v : Value) (t : Rx) : Prop :=
 ∀ (l : List Nd) (r : Int) (u : Value) (fp : List Nat) (w : World), l.length + aG t <= 4000000 -> bz w u fp 64 [.row 243 261 l.length (cN l), .val (.int .i64 r)] -> (∀ b ∈ fp, b < w.heap.size) -> eP w (Out fp) ao (cN ar) ->
  Calls Tryz.prog f #[.slice ao ar.length c, v, u] w fun e w' => fu w u fp 64 e w' (.ret (.int .i64 ((l.length + aG t - 1 : Nat) : Int)) [.row 243 261 (l.length + aG t) (cN l ++ cN (dx l.length t)), .val (.int .i64 r)])
def layOut (tv : Value -> Rx) (fs as_ : List AV) : BOut := match fs, as_ with
 | [.row _ _ n vs, .val r], [_, .val v] => .ret (.int .i64 ((n + aG (tv v) - 1 : Nat) : Int)) [.row 243 261 (n + aG (tv v)) (vs ++ cN (dx n (tv v))), .val r]
 | _, _ => .ret undef []
theorem nz (tv : Value -> Rx) (T s n : Nat) (vs : List Value) (r v : Value) (x : AV) : layOut tv [.row T s n vs, .val r] [x, .val v] = .ret (.int .i64 ((n + aG (tv v) - 1 : Nat) : Int)) [.row 243 261 (n + aG (tv v)) (vs ++ cN (dx n (tv v))), .val r] := rfl
def oQ (ar : List Nd) (ao : Option Addr) (c : Nat) (f : FuncId) (hen : ∀ args w, (callFunc f args).run Tryz.prog w = .ok (.enter f args) w) (dom : Value -> Prop) (tv : Value -> Rx) (h : ∀ v, dom v -> ED ar ao c f v (tv v)) : s9 Tryz.prog f where
 T := 64
 pre := fun W bs fs as_ => ∃ (l : List Nd) (r : Int) (v : Value), fs = [.row 243 261 l.length (cN l), .val (.int .i64 r)] /\ as_ = [.val (.slice ao ar.length c), .val v] /\ dom v /\ l.length + aG (tv v) <= 4000000 /\ eP W (Out bs) ao (cN ar)
 out := fun _ => layOut tv
 enters := hen
 ok := by
  intro W w bs u fp us fs as_ hk ho hlt hmine hu hp
  obtain ⟨l, r, v, rfl, rfl, hd, hl, hs⟩ := hp
  match us, hu with
  | [x, y], hu =>
   obtain ⟨rfl, rfl, _⟩ := hu
   exact h _ hd l r u fp w hl ho hlt (hs.mono (MX hk hmine))
section
variable (ar : List Nd) (ao : Option Addr) (c : Nat) (f : FuncId) (hen : ∀ args w, (callFunc f args).run Tryz.prog w = .ok (.enter f args) w) (dom : Value -> Prop) (tv : Value -> Rx) (h : ∀ v, dom v -> ED ar ao c f v (tv v))
theorem yX : (oQ ar ao c f hen dom tv h).T = 64 := rfl
theorem qj (W : World) : (oQ ar ao c f hen dom tv h).out W = layOut tv := rfl
theorem qf (W : World) (bs : List Nat) (T s n : Nat) (vs : List Value) (r : Int) (v : Value) : (oQ ar ao c f hen dom tv h).pre W bs [.row T s n vs, .val (.int .i64 r)] [.val (.slice ao ar.length c), .val v] =
  (T = 243 /\ s = 261 /\ (∃ l : List Nd, vs = cN l /\ n = l.length) /\ dom v /\ n + aG (tv v) <= 4000000 /\ eP W (Out bs) ao (cN ar)) := by
 apply propext
 constructor
 ·rintro ⟨l, r', v', h1, h2, h3, h4, h5⟩
  simp only [List.cons.injEq, AV.row.injEq, AV.val.injEq, and_true] at h1 h2
  obtain ⟨⟨rfl, rfl, rfl, rfl⟩, _⟩ := h1
  obtain ⟨_, rfl⟩ := h2
  exact ⟨rfl, rfl, ⟨l, rfl, rfl⟩, h3, h4, h5⟩
 ·rintro ⟨rfl, rfl, ⟨l, rfl, rfl⟩, h3, h4, h5⟩
  exact ⟨l, r, v, rfl, rfl, h3, h4, h5⟩
end
def M3 (ts : List RT) (v : Value) : Rx := match v with
 | .int _ x => (ts.getD x.toNat .eps).expand
 | _ => .eps
theorem sW (ts : List RT) (k : IntKind) (x : Int) : M3 ts (.int k x) = (ts.getD x.toNat .eps).expand := rfl
def MP (ts : List RT) (v : Value) : Rx := .alt (M3 ts v) .eps
def below (n : Nat) (v : Value) : Prop := ∃ x : Int, v = .int .i64 x /\ 0 <= x /\ x < n
theorem nP (n : Nat) (x : Int) : below n (.int .i64 x) = (0 <= x /\ x < n) := by
 apply propext
 constructor
 ·rintro ⟨y, h, h1, h2⟩
  simp only [Value.int.injEq, true_and] at h
  subst h
  exact ⟨h1, h2⟩
 ·exact fun h => ⟨x, rfl, h⟩
abbrev iw (ar : List Nd) (ts : List RT) (ao : Option Addr) (c n : Nat) : Prop := ∀ v, below n v -> ED ar ao c 124 v (M3 ts v)
abbrev La (ar : List Nd) (ts : List RT) (ao : Option Addr) (c n : Nat) : Prop := ∀ v, below n v -> ED ar ao c 215 v (MP ts v)
section
variable (ar : List Nd) (ts : List RT) (ao : Option Addr) (c n : Nat)
noncomputable def Γ68 (h : iw ar ts ao c n) : Env Tryz.prog := ⟨fun | 124 => some (oQ ar ao c 124 Tryz.call124 (below n) (M3 ts) h).spec | 177 => some Ac.spec | _ => none, fun _ => none, fun _ _ => none⟩
theorem Gt68c124 (h : iw ar ts ao c n) : (Γ68 ar ts ao c n h).sp 124 = some (oQ ar ao c 124 Tryz.call124 (below n) (M3 ts) h).spec := rfl
theorem Gt68c177 (h : iw ar ts ao c n) : (Γ68 ar ts ao c n h).sp 177 = some Ac.spec := rfl
def Kb := (aq jb cW cX c8 cT rG rQ (aq sr pY vL vO vp vj tE (aq ub pX sc sv qg su rT (aq rS rJ sa rD sq CG DG (aq Cd DE Db @aN @au @aA @az (aq @vX @vv @Fh @yX @qj @qf @nz (eH @nP @sW @Gt68c124 @Gt68c177)))))))
set_option maxHeartbeats 2000000 in
theorem Is (hg : iw ar ts ao c n) : La ar ts ao c n := by
 rintro _ ⟨x, rfl, hx⟩ l r u fp w hl ho hlt hs
 have hrs : aG (MP ts (.int .i64 x)) = aG (ts.getD x.toNat .eps).expand + 1 + 1 := rfl
 have hla : ∀ m, dx m (MP ts (.int .i64 x)) = dx m (ts.getD x.toNat .eps).expand ++ ([bP 0 0 0] ++ [bP 3 ((m + aG (ts.getD x.toNat .eps).expand - 1 : Nat) : Int) ((m + aG (ts.getD x.toNat .eps).expand + 1 - 1 : Nat) : Int)]) := fun m => rfl
 rw [hla, hrs]
 rw [hrs] at hl
 have hT := eZ (ts.getD x.toNat .eps).expand l.length
 refine kr (nt := 19) _ _ [.tmp 6] (by show 2 <= 7; omega) ho hlt Tryz.func215 rfl rfl rfl ?_
 refine vR Γ0 Kb ?_
 refine wR (Γ68 ar ts ao c n hg) Kb ?_ ?_
 ·exact ⟨⟨⟨l, rfl, rfl⟩, hx, by omega, hs⟩, by decide, by simp⟩
 generalize (ts.getD x.toNat .eps).expand = T at *
 refine wR (Γ68 ar ts ao c n hg) Kb ?_ ?_
 ·exact ⟨⟨l ++ dx l.length T, by rw [bF], by rw [List.length_append, hT], by rw [List.length_append, hT]; omega⟩, by decide, by simp⟩
 refine wR (Γ68 ar ts ao c n hg) Kb ?_ ?_
 ·exact ⟨⟨l ++ dx l.length T ++ [bP 0 0 0], by rw [bF, bF, ki], by rw [List.length_append, List.length_append, hT]; rfl, by rw [List.length_append, List.length_append, hT, List.length_singleton]; omega⟩, by decide, by simp⟩
 refine wZ Kb ?_
 have e : (l.length + (aG T + 1 + 1) - 1 : Nat) = l.length + aG T + 1 := by omega
 have e2 : (l.length + aG T + 1 - 1 : Nat) = l.length + aG T := by omega
 have e3 : l.length + (aG T + 1 + 1) = l.length + aG T + 1 + 1 := by omega
 rw [e, e2, e3, bF, UK, <- List.append_assoc, <- List.append_assoc]
 exact ⟨_, _, rfl, fun E => rfl, _, _, rfl, by simp only [dS, Op.operands, Value.cells, σ0, σB, Nat.reduceEqDiff, Nat.reduceAdd, Nat.reduceMul, Nat.reduceLT, Nat.reduceLeDiff, Nat.reduceBEq, ae, Int.reduceToNat, Int.reduceLT, Int.reduceLE, Nat.reduceDiv, Nat.reduceMod, Nat.reduceSub, Int.reducePow, Nat.reducePow, σP, σB3, Kb, aE]; rfl, by decide⟩
end
end
end Go.Proofs.YtnemkecffmdlnaaGreatDoor
