/-
 Part 4 of the proof (packed).
-/
import Derived.Test.YtnemkecffmdlnaaGreatDoorA3
set_option linter.unusedSimpArgs false
set_option linter.unusedVariables false
set_option linter.defProp false
namespace Go.Proofs.YtnemkecffmdlnaaGreatDoor
section
open Go.RowKit Go.LE
set_option maxRecDepth 10000
def rU (s : ByteArray) (i : Int) (d : Nat) (op : List Value) : List AV := [.val (.string s), .val (.int .i64 i), .row 3 1 d op]
def du (c i : Int) : List PanicEntry := [{ v := .iface 39 (sF c i ⟨#[]⟩), recovered := false }]
theorem VK {s : ByteArray} {i : Int} (h0 : 0 <= i) (h : ¬ i < s.size) : bt s i = 0 := by
 unfold bt
 rw [Array.getElem?_eq_none (by have : s.data.size = s.size := rfl; omega)]
 rfl
theorem yi {w : World} {u : Value} {fp : List Nat} {s : ByteArray} {i : Int} {d : Nat} {op : List Value} (h : bz w u fp 251 (rU s i d op)) :
  ∃ b, u = .pointer (some ⟨b, 0, none⟩) /\ w.cell? ⟨b, 0, none⟩ = some (.string s) /\ w.cell? ⟨b, 0 + 1, none⟩ = some (.int .i64 i) := by
 obtain ⟨b, us, h1, h2, h3⟩ := Jx h
 match us, h2 with
 | [x, y, z], h2 =>
  obtain ⟨rfl, rfl, _, _⟩ := h2
  exact ⟨b, h1, h3 0 (by simp), h3 1 (by simp)⟩
def Rv := (aq @List.replicate_succ.{0} @List.replicate_zero.{0} @aw @ah jS jP jn (aq cQ cV cX cS da c9 c8 (aq db iv ie ig ir iw eW (aq eV eX eZ e8 e9 PY Qc (aq Nt PC ME O7 No Qe vY (aq vC vZ vD vX vH wG vQ (aq vW vS tt tS tN uE uz (aq ud tO s5 uN tn vh te (dk @rU.eq_1 @sF.eq_1 @du.eq_1)))))))))
set_option maxHeartbeats 1000000 in
theorem L4 (s : ByteArray) (i : Int) (b : Nat) (w : World) (g1 : w.cell? ⟨b, 0, none⟩ = some (.string s)) (g2 : w.cell? ⟨b, 0 + 1, none⟩ = some (.int .i64 i)) :
  Calls Tryz.prog 127 #[.pointer (some ⟨b, 0, none⟩)] w fun e w' => e = .returned (.bool (decide ((s.size : Int) <= i))) /\ ai w [] w' := by
 refine al (nt := 13) [.tmp 2] Tryz.func127 rfl rfl rfl ?_
 refine vR Γ0 Rv ?_
 refine TS Γ0 (dk Rv g1 g2) ?_
 refine wZ Rv ?_
 exact fun E => rfl
def dj : A8 Tryz.prog 127 where
 T := 251
 pre := fun W bs fs as_ => match fs, as_ with | [.val (.string s), .val (.int .i64 i), .row 3 1 d op], [] => True | _, _ => False
 res := fun W fs as_ => match fs, as_ with | [.val (.string s), .val (.int .i64 i), .row 3 1 d op], [] => .bool (decide ((s.size : Int) <= i)) | _, _ => undef
 enters := Tryz.call127
 ok := by
  intro W w bs u fp us fs as_ hk ho hu hp
  split at hp
  ·rename_i s i d op
   match us, hu with
   | [], _ =>
    obtain ⟨b, rfl, g1, g2⟩ := yi ho; exact L4 s i b w g1 g2
  ·exact hp.elim
theorem fI (W : World) (s : ByteArray) (i : Int) (d : Nat) (op : List Value) : dj.res W [.val (.string s), .val (.int .i64 i), .row 3 1 d op] [] = .bool (decide ((s.size : Int) <= i)) := rfl
theorem fE (W : World) (bs : List Nat) (s : ByteArray) (i : Int) (d : Nat) (op : List Value) : dj.pre W bs [.val (.string s), .val (.int .i64 i), .row 3 1 d op] [] = (True) := rfl
theorem jd : dj.T = 251 := rfl
def AZ := (fj Rv @fI @fE @jd)
set_option maxHeartbeats 1000000 in
theorem M8 (s : ByteArray) (i : Int) (b : Nat) (w : World) (h0 : 0 <= i) (g1 : w.cell? ⟨b, 0, none⟩ = some (.string s)) (g2 : w.cell? ⟨b, 0 + 1, none⟩ = some (.int .i64 i)) :
  Calls Tryz.prog 179 #[.pointer (some ⟨b, 0, none⟩)] w fun e w' => e = .returned (.int .u8 (bt s i)) /\ ai w [] w' := by
 refine al (nt := 22) [.tmp 2] Tryz.func179 rfl rfl rfl ?_
 refine vR Γ0 AZ ?_
 refine Wp.seq ?_
 refine TS Γ0 (dk AZ g1 g2) ?_
 refine wC AZ (fun hc => ?_) (fun hc => ?_)
 ·have hi : i < s.size := by simpa using hc
  refine TS Γ0 (dk AZ g1 g2) ?_
  refine wZ AZ ?_
  exact fun E => rfl
 ·have hi : ¬ i < s.size := by simpa using hc
  rw [VK h0 hi]
  refine wK ?_
  refine vR Γ0 AZ ?_
  refine wZ AZ ?_
  exact fun E => rfl
def fU : A8 Tryz.prog 179 where
 T := 251
 pre := fun W bs fs as_ => match fs, as_ with | [.val (.string s), .val (.int .i64 i), .row 3 1 d op], [] => 0 <= i | _, _ => False
 res := fun W fs as_ => match fs, as_ with | [.val (.string s), .val (.int .i64 i), .row 3 1 d op], [] => .int .u8 (bt s i) | _, _ => undef
 enters := Tryz.call179
 ok := by
  intro W w bs u fp us fs as_ hk ho hu hp
  split at hp
  ·rename_i s i d op
   match us, hu with
   | [], _ =>
    obtain ⟨b, rfl, g1, g2⟩ := yi ho; exact M8 s i b w hp g1 g2
  ·exact hp.elim
theorem iY (W : World) (s : ByteArray) (i : Int) (d : Nat) (op : List Value) : fU.res W [.val (.string s), .val (.int .i64 i), .row 3 1 d op] [] = .int .u8 (bt s i) := rfl
theorem jc (W : World) (bs : List Nat) (s : ByteArray) (i : Int) (d : Nat) (op : List Value) : fU.pre W bs [.val (.string s), .val (.int .i64 i), .row 3 1 d op] [] = (0 <= i) := rfl
theorem mX : fU.T = 251 := rfl
def Ws := (fj AZ @iY @jc @mX)
set_option maxHeartbeats 1000000 in
theorem Eg (s : ByteArray) (i : Int) (d : Nat) (op : List Value) (c j : Int) (u : Value) (fp : List Nat) (w : World) (ho : bz w u fp 251 (rU s i d op)) (hlt : ∀ b ∈ fp, b < w.heap.size) :
  Calls Tryz.prog 128 (#[u] ++ #[.int .i64 c, .int .i64 j]) w fun e w' => fu w u fp 251 e w' (.pan (du c j) (.tuple #[])) := by
 refine bL (nt := 10) #[.int .i64 c, .int .i64 j] [] (by show 3 <= 7; omega) ho hlt Tryz.func128 rfl rfl rfl ?_
 refine Wp.nA Γ0 bP (ev Ws) ?_ ?_
 ·exact oo
 refine qq ?_
 exact ⟨_, rfl⟩
def eN : dv Tryz.prog 128 where
 T := 251
 pre := fun W bs fs as_ => match fs, as_ with | [.val (.string s), .val (.int .i64 i), .row 3 1 d op], [.val (.int .i64 c), .val (.int .i64 j)] => True | _, _ => False
 out := fun W fs as_ => match fs, as_ with | [.val (.string s), .val (.int .i64 i), .row 3 1 d op], [.val (.int .i64 c), .val (.int .i64 j)] => .pan (du c j) (.tuple #[]) | _, _ => .pan [] undef
 enters := Tryz.call128
 ok := by
  intro W w bs u fp us fs as_ hk ho hlt hmine hu hp
  split at hp
  ·rename_i s i d op c j
   match us, hu with
   | [u0, u1], hu =>
    obtain ⟨rfl, rfl, _⟩ := hu
    exact Eg s i d op c j u fp w ho hlt
  ·exact hp.elim
theorem ia (W : World) (s : ByteArray) (i : Int) (d : Nat) (op : List Value) (c : Int) (j : Int) : eN.out W [.val (.string s), .val (.int .i64 i), .row 3 1 d op] [.val (.int .i64 c), .val (.int .i64 j)] = .pan (du c j) (.tuple #[]) := rfl
theorem gY (W : World) (bs : List Nat) (s : ByteArray) (i : Int) (d : Nat) (op : List Value) (c : Int) (j : Int) : eN.pre W bs [.val (.string s), .val (.int .i64 i), .row 3 1 d op] [.val (.int .i64 c), .val (.int .i64 j)] = (True) := rfl
theorem ky : eN.T = 251 := rfl
noncomputable def Γ44 : Env Tryz.prog := ⟨fun | 127 => some dj.spec | 179 => some fU.spec | 128 => some eN.spec | _ => none, fun | _ => none, fun _ _ => none⟩
theorem Gt44c127 : Γ44.sp 127 = some dj.spec := rfl
theorem Gt44c179 : Γ44.sp 179 = some fU.spec := rfl
theorem Gt44c128 : Γ44.sp 128 = some eN.spec := rfl
def PU (s : ByteArray) (d : Nat) (op : List Value) : Except (Int × Int) (Int × Int) -> BOut
 | .ok (n, j) => .ret (.int .i64 n) (rU s j d op)
 | .error (c, j) => .pan (du c j) (.int .i64 0)
theorem H4 (s : ByteArray) (d : Nat) (op : List Value) (n j : Int) : PU s d op (.ok (n, j)) = .ret (.int .i64 n) (rU s j d op) := rfl
theorem sV (s : ByteArray) (d : Nat) (op : List Value) (c j : Int) : PU s d op (.error (c, j)) = .pan (du c j) (.int .i64 0) := rfl
theorem qN (c : Int -> Int) (N : Int) (k : Nat) (n i : Int) (h : ¬ (i < N /\ 48 <= c i /\ c i <= 57)) : hJ c N k n i = (n, i) := by
 cases k with
 | zero => rfl
 | succ k => rw [hJ, if_neg h]
def bd : Nat -> Int
 | 0 => 999
 | 1 => 99
 | 2 => 9
 | _ => 0
theorem HN (k : Nat) : bd k <= 999 := by
 match k with
 | 0 => simp [bd]
 | 1 => simp [bd]
 | 2 => simp [bd]
 | n + 3 => simp [bd]
theorem sO {k : Nat} (hk : k + 1 <= 3) : 10 * bd (k + 1) + 9 <= bd k := by
 match k, hk with
 | 0, _ => simp [bd]
 | 1, _ => simp [bd]
 | 2, _ => simp [bd]
def pB := (Ci Ws @ia @gY @ky Gt44c127 Gt44c179 Gt44c128)
set_option maxHeartbeats 2000000 in
theorem FZ (s : ByteArray) (i : Int) (d : Nat) (op : List Value) (u : Value) (fp : List Nat) (w : World) (h0 : 0 <= i) (hi1 : i <= s.size) (hs : s.size <= 140737488351232) (ho : bz w u fp 251 (rU s i d op)) (hlt : ∀ b ∈ fp, b < w.heap.size) :
  Calls Tryz.prog 265 (#[u] ++ #[]) w fun e w' => fu w u fp 251 e w' (PU s d op (fO (bt s) s.size i)) := by
 refine bL (nt := 58) #[] [.tmp 2] (by show 3 <= 7; omega) ho hlt Tryz.func265 rfl rfl rfl ?_
 refine vR Γ44 pB ?_
 refine TS Γ44 pB ?_
 generalize hR : hJ (bt s) s.size 3 0 i = R
 have w3 : IntKind.i64.wrap (i + 3) = i + 3 := aa (by omega) (by omega)
 refine Wp.seq (Wp.block ?_)
 refine Wp.loop (fun p : Nat × Int => ⟨20, bV [(0, .is (.own 0 0)), (3, .is (.v (.int .i64 p.2))), (4, .is (.v (.int .i64 i)))], cd [(0, .cells 251 [.v (.string s), .v (.int .i64 (i + (3 - (p.1 : Nat)))), .hd 3]), (3, .row 3 1 d (op.map .v))]⟩)
  (fun p => p.1 <= 3 /\ (0 <= p.2 /\ p.2 <= bd p.1) /\ i + (3 - (p.1 : Nat)) <= s.size /\ hJ (bt s) s.size p.1 p.2 (i + (3 - (p.1 : Nat))) = R) (fun p => p.1) (3, 0) ?_ ⟨by simp, by simp [bd], by simpa using hi1, by simpa using hR⟩ ?_
 ·exact wM (fun k => .key k) (fj pB @Int.sub_self @Int.add_zero (show (3 : Int) - ((3 : Nat) : Int) = 0 from rfl))
 rintro ⟨k, n⟩ ⟨hk, ⟨hn0, hn1⟩, hi, hR'⟩
 simp only at hk hn0 hn1 hi hR'
 have hbd := HN k
 refine Wp.seq ?_
 refine wR Γ44 (ab pB w3) ?_ ?_
 ·exact ⟨by decide, fun _ => ⟨by decide, by omega⟩, fun _ => ⟨by decide, by omega⟩⟩
 refine wC pB (fun hc => ?_) (fun hc => ?_)
 ·simp only [Bool.and_eq_true, Bool.not_eq_true', decide_eq_true_eq, decide_eq_false_iff_not] at hc
  obtain ⟨⟨⟨h1, h2⟩, h3⟩, h4⟩ := hc
  obtain ⟨k, rfl⟩ : ∃ j, k = j + 1 := ⟨k - 1, by omega⟩
  rw [hJ, if_pos ⟨by omega, h3, h4⟩] at hR'
  have hst := sO hk
  generalize hat : i + (3 - ((k + 1 : Nat) : Int)) = at_ at *
  have wa : IntKind.i64.wrap (10 * n) = 10 * n := aa (by omega) (by omega)
  have wb : IntKind.u8.wrap (bt s at_ - 48) = bt s at_ - 48 := gn (by omega) (by omega)
  have wc : IntKind.i64.wrap (bt s at_ - 48) = bt s at_ - 48 := aa (by omega) (by omega)
  have wd : IntKind.i64.wrap (10 * n + (bt s at_ - 48)) = 10 * n + (bt s at_ - 48) := aa (by omega) (by omega)
  have we : IntKind.i64.wrap (at_ + 1) = i + (3 - ((k : Nat) : Int)) := by rw [aa (by omega) (by omega)]; omega
  refine wK ?_
  refine Wp.block ?_
  refine wR Γ44 (p8 pB wa wb wc wd) ?_ ?_
  ·exact ⟨by decide, by omega⟩
  refine vr Γ44 (ab pB we) ?_
  refine ⟨(k, 10 * n + (bt s at_ - 48)), ⟨by simp only; omega, ⟨by simp only; omega, by simp only; omega⟩, by simp only; omega, by simp only; rw [show i + (3 - (k : Int)) = at_ + 1 by omega]; exact hR'⟩, by simp only; omega, ?_⟩
  exact wM (fun k => .key k) pB
 ·have hst : ¬ ((i + (3 - (k : Int)) < s.size /\ i + (3 - (k : Int)) < i + 3 /\ 48 <= bt s (i + (3 - (k : Int)))) /\ bt s (i + (3 - (k : Int))) <= 57) := fun h => by
   apply Bool.eq_false_iff.1 hc
   simp
   omega
  have hRe : R = (n, i + (3 - (k : Int))) := by
   rw [<- hR']
   cases k with
   | zero => rfl
   | succ k => exact qN _ _ _ _ _ (fun h => hst ⟨⟨h.1, by omega, h.2.1⟩, h.2.2⟩)
  have he : fO (bt s) s.size i = if R.2 = i then .error (20, i) else .ok R := by rw [fO, hR]
  rw [he, hRe]
  refine wE ?_
  refine Wp.seq ?_
  refine vR Γ44 pB ?_
  refine wC pB (fun hc => ?_) (fun hc => ?_)
  ·have h1 : i + (3 - (k : Int)) = i := by simpa using hc
   rw [if_pos h1, sV]
   refine Wp.nA Γ44 bP (ev (ab pB h1)) ?_ ?_
   ·exact ⟨by decide, by simp⟩
   refine qq ?_
   exact ⟨_, rfl⟩
  ·have h1 : ¬ i + (3 - (k : Int)) = i := by simpa using hc
   rw [if_neg h1, H4]
   refine wK ?_
   refine vR Γ44 pB ?_
   refine wZ pB ?_
   exact ⟨_, _, rfl, fun E => rfl, _, _, rfl, by simp only [dM, Op.operands, Value.cells, σ0, σB, Nat.reduceEqDiff, Nat.reduceAdd, Nat.reduceMul, Nat.reduceLT, Nat.reduceLeDiff, Nat.reduceBEq, ae, Int.reduceToNat, Int.reduceLT, Int.reduceLE, Nat.reduceDiv, Nat.reduceMod, Nat.reduceSub, Int.reducePow, Nat.reducePow, σP, σB3, pB, aE]; rfl, by decide⟩
def pb : dv Tryz.prog 265 where
 T := 251
 pre := fun W bs fs as_ => match fs, as_ with | [.val (.string s), .val (.int .i64 i), .row 3 1 d op], [] => 0 <= i /\ i <= s.size /\ s.size <= 140737488351232 | _, _ => False
 out := fun W fs as_ => match fs, as_ with | [.val (.string s), .val (.int .i64 i), .row 3 1 d op], [] => PU s d op (fO (bt s) s.size i) | _, _ => .pan [] undef
 enters := Tryz.call265
 ok := by
  intro W w bs u fp us fs as_ hk ho hlt hmine hu hp
  split at hp
  ·rename_i s i d op
   match us, hu with
   | [], _ =>
    exact FZ s i d op u fp w hp.1 hp.2.1 hp.2.2 ho hlt
  ·exact hp.elim
theorem Bt (W : World) (s : ByteArray) (i : Int) (d : Nat) (op : List Value) : pb.out W [.val (.string s), .val (.int .i64 i), .row 3 1 d op] [] = PU s d op (fO (bt s) s.size i) := rfl
theorem AJ (W : World) (bs : List Nat) (s : ByteArray) (i : Int) (d : Nat) (op : List Value) : pb.pre W bs [.val (.string s), .val (.int .i64 i), .row 3 1 d op] [] = (0 <= i /\ i <= s.size /\ s.size <= 140737488351232) := rfl
theorem Jd : pb.T = 251 := rfl
end
section
open Go.RowKit Go.LE
set_option maxRecDepth 10000
theorem dT {r : RL} {W1 : World} {bs1 fp : List Nat} {w : World} {S : Nat -> Prop} {fv : Value} {T : TypeId} {h : Hp} {vs : List SV} {fs' : List AV} {ks : List Nat} (hg : bu W1 (eY (aL w S fp) bs1) fv r.2)
  (h0 : h 0 = some (.cells T vs)) (hv : ay h vs = some (fs', ks)) (hn : (0 :: ks).Nodup) : Q1 w S fp T W1 bs1 (.agg [.v (.int .i64 (r.1 : Nat)), .v fv]) h (.fact Sh.two (dc r) fs') :=
 ⟨⟨[.int .i64 (r.1 : Nat), fv], fun E => (pf r fv hg.one).symm, fv, rfl, hg⟩, vs, ks, h0, hv, hn⟩
theorem Gp (a : RL) (x : AV) (m n : Int) : (tT a).out [x, .val (.int .i64 m), .val (.int .i64 n)] = .fact Sh.two (dc (cJ a m n)) := rfl
theorem DR (a : RL) (as_ : List AV) (W : World) (S : Nat -> Prop) : (tT a).pre as_ W S = (a.1 <= 2001 /\ ∃ x m n, as_ = [x, .val (.int .i64 m), .val (.int .i64 n)] /\ 0 <= m /\ m <= 255 /\ -1 <= n /\ n <= 255) := rfl
theorem zT (a : RL) : (tT a).kinds = [some (Sh.two, dc a), none, none] := rfl
noncomputable def Γ45 (G : Nat -> Prop) (a : RL) : Env Tryz.prog := ⟨fun | 127 => some dj.spec | 179 => some fU.spec | 128 => some eN.spec | 265 => some pb.spec | 266 => some ((tT a).spec G) | _ => none, fun _ => none, fun _ _ => none⟩
theorem Gt45c127 (G : Nat -> Prop) (a : RL) : (Γ45 G a).sp 127 = some dj.spec := rfl
theorem Gt45c179 (G : Nat -> Prop) (a : RL) : (Γ45 G a).sp 179 = some fU.spec := rfl
theorem Gt45c128 (G : Nat -> Prop) (a : RL) : (Γ45 G a).sp 128 = some eN.spec := rfl
theorem Gt45c265 (G : Nat -> Prop) (a : RL) : (Γ45 G a).sp 265 = some pb.spec := rfl
theorem Gt45c266 (G : Nat -> Prop) (a : RL) : (Γ45 G a).sp 266 = some ((tT a).spec G) := rfl
def tR : Value := .agg #[.int .i64 0, .nilFunc]
def NJ (a : RL) (s : ByteArray) (d : Nat) (op : List Value) : Except (Int × Int) (Int × Int × Int) -> GOut
 | .ok (m, n, j) => .fact Sh.two (dc (cJ a m n)) (rU s j d op)
 | .error (c, j) => .pan (du c j) tR
theorem H0 {c : Int -> Int} {N i n j : Int} (h : fO c N i = .ok (n, j)) : 0 <= n /\ n <= 999 := by
 have key : ∀ (k : Nat) (n i : Int), k <= 3 -> 0 <= n -> n <= bd k -> 0 <= (hJ c N k n i).1 /\ (hJ c N k n i).1 <= 999 := by
  intro k
  induction k with
  | zero => intro n i _ h0 h1; exact ⟨h0, h1⟩
  | succ k ih =>
   intro n i hk h0 h1
   rw [hJ]
   split
   ·rename_i h
    have := sO hk
    exact ih _ _ (by omega) (by omega) (by omega)
   ·have := HN (k + 1)
    exact ⟨h0, by simp only; omega⟩
 unfold fO at h
 split at h
 ·cases h
 ·simp only [Except.ok.injEq] at h
  have := key 3 0 i (Nat.le_refl _) (by omega) (by simp [bd])
  rw [h] at this
  exact this
def cB := (aq @List.replicate_succ.{0} @List.replicate_zero.{0} @aw @ah jS jP jn (aq cQ cV cX cS da c9 c8 (aq db iv ie ig ir iw ME (aq O7 No Qe tt tS tN uE (aq uz ud tO s5 uN tn vh (aq te oU pD oR oE px pI (aq @rU.eq_1 @sF.eq_1 @du.eq_1 @aO @au @aB @aC (aq @fe @jq @fI @fE @jd @iY @jc (aq @mX @ia @gY @ky @Bt @AJ @Jd (aq @H4 @sV @Gt45c127 @Gt45c179 @Gt45c128 @Gt45c265 @Gt45c266 (dk @Gp @DR @zT)))))))))))
set_option maxHeartbeats 2000000 in
theorem FW (s : ByteArray) (i : Int) (d : Nat) (op : List Value) (a : RL) (fa : Value) (ha : a.1 <= 2001) (u : Value) (fp : List Nat) (w : World) (S : Nat -> Prop) (h0 : 0 <= i) (hi1 : i < s.size) (hs : s.size <= 140737488351232)
  (ho : bz w u fp 251 (rU s i d op)) (hlt : ∀ b ∈ fp, b < w.heap.size) (hS : ∀ b ∈ fp, ¬ S b) (h1 : bu w S fa a.2) :
  Calls Tryz.prog 262 (#[u] ++ #[gk a fa]) w fun e w' => yl w S u fp 251 e w' (NJ a s d op (lE (bt s) s.size i)) := by
 have ga : partsOf (.v (gk a fa)) = [.v (.int .i64 (a.1 : Nat)), .v fa] := rfl
 have u0 := aL.up w S fp
 have g0 := h1.mono (aL.gT w S fp hS)
 have w1 : IntKind.i64.wrap (i + 1) = i + 1 := aa (by omega) (by omega)
 refine gG (nt := 88) S #[gk a fa] [.cell 4 254] (by show 3 <= 7; omega) ho hlt Tryz.func262 rfl rfl rfl ?_
 refine vR Γ0 (ab cB ga) ?_
 refine vR Γ0 cB ?_
 refine vR Γ0 (ab cB w1) ?_
 cases hN : fO (bt s) s.size (i + 1) with
 | error e =>
  obtain ⟨c, j⟩ := e
  have he : lE (bt s) s.size i = .error (c, j) := by rw [lE, hN]
  rw [he]
  refine Wp.iA (Γ45 (aL w S fp) a) bP (ev (dk cB hN w1)) ?_ ?_
  ·first | trivial | omega | (simp [hs]; done) | (simp [hs]; omega) | (simp [hs] <;> omega)
  refine qq ?_
  exact ⟨_, rfl⟩
 | ok p =>
  obtain ⟨m, j⟩ := p
  have hj := sv hN
  have hm := H0 hN
  refine wR (Γ45 (aL w S fp) a) (dk cB hN w1) ?_ ?_
  ·first | trivial | omega | (simp [hs]; done) | (simp [hs]; omega) | (simp [hs] <;> omega)
  refine vR Γ0 cB ?_
  have wj : IntKind.i64.wrap (j + 1) = j + 1 := aa (by omega) (by omega)
  have hb : ∀ n k, tB (bt s) s.size m j = .ok (n, k) -> lE (bt s) s.size i = kD (bt s) s.size m n k i := fun n k h => by rw [lE, hN]; simp only [h]
  cases hU : tB (bt s) s.size m j with
  | error e =>
   obtain ⟨c, k⟩ := e
   have he : lE (bt s) s.size i = .error (c, k) := by rw [lE, hN]; simp only [hU]
   rw [he]
   rw [tB] at hU
   split at hU
   ·rename_i h44
    split at hU
    ·rename_i h125
     refine Wp.seq ?_
     refine wR (Γ45 (aL w S fp) a) cB ?_ ?_
     ·first | trivial | omega | (simp [hs]; done) | (simp [hs]; omega) | (simp [hs] <;> omega)
     refine wC cB (fun hc => ?_) (fun hc => ?_)
     ·skip
      refine vR Γ0 (ab cB wj) ?_
      refine vR Γ0 cB ?_
      refine wR (Γ45 (aL w S fp) a) cB ?_ ?_
      ·first | trivial | omega | (simp [hs]; done) | (simp [hs]; omega) | (simp [hs] <;> omega)
      refine wC cB (fun hc => ?_) (fun hc => ?_)
      ·skip
       refine Wp.nA (Γ45 (aL w S fp) a) bP (ev (ab cB hU)) ?_ ?_
       ·first | trivial | omega | (simp [hs]; done) | (simp [hs]; omega) | (simp [hs] <;> omega)
       refine qq ?_
       exact ⟨_, rfl⟩
      ·exfalso
       apply Bool.eq_false_iff.1 hc
       simp
       omega
     ·exfalso
      apply Bool.eq_false_iff.1 hc
      simp
      omega
    ·cases hU
   ·cases hU
  | ok q =>
   obtain ⟨n, k⟩ := q
   have hbe := hb n k hU
   refine bx ⟨60, bV [(0, .is (.own 0 0)), (3, .is (.own 8 0)), (4, .is (.own 16 0)), (5, .is (.v (.int .i64 i))), (6, .is (.v (.int .i64 m))), (7, .is (.v (.int .i64 n)))], cd [(0, .cells 251 [.v (.string s), .v (.int .i64 k), .hd 3]), (3, .row 3 1 d (op.map .v)), (8, .cells 254 [.v (.int .i64 (a.1 : Nat)), .v fa]), (16, .cells 254 [.v (.int .i64 0), .v .nilFunc])]⟩ ?_ ?_
   ·skip
    refine wR (Γ45 (aL w S fp) a) cB ?_ ?_
    ·first | trivial | omega | (simp [hs]; done) | (simp [hs]; omega) | (simp [hs] <;> omega)
    refine wC cB (fun hc => ?_) (fun hc => ?_)
    ·have h44 : j < s.size /\ bt s j = 44 := by
      simp at hc
      omega
     rw [tB, if_pos h44] at hU
     refine vR Γ0 (ab cB wj) ?_
     refine vR Γ0 cB ?_
     refine wR (Γ45 (aL w S fp) a) cB ?_ ?_
     ·first | trivial | omega | (simp [hs]; done) | (simp [hs]; omega) | (simp [hs] <;> omega)
     refine wC cB (fun hc => ?_) (fun hc => ?_)
     ·have h125 : ¬ j + 1 < s.size \/ bt s (j + 1) ≠ 125 := by
       simp at hc
       omega
      rw [if_pos h125] at hU
      refine wr (Γ45 (aL w S fp) a) (ab cB hU) ?_ ?_
      ·first | trivial | omega | (simp [hs]; done) | (simp [hs]; omega) | (simp [hs] <;> omega)
      exact wM (fun x => if x = 3 then .key 370 else .key x) cB
     ·have h125 : ¬ (¬ j + 1 < s.size \/ bt s (j + 1) ≠ 125) := by
       simp at hc
       omega
      rw [if_neg h125] at hU
      simp only [Except.ok.injEq, Prod.mk.injEq] at hU
      obtain ⟨rfl, rfl⟩ := hU
      refine wK ?_
      exact wM (fun x => if x = 3 then .key 138 else .key x) cB
    ·have h44 : ¬ (j < s.size /\ bt s j = 44) := fun h => by
      apply Bool.eq_false_iff.1 hc
      simp
      omega
     rw [tB, if_neg h44] at hU
     simp only [Except.ok.injEq, Prod.mk.injEq] at hU
     obtain ⟨rfl, rfl⟩ := hU
     refine wK ?_
     exact wM (fun x => if x = 3 then .key 138 else .key x) cB
   ·have hk : j <= k /\ k <= s.size /\ -1 <= n /\ n <= 999 := by
     rw [tB] at hU
     split at hU
     ·split at hU
      ·have := sv hU
       have := H0 hU
       omega
      ·simp only [Except.ok.injEq, Prod.mk.injEq] at hU; omega
     ·simp only [Except.ok.injEq, Prod.mk.injEq] at hU; omega
    have wk : IntKind.i64.wrap (k + 1) = k + 1 := aa (by omega) (by omega)
    rw [hbe]
    refine Wp.seq ?_
    refine wR (Γ45 (aL w S fp) a) cB ?_ ?_
    ·first | trivial | omega | (simp [hs]; done) | (simp [hs]; omega) | (simp [hs] <;> omega)
    refine wC cB (fun hc => ?_) (fun hc => ?_)
    ·have h2 : ¬ k < s.size \/ bt s k ≠ 125 := by
      simp at hc
      omega
     rw [kD, if_pos h2]
     refine Wp.nA (Γ45 (aL w S fp) a) bP (ev cB) ?_ ?_
     ·first | trivial | omega | (simp [hs]; done) | (simp [hs]; omega) | (simp [hs] <;> omega)
     refine qq ?_
     exact ⟨_, rfl⟩
    ·have h2 : ¬ (¬ k < s.size \/ bt s k ≠ 125) := fun h => by
      apply Bool.eq_false_iff.1 hc
      simp
      omega
     rw [kD, if_neg h2]
     refine wK ?_
     refine vR Γ0 (ab cB wk) ?_
     refine Wp.seq ?_
     refine vR Γ0 cB ?_
     refine wC cB (fun hc => ?_) (fun hc => ?_)
     ·have h3 : 255 < m \/ 255 < n \/ 0 <= n /\ n < m := by
       simp at hc
       omega
      rw [if_pos h3]
      refine Wp.nA (Γ45 (aL w S fp) a) bP (ev cB) ?_ ?_
      ·first | trivial | omega | (simp [hs]; done) | (simp [hs]; omega) | (simp [hs] <;> omega)
      refine qq ?_
      exact ⟨_, rfl⟩
     ·have h3 : ¬ (255 < m \/ 255 < n \/ 0 <= n /\ n < m) := fun h => by
       apply Bool.eq_false_iff.1 hc
       simp
       omega
      rw [if_neg h3]
      refine wK ?_
      refine wR (Γ45 (aL w S fp) a) cB ?_ ?_
      ·exact ⟨⟨bT g0, ha, _, _, _, rfl, by omega, by omega, by omega, by omega⟩, u0⟩
      refine Wp.gF 744 (ev (ab cB ga)) (cr.refl _ _) fun W1 bs1 cs hx1 hΦ => ?_
      obtain ⟨fv, rfl, hg, hv1⟩ := ca hΦ
      refine wZ (dk cB ga hv1) ?_
      exact dT hg rfl (by simp only [dM, Op.operands, Value.cells, σ0, σB, Nat.reduceEqDiff, Nat.reduceAdd, Nat.reduceMul, Nat.reduceLT, Nat.reduceLeDiff, Nat.reduceBEq, ae, Int.reduceToNat, Int.reduceLT, Int.reduceLE, Nat.reduceDiv, Nat.reduceMod, Nat.reduceSub, Int.reducePow, Nat.reducePow, σP, σB3, cB, aE]; rfl) (by decide)
def ni (a : RL) : wU Tryz.prog 262 where
 T := 251
 kinds := [some (Sh.two, dc a)]
 pre := fun fs as_ W S => ∃ s i d op x, fs = rU s i d op /\ as_ = [x] /\ a.1 <= 2001 /\ 0 <= i /\ i < s.size /\ s.size <= 140737488351232
 premono := fun _ _ _ _ _ _ _ h => h
 out := fun fs as_ => match fs with
  | [.val (.string s), .val (.int .i64 i), .row 3 1 d op] => NJ a s d op (lE (bt s) s.size i)
  | _ => .pan [] undef
 enters := Tryz.call262
 ok := by
  intro w S u fp us fs as_ ho hlt hS hu hp
  obtain ⟨s, i, d, op, x, rfl, rfl, ha, h0, hi, hs⟩ := hp
  match us, hu with
  | [u1], hu =>
   obtain ⟨h1, _⟩ := hu
   obtain ⟨fa, rfl, h1'⟩ := jH h1
   exact FW s i d op a fa ha u fp w S h0 hi hs ho hlt hS h1'
end
section
open Go.RowKit Go.LE
set_option maxRecDepth 10000
theorem B2 (a : RL) (s : ByteArray) (i : Int) (d : Nat) (op : List Value) (as_ : List AV) : (ni a).out [.val (.string s), .val (.int .i64 i), .row 3 1 d op] as_ = NJ a s d op (lE (bt s) s.size i) := rfl
theorem Cz (a : RL) (fs as_ : List AV) (W : World) (S : Nat -> Prop) : (ni a).pre fs as_ W S = ∃ s i d op x, fs = rU s i d op /\ as_ = [x] /\ a.1 <= 2001 /\ 0 <= i /\ i < s.size /\ s.size <= 140737488351232 := rfl
theorem vN (a : RL) : (ni a).kinds = [some (Sh.two, dc a)] := rfl
theorem KO (a : RL) : (ni a).T = 251 := rfl
theorem SG (a : RL) (s : ByteArray) (d : Nat) (op : List Value) (m n j : Int) : NJ a s d op (.ok (m, n, j)) = .fact Sh.two (dc (cJ a m n)) (rU s j d op) := rfl
theorem DG (a : RL) (s : ByteArray) (d : Nat) (op : List Value) (c j : Int) : NJ a s d op (.error (c, j)) = .pan (du c j) tR := rfl
noncomputable def Γ46 (G : Nat -> Prop) (a : RL) : Env Tryz.prog := ⟨fun | 127 => some dj.spec | 179 => some fU.spec | 260 => some ((s9 a).spec G) | 180 => some ((gj .cat a (eo a)).spec G) | 261 => some ((qd a).spec G) | 262 => some ((ni a).spec G) | _ => none, fun _ => none, fun _ _ => none⟩
theorem Gt46c127 (G : Nat -> Prop) (a : RL) : (Γ46 G a).sp 127 = some dj.spec := rfl
theorem Gt46c179 (G : Nat -> Prop) (a : RL) : (Γ46 G a).sp 179 = some fU.spec := rfl
theorem Gt46c260 (G : Nat -> Prop) (a : RL) : (Γ46 G a).sp 260 = some ((s9 a).spec G) := rfl
theorem Gt46c180 (G : Nat -> Prop) (a : RL) : (Γ46 G a).sp 180 = some ((gj .cat a (eo a)).spec G) := rfl
theorem Gt46c261 (G : Nat -> Prop) (a : RL) : (Γ46 G a).sp 261 = some ((qd a).spec G) := rfl
theorem Gt46c262 (G : Nat -> Prop) (a : RL) : (Γ46 G a).sp 262 = some ((ni a).spec G) := rfl
def C6 (s : ByteArray) (d : Nat) (op : List Value) : Except (Int × Int) (RL × Int) -> GOut
 | .ok (r, j) => .fact Sh.two (dc r) (rU s j d op)
 | .error (c, j) => .pan (du c j) tR
theorem mW (s : ByteArray) (d : Nat) (op : List Value) (r : RL) (j : Int) : C6 s d op (.ok (r, j)) = .fact Sh.two (dc r) (rU s j d op) := rfl
theorem bH (s : ByteArray) (d : Nat) (op : List Value) (c j : Int) : C6 s d op (.error (c, j)) = .pan (du c j) tR := rfl
theorem wP (a : RL) (m n : Int) (ha : a.1 <= 2001) : (cJ a m n).1 <= 2001 := by
 have h1 : (if m = 0 then bw a else a).1 <= 2001 := by split; exact kP a; exact ha
 unfold cJ
 split
 ·exact mi a
 ·split
  ·decide
  ·split
   ·exact ez _ _ _
   ·exact mI _ (fun x => ez _ _ _) _ _ (mI _ (fun x => ez _ _ _) _ _ h1)
structure RI where
 W : World
 bs : List Nat
 fo : Value
 r : RL
 i : Int
 n : Nat
def cz := (aq @List.replicate_succ.{0} @List.replicate_zero.{0} @aw @ah jS jP jn (aq cQ cV cX cS da c9 c8 (aq db iv ie ig ir iw tt (aq tS tN uE uz ud tO s5 (aq uN tn vh te oU pD oR (aq oE px pI yj xO w6 @rU.eq_1 (aq @sF.eq_1 @du.eq_1 @aO @au @aB @aC @fe (aq @jq @fI @fE @jd @iY @jc @mX (aq @s9.eq_1 @gj.eq_1 @qd.eq_1 @Gt46c127 @Gt46c179 @Gt46c260 @Gt46c180 (aq @Gt46c261 @Gt46c262 @B2 @Cz @vN @KO @SG @DG))))))))))
set_option maxHeartbeats 4000000 in
theorem Bn (s : ByteArray) (i0 : Int) (d : Nat) (op : List Value) (a : RL) (fa : Value) (ha : a.1 <= 2001) (u : Value) (fp : List Nat) (w : World) (S : Nat -> Prop) (h0 : 0 <= i0) (hi1 : i0 <= s.size) (hs : s.size <= 140737488351232)
  (ho : bz w u fp 251 (rU s i0 d op)) (hlt : ∀ b ∈ fp, b < w.heap.size) (hS : ∀ b ∈ fp, ¬ S b) (h1 : bu w S fa a.2) :
  Calls Tryz.prog 250 (#[u] ++ #[gk a fa]) w fun e w' => yl w S u fp 251 e w' (C6 s d op (gB (bt s) s.size ((s.size : Int).toNat + 1) a i0)) := by
 have ga : partsOf (.v (gk a fa)) = [.v (.int .i64 (a.1 : Nat)), .v fa] := rfl
 have u0 := aL.up w S fp
 have g0 := h1.mono (aL.gT w S fp hS)
 generalize hR : gB (bt s) s.size ((s.size : Int).toNat + 1) a i0 = R
 refine gG (nt := 38) S #[gk a fa] [.cell 4 254] (by show 3 <= 7; omega) ho hlt Tryz.func250 rfl rfl rfl ?_
 refine vR Γ0 (ab cz ga) ?_
 refine Wp.seq (Wp.block ?_)
 refine Wp.xR (fun p : RI => ⟨5, bV [(0, .is (.own 0 0)), (3, .is (.own 8 0)), (4, .is (.own 16 0))], cd [(0, .cells 251 [.v (.string s), .v (.int .i64 p.i), .hd 3]), (3, .row 3 1 d (op.map .v)), (8, .cells 254 [.v (.int .i64 (p.r.1 : Nat)), .v p.fo]), (16, .cells 254 [.v (.int .i64 0), .v .nilFunc])]⟩)
  RI.W RI.bs (fun p => (0 <= p.i /\ p.i <= s.size) /\ p.r.1 <= 2001 /\ ((s.size : Int) - p.i < p.n /\ 1 <= p.n) /\ bu p.W (eY (aL w S fp) p.bs) p.fo p.r.2 /\ gB (bt s) s.size p.n p.r p.i = R) (fun p => p.n) ⟨w, fp, fa, a, i0, (s.size : Int).toNat + 1⟩ rfl rfl ?_ ⟨⟨h0, hi1⟩, ha, ⟨by simp only; omega, by simp only; omega⟩, g0, hR⟩ ?_
 ·exact wM (fun x => .key x) (ab cz ga)
 rintro ⟨W1, bs1, fo, r, i, n⟩ ⟨⟨hi0, hiN⟩, hr, ⟨hn, hn1⟩, hg, hR'⟩ hx1
 simp only at hi0 hiN hr hn hn1 hg hR' hx1
 dsimp only
 obtain ⟨n, rfl⟩ : ∃ m, n = m + 1 := ⟨n - 1, by omega⟩
 have u1 := u0.ext hx1
 refine Wp.seq ?_
 refine wR (Γ46 (aL w S fp) r) cz ?_ ?_
 ·first | trivial | omega | (simp [hs]; done) | (simp [hs]; omega) | (simp [hs] <;> omega)
 refine wC cz (fun hc => ?_) (fun hc => ?_)
 ·have hi : i < s.size := by
   simp at hc
   omega
  rw [gB, if_neg (by omega)] at hR'
  have wi : IntKind.i64.wrap (i + 1) = i + 1 := aa (by omega) (by omega)
  refine wK ?_
  refine Wp.block ?_
  refine Wp.seq ?_
  refine wR (Γ46 (aL w S fp) r) cz ?_ ?_
  ·first | trivial | omega | (simp [hs]; done) | (simp [hs]; omega) | (simp [hs] <;> omega)
  refine Wp.block ?_
  refine vR Γ0 cz ?_
  refine wC cz (fun hc => ?_) (fun hc => ?_)
  ·have h42 : bt s i = 42 := by simpa using hc
   rw [if_pos h42] at hR'
   refine Wp.more ?_
   refine wr (Γ46 (aL w S fp) r) cz ?_ ?_
   ·exact ⟨⟨bT hg, hr, _, rfl⟩, u1⟩
   refine dV ?_
   refine Pw.gF 104 (ev cz) (cr.refl _ _) fun W2 bs2 cs hx2 hΦ => ?_
   obtain ⟨fv, rfl, hg2, hv2⟩ := ca hΦ
   refine Pw.here ?_
   refine qq ?_
   refine vr Γ0 (ab cz wi) ?_
   refine ⟨⟨W2, bs2, fv, eo r, i + 1, n⟩, ⟨by simp only; omega, mi r, by simp only; omega, hg2, hR'⟩, by simp only; omega, rfl, rfl, ?_⟩
   exact wM (fun x => .key x) (ab cz hv2)
  ·have h42 : ¬ bt s i = 42 := by simpa using hc
   rw [if_neg h42] at hR'
   refine vR Γ0 cz ?_
   refine wC cz (fun hc => ?_) (fun hc => ?_)
   ·have h43 : bt s i = 43 := by simpa using hc
    rw [if_pos h43] at hR'
    refine Wp.more ?_
    refine rX (Γ46 (aL w S fp) r) cz ?_ ?_
    ·exact ⟨⟨⟨bT hg, hr, _, rfl⟩, u1⟩, ⟨bT hg, ⟨hr, mi r⟩, _, _, rfl⟩, u1⟩
    refine dV ?_
    refine Pw.gF 136 (ev cz) (cr.refl _ _) fun W2 bs2 cs hx2 hΦ => ?_
    obtain ⟨fv, rfl, hg2, hv2⟩ := ca hΦ
    refine Pw.here ?_
    refine qq ?_
    refine vr Γ0 (ab cz wi) ?_
    refine ⟨⟨W2, bs2, fv, aQ .cat r (eo r), i + 1, n⟩, ⟨by simp only; omega, ez _ _ _, by simp only; omega, hg2, hR'⟩, by simp only; omega, rfl, rfl, ?_⟩
    exact wM (fun x => .key x) (ab cz hv2)
   ·have h43 : ¬ bt s i = 43 := by simpa using hc
    rw [if_neg h43] at hR'
    refine vR Γ0 cz ?_
    refine wC cz (fun hc => ?_) (fun hc => ?_)
    ·have h63 : bt s i = 63 := by simpa using hc
     rw [if_pos h63] at hR'
     refine Wp.more ?_
     refine wr (Γ46 (aL w S fp) r) cz ?_ ?_
     ·exact ⟨⟨bT hg, hr, _, rfl⟩, u1⟩
     refine dV ?_
     refine Pw.gF 136 (ev cz) (cr.refl _ _) fun W2 bs2 cs hx2 hΦ => ?_
     obtain ⟨fv, rfl, hg2, hv2⟩ := ca hΦ
     refine Pw.here ?_
     refine qq ?_
     refine vr Γ0 (ab cz wi) ?_
     refine ⟨⟨W2, bs2, fv, bw r, i + 1, n⟩, ⟨by simp only; omega, kP r, by simp only; omega, hg2, hR'⟩, by simp only; omega, rfl, rfl, ?_⟩
     exact wM (fun x => .key x) (ab cz hv2)
    ·have h63 : ¬ bt s i = 63 := by simpa using hc
     rw [if_neg h63] at hR'
     refine vR Γ0 cz ?_
     refine wC cz (fun hc => ?_) (fun hc => ?_)
     ·have h123 : bt s i = 123 := by simpa using hc
      rw [if_pos h123] at hR'
      cases hB : lE (bt s) s.size i with
      | error e =>
       obtain ⟨c, j⟩ := e
       rw [hB] at hR'
       simp only at hR'
       rw [<- hR', bH]
       refine Wp.iA (Γ46 (aL w S fp) r) bP (ev (ab cz hB)) ?_ ?_
       ·exact ⟨⟨bT hg, _, _, _, _, _, rfl, rfl, hr, hi0, hi, hs⟩, by decide, by simp⟩
       refine qq ?_
       exact ⟨_, rfl⟩
      | ok q =>
       obtain ⟨m, k, j⟩ := q
       rw [hB] at hR'
       simp only at hR'
       have hj := tA hB
       refine wR (Γ46 (aL w S fp) r) (ab cz hB) ?_ ?_
       ·exact ⟨⟨bT hg, _, _, _, _, _, rfl, rfl, hr, hi0, hi, hs⟩, by decide, by simp, u1⟩
       refine Wp.gF 167 (ev cz) (cr.refl _ _) fun W2 bs2 cs hx2 hΦ => ?_
       obtain ⟨fv, rfl, hg2, hv2⟩ := ca hΦ
       refine wE ?_
       refine ⟨⟨W2, bs2, fv, cJ r m k, j, n⟩, ⟨by simp only; omega, wP _ _ _ hr, by simp only; omega, hg2, hR'⟩, by simp only; omega, rfl, rfl, ?_⟩
       exact wM (fun x => if x = 3 then .key 162 else .key x) (ab cz hv2)
     ·have h123 : ¬ bt s i = 123 := by simpa using hc
      rw [if_neg h123] at hR'
      refine wR Γ0 cz ?_ ?_
      ·exact hg.one
      refine wZ cz ?_
      rw [<- hR']
      exact dT hg rfl (by simp only [dM, Op.operands, Value.cells, σ0, σB, Nat.reduceEqDiff, Nat.reduceAdd, Nat.reduceMul, Nat.reduceLT, Nat.reduceLeDiff, Nat.reduceBEq, ae, Int.reduceToNat, Int.reduceLT, Int.reduceLE, Nat.reduceDiv, Nat.reduceMod, Nat.reduceSub, Int.reducePow, Nat.reducePow, σP, σB3, cz, aE]; rfl) (by decide)
 ·have hi : ¬ i < s.size := by
   simp at hc
   omega
  rw [gB, if_pos hi] at hR'
  refine wE ?_
  refine wR Γ0 cz ?_ ?_
  ·exact hg.one
  refine wZ cz ?_
  rw [<- hR']
  exact dT hg rfl (by simp only [dM, Op.operands, Value.cells, σ0, σB, Nat.reduceEqDiff, Nat.reduceAdd, Nat.reduceMul, Nat.reduceLT, Nat.reduceLeDiff, Nat.reduceBEq, ae, Int.reduceToNat, Int.reduceLT, Int.reduceLE, Nat.reduceDiv, Nat.reduceMod, Nat.reduceSub, Int.reducePow, Nat.reducePow, σP, σB3, cz, aE]; rfl) (by decide)
def kO (a : RL) : wU Tryz.prog 250 where
 T := 251
 kinds := [some (Sh.two, dc a)]
 pre := fun fs as_ W S => ∃ s i d op x, fs = rU s i d op /\ as_ = [x] /\ a.1 <= 2001 /\ 0 <= i /\ i <= s.size /\ s.size <= 140737488351232
 premono := fun _ _ _ _ _ _ _ h => h
 out := fun fs as_ => match fs with
  | [.val (.string s), .val (.int .i64 i), .row 3 1 d op] => C6 s d op (gB (bt s) s.size ((s.size : Int).toNat + 1) a i)
  | _ => .pan [] undef
 enters := Tryz.call250
 ok := by
  intro w S u fp us fs as_ ho hlt hS hu hp
  obtain ⟨s, i, d, op, x, rfl, rfl, ha, h0, hi, hs⟩ := hp
  match us, hu with
  | [u1], hu =>
   obtain ⟨h1, _⟩ := hu
   obtain ⟨fa, rfl, h1'⟩ := jH h1
   exact Bn s i d op a fa ha u fp w S h0 hi hs ho hlt hS h1'
end
section
open Go.RowKit Go.LE
set_option maxRecDepth 10000
def fc (s : ByteArray) (i : Int) : Except (Int × Int) (BitVec 256 × Int) := match df s i with
 | .error j => .error (10, j)
 | .ok (a, j) => .ok (a, j)
def zo (f : FuncId) (E : ByteArray -> Int -> Except (Int × Int) (RL × Int)) (need : ByteArray -> Int -> Prop) (n : Nat) : Prop :=
 ∀ (s : ByteArray) (i : Int) (d : Nat) (op : List Value) (u : Value) (fp : List Nat) (w : World) (S : Nat -> Prop), d + n = 1000 -> op.length = d -> 0 <= i -> need s i -> s.size <= 140737488351232 -> bc w S ->
  bz w u fp 251 (rU s i d op) -> (∀ b ∈ fp, b < w.heap.size) -> (∀ b ∈ fp, ¬ S b) ->
  Calls Tryz.prog f (#[u] ++ #[]) w fun e w' => yl w S u fp 251 e w' (C6 s d op (E s i))
abbrev Bq (n : Nat) : Prop := zo 251 (fun s i => bk (bt s) s.size (fc s) n i) (fun s i => i < s.size) n
abbrev KG (n : Nat) : Prop := zo 216 (fun s i => dP (bt s) s.size (bk (bt s) s.size (fc s) n) ((s.size : Int).toNat + 1) none i) (fun s i => i <= s.size) n
abbrev By (n : Nat) : Prop := zo 178 (fun s i => jr (bt s) s.size (dP (bt s) s.size (bk (bt s) s.size (fc s) n) ((s.size : Int).toNat + 1) none) i) (fun s i => i <= s.size) n
abbrev QP (n : Nat) : Prop := zo 126 (fun s i => sf (bt s) s.size (bk (bt s) s.size (fc s) n) i) (fun s i => i <= s.size) n
def kJ (f : FuncId) (E : ByteArray -> Int -> Except (Int × Int) (RL × Int)) (need : ByteArray -> Int -> Prop) (n : Nat) (hen : ∀ args w, (callFunc f args).run Tryz.prog w = .ok (.enter f args) w) (h : zo f E need n) : wU Tryz.prog f where
 T := 251
 kinds := []
 pre := fun fs as_ W S => (∃ s i d op, fs = rU s i d op /\ d + n = 1000 /\ op.length = d /\ 0 <= i /\ need s i /\ s.size <= 140737488351232) /\ bc W S
 premono := fun _ _ _ _ _ _ hs h => ⟨h.1, h.2.mono hs⟩
 out := fun fs as_ => match fs with
  | [.val (.string s), .val (.int .i64 i), .row 3 1 d op] => C6 s d op (E s i)
  | _ => .pan [] undef
 enters := hen
 ok := by
  intro w S u fp us fs as_ ho hlt hS hu hp
  obtain ⟨⟨s, i, d, op, rfl, h1, h2, h3, h4, h5⟩, h6⟩ := hp
  match us, as_, hu with
  | [], [], _ => exact h s i d op u fp w S h1 h2 h3 h4 h5 h6 ho hlt hS
theorem oT (f : FuncId) (E : ByteArray -> Int -> Except (Int × Int) (RL × Int)) (need : ByteArray -> Int -> Prop) (n : Nat) (hen) (h : zo f E need n) (s : ByteArray) (i : Int) (d : Nat) (op : List Value) (as_ : List AV) :
  (kJ f E need n hen h).out [.val (.string s), .val (.int .i64 i), .row 3 1 d op] as_ = C6 s d op (E s i) := rfl
theorem pQ (f : FuncId) (E : ByteArray -> Int -> Except (Int × Int) (RL × Int)) (need : ByteArray -> Int -> Prop) (n : Nat) (hen) (h : zo f E need n) (fs as_ : List AV) (W : World) (S : Nat -> Prop) :
  (kJ f E need n hen h).pre fs as_ W S = ((∃ s i d op, fs = rU s i d op /\ d + n = 1000 /\ op.length = d /\ 0 <= i /\ need s i /\ s.size <= 140737488351232) /\ bc W S) := rfl
theorem lB (f : FuncId) (E : ByteArray -> Int -> Except (Int × Int) (RL × Int)) (need : ByteArray -> Int -> Prop) (n : Nat) (hen) (h : zo f E need n) : (kJ f E need n hen h).kinds = [] := rfl
theorem zH (f : FuncId) (E : ByteArray -> Int -> Except (Int × Int) (RL × Int)) (need : ByteArray -> Int -> Prop) (n : Nat) (hen) (h : zo f E need n) : (kJ f E need n hen h).T = 251 := rfl
theorem yS (a : RL) (s : ByteArray) (i : Int) (d : Nat) (op : List Value) (as_ : List AV) : (kO a).out [.val (.string s), .val (.int .i64 i), .row 3 1 d op] as_ = C6 s d op (gB (bt s) s.size ((s.size : Int).toNat + 1) a i) := rfl
theorem zc (a : RL) (fs as_ : List AV) (W : World) (S : Nat -> Prop) : (kO a).pre fs as_ W S = ∃ s i d op x, fs = rU s i d op /\ as_ = [x] /\ a.1 <= 2001 /\ 0 <= i /\ i <= s.size /\ s.size <= 140737488351232 := rfl
theorem vq (a : RL) : (kO a).kinds = [some (Sh.two, dc a)] := rfl
theorem DX (a : RL) : (kO a).T = 251 := rfl
noncomputable def Γ47 (G : Nat -> Prop) (n : Nat) (h : Bq n) (a x y : RL) : Env Tryz.prog := ⟨fun | 127 => some dj.spec | 179 => some fU.spec | 128 => some eN.spec | 249 => some ((lO .eps).spec G) | 180 => some ((gj .cat x y).spec G) | 250 => some ((kO a).spec G) | 251 => some ((kJ _ _ _ n Tryz.call251 h).spec G) | _ => none, fun _ => none, fun _ _ => none⟩
section
variable (G : Nat -> Prop) (n : Nat) (h : Bq n) (a x y : RL)
theorem Gt47c127 : (Γ47 G n h a x y).sp 127 = some dj.spec := rfl
theorem Gt47c179 : (Γ47 G n h a x y).sp 179 = some fU.spec := rfl
theorem Gt47c128 : (Γ47 G n h a x y).sp 128 = some eN.spec := rfl
theorem Gt47c249 : (Γ47 G n h a x y).sp 249 = some ((lO .eps).spec G) := rfl
theorem Gt47c180 : (Γ47 G n h a x y).sp 180 = some ((gj .cat x y).spec G) := rfl
theorem Gt47c250 : (Γ47 G n h a x y).sp 250 = some ((kO a).spec G) := rfl
theorem Gt47c251 : (Γ47 G n h a x y).sp 251 = some ((kJ _ _ _ n Tryz.call251 h).spec G) := rfl
end
theorem zF {s : ByteArray} : ∀ {n : Nat} {i : Int} {a b : CS} {j : Int}, qH s n i a = .ok (b, j) -> 0 <= i -> i < j /\ j <= s.size
 | 0, i, a, b, j, h, _ => by cases h
 | n + 1, i, a, b, j, h, h0 => by
  rw [qH] at h
  split at h
  ·simp only [Except.ok.injEq, Prod.mk.injEq] at h; omega
  ·cases h1 : dt s i ki with
   | error e => rw [h1] at h; cases h
   | ok p =>
    obtain ⟨lo, k⟩ := p
    rw [h1] at h
    simp only at h
    have g1 := iI h1 h0
    split at h
    ·cases h2 : dt s (k + 1) ki with
     | error e => rw [h2] at h; cases h
     | ok p =>
      obtain ⟨hi, l⟩ := p
      rw [h2] at h
      simp only at h
      have g2 := iI h2 (by omega)
      split at h
      ·cases h
      ·have := zF h (by omega); omega
    ·have := zF h (by omega); omega
theorem vi {s : ByteArray} {i : Int} {a : CS} {j : Int} (h : df s i = .ok (a, j)) (h0 : 0 <= i) (h1 : i < s.size) : i < j /\ j <= s.size := by
 rw [df] at h
 split at h
 ·simp only [Except.ok.injEq, Prod.mk.injEq] at h; omega
 ·split at h
  ·rw [dR] at h
   cases hm : qH s (s.size + 1) (if gr s (i + 1) then i + 1 + 1 else i + 1) 0 with
   | error e => rw [hm] at h; cases h
   | ok p =>
    obtain ⟨b, k⟩ := p
    rw [hm] at h
    simp only [pX, Except.ok.injEq, Prod.mk.injEq] at h
    have := zF hm (by split <;> omega)
    have hle : i + 1 <= (if gr s (i + 1) then i + 1 + 1 else i + 1) := by split <;> omega
    omega
  ·cases h2 : dt s i vB with
   | error e => rw [h2] at h; cases h
   | ok p =>
    obtain ⟨b, k⟩ := p
    rw [h2] at h
    simp only [Sl, Except.ok.injEq, Prod.mk.injEq] at h
    have := iI h2 h0
    omega
theorem q6 (s : ByteArray) : qI s.size (fc s) := fun i S j h0 h1 h => by
 rw [fc] at h
 cases h2 : df s i with
 | error e => rw [h2] at h; cases h
 | ok p =>
  obtain ⟨a, k⟩ := p
  rw [h2] at h
  simp only [Except.ok.injEq, Prod.mk.injEq] at h
  have := vi h2 h0 h1
  omega
theorem Gm {s : ByteArray} {n : Nat} (hn : n <= 1000) {i j : Int} {r : RL} (h0 : 0 <= i) (hi : i < s.size) (he : ¬ eS (bt s i)) (hp : ¬ bf (bt s i)) (h : bk (bt s) s.size (fc s) n i = .ok (r, j)) : i < j /\ j <= s.size /\ r.1 <= 2001 := by
 have := pP (c := bt s) (q6 s) n i (eT 0) (List.replicate (1000 - n) (eT 0)) h0 hi he hp (by simp; omega)
 rw [h] at this
 obtain ⟨h1, h2, t, rfl, _⟩ := this
 exact ⟨h1, h2, rr t⟩
theorem kt {s : ByteArray} : ∀ {n : Nat} {r r' : RL} {i j : Int}, gB (bt s) s.size n r i = .ok (r', j) -> i <= s.size -> r.1 <= 2001 -> i <= j /\ j <= s.size /\ r'.1 <= 2001
 | 0, r, r', i, j, h, hi, hr => by
  simp only [gB, Except.ok.injEq, Prod.mk.injEq] at h
  obtain ⟨rfl, rfl⟩ := h
  exact ⟨Int.le_refl _, hi, hr⟩
 | n + 1, r, r', i, j, h, hi, hr => by
  rw [gB] at h
  split at h
  ·simp only [Except.ok.injEq, Prod.mk.injEq] at h
   obtain ⟨rfl, rfl⟩ := h
   exact ⟨Int.le_refl _, hi, hr⟩
  ·split at h
   ·have := kt h (by omega) (mi _); exact ⟨by omega, this.2⟩
   ·split at h
    ·have := kt h (by omega) (ez _ _ _); exact ⟨by omega, this.2⟩
    ·split at h
     ·have := kt h (by omega) (kP _); exact ⟨by omega, this.2⟩
     ·split at h
      ·cases hB : lE (bt s) s.size i with
       | error e => rw [hB] at h; cases h
       | ok q =>
        obtain ⟨m, k, l⟩ := q
        rw [hB] at h
        have hl := tA hB
        have := kt h (by omega) (wP _ _ _ hr)
        exact ⟨by omega, this.2⟩
      ·simp only [Except.ok.injEq, Prod.mk.injEq] at h
       obtain ⟨rfl, rfl⟩ := h
       exact ⟨Int.le_refl _, hi, hr⟩
theorem TV (o : Option RL) (p : RL) (hp : p.1 <= 2001) : (vn o p).1 <= 2001 := by
 cases o with
 | none => exact hp
 | some x => exact ez _ _ _
structure RO where
 W : World
 bs : List Nat
 fo : Value
 o : Option RL
 i : Int
 n : Nat
def br := (aq @List.replicate_succ.{0} @List.replicate_zero.{0} @aw @ah jS jP jn (aq cQ cV cX cS da c9 c8 (aq db iv ie ig ir iw ME (aq O7 No Qe rz rh rm rj (aq tt tS tN uE uz ud tO (aq s5 uN tn vh te oU pD (aq oR oE px pI G1 G2 H7 (aq Ht H6 Hr Hs yj xO w6 (aq @rU.eq_1 @sF.eq_1 @du.eq_1 @aO @au @aB @aC (aq @fe @jq @fI @fE @jd @iY @jc (aq @mX @ia @gY @ky @lO.eq_1 @gj.eq_1 @mW (aq @bH @oT @pQ @lB @zH @yS @zc (aq @vq @DX @Gt47c127 @Gt47c179 @Gt47c128 @Gt47c249 @Gt47c180 (ab @Gt47c250 @Gt47c251))))))))))))))
set_option maxHeartbeats 4000000 in
theorem IE (n : Nat) (hA : Bq n) : KG n := by
 intro s i0 d op u fp w S hdn hop h0 hi1 hs hesc ho hlt hS
 have u0 := aL.up w S fp
 have e0 := hesc.mono (aL.gT w S fp hS)
 dsimp only
 generalize hR : dP (bt s) s.size (bk (bt s) s.size (fc s) n) ((s.size : Int).toNat + 1) none i0 = R
 refine gG (nt := 41) S #[] [.cell 2 254] (by show 3 <= 7; omega) ho hlt Tryz.func216 rfl rfl rfl ?_
 refine vR Γ0 br ?_
 refine wR (Γ47 (aL w S fp) n hA (bK .eps) (bK .eps) (bK .eps)) br ?_ ?_
 ·exact ⟨rfl, u0⟩
 refine Wp.gF 32 (ev br) (cr.refl _ _) fun W0 bs0 cs hx0 hΦ => ?_
 obtain ⟨fv, rfl, hg, hv1⟩ := ca hΦ
 have u00 := u0.ext hx0
 refine Wp.seq (Wp.block ?_)
 refine Wp.xR (fun p : RO => ⟨10, bV [(0, .is (.own 0 0)), (2, .is (.own 8 0)), (3, .is (.own 40 0)), (4, .is (.v (.bool p.o.isSome)))], cd [(0, .cells 251 [.v (.string s), .v (.int .i64 p.i), .hd 3]), (3, .row 3 1 d (op.map .v)), (8, .cells 254 [.v (.int .i64 0), .v .nilFunc]), (40, .cells 254 [.v (.int .i64 ((qn p.o).1 : Nat)), .v p.fo])]⟩)
  RO.W RO.bs (fun p => (0 <= p.i /\ p.i <= s.size) /\ (qn p.o).1 <= 2001 /\ ((s.size : Int) - p.i < p.n /\ 1 <= p.n) /\ bu p.W (eY (aL w S fp) p.bs) p.fo (qn p.o).2 /\ dP (bt s) s.size (bk (bt s) s.size (fc s) n) p.n p.o p.i = R) (fun p => p.n) ⟨W0, bs0, fv, none, i0, (s.size : Int).toNat + 1⟩ rfl rfl ?_ ⟨⟨h0, hi1⟩, by show 1 <= 2001; omega, ⟨by simp only; omega, by simp only; omega⟩, hg, hR⟩ ?_
 ·exact wM (fun x => .key x) (p8 br hv1 @qn.eq_1 @bK.eq_1 @Option.getD_none.{0})
 rintro ⟨W1, bs1, fo, o, i, k⟩ ⟨⟨hi0, hiN⟩, hr, ⟨hn, hn1⟩, hg, hR'⟩ hx1
 simp only at hi0 hiN hr hn hn1 hg hR' hx1
 dsimp only
 obtain ⟨k, rfl⟩ : ∃ m, k = m + 1 := ⟨k - 1, by omega⟩
 have hx01 := hx0.trans hx1
 have u1 := u0.ext hx01
 have e1 := e0.mono hx01.At
 refine Wp.seq ?_
 refine wR (Γ47 (aL w S fp) n hA (bK .eps) (bK .eps) (bK .eps)) br ?_ ?_
 ·first | trivial | omega | (simp [hs]; done) | (simp [hs]; omega) | (simp [hs] <;> omega)
 refine wC br (fun hc => ?_) (fun hc => ?_)
 ·have hi : i < s.size := by
   simp at hc
   omega
  rw [dP, if_neg (by omega)] at hR'
  refine wK ?_
  refine Wp.block ?_
  refine Wp.seq ?_
  refine wR (Γ47 (aL w S fp) n hA (bK .eps) (bK .eps) (bK .eps)) br ?_ ?_
  ·first | trivial | omega | (simp [hs]; done) | (simp [hs]; omega) | (simp [hs] <;> omega)
  refine Wp.block ?_
  refine bx ⟨30, bV [(0, .is (.own 0 0)), (2, .is (.own 8 0)), (3, .is (.own 40 0)), (4, .is (.v (.bool o.isSome))), (13, .is (.v (.int .u8 (bt s i)))), (14, .is (.v (.bool (decide (eS (bt s i))))))], cd [(0, .cells 251 [.v (.string s), .v (.int .i64 i), .hd 3]), (3, .row 3 1 d (op.map .v)), (8, .cells 254 [.v (.int .i64 0), .v .nilFunc]), (40, .cells 254 [.v (.int .i64 ((qn o).1 : Nat)), .v fo])]⟩ ?_ ?_
  ·skip
   refine vR Γ0 br ?_
   refine wC br (fun hc => ?_) (fun hc => ?_)
   ·have e : decide (eS (bt s i)) = true := decide_eq_true (show eS (bt s i) from .inl (by simpa using hc))
    refine wK ?_
    exact wM (fun x => .key x) (dk br hc e)
   ·have hc1 := hc
    refine vR Γ0 br ?_
    refine wC br (fun hc => ?_) (fun hc => ?_)
    ·have e : decide (eS (bt s i)) = true := decide_eq_true (show eS (bt s i) from .inr (.inl (by simpa using hc)))
     refine wK ?_
     exact wM (fun x => .key x) (dk br hc e)
    ·have hc2 := hc
     refine vR Γ0 br ?_
     refine wC br (fun hc => ?_) (fun hc => ?_)
     ·have e : decide (eS (bt s i)) = true := decide_eq_true (show eS (bt s i) from .inr (.inr (.inl (by simpa using hc))))
      refine wK ?_
      exact wM (fun x => .key x) (dk br hc e)
     ·have e : decide (eS (bt s i)) = decide (bt s i = 41) := by
       have g1 : ¬ bt s i = 124 := by simpa using hc1
       have g2 : ¬ bt s i = 38 := by simpa using hc2
       have g3 : ¬ bt s i = 45 := by simpa using hc
       rw [decide_eq_decide]
       unfold eS
       omega
      refine vr Γ0 br ?_
      exact wM (fun x => .key x) (ab br e)
  refine wC br (fun hc => ?_) (fun hc => ?_)
  ·have he : eS (bt s i) := by simpa using hc
   rw [if_pos he] at hR'
   refine wR Γ0 br ?_ ?_
   ·exact hg.one
   refine wZ br ?_
   rw [<- hR']
   exact dT hg rfl (by simp only [dM, Op.operands, Value.cells, σ0, σB, Nat.reduceEqDiff, Nat.reduceAdd, Nat.reduceMul, Nat.reduceLT, Nat.reduceLeDiff, Nat.reduceBEq, ae, Int.reduceToNat, Int.reduceLT, Int.reduceLE, Nat.reduceDiv, Nat.reduceMod, Nat.reduceSub, Int.reducePow, Nat.reducePow, σP, σB3, br, aE]; rfl) (by decide)
  ·have he : ¬ eS (bt s i) := by simpa using hc
   rw [if_neg he] at hR'
   refine bx ⟨50, bV [(0, .is (.own 0 0)), (2, .is (.own 8 0)), (3, .is (.own 40 0)), (4, .is (.v (.bool o.isSome))), (20, .is (.v (.bool (decide (bf (bt s i))))))], cd [(0, .cells 251 [.v (.string s), .v (.int .i64 i), .hd 3]), (3, .row 3 1 d (op.map .v)), (8, .cells 254 [.v (.int .i64 0), .v .nilFunc]), (40, .cells 254 [.v (.int .i64 ((qn o).1 : Nat)), .v fo])]⟩ ?_ ?_
   ·skip
    refine vR Γ0 br ?_
    refine wC br (fun hc => ?_) (fun hc => ?_)
    ·have e : decide (bf (bt s i)) = true := decide_eq_true (show bf (bt s i) from .inl (by simpa using hc))
     refine wK ?_
     exact wM (fun x => .key x) (dk br hc e)
    ·have hc1 := hc
     refine vR Γ0 br ?_
     refine wC br (fun hc => ?_) (fun hc => ?_)
     ·have e : decide (bf (bt s i)) = true := decide_eq_true (show bf (bt s i) from .inr (.inl (by simpa using hc)))
      refine wK ?_
      exact wM (fun x => .key x) (dk br hc e)
     ·have hc2 := hc
      refine vR Γ0 br ?_
      refine wC br (fun hc => ?_) (fun hc => ?_)
      ·have e : decide (bf (bt s i)) = true := decide_eq_true (show bf (bt s i) from .inr (.inr (.inl (by simpa using hc))))
       refine wK ?_
       exact wM (fun x => .key x) (dk br hc e)
      ·have e : decide (bf (bt s i)) = decide (bt s i = 123) := by
        have g1 : ¬ bt s i = 42 := by simpa using hc1
        have g2 : ¬ bt s i = 43 := by simpa using hc2
        have g3 : ¬ bt s i = 63 := by simpa using hc
        rw [decide_eq_decide]
        unfold bf
        omega
       refine vr Γ0 br ?_
       exact wM (fun x => .key x) (ab br e)
   refine wC br (fun hc => ?_) (fun hc => ?_)
   ·have hp : bf (bt s i) := by simpa using hc
    rw [if_pos hp] at hR'
    rw [<- hR', bH]
    refine Wp.nA (Γ47 (aL w S fp) n hA (bK .eps) (bK .eps) (bK .eps)) bP (ev br) ?_ ?_
    ·first | trivial | omega | (simp [hs]; done) | (simp [hs]; omega) | (simp [hs] <;> omega)
    refine qq ?_
    exact ⟨_, rfl⟩
   ·have hp : ¬ bf (bt s i) := by simpa using hc
    rw [if_neg hp] at hR'
    refine wK ?_
    cases hAt : bk (bt s) s.size (fc s) n i with
    | error e =>
     obtain ⟨c, j⟩ := e
     rw [hAt] at hR'
     simp only at hR'
     rw [<- hR', bH]
     refine Wp.iA (Γ47 (aL w S fp) n hA (bK .eps) (bK .eps) (bK .eps)) bP (ev (ab br hAt)) ?_ ?_
     ·exact ⟨⟨⟨_, _, _, _, rfl, hdn, hop, hi0, hi, hs⟩, e1⟩, by decide, by simp⟩
     refine qq ?_
     exact ⟨_, rfl⟩
    | ok q =>
     obtain ⟨a, j⟩ := q
     have ha := Gm (by omega) hi0 hi he hp hAt
     rw [hAt] at hR'
     simp only at hR'
     cases hRp : gB (bt s) s.size ((s.size : Int).toNat + 1) a j with
     | error e =>
      obtain ⟨c, l⟩ := e
      rw [hRp] at hR'
      simp only at hR'
      rw [<- hR', bH]
      have hRp' := hRp
      rw [Int.toNat_natCast] at hRp'
      refine Wp.iA (Γ47 (aL w S fp) n hA a (bK .eps) (bK .eps)) bP (ev (dk br hAt hRp')) ?_ ?_
      ·exact ⟨⟨⟨⟨_, _, _, _, rfl, hdn, hop, hi0, hi, hs⟩, e1⟩, by decide, by simp, u1⟩, ⟨_, _, _, _, _, rfl, rfl, ha.2.2, by omega, ha.2.1, hs⟩, by decide, by simp⟩
      refine qq ?_
      exact ⟨_, rfl⟩
     | ok q =>
      obtain ⟨p, l⟩ := q
      have hp1 := kt hRp ha.2.1 ha.2.2
      rw [hRp] at hR'
      simp only at hR'
      have hRp' := hRp
      rw [Int.toNat_natCast] at hRp'
      refine wR (Γ47 (aL w S fp) n hA a (bK .eps) (bK .eps)) (dk br hAt hRp') ?_ ?_
      ·exact ⟨⟨⟨⟨_, _, _, _, rfl, hdn, hop, hi0, hi, hs⟩, e1⟩, by decide, by simp, u1⟩, ⟨_, _, _, _, _, rfl, rfl, ha.2.2, by omega, ha.2.1, hs⟩, by decide, by simp, u1⟩
      refine Wp.gF 431 (ev br) (cr.refl _ _) fun W2 bs2 cs hx2 hΦ => ?_
      obtain ⟨fp2, rfl, hg2, hv2⟩ := ca hΦ
      have hgo := hg.mono hx2.At
      have u2 := u1.ext hx2
      refine iK (fun p2 : TI => ⟨70, bV [(0, .is (.own 0 0)), (2, .is (.own 8 0)), (3, .is (.own 40 0)), (5, .is (.own 432 0))], cd [(0, .cells 251 [.v (.string s), .v (.int .i64 l), .hd 3]), (3, .row 3 1 d (op.map .v)), (8, .cells 254 [.v (.int .i64 0), .v .nilFunc]), (40, .cells 254 [.v (.int .i64 ((qn o).1 : Nat)), .v fo]), (432, .cells 254 [.v (.int .i64 ((vn o p).1 : Nat)), .v p2.fo])]⟩) TI.W TI.bs
       (fun p2 => bu p2.W (eY (aL w S fp) p2.bs) p2.fo (vn o p).2) ?_ ?_
      ·skip
       refine vR Γ0 br ?_
       refine wC br (fun hc => ?_) (fun hc => ?_)
       ·obtain ⟨x, rfl⟩ := Option.isSome_iff_exists.1 hc
        refine Wp.more ?_
        refine wr (Γ47 (aL w S fp) n hA a x p) (dk br hv2 @qn.eq_1) ?_ ?_
        ·exact ⟨⟨⟨bT hgo, bT hg2⟩, ⟨hr, hp1.2.2⟩, _, _, rfl⟩, u2⟩
        refine dV ?_
        refine Pw.gF 472 (ev (ab br hv2)) (cr.refl _ _) fun W3 bs3 cs hx3 hΦ3 => ?_
        obtain ⟨fp3, rfl, hg3, hv3⟩ := ca hΦ3
        refine Pw.here ?_
        refine qq ?_
        refine ⟨⟨W3, bs3, fp3, 0⟩, hg3, rfl, rfl, ?_⟩
        exact wM (fun x => if x = 3 then .key 426 else .key x) (p8 br hv2 hv3 @vn.eq_1 @vn.eq_2)
       ·have ho2 : o = none := by cases o with | none => rfl | some x => cases hc
        subst ho2
        refine wK ?_
        refine ⟨⟨W2, bs2, fp2, 0⟩, hg2, rfl, rfl, ?_⟩
        exact wM (fun x => if x = 3 then .key 426 else .key x) (fj br hv2 @vn.eq_1 @vn.eq_2)
      rintro ⟨W3, bs3, fo3, j3⟩ hg3 hx3
      simp only at hg3 hx3
      dsimp only
      refine wr Γ0 br ?_ ?_
      ·exact hg3.one
      refine ⟨⟨W3, bs3, fo3, some (vn o p), l, k⟩, ⟨by simp only; omega, TV o p hp1.2.2, by simp only; omega, hg3, hR'⟩, by simp only; omega, rfl, rfl, ?_⟩
      exact wM (fun x => .key x) (ab br @qn.eq_1)
 ·have hi : ¬ i < s.size := by
   simp at hc
   omega
  rw [dP, if_pos hi] at hR'
  refine wE ?_
  refine wR Γ0 br ?_ ?_
  ·exact hg.one
  refine wZ br ?_
  rw [<- hR']
  exact dT hg rfl (by simp only [dM, Op.operands, Value.cells, σ0, σB, Nat.reduceEqDiff, Nat.reduceAdd, Nat.reduceMul, Nat.reduceLT, Nat.reduceLeDiff, Nat.reduceBEq, ae, Int.reduceToNat, Int.reduceLT, Int.reduceLE, Nat.reduceDiv, Nat.reduceMod, Nat.reduceSub, Int.reducePow, Nat.reducePow, σP, σB3, br, aE]; rfl) (by decide)
end
section
open Go.RowKit Go.LE
set_option maxRecDepth 10000
noncomputable def Γ48 (G : Nat -> Prop) (n : Nat) (h : KG n) (x y : RL) : Env Tryz.prog := ⟨fun | 127 => some dj.spec | 179 => some fU.spec | 180 => some ((gj .and x y).spec G) | 216 => some ((kJ _ _ _ n Tryz.call216 h).spec G) | _ => none, fun _ => none, fun _ _ => none⟩
noncomputable def Γ49 (G : Nat -> Prop) (n : Nat) (h : KG n) (x y : RL) : Env Tryz.prog := ⟨fun | 127 => some dj.spec | 179 => some fU.spec | 180 => some ((gj .minus x y).spec G) | 216 => some ((kJ _ _ _ n Tryz.call216 h).spec G) | _ => none, fun _ => none, fun _ _ => none⟩
noncomputable def Γ50 (G : Nat -> Prop) (n : Nat) (h : By n) (x y : RL) : Env Tryz.prog := ⟨fun | 127 => some dj.spec | 179 => some fU.spec | 180 => some ((gj .alt x y).spec G) | 178 => some ((kJ _ _ _ n Tryz.call178 h).spec G) | _ => none, fun _ => none, fun _ _ => none⟩
def Xp : FK := ⟨fun _ _ _ => True, fun _ _ => trivial⟩
def ue := (aq @List.replicate_succ.{0} @List.replicate_zero.{0} @aw @ah jS jP jn (aq cQ cV cX cS da c9 c8 (aq db iv ie ig ir iw tt (aq tS tN uE uz ud tO s5 (aq uN tn vh te IC I0 Ie (aq oU pD oR oE px pI yj (aq xO w6 @rU.eq_1 @sF.eq_1 @du.eq_1 @aO @au (aq @aB @aC @fe @jq @fI @fE @jd (aq @iY @jc @mX @gj.eq_1 @mW @bH @oT (nC @pQ @lB @zH @Gt40c219 @q8 @rJ))))))))))
set_option maxHeartbeats 2000000 in
theorem JT (na nb : Nat) (fa fb g : Value) (ha : na <= 2001) (hb : nb <= 2001) (h1 : fa.oneCell' = true) (h2 : fb.oneCell' = true) (h3 : g.oneCell' = true) (hg : partsOf (.v g) = [.v g]) (w : World) (S : Nat -> Prop) :
  Calls Tryz.prog 180 #[.agg #[.int .i64 (na : Nat), fa], .agg #[.int .i64 (nb : Nat), fb], g] w fun e w' => l4 w S e w' (.fact Sh.two Xp) := by
 have ga : partsOf (.v (.agg #[.int .i64 (na : Nat), fa])) = [.v (.int .i64 (na : Nat)), .v fa] := rfl
 have gb : partsOf (.v (.agg #[.int .i64 (nb : Nat), fb])) = [.v (.int .i64 (nb : Nat)), .v fb] := rfl
 have w1 := Ib ha hb
 refine eD (nt := 16) S [.cell 6 254] Tryz.func180 rfl rfl rfl ?_
 refine vR Γ40 (fj ue ga gb hg) ?_
 refine vR Γ40 (nC ue ga gb hg w1 @iU) ?_
 refine Wp.lI 0 (ev (fj ue ga gb hg)) (fun E => by simp only [an, den, ga, gb, hg]; exact rfl) fun W1 bs1 b3 hx1 hb3 hn3 hc3 => ?_
 refine Wp.lI 8 (ev (fj ue ga gb hg)) (fun E => by simp only [an, den, ga, gb, hg]; exact rfl) fun W2 bs2 b4 hx2 hb4 hn4 hc4 => ?_
 refine Wp.lI 16 (ev (fj ue ga gb hg)) (fun E => by simp only [an, den, ga, gb, hg]; exact rfl) fun W3 bs3 b5 hx3 hb5 hn5 hc5 => ?_
 refine wZ (nC ue ga gb hg w1 @iU) ?_
 exact ⟨[.int .i64 ((b7 (1 + na + nb) : Nat) : Int), .func (.func 220) #[] #[lj b5, lj b3, lj b4]], fun E => rfl, trivial⟩
def BW : j8 Tryz.prog 180 where
 kinds := [none, none, none]
 pre := fun as_ _ _ => ∃ (na nb : Nat) (fa fb : Value) (g : Jn), as_ = [.val (.agg #[.int .i64 (na : Nat), fa]), .val (.agg #[.int .i64 (nb : Nat), fb]), .val g.v] /\ na <= 2001 /\ nb <= 2001 /\ fa.oneCell' = true /\ fb.oneCell' = true
 premono := fun _ _ _ _ _ _ h => h
 out := fun _ => .fact Sh.two Xp
 enters := Tryz.call180
 ok := by
  intro w S us as_ hu hp
  obtain ⟨na, nb, fa, fb, g, rfl, ha, hb, h1, h2⟩ := hp
  match us, hu with
  | [u1, u2, u3], hu =>
   obtain ⟨rfl, rfl, rfl, _⟩ := hu
   exact JT na nb fa fb g.v ha hb h1 h2 rfl rfl w S
noncomputable def Γ51 (G : Nat -> Prop) (n : Nat) (h : KG n) : Env Tryz.prog := ⟨fun | 180 => some (BW.spec G) | 216 => some ((kJ _ _ _ n Tryz.call216 h).spec G) | _ => none, fun _ => none, fun _ _ => none⟩
noncomputable def Γ52 (G : Nat -> Prop) (n : Nat) (h : By n) : Env Tryz.prog := ⟨fun | 180 => some (BW.spec G) | 178 => some ((kJ _ _ _ n Tryz.call178 h).spec G) | _ => none, fun _ => none, fun _ _ => none⟩
section
variable (G : Nat -> Prop) (n : Nat) (h : KG n) (h' : By n) (x y : RL)
theorem Gt51c180 : (Γ51 G n h).sp 180 = some (BW.spec G) := rfl
theorem Gt51c216 : (Γ51 G n h).sp 216 = some ((kJ _ _ _ n Tryz.call216 h).spec G) := rfl
theorem Gt52c180 : (Γ52 G n h').sp 180 = some (BW.spec G) := rfl
theorem Gt52c178 : (Γ52 G n h').sp 178 = some ((kJ _ _ _ n Tryz.call178 h').spec G) := rfl
theorem Gt48c127 : (Γ48 G n h x y).sp 127 = some dj.spec := rfl
theorem Gt48c179 : (Γ48 G n h x y).sp 179 = some fU.spec := rfl
theorem Gt48c180 : (Γ48 G n h x y).sp 180 = some ((gj .and x y).spec G) := rfl
theorem Gt48c216 : (Γ48 G n h x y).sp 216 = some ((kJ _ _ _ n Tryz.call216 h).spec G) := rfl
theorem Gt49c127 : (Γ49 G n h x y).sp 127 = some dj.spec := rfl
theorem Gt49c179 : (Γ49 G n h x y).sp 179 = some fU.spec := rfl
theorem Gt49c180 : (Γ49 G n h x y).sp 180 = some ((gj .minus x y).spec G) := rfl
theorem Gt49c216 : (Γ49 G n h x y).sp 216 = some ((kJ _ _ _ n Tryz.call216 h).spec G) := rfl
theorem Gt50c127 : (Γ50 G n h' x y).sp 127 = some dj.spec := rfl
theorem Gt50c179 : (Γ50 G n h' x y).sp 179 = some fU.spec := rfl
theorem Gt50c180 : (Γ50 G n h' x y).sp 180 = some ((gj .alt x y).spec G) := rfl
theorem Gt50c178 : (Γ50 G n h' x y).sp 178 = some ((kJ _ _ _ n Tryz.call178 h').spec G) := rfl
end
theorem qh {s : ByteArray} {m : Nat} (hm : m <= 1000) {i j : Int} {r : RL} (h0 : 0 <= i) (hi : i <= s.size) (h : dP (bt s) s.size (bk (bt s) s.size (fc s) m) ((s.size : Int).toNat + 1) none i = .ok (r, j)) : i <= j /\ j <= s.size /\ r.1 <= 2001 := by
 have := yY (q6 s) (pP (c := bt s) (q6 s) m) ((s.size : Int).toNat + 1) i (eT 0) (List.replicate (1000 - m) (eT 0)) h0 hi (by omega) (fun h => absurd rfl h) (by simp; omega)
 have e0 : (rowOf (eT 0).row (eT 0).fac).map RT.val = none := rfl
 rw [e0, h] at this
 obtain ⟨h1, h2, _, row, fac, rfl, _⟩ := this
 exact ⟨h1, h2, rr _⟩
theorem um {s : ByteArray} {m : Nat} (hm : m <= 1000) {i j : Int} {r : RL} (h0 : 0 <= i) (hi : i <= s.size) (h : jr (bt s) s.size (dP (bt s) s.size (bk (bt s) s.size (fc s) m) ((s.size : Int).toNat + 1) none) i = .ok (r, j)) : i <= j /\ j <= s.size /\ r.1 <= 2001 := by
 have := s6 (q6 s) (pP (c := bt s) (q6 s) m) i (eT 0) (List.replicate (1000 - m) (eT 0)) h0 hi (by simp; omega) rfl rfl rfl
 rw [h] at this
 obtain ⟨h1, h2, _, g, _, _, rfl, _⟩ := this
 exact ⟨h1, h2, rr _⟩
theorem xH {s : ByteArray} {m : Nat} (hm : m <= 1000) {i j : Int} {r : RL} (h0 : 0 <= i) (hi : i <= s.size) (h : sf (bt s) s.size (bk (bt s) s.size (fc s) m) i = .ok (r, j)) : i <= j /\ j <= s.size /\ r.1 <= 2001 /\ (j < s.size -> bt s j = 41) := by
 have := yL (q6 s) (pP (c := bt s) (q6 s) m) i 0 (List.replicate (1000 - m) (eT 0)) h0 hi (by simp; omega)
 rw [h] at this
 obtain ⟨h1, h2, h3, g, _, rfl, _⟩ := this
 exact ⟨h1, h2, rr _, h3⟩
def bR := (aq ue @Gt51c180 @Gt51c216 @Gt52c180 @Gt52c178 @BW.eq_1 @tR.eq_1 (aq @Gt48c127 @Gt48c179 @Gt48c180 @Gt48c216 @Gt49c127 @Gt49c179 @Gt49c180 (p8 @Gt49c216 @Gt50c127 @Gt50c179 @Gt50c180 @Gt50c178)))
set_option maxHeartbeats 4000000 in
theorem yc (n : Nat) (hA : KG n) : By n := by
 intro s i0 d op u fp w S hdn hop h0 hi1 hs hesc ho hlt hS
 have u0 := aL.up w S fp
 have e0 := hesc.mono (aL.gT w S fp hS)
 dsimp only
 unfold jr
 refine gG (nt := 39) S #[] [.cell 2 254] (by show 3 <= 7; omega) ho hlt Tryz.func178 rfl rfl rfl ?_
 refine vR Γ0 bR ?_
 cases hF : dP (bt s) s.size (bk (bt s) s.size (fc s) n) ((s.size : Int).toNat + 1) none i0 with
 | error e =>
  obtain ⟨c, j⟩ := e
  simp only
  rw [bH]
  have hF' := hF
  rw [Int.toNat_natCast] at hF'
  refine Wp.iA (Γ48 (aL w S fp) n hA (bK .eps) (bK .eps)) bP (ev (ab bR hF')) ?_ ?_
  ·exact ⟨⟨⟨_, _, _, _, rfl, hdn, hop, h0, hi1, hs⟩, e0⟩, by decide, by simp⟩
  refine qq ?_
  exact ⟨_, rfl⟩
 | ok q =>
  obtain ⟨r0, j0⟩ := q
  simp only
  have hr0 := qh (by omega) h0 hi1 hF
  have hF' := hF
  rw [Int.toNat_natCast] at hF'
  generalize hR : jD (bt s) s.size (dP (bt s) s.size (bk (bt s) s.size (fc s) n) ((s.size : Int).toNat + 1) none) ((s.size : Int).toNat + 1) r0 j0 = R
  refine wR (Γ48 (aL w S fp) n hA (bK .eps) (bK .eps)) (ab bR hF') ?_ ?_
  ·exact ⟨⟨⟨_, _, _, _, rfl, hdn, hop, h0, hi1, hs⟩, e0⟩, by decide, by simp, u0⟩
  refine Wp.gF 31 (ev bR) (cr.refl _ _) fun W0 bs0 cs hx0 hΦ => ?_
  obtain ⟨fv, rfl, hg, hv1⟩ := ca hΦ
  have u00 := u0.ext hx0
  refine Wp.seq (Wp.block ?_)
  refine Wp.xR (fun p : RI => ⟨10, bV [(0, .is (.own 0 0)), (2, .is (.own 8 0)), (3, .is (.own 32 0))], cd [(0, .cells 251 [.v (.string s), .v (.int .i64 p.i), .hd 3]), (3, .row 3 1 d (op.map .v)), (8, .cells 254 [.v (.int .i64 0), .v .nilFunc]), (32, .cells 254 [.v (.int .i64 (p.r.1 : Nat)), .v p.fo])]⟩)
   RI.W RI.bs (fun p => (0 <= p.i /\ p.i <= s.size) /\ p.r.1 <= 2001 /\ ((s.size : Int) - p.i < p.n /\ 1 <= p.n) /\ bu p.W (eY (aL w S fp) p.bs) p.fo p.r.2 /\ jD (bt s) s.size (dP (bt s) s.size (bk (bt s) s.size (fc s) n) ((s.size : Int).toNat + 1) none) p.n p.r p.i = R) (fun p => p.n) ⟨W0, bs0, fv, r0, j0, (s.size : Int).toNat + 1⟩ rfl rfl ?_ ⟨⟨by simp only; omega, hr0.2.1⟩, hr0.2.2, ⟨by simp only; omega, by simp only; omega⟩, hg, hR⟩ ?_
  ·exact wM (fun x => if x = 3 then .key 26 else .key x) (ab bR hv1)
  rintro ⟨W1, bs1, fo, r, i, k⟩ ⟨⟨hi0, hiN⟩, hr, ⟨hn, hn1⟩, hg, hR'⟩ hx1
  simp only at hi0 hiN hr hn hn1 hg hR' hx1
  dsimp only
  obtain ⟨k, rfl⟩ : ∃ m, k = m + 1 := ⟨k - 1, by omega⟩
  have hx01 := hx0.trans hx1
  have u1 := u0.ext hx01
  have e1 := e0.mono hx01.At
  refine Wp.seq ?_
  refine wR (Γ48 (aL w S fp) n hA (bK .eps) (bK .eps)) bR ?_ ?_
  ·first | trivial | omega | (simp [hs]; done) | (simp [hs]; omega) | (simp [hs] <;> omega)
  refine wC bR (fun hc => ?_) (fun hc => ?_)
  ·have hi : i < s.size := by
    simp at hc
    omega
   rw [jD, if_neg (by omega)] at hR'
   refine wK ?_
   refine Wp.block ?_
   refine wR (Γ48 (aL w S fp) n hA (bK .eps) (bK .eps)) bR ?_ ?_
   ·first | trivial | omega | (simp [hs]; done) | (simp [hs]; omega) | (simp [hs] <;> omega)
   refine Wp.block ?_
   refine vR Γ0 bR ?_
   refine wC bR (fun hc => ?_) (fun hc => ?_)
   ·have h38 : bt s i = 38 := by simpa using hc
    rw [if_pos h38] at hR'
    have wi : IntKind.i64.wrap (i + 1) = i + 1 := aa (by omega) (by omega)
    refine vR Γ0 (ab bR wi) ?_
    cases hF2 : dP (bt s) s.size (bk (bt s) s.size (fc s) n) ((s.size : Int).toNat + 1) none (i + 1) with
    | error e =>
     obtain ⟨c, j⟩ := e
     rw [hF2] at hR'
     simp only at hR'
     rw [<- hR', bH]
     have hF2' := hF2
     rw [Int.toNat_natCast] at hF2'
     refine Wp.Ho (Γ51 (aL w S fp) n hA) bP (ev (dk bR hF2' wi)) rfl (by kernel_rfl) ?_ ?_
     ·exact ⟨⟨⟨⟨_, _, _, _, rfl, hdn, hop, by omega, by omega, hs⟩, e1⟩, by decide, by simp⟩, ⟨r.1, 0, fo, .nilFunc, .and, rfl, hr, by omega, hg.one, rfl⟩, u1⟩
     refine qq ?_
     exact ⟨_, rfl⟩
    | ok q =>
     obtain ⟨r2, j2⟩ := q
     rw [hF2] at hR'
     simp only at hR'
     have hr2 := qh (by omega) (by omega) (by omega) hF2
     have hF2' := hF2
     rw [Int.toNat_natCast] at hF2'
     refine Wp.more ?_
     refine rX (Γ48 (aL w S fp) n hA r r2) (dk bR hF2' wi) ?_ ?_
     ·exact ⟨⟨⟨⟨_, _, _, _, rfl, hdn, hop, by omega, by omega, hs⟩, e1⟩, by decide, by simp, u1⟩, ⟨bT hg, ⟨hr, hr2.2.2⟩, _, _, rfl⟩, u1⟩
     refine dV ?_
     refine Pw.gF 224 (ev bR) (cr.refl _ _) fun W2 bs2 cs hx2 hΦ2 => ?_
     obtain ⟨fv2, rfl, hg2, hv2⟩ := ca hΦ2
     refine Pw.here ?_
     refine qq ?_
     refine ⟨⟨W2, bs2, fv2, aQ .and r r2, j2, k⟩, ⟨by simp only; omega, ez _ _ _, by simp only; omega, hg2, hR'⟩, by simp only; omega, rfl, rfl, ?_⟩
     exact wM (fun x => if x = 3 then .key 218 else .key x) (ab bR hv2)
   ·have h38 : ¬ bt s i = 38 := by simpa using hc
    rw [if_neg h38] at hR'
    refine vR Γ0 bR ?_
    refine wC bR (fun hc => ?_) (fun hc => ?_)
    ·have h45 : bt s i = 45 := by simpa using hc
     rw [if_pos h45] at hR'
     have wi : IntKind.i64.wrap (i + 1) = i + 1 := aa (by omega) (by omega)
     refine vR Γ0 (ab bR wi) ?_
     cases hF2 : dP (bt s) s.size (bk (bt s) s.size (fc s) n) ((s.size : Int).toNat + 1) none (i + 1) with
     | error e =>
      obtain ⟨c, j⟩ := e
      rw [hF2] at hR'
      simp only at hR'
      rw [<- hR', bH]
      have hF2' := hF2
      rw [Int.toNat_natCast] at hF2'
      refine Wp.Ho (Γ51 (aL w S fp) n hA) bP (ev (dk bR hF2' wi)) rfl (by kernel_rfl) ?_ ?_
      ·exact ⟨⟨⟨⟨_, _, _, _, rfl, hdn, hop, by omega, by omega, hs⟩, e1⟩, by decide, by simp⟩, ⟨r.1, 0, fo, .nilFunc, .minus, rfl, hr, by omega, hg.one, rfl⟩, u1⟩
      refine qq ?_
      exact ⟨_, rfl⟩
     | ok q =>
      obtain ⟨r2, j2⟩ := q
      rw [hF2] at hR'
      simp only at hR'
      have hr2 := qh (by omega) (by omega) (by omega) hF2
      have hF2' := hF2
      rw [Int.toNat_natCast] at hF2'
      refine Wp.more ?_
      refine rX (Γ49 (aL w S fp) n hA r r2) (dk bR hF2' wi) ?_ ?_
      ·exact ⟨⟨⟨⟨_, _, _, _, rfl, hdn, hop, by omega, by omega, hs⟩, e1⟩, by decide, by simp, u1⟩, ⟨bT hg, ⟨hr, hr2.2.2⟩, _, _, rfl⟩, u1⟩
      refine dV ?_
      refine Pw.gF 240 (ev bR) (cr.refl _ _) fun W2 bs2 cs hx2 hΦ2 => ?_
      obtain ⟨fv2, rfl, hg2, hv2⟩ := ca hΦ2
      refine Pw.here ?_
      refine qq ?_
      refine ⟨⟨W2, bs2, fv2, aQ .minus r r2, j2, k⟩, ⟨by simp only; omega, ez _ _ _, by simp only; omega, hg2, hR'⟩, by simp only; omega, rfl, rfl, ?_⟩
      exact wM (fun x => if x = 3 then .key 234 else .key x) (ab bR hv2)
    ·have h45 : ¬ bt s i = 45 := by simpa using hc
     rw [if_neg h45] at hR'
     refine wR Γ0 bR ?_ ?_
     ·exact hg.one
     refine wZ bR ?_
     rw [<- hR']
     exact dT hg rfl (by simp only [dM, Op.operands, Value.cells, σ0, σB, Nat.reduceEqDiff, Nat.reduceAdd, Nat.reduceMul, Nat.reduceLT, Nat.reduceLeDiff, Nat.reduceBEq, ae, Int.reduceToNat, Int.reduceLT, Int.reduceLE, Nat.reduceDiv, Nat.reduceMod, Nat.reduceSub, Int.reducePow, Nat.reducePow, σP, σB3, bR, aE]; rfl) (by decide)
  ·have hi : ¬ i < s.size := by
    simp at hc
    omega
   rw [jD, if_pos hi] at hR'
   refine wE ?_
   refine wR Γ0 bR ?_ ?_
   ·exact hg.one
   refine wZ bR ?_
   rw [<- hR']
   exact dT hg rfl (by simp only [dM, Op.operands, Value.cells, σ0, σB, Nat.reduceEqDiff, Nat.reduceAdd, Nat.reduceMul, Nat.reduceLT, Nat.reduceLeDiff, Nat.reduceBEq, ae, Int.reduceToNat, Int.reduceLT, Int.reduceLE, Nat.reduceDiv, Nat.reduceMod, Nat.reduceSub, Int.reducePow, Nat.reducePow, σP, σB3, bR, aE]; rfl) (by decide)
set_option maxHeartbeats 4000000 in
theorem BA (n : Nat) (hA : By n) : QP n := by
 intro s i0 d op u fp w S hdn hop h0 hi1 hs hesc ho hlt hS
 have u0 := aL.up w S fp
 have e0 := hesc.mono (aL.gT w S fp hS)
 dsimp only
 unfold sf Vp
 refine gG (nt := 26) S #[] [.cell 2 254] (by show 3 <= 7; omega) ho hlt Tryz.func126 rfl rfl rfl ?_
 refine vR Γ0 bR ?_
 cases hF : jr (bt s) s.size (dP (bt s) s.size (bk (bt s) s.size (fc s) n) ((s.size : Int).toNat + 1) none) i0 with
 | error e =>
  obtain ⟨c, j⟩ := e
  simp only
  rw [bH]
  have hF' := hF
  rw [Int.toNat_natCast] at hF'
  refine Wp.iA (Γ50 (aL w S fp) n hA (bK .eps) (bK .eps)) bP (ev (ab bR hF')) ?_ ?_
  ·exact ⟨⟨⟨_, _, _, _, rfl, hdn, hop, h0, hi1, hs⟩, e0⟩, by decide, by simp⟩
  refine qq ?_
  exact ⟨_, rfl⟩
 | ok q =>
  obtain ⟨r0, j0⟩ := q
  simp only
  have hr0 := um (by omega) h0 hi1 hF
  have hF' := hF
  rw [Int.toNat_natCast] at hF'
  generalize hR : sW (bt s) s.size (jr (bt s) s.size (dP (bt s) s.size (bk (bt s) s.size (fc s) n) ((s.size : Int).toNat + 1) none)) ((s.size : Int).toNat + 1) r0 j0 = R
  refine wR (Γ50 (aL w S fp) n hA (bK .eps) (bK .eps)) (ab bR hF') ?_ ?_
  ·exact ⟨⟨⟨_, _, _, _, rfl, hdn, hop, h0, hi1, hs⟩, e0⟩, by decide, by simp, u0⟩
  refine Wp.gF 31 (ev bR) (cr.refl _ _) fun W0 bs0 cs hx0 hΦ => ?_
  obtain ⟨fv, rfl, hg, hv1⟩ := ca hΦ
  have u00 := u0.ext hx0
  refine Wp.seq (Wp.block ?_)
  refine Wp.xR (fun p : RI => ⟨10, bV [(0, .is (.own 0 0)), (2, .is (.own 8 0)), (3, .is (.own 32 0))], cd [(0, .cells 251 [.v (.string s), .v (.int .i64 p.i), .hd 3]), (3, .row 3 1 d (op.map .v)), (8, .cells 254 [.v (.int .i64 0), .v .nilFunc]), (32, .cells 254 [.v (.int .i64 (p.r.1 : Nat)), .v p.fo])]⟩)
   RI.W RI.bs (fun p => (0 <= p.i /\ p.i <= s.size) /\ p.r.1 <= 2001 /\ ((s.size : Int) - p.i < p.n /\ 1 <= p.n) /\ bu p.W (eY (aL w S fp) p.bs) p.fo p.r.2 /\ sW (bt s) s.size (jr (bt s) s.size (dP (bt s) s.size (bk (bt s) s.size (fc s) n) ((s.size : Int).toNat + 1) none)) p.n p.r p.i = R) (fun p => p.n) ⟨W0, bs0, fv, r0, j0, (s.size : Int).toNat + 1⟩ rfl rfl ?_ ⟨⟨by simp only; omega, hr0.2.1⟩, hr0.2.2, ⟨by simp only; omega, by simp only; omega⟩, hg, hR⟩ ?_
  ·exact wM (fun x => if x = 3 then .key 26 else .key x) (ab bR hv1)
  rintro ⟨W1, bs1, fo, r, i, k⟩ ⟨⟨hi0, hiN⟩, hr, ⟨hn, hn1⟩, hg, hR'⟩ hx1
  simp only at hi0 hiN hr hn hn1 hg hR' hx1
  dsimp only
  obtain ⟨k, rfl⟩ : ∃ m, k = m + 1 := ⟨k - 1, by omega⟩
  have hx01 := hx0.trans hx1
  have u1 := u0.ext hx01
  have e1 := e0.mono hx01.At
  refine Wp.seq ?_
  refine wR (Γ50 (aL w S fp) n hA (bK .eps) (bK .eps)) bR ?_ ?_
  ·first | trivial | omega | (simp [hs]; done) | (simp [hs]; omega) | (simp [hs] <;> omega)
  refine wC bR (fun hc => ?_) (fun hc => ?_)
  ·have hi : i < s.size /\ bt s i = 124 := by
    simp at hc
    omega
   rw [sW, if_pos hi] at hR'
   refine wK ?_
   refine Wp.block ?_
   have wi : IntKind.i64.wrap (i + 1) = i + 1 := aa (by omega) (by omega)
   refine vR Γ0 (ab bR wi) ?_
   cases hF2 : jr (bt s) s.size (dP (bt s) s.size (bk (bt s) s.size (fc s) n) ((s.size : Int).toNat + 1) none) (i + 1) with
   | error e =>
    obtain ⟨c, j⟩ := e
    rw [hF2] at hR'
    simp only at hR'
    rw [<- hR', bH]
    have hF2' := hF2
    rw [Int.toNat_natCast] at hF2'
    refine Wp.Ho (Γ52 (aL w S fp) n hA) bP (ev (dk bR hF2' wi)) rfl (by kernel_rfl) ?_ ?_
    ·exact ⟨⟨⟨⟨_, _, _, _, rfl, hdn, hop, by omega, by omega, hs⟩, e1⟩, by decide, by simp⟩, ⟨r.1, 0, fo, .nilFunc, .alt, rfl, hr, by omega, hg.one, rfl⟩, u1⟩
    refine qq ?_
    exact ⟨_, rfl⟩
   | ok q =>
    obtain ⟨r2, j2⟩ := q
    rw [hF2] at hR'
    simp only at hR'
    have hr2 := um (by omega) (by omega) (by omega) hF2
    have hF2' := hF2
    rw [Int.toNat_natCast] at hF2'
    refine Wp.more ?_
    refine rX (Γ50 (aL w S fp) n hA r r2) (dk bR hF2' wi) ?_ ?_
    ·exact ⟨⟨⟨⟨_, _, _, _, rfl, hdn, hop, by omega, by omega, hs⟩, e1⟩, by decide, by simp, u1⟩, ⟨bT hg, ⟨hr, hr2.2.2⟩, _, _, rfl⟩, u1⟩
    refine dV ?_
    refine Pw.gF 232 (ev bR) (cr.refl _ _) fun W2 bs2 cs hx2 hΦ2 => ?_
    obtain ⟨fv2, rfl, hg2, hv2⟩ := ca hΦ2
    refine Pw.here ?_
    refine qq ?_
    refine ⟨⟨W2, bs2, fv2, aQ .alt r r2, j2, k⟩, ⟨by simp only; omega, ez _ _ _, by simp only; omega, hg2, hR'⟩, by simp only; omega, rfl, rfl, ?_⟩
    exact wM (fun x => if x = 3 then .key 226 else .key x) (ab bR hv2)
  ·have hi : ¬ (i < s.size /\ bt s i = 124) := fun h => by
    apply Bool.eq_false_iff.1 hc
    simp
    omega
   rw [sW, if_neg hi] at hR'
   refine wE ?_
   refine wR Γ0 bR ?_ ?_
   ·exact hg.one
   refine wZ bR ?_
   rw [<- hR']
   exact dT hg rfl (by simp only [dM, Op.operands, Value.cells, σ0, σB, Nat.reduceEqDiff, Nat.reduceAdd, Nat.reduceMul, Nat.reduceLT, Nat.reduceLeDiff, Nat.reduceBEq, ae, Int.reduceToNat, Int.reduceLT, Int.reduceLE, Nat.reduceDiv, Nat.reduceMod, Nat.reduceSub, Int.reducePow, Nat.reducePow, σP, σB3, bR, aE]; rfl) (by decide)
end
section
open Go.RowKit Go.LE
set_option maxRecDepth 10000
def tU : EqSpec Tryz.prog 39 where
 f := fun xs ys => match xs, ys with
  | [.int .i64 a, .int .i64 b, .string s], [.int .i64 a', .int .i64 b', .string s'] => some (decide (a = a') && decide (b = b') && decide (s = s'))
  | _, _ => none
 ok := by
  intro xs ys b w h
  split at h
  ·rename_i a b s a' b' s'
   cases h
   refine ⟨?_, ?_⟩
   ·simp [eqGuard, go_sem, Tryz.eqGuardType39]
   ·simp only [Op.equal, Op.maxDepth, run_equalIn_agg w 9999 39 _ _ Tryz.underlying39 Tryz.stoodInHeld39]
    have e : s.toList = s'.toList ↔ s = s' := by
     have := A3 s s'
     rw [Bool.eq_iff_iff] at this
     simpa using this
    simp [go_sem, e]
    by_cases h1 : a = a' <;> by_cases h2 : b = b' <;> by_cases h3 : s = s' <;> simp [h1, h2, h3]
  ·cases h
theorem pZ (a b a' b' : Int) (s s' : ByteArray) : tU.f [.int .i64 a, .int .i64 b, .string s] [.int .i64 a', .int .i64 b', .string s'] = some (decide (a = a') && decide (b = b') && decide (s = s')) := rfl
def G3 : a7 Tryz.prog 263 where
 pre := fun W bs => fun | [.val (.string s), .val (.int .i64 i)] => s.size <= 140737488351232 /\ bc W (Out bs) | _ => False
 res := fun W => fun | [.val (.string s), .val (.int .i64 i)] => oY s i | _ => undef
 enters := Tryz.call263
 ok := by
  intro W w bs us as_ hk hu hp
  split at hp
  ·rename_i s i
   match us, hu with
   | [u0, u1], hu =>
    obtain ⟨rfl, rfl, _⟩ := hu
    exact OU s i w hp.1 (hp.2.fD hk (by simp))
  ·exact hp.elim
theorem Lk (W : World) (s : ByteArray) (i : Int) : G3.res W [.val (.string s), .val (.int .i64 i)] = oY s i := rfl
theorem Lp (W : World) (bs : List Nat) (s : ByteArray) (i : Int) : G3.pre W bs [.val (.string s), .val (.int .i64 i)] = (s.size <= 140737488351232 /\ bc W (Out bs)) := rfl
noncomputable def Γ53 (G : Nat -> Prop) (t : Rx) : Env Tryz.prog := ⟨fun | 127 => some dj.spec | 179 => some fU.spec | 128 => some eN.spec | 263 => some G3.spec | 249 => some ((lO t).spec G) | _ => none, fun | 39 => some tU | _ => none, fun _ _ => none⟩
noncomputable def Γ54 (G : Nat -> Prop) (n : Nat) (h : QP n) : Env Tryz.prog := ⟨fun | 126 => some ((kJ _ _ _ n Tryz.call126 h).spec G) | _ => none, fun _ => none, fun _ _ => none⟩
section
variable (G : Nat -> Prop) (t : Rx) (n : Nat) (h : QP n)
theorem Gt53c127 : (Γ53 G t).sp 127 = some dj.spec := rfl
theorem Gt53c179 : (Γ53 G t).sp 179 = some fU.spec := rfl
theorem Gt53c128 : (Γ53 G t).sp 128 = some eN.spec := rfl
theorem Gt53c263 : (Γ53 G t).sp 263 = some G3.spec := rfl
theorem Gt53c249 : (Γ53 G t).sp 249 = some ((lO t).spec G) := rfl
theorem Gt53ceq39 : (Γ53 G t).eqs 39 = some tU := rfl
theorem Gt54c126 : (Γ54 G n h).sp 126 = some ((kJ _ _ _ n Tryz.call126 h).spec G) := rfl
end
def cW := (aq @List.replicate_succ.{0} @List.replicate_zero.{0} @aw @ah jS jP Mv (aq Mq Mr jn cQ cV cX cS (aq da c9 c8 db iv ie ig (aq ir iw eW eV eX eZ e8 (aq e9 PY Qc Nt PC ME O7 (aq No Qe vY vC vZ vD vX (aq vH wG vQ vW vS Il IQ (aq Ir HB rz rh rm rj rv (aq ri q7 rD tt tS tN uE (aq uz ud tO s5 uN tn vh (aq te oU pD oR oE px pI (aq ry rI qW qY Uw Ue UK (aq UC UL Uf UF Uy Xv WS (aq @rU.eq_1 @sF.eq_1 @du.eq_1 @aO @au @aB @aC (aq @fe @jq @fI @fE @jd @iY @jc (aq @mX @ia @gY @ky @lO.eq_1 @mW @bH (aq @oT @pQ @lB @zH @de @jw @kU (aq @kR @iZ @nh @dJ @zY @gJ @List.drop_nil.{0} (aq Lk Lp @Gt53c127 @Gt53c179 @Gt53c128 @Gt53c263 @Gt53c249 (dk @Gt53ceq39 @Gt54c126 @pZ))))))))))))))))))))
set_option maxHeartbeats 4000000 in
theorem Bz (n : Nat) (hA : ∀ m, n = m + 1 -> QP m) : Bq n := by
 intro s i d op u fp w S hdn hop h0 hi hs hesc ho hlt hS
 have u0 := aL.up w S fp
 have e0 := hesc.mono (aL.gT w S fp hS)
 have e0' : bc w (Out fp) := e0.mono fun b _ hb => ⟨rfl, hb.2⟩
 dsimp only
 have wi : IntKind.i64.wrap (i + 1) = i + 1 := aa (by omega) (by omega)
 refine gG (nt := 108) S #[] [.cell 2 254] (by show 3 <= 7; omega) ho hlt Tryz.func251 rfl rfl rfl ?_
 refine vR Γ0 cW ?_
 refine Wp.seq ?_
 refine wR (Γ53 (aL w S fp) .eps) cW ?_ ?_
 ·first | trivial | omega | (simp [hs]; done) | (simp [hs]; omega) | (simp [hs] <;> omega)
 refine wC cW (fun hc => ?_) (fun hc => ?_)
 ·have h40 : ¬ bt s i = 40 := by simpa using hc
  have hL : bk (bt s) s.size (fc s) n i = pg (fc s) i := by
   cases n with
   | zero => rw [bk, if_neg h40]
   | succ n => rw [bk, if_neg h40]
  rw [hL]
  have hre : oY s i = match df s i with
    | .error j => nL 10 0 0 j
    | .ok (a, j) => nL 0 a j 0 := by
   rw [oY, if_neg (by omega)]
   cases df s i <;> rfl
  cases hI : df s i with
  | error j =>
   rw [hI] at hre
   simp only [nL] at hre
   have hE : pg (fc s) i = .error (10, j) := by rw [pg, fc, hI]
   rw [hE, bH]
   refine kY (Γ53 (aL w S fp) .eps) (ab cW hre) ?_ ?_
   ·exact ⟨hs, e0'⟩
   refine Wp.seq ?_
   refine wR (Γ53 (aL w S fp) .eps) (ab cW hre) ?_ ?_
   ·first | trivial | omega | (simp [hs]; done) | (simp [hs]; omega) | (simp [hs] <;> omega)
   refine wC cW (fun hc => ?_) (fun hc => ?_)
   ·skip
    refine Wp.nA (Γ53 (aL w S fp) .eps) bP (ev (ab cW hre)) ?_ ?_
    ·first | trivial | omega | (simp [hs]; done) | (simp [hs]; omega) | (simp [hs] <;> omega)
    refine qq ?_
    exact ⟨_, rfl⟩
   ·exfalso
    simp at hc
  | ok q =>
   obtain ⟨a, j⟩ := q
   have hj := vi hI h0 hi
   rw [hI] at hre
   simp only [nL] at hre
   have hE : pg (fc s) i = .ok (bK (.cls a), j) := by rw [pg, fc, hI]
   rw [hE, mW]
   refine kY (Γ53 (aL w S fp) .eps) (ab cW hre) ?_ ?_
   ·exact ⟨hs, e0'⟩
   refine Wp.seq ?_
   refine wR (Γ53 (aL w S fp) .eps) (ab cW hre) ?_ ?_
   ·first | trivial | omega | (simp [hs]; done) | (simp [hs]; omega) | (simp [hs] <;> omega)
   refine wC cW (fun hc => ?_) (fun hc => ?_)
   ·exfalso
    simp at hc
   ·refine wK ?_
    refine vR Γ0 cW ?_
    refine wR (Γ53 (aL w S fp) (.cls a)) cW ?_ ?_
    ·exact ⟨rfl, u0⟩
    refine Wp.gF 272 (ev cW) (cr.refl _ _) fun W1 bs1 cs hx1 hΦ => ?_
    obtain ⟨fv, rfl, hg, hv1⟩ := ca hΦ
    refine wZ (ab cW hv1) ?_
    exact dT hg rfl (by simp only [dM, Op.operands, Value.cells, σ0, σB, Nat.reduceEqDiff, Nat.reduceAdd, Nat.reduceMul, Nat.reduceLT, Nat.reduceLeDiff, Nat.reduceBEq, ae, Int.reduceToNat, Int.reduceLT, Int.reduceLE, Nat.reduceDiv, Nat.reduceMod, Nat.reduceSub, Int.reducePow, Nat.reducePow, σP, σB3, cW, aE]; rfl) (by decide)
 ·have h40 : bt s i = 40 := by simpa using hc
  refine wK ?_
  refine Wp.seq ?_
  refine vR Γ0 cW ?_
  refine wC cW (fun hc => ?_) (fun hc => ?_)
  ·have hd : 1000 <= d := by
    simp at hc
    omega
   obtain rfl : n = 0 := by omega
   rw [bk, if_pos h40, bH]
   refine Wp.nA (Γ53 (aL w S fp) .eps) bP (ev cW) ?_ ?_
   ·first | trivial | omega | (simp [hs]; done) | (simp [hs]; omega) | (simp [hs] <;> omega)
   refine qq ?_
   exact ⟨_, rfl⟩
  ·have hd : ¬ 1000 <= d := by
    simp at hc
    omega
   obtain ⟨n, rfl⟩ : ∃ m, n = m + 1 := ⟨n - 1, by omega⟩
   have hA' := hA n rfl
   rw [bk, if_pos h40]
   refine wK ?_
   have hap : List.map SV.v op ++ [SV.v (.int .i64 i)] = List.map SV.v (op ++ [.int .i64 i]) := by simp
   refine kY Γ0 cW ?_ ?_
   ·unfold maxLen; omega
   refine vR Γ0 (ab cW wi) ?_
   have hlen : (op ++ [Value.int .i64 i]).length = d + 1 := by simp [hop]
   cases hF : sf (bt s) s.size (bk (bt s) s.size (fc s) n) (i + 1) with
   | error e =>
    obtain ⟨c, j⟩ := e
    rw [qP, bH]
    refine Wp.iA (Γ54 (aL w S fp) n hA') bP (ev (fj cW hF wi hap)) ?_ ?_
    ·exact ⟨⟨⟨_, _, _, _, rfl, by omega, hlen, by omega, by omega, hs⟩, e0⟩, by decide, by simp⟩
    refine qq ?_
    exact ⟨_, rfl⟩
   | ok q =>
    obtain ⟨r, j⟩ := q
    have hr := xH (by omega) (by omega) (by omega) hF
    have wd : IntKind.i64.wrap (((d + 1 : Nat) : Int) - 1) = ((d : Nat) : Int) := by rw [aa (by omega) (by omega)]; omega
    have htk : List.take d (List.map SV.v (op ++ [Value.int .i64 i])) = List.map SV.v op := by
     rw [<- List.map_take, <- hop, List.take_left]
    have hix : (List.map SV.v (op ++ [Value.int .i64 i])).getD d (.v undef) = .v (.int .i64 i) := by
     rw [<- hop]; simp
    refine wR (Γ54 (aL w S fp) n hA') (fj cW hF wi hap) ?_ ?_
    ·exact ⟨⟨⟨_, _, _, _, rfl, by omega, hlen, by omega, by omega, hs⟩, e0⟩, by decide, by simp, u0⟩
    refine Wp.gF 279 (ev cW) (cr.refl _ _) fun W1 bs1 cs hx1 hΦ => ?_
    obtain ⟨fv, rfl, hg, hv1⟩ := ca hΦ
    refine Wp.seq ?_
    refine wR (Γ53 (aL w S fp) .eps) (ab cW hap) ?_ ?_
    ·first | trivial | omega | (simp [hs]; done) | (simp [hs]; omega) | (simp [hs] <;> omega)
    refine wC cW (fun hc => ?_) (fun hc => ?_)
    ·have hj : ¬ j < s.size := by
      simp at hc
      omega
     rw [qP, if_pos hj, bH]
     refine Wp.Ho (Γ53 (aL w S fp) .eps) bP (ev (fj cW hap wd hix)) rfl (by kernel_rfl) ?_ ?_
     ·exact ⟨⟨_, rfl⟩, ⟨by omega, by omega⟩, by simp [hop], by decide, by simp⟩
     refine qq ?_
     exact ⟨_, rfl⟩
    ·have hj : j < s.size := by
      simp at hc
      omega
     have wj : IntKind.i64.wrap (j + 1) = j + 1 := aa (by omega) (by omega)
     rw [qP, if_neg (by omega), mW]
     refine wK ?_
     refine vR Γ0 (ab cW wj) ?_
     refine kY Γ0 (dk cW wd htk) ?_ ?_
     ·exact ⟨⟨_, rfl⟩, by omega, by omega⟩
     refine wR Γ0 (ab cW hv1) ?_ ?_
     ·exact hg.one
     refine wZ (ab cW hv1) ?_
     exact dT hg rfl (by simp only [dM, Op.operands, Value.cells, σ0, σB, Nat.reduceEqDiff, Nat.reduceAdd, Nat.reduceMul, Nat.reduceLT, Nat.reduceLeDiff, Nat.reduceBEq, ae, Int.reduceToNat, Int.reduceLT, Int.reduceLE, Nat.reduceDiv, Nat.reduceMod, Nat.reduceSub, Int.reducePow, Nat.reducePow, σP, σB3, cW, aE]; rfl) (by decide)
theorem levels : ∀ n, Bq n
 | 0 => Bz 0 fun m h => by omega
 | n + 1 => Bz (n + 1) fun m h => by
  obtain rfl : n = m := by omega
  exact BA n (yc n (IE n (levels n)))
theorem AO (n : Nat) : QP n := BA n (yc n (IE n (levels n)))
end
section
open Go.RowKit Go.LE
set_option maxRecDepth 10000
noncomputable def Γ55 (G : Nat -> Prop) : Env Tryz.prog := ⟨fun | 127 => some dj.spec | 128 => some eN.spec | 126 => some ((kJ _ _ _ 1000 Tryz.call126 (AO 1000)).spec G) | f => EO 0 (sA 0) f, fun _ => none, fun _ _ => none⟩
theorem Gt55c127 (G : Nat -> Prop) : (Γ55 G).sp 127 = some dj.spec := rfl
theorem Gt55c128 (G : Nat -> Prop) : (Γ55 G).sp 128 = some eN.spec := rfl
theorem Gt55c126 (G : Nat -> Prop) : (Γ55 G).sp 126 = some ((kJ _ _ _ 1000 Tryz.call126 (AO 1000)).spec G) := rfl
def fH := (aq @List.replicate_succ.{0} @List.replicate_zero.{0} @aw @ah jS jP Mv (aq Mq Mr jn cQ cV cX cS (aq da c9 c8 db eW eV eX (aq eZ e8 e9 PY Qc Nt PC (aq ME O7 No Qe vY vC vZ (aq vD vX vH wG vQ vW vS (aq rz rh rm rj tt tS tN (aq uE uz ud tO s5 uN tn (aq vh te IC I0 Ie oU pD (aq oR oE px pI @rU.eq_1 @sF.eq_1 @du.eq_1 (aq @aO @au @aB @aC @fe @jq @fI (aq @fE @jd @ia @gY @ky @mW @bH (aq @oT @pQ @lB @zH @σR.eq_1 @σL.eq_1 @mo.eq_1 (aq @mo.eq_2 @tW.eq_1 @tW.eq_2 @Gt55c127 @Gt55c128 @Gt55c126 @xI @wQ))))))))))))))
noncomputable def Qf : CatchC Tryz.prog 125 where
 Ts := [151, 39]
 enters := Tryz.call125
 pre := fun vss pv => (∃ a f g h, vss = [[a], [f, g, h]]) /\ ∃ c i t, pv = .iface 39 (sF c i t)
 out := fun vss pv => [[.nilIface], match pv with | .iface _ (.agg x) => x.toList | _ => []]
 bh := fun vss pv => [.nilIface, match pv with | .iface _ x => x | _ => undef]
 vals_ok := by
  rintro vss pv ⟨_, c, i, t, rfl⟩
  refine ⟨.inr ⟨by simp only [dM, Op.operands, Value.cells, σ0, σB, Nat.reduceEqDiff, Nat.reduceAdd, Nat.reduceMul, Nat.reduceLT, Nat.reduceLeDiff, Nat.reduceBEq, ae, Int.reduceToNat, Int.reduceLT, Int.reduceLE, Nat.reduceDiv, Nat.reduceMod, Nat.reduceSub, Int.reducePow, Nat.reducePow, σP, σB3, fH], rfl⟩, .inl ⟨by simp only [dM, Op.operands, Value.cells, σ0, σB, Nat.reduceEqDiff, Nat.reduceAdd, Nat.reduceMul, Nat.reduceLT, Nat.reduceLeDiff, Nat.reduceBEq, ae, Int.reduceToNat, Int.reduceLT, Int.reduceLE, Nat.reduceDiv, Nat.reduceMod, Nat.reduceSub, Int.reducePow, Nat.reducePow, σP, σB3, fH] <;> rfl, by simp only [dM, Op.operands, Value.cells, σ0, σB, Nat.reduceEqDiff, Nat.reduceAdd, Nat.reduceMul, Nat.reduceLT, Nat.reduceLeDiff, Nat.reduceBEq, ae, Int.reduceToNat, Int.reduceLT, Int.reduceLE, Nat.reduceDiv, Nat.reduceMod, Nat.reduceSub, Int.reducePow, Nat.reducePow, σP, σB3, fH], rfl⟩, trivial⟩
 quiet := fun w us hl => by
  match us, hl with
  | [u0, u1], _ =>
   refine pH (nt := 8) w _ Tryz.func125 rfl rfl (by omega) (by omega) rfl ?_
   refine vR Γ0 fH ?_
   refine wC fH (fun hc => ?_) (fun hc => ?_)
   ·simp at hc
   ·refine wK ?_
    simp only [dM, Op.operands, Value.cells, σ0, σB, Nat.reduceEqDiff, Nat.reduceAdd, Nat.reduceMul, Nat.reduceLT, Nat.reduceLeDiff, Nat.reduceBEq, ae, Int.reduceToNat, Int.reduceLT, Int.reduceLE, Nat.reduceDiv, Nat.reduceMod, Nat.reduceSub, Int.reducePow, Nat.reducePow, σP, σB3, mP, gL, kF, jo, fH]
    done
 caught := fun w us bl vss pv hl hn hlt hp => by
  obtain ⟨⟨a, f, g, h, rfl⟩, k, i, t, rfl⟩ := hp
  have h3 := hl.len.1
  refine nP (nt := 8) Tryz.func125 rfl rfl (by omega) (by omega) ?_ hl hn hlt ?_ ?_
  ·rw [h3]; rfl
  ·rw [h3]; decide
  intro us _
  refine vR Γ0 fH ?_
  refine wC fH (fun hc => ?_) (fun hc => ?_)
  ·skip
   refine Yu Γ0 (ab fH @sF.eq_1) ?_
   refine wS fH ?_
   exact ⟨rfl, rfl, trivial⟩
  ·cases hc
def nO (s : ByteArray) : Except (Int × Int) Rx := uX (bt s) s.size (fc s)
def om : Except (Int × Int) Rx -> Value
 | .ok t => .tuple #[aF t, sF 0 0 ⟨#[]⟩]
 | .error (c, j) => .tuple #[.nilIface, sF c j ⟨#[]⟩]
set_option maxHeartbeats 4000000 in
theorem Mg (s : ByteArray) (w : World) (hs : s.size <= 140737488351232) (hg : bc w (Out [])) :
  Calls Tryz.prog 71 #[.string s] w fun e w' => e = .returned (om (nO s)) /\ ai w [] w' := by
 have u0 : Up (fun _ => True) w [] := Up.true _ _
 have e0 : bc w (eY (fun _ => True) []) := hg.mono fun b _ hb => ⟨rfl, trivial, hb⟩
 refine rn (nt := 33) Tryz.func71 rfl rfl ?_
 refine jO.seq' (rs := [.cell 2 151, .cell 3 39]) rfl ?_
 refine vr Γ0 fH ?_
 refine jO.seq' (rs := [.cell 2 151, .cell 3 39]) rfl ?_
 refine vR Γ0 fH ?_
 refine wC fH (fun hc => ?_) (fun hc => ?_)
 ·have hb : 1048576 < (s.size : Int) := by simpa using hc
  have he : nO s = .error (1, 0) := by rw [nO, uX, if_pos hb]
  rw [he]
  refine vR Γ0 fH ?_
  refine wZ fH ?_
  exact fun E => rfl
 ·have hb : ¬ 1048576 < (s.size : Int) := by simpa using hc
  have he : nO s = LA s.size (alts (bt s) s.size (fc s) 1000 0) := by rw [nO, uX, if_neg hb]
  refine wK ?_
  refine jO.Oy (rs := [.cell 2 151, .cell 3 39]) rfl Qf [2, 3] [0, 8] rfl (by decide) rfl (by decide) rfl rfl ?_ ?_ fun us hus => ?_
  ·rintro p hp
   simp only [List.zip_cons_cons, List.zip_nil_right, List.mem_cons, List.not_mem_nil, or_false] at hp
   rcases hp with rfl | rfl <;> rfl
  ·rintro k hk
   simp only [List.mem_cons, List.not_mem_nil, or_false] at hk
   rcases hk with rfl | rfl <;> exact ⟨_, _, rfl⟩
  refine vR Γ0 fH ?_
  match us, hus with
  | [u0', u1'], _ =>
  refine Wp.Wq (σ' := ⟨20, bV [(2, .is (.own 0 0)), (3, .is (.own 8 0)), (4, .is (.own 72 0))], cd [(0, .cells 151 [.v .nilIface]), (8, .cells 39 [.v (.int .i64 0), .v (.int .i64 0), .v (.string ⟨#[]⟩)]), (72, .cells 251 [.v (.string s), .v (.int .i64 0), .hd 88]), (88, .row 3 1 0 [])]⟩) ?_ ?_
  ·exact wM (fun x => if x = 88 then .nil else .key x) fH
  have hal : alts (bt s) s.size (fc s) 1000 0 = sf (bt s) s.size (bk (bt s) s.size (fc s) 1000) 0 := rfl
  rw [hal] at he
  cases hF : sf (bt s) s.size (bk (bt s) s.size (fc s) 1000) 0 with
  | error e =>
   obtain ⟨c, j⟩ := e
   rw [hF] at he
   simp only [LA] at he
   rw [he]
   refine Wp.iA (Γ55 (fun _ => True)) bP (ev (ab fH hF)) ?_ ?_
   ·exact ⟨⟨⟨_, _, _, _, rfl, rfl, rfl, by omega, by simp, hs⟩, e0⟩, by decide, by simp⟩
   refine qq ?_
   refine wS fH ?_
   refine ⟨.iface 39 (sF c j ⟨#[]⟩), [[.nilIface], [.int .i64 0, .int .i64 0, .string ⟨#[]⟩]], rfl, ⟨?_, ?_, ?_, ?_, trivial⟩, ⟨⟨_, _, _, _, rfl⟩, c, j, ⟨#[]⟩, rfl⟩, fun E => rfl⟩
   all_goals rfl
  | ok q =>
   obtain ⟨r, j⟩ := q
   have hr := xH (s := s) (m := 1000) (by omega) (by omega) (by simp) hF
   rw [hF] at he
   simp only [LA] at he
   refine wR (Γ55 (fun _ => True)) (ab fH hF) ?_ ?_
   ·exact ⟨⟨⟨_, _, _, _, rfl, rfl, rfl, by omega, by simp, hs⟩, e0⟩, by decide, by simp, u0⟩
   refine Wp.gF 175 (ev fH) (cr.refl _ _) fun W1 bs1 cs hx1 hΦ => ?_
   obtain ⟨fv, rfl, hg1, hv1⟩ := ca hΦ
   refine Wp.seq ?_
   refine wR (Γ55 (fun _ => True)) fH ?_ ?_
   ·first | trivial | omega | (simp [hs]; done) | (simp [hs]; omega) | (simp [hs] <;> omega)
   refine wC fH (fun hc => ?_) (fun hc => ?_)
   ·have hj : j < s.size := by
     simp at hc
     omega
    rw [if_pos hj] at he
    rw [he]
    refine Wp.nA (Γ55 (fun _ => True)) bP (ev fH) ?_ ?_
    ·first | trivial | omega | (simp [hs]; done) | (simp [hs]; omega) | (simp [hs] <;> omega)
    refine qq ?_
    refine wS fH ?_
    refine ⟨.iface 39 (sF 20 j ⟨#[]⟩), [[.nilIface], [.int .i64 0, .int .i64 0, .string ⟨#[]⟩]], rfl, ⟨?_, ?_, ?_, ?_, trivial⟩, ⟨⟨_, _, _, _, rfl⟩, 20, j, ⟨#[]⟩, rfl⟩, fun E => rfl⟩
    all_goals rfl
   ·have hj : ¬ j < s.size := by
     simp at hc
     omega
    rw [if_neg hj] at he
    refine wK ?_
    refine Wp.seq ?_
    refine vR Γ0 (ab fH hv1) ?_
    refine wC fH (fun hc => ?_) (fun hc => ?_)
    ·have hz : 2000 < r.1 := by
      simp at hc
      omega
     rw [if_pos hz] at he
     rw [he]
     refine vR Γ0 fH ?_
     refine wZ fH ?_
     exact fun E => rfl
    ·have hz : ¬ 2000 < r.1 := by
      simp at hc
      omega
     rw [if_neg hz] at he
     rw [he]
     obtain ⟨f, cap, rfl, hf⟩ := hg1.shape
     obtain ⟨cap, rfl⟩ : ∃ l : List Value, cap = l.toArray := ⟨cap.toList, by simp⟩
     have hgr := jG hg1
     have hsp := Gt43cgrow (dp r.2 + 1) (sA _) f hf
     refine wK ?_
     refine wR (Γ43 (dp r.2 + 1) (sA _)) (Ci fH hsp hgr @lh hv1 @gD @bM) ?_ ?_
     ·exact ⟨⟨cap, r.2, rfl, hg1.mono fun b _ h => ⟨rfl, h.2⟩, by omega⟩, bM _⟩
     refine wT ?_
     simp only [dM, Op.operands, Value.cells, σ0, σB, Nat.reduceEqDiff, Nat.reduceAdd, Nat.reduceMul, Nat.reduceLT, Nat.reduceLeDiff, Nat.reduceBEq, ae, Int.reduceToNat, Int.reduceLT, Int.reduceLE, Nat.reduceDiv, Nat.reduceMod, Nat.reduceSub, Int.reducePow, Nat.reducePow, σP, σB3, mP, gL, kF, jo, fH, kF, gD, bM, ix (bM _)]
     exact fun E => rfl
def yy : a7 Tryz.prog 71 where
 pre := fun W bs => fun | [.val (.string s)] => s.size <= 140737488351232 /\ bc W (Out bs) | _ => False
 res := fun W => fun | [.val (.string s)] => om (nO s) | _ => undef
 enters := Tryz.call71
 ok := by
  intro W w bs us as_ hk hu hp
  split at hp
  ·rename_i s
   match us, hu with
   | [u0], hu =>
    obtain ⟨rfl, _⟩ := hu
    exact Mg s w hp.1 (hp.2.fD hk (by simp))
  ·exact hp.elim
theorem Gd (W : World) (s : ByteArray) : yy.res W [.val (.string s)] = om (nO s) := rfl
theorem Fz (W : World) (bs : List Nat) (s : ByteArray) : yy.pre W bs [.val (.string s)] = (s.size <= 140737488351232 /\ bc W (Out bs)) := rfl
end
section
open Go.RowKit Go.LE
set_option maxRecDepth 10000
def iN (q : ByteArray) (b : Int) : Bool := decide (0 <= ib q b)
def zz (q : ByteArray) (b : Int) : Bool := (List.range q.size).any fun j => decide (bt q (j : Int) = b)
theorem LD {q : ByteArray} {b : Int} {j : Nat} (hj : j < q.size) (h : bt q j = b) : zz q b = true :=
 List.any_eq_true.2 ⟨j, List.mem_range.2 hj, decide_eq_true h⟩
theorem ES {q : ByteArray} {b : Int} (h : ∀ j : Nat, j < q.size -> bt q j ≠ b) : zz q b = false :=
 List.any_eq_false.2 fun j hj => by simpa using h j (List.mem_range.1 hj)
def pw := (aq @List.replicate_succ.{0} @List.replicate_zero.{0} @aw @ah jn cQ cV (aq cX cS da c9 c8 db iv (aq ie ig ir iw eW eV eX (Ci eZ e8 e9 @aO @au @aB @aC))))
set_option maxHeartbeats 1000000 in
theorem Ve (q : ByteArray) (b : Int) (w : World) (hs : q.size <= 140737488351232) : Calls Tryz.prog 244 #[.string q, .int .u8 b] w fun e w' => e = .returned (.bool (zz q b)) /\ ai w [] w' := by
 refine al (nt := 17) [.tmp 4] Tryz.func244 rfl rfl rfl ?_
 refine vR Γ0 pw ?_
 refine Wp.seq ?_
 refine vR Γ0 pw ?_
 refine Wp.block ?_
 refine Wp.loop (fun j : Nat => ⟨2, bV [(0, .is (.v (.string q))), (1, .is (.v (.int .u8 b))), (5, .is (.v (.int .i64 (j : Nat))))], cd []⟩) (fun j => j <= q.size /\ ∀ i : Nat, i < j -> bt q i ≠ b) (fun j => q.size - j) 0 ?_ ⟨Nat.zero_le _, fun i h => by omega⟩ ?_
 ·exact wM (fun k => .key k) pw
 rintro j ⟨hj, hn⟩
 refine Wp.seq ?_
 refine vR Γ0 pw ?_
 refine wC pw (fun hc => ?_) (fun hc => ?_)
 ·have hlt : j < q.size := by
   simp at hc
   omega
  refine wK ?_
  refine Wp.seq (Wp.block ?_)
  refine vR Γ0 pw ?_
  refine wC pw (fun hc => ?_) (fun hc => ?_)
  ·have hb : bt q j = b := by simpa using hc
   rw [LD hlt hb]
   refine vR Γ0 pw ?_
   refine wZ pw ?_
   exact fun E => rfl
  ·have hb : ¬ bt q j = b := by simpa using hc
   have wj : IntKind.i64.wrap ((j : Int) + 1) = ((j + 1 : Nat) : Int) := by rw [aa (by omega) (by omega)]; omega
   refine wK ?_
   refine vr Γ0 (ab pw wj) ?_
   refine ⟨j + 1, ⟨by omega, fun i hi => ?_⟩, by omega, ?_⟩
   ·by_cases h : i = j
    ·rw [h]; exact hb
    ·exact hn i (by omega)
   ·exact wM (fun k => .key k) pw
 ·have hlt : ¬ j < q.size := by
   simp at hc
   omega
  rw [ES fun i hi => hn i (by omega)]
  refine wE ?_
  refine vR Γ0 pw ?_
  refine wZ pw ?_
  exact fun E => rfl
def XI : a7 Tryz.prog 244 where
 pre := fun W bs => fun | [.val (.string q), .val (.int .u8 b)] => q.size <= 140737488351232 | _ => False
 res := fun W => fun | [.val (.string q), .val (.int .u8 b)] => .bool (zz q b) | _ => undef
 enters := Tryz.call244
 ok := by
  intro W w bs us as_ hk hu hp
  split at hp
  ·rename_i q b
   match us, hu with
   | [u0, u1], hu =>
    obtain ⟨rfl, rfl, _⟩ := hu
    exact Ve q b w hp
  ·exact hp.elim
theorem Sq (W : World) (q : ByteArray) (b : Int) : XI.res W [.val (.string q), .val (.int .u8 b)] = .bool (zz q b) := rfl
theorem R0 (W : World) (bs : List Nat) (q : ByteArray) (b : Int) : XI.pre W bs [.val (.string q), .val (.int .u8 b)] = (q.size <= 140737488351232) := rfl
noncomputable def Γ60 : Env Tryz.prog := ⟨fun | 244 => some XI.spec | _ => none, fun | _ => none, fun _ _ => none⟩
theorem Gt60c244 : Γ60.sp 244 = some XI.spec := rfl
theorem SF {b : Int} (h0 : 0 <= b) (h1 : b < 256) : zz vB b = iN vB b := by
 obtain ⟨n, rfl⟩ := Int.eq_ofNat_of_zero_le h0
 have : ∀ b : Fin 256, zz vB ((b.val : Nat) : Int) = iN vB ((b.val : Nat) : Int) := by decide +kernel
 exact this ⟨n, by omega⟩
theorem Sr {b : Int} (h0 : 0 <= b) (h1 : b < 256) : zz ki b = iN ki b := by
 obtain ⟨n, rfl⟩ := Int.eq_ofNat_of_zero_le h0
 have : ∀ b : Fin 256, zz ki ((b.val : Nat) : Int) = iN ki ((b.val : Nat) : Int) := by decide +kernel
 exact this ⟨n, by omega⟩
theorem VN : (⟨#[40, 41, 91, 93, 123, 125, 124, 38, 45, 42, 43, 63, 46, 92, 47, 94]⟩ : ByteArray) = vB := rfl
theorem VC : (⟨#[92, 93, 91, 45, 94, 47]⟩ : ByteArray) = ki := rfl
def E7 := (fj pw Sq R0 Gt60c244)
set_option maxHeartbeats 1000000 in
theorem Di (b : Int) (h0 : 0 <= b) (h1 : b < 256) (w : World) : Calls Tryz.prog 205 #[.int .u8 b] w fun e w' => e = .returned (.bool (iN vB b)) /\ ai w [] w' := by
 rw [<- SF h0 h1]
 refine al (nt := 5) [.tmp 2] Tryz.func205 rfl rfl rfl ?_
 refine vR Γ60 E7 ?_
 refine wR Γ60 E7 ?_ ?_
 ·decide
 refine wZ E7 ?_
 exact fun E => rfl
set_option maxHeartbeats 1000000 in
theorem L0 (b : Int) (h0 : 0 <= b) (h1 : b < 256) (w : World) : Calls Tryz.prog 206 #[.int .u8 b] w fun e w' => e = .returned (.bool (iN ki b)) /\ ai w [] w' := by
 rw [<- Sr h0 h1]
 refine al (nt := 5) [.tmp 2] Tryz.func206 rfl rfl rfl ?_
 refine vR Γ60 E7 ?_
 refine wR Γ60 E7 ?_ ?_
 ·decide
 refine wZ E7 ?_
 exact fun E => rfl
def kr : a7 Tryz.prog 205 where
 pre := fun W bs => fun | [.val (.int .u8 b)] => 0 <= b /\ b < 256 | _ => False
 res := fun W => fun | [.val (.int .u8 b)] => .bool (iN vB b) | _ => undef
 enters := Tryz.call205
 ok := by
  intro W w bs us as_ hk hu hp
  split at hp
  ·rename_i b
   match us, hu with
   | [u0], hu =>
    obtain ⟨rfl, _⟩ := hu
    exact Di b hp.1 hp.2 w
  ·exact hp.elim
theorem oS (W : World) (b : Int) : kr.res W [.val (.int .u8 b)] = .bool (iN vB b) := rfl
theorem oQ (W : World) (bs : List Nat) (b : Int) : kr.pre W bs [.val (.int .u8 b)] = (0 <= b /\ b < 256) := rfl
def pU : a7 Tryz.prog 206 where
 pre := fun W bs => fun | [.val (.int .u8 b)] => 0 <= b /\ b < 256 | _ => False
 res := fun W => fun | [.val (.int .u8 b)] => .bool (iN ki b) | _ => undef
 enters := Tryz.call206
 ok := by
  intro W w bs us as_ hk hu hp
  split at hp
  ·rename_i b
   match us, hu with
   | [u0], hu =>
    obtain ⟨rfl, _⟩ := hu
    exact L0 b hp.1 hp.2 w
  ·exact hp.elim
theorem uI (W : World) (b : Int) : pU.res W [.val (.int .u8 b)] = .bool (iN ki b) := rfl
theorem uD (W : World) (bs : List Nat) (b : Int) : pU.pre W bs [.val (.int .u8 b)] = (0 <= b /\ b < 256) := rfl
theorem KM {c : Int} (h0 : 0 <= c) (h1 : c < 256) : ib dQ c = if 48 <= c /\ c <= 57 then c - 48 else if 97 <= c /\ c <= 102 then c - 97 + 10 else -1 := by
 obtain ⟨n, rfl⟩ := Int.eq_ofNat_of_zero_le h0
 have : ∀ c : Fin 256, ib dQ ((c.val : Nat) : Int) = if 48 <= ((c.val : Nat) : Int) /\ ((c.val : Nat) : Int) <= 57 then ((c.val : Nat) : Int) - 48 else if 97 <= ((c.val : Nat) : Int) /\ ((c.val : Nat) : Int) <= 102 then ((c.val : Nat) : Int) - 97 + 10 else -1 := by decide +kernel
 exact this ⟨n, by omega⟩
def se := (p8 E7 @oS @oQ @uI @uD)
set_option maxHeartbeats 1000000 in
theorem O8 (c : Int) (h0 : 0 <= c) (h1 : c < 256) (w : World) : Calls Tryz.prog 214 #[.int .u8 c] w fun e w' => e = .returned (.int .i64 (ib dQ c)) /\ ai w [] w' := by
 rw [KM h0 h1]
 refine al (nt := 22) [.tmp 2] Tryz.func214 rfl rfl rfl ?_
 refine vR Γ0 se ?_
 refine Wp.seq ?_
 refine vR Γ0 se ?_
 refine wC se (fun hc => ?_) (fun hc => ?_)
 ·have hd : 48 <= c /\ c <= 57 := by simpa using hc
  have w1 : IntKind.u8.wrap (c - 48) = c - 48 := gn (by omega) (by omega)
  have w2 : IntKind.i64.wrap (c - 48) = c - 48 := aa (by omega) (by omega)
  rw [if_pos hd]
  refine vR Γ0 (dk se w1 w2) ?_
  refine wZ se ?_
  exact fun E => rfl
 ·have hd : ¬ (48 <= c /\ c <= 57) := by simpa using hc
  rw [if_neg hd]
  refine wK ?_
  refine Wp.seq ?_
  refine vR Γ0 se ?_
  refine wC se (fun hc => ?_) (fun hc => ?_)
  ·have hd2 : 97 <= c /\ c <= 102 := by simpa using hc
   have w1 : IntKind.u8.wrap (c - 97) = c - 97 := gn (by omega) (by omega)
   have w2 : IntKind.i64.wrap (c - 97) = c - 97 := aa (by omega) (by omega)
   have w3 : IntKind.i64.wrap (c - 97 + 10) = c - 97 + 10 := aa (by omega) (by omega)
   rw [if_pos hd2]
   refine vR Γ0 (fj se w1 w2 w3) ?_
   refine wZ se ?_
   exact fun E => rfl
  ·have hd2 : ¬ (97 <= c /\ c <= 102) := by simpa using hc
   rw [if_neg hd2]
   refine wK ?_
   refine vR Γ0 se ?_
   refine wZ se ?_
   exact fun E => rfl
def IY : a7 Tryz.prog 214 where
 pre := fun W bs => fun | [.val (.int .u8 c)] => 0 <= c /\ c < 256 | _ => False
 res := fun W => fun | [.val (.int .u8 c)] => .int .i64 (ib dQ c) | _ => undef
 enters := Tryz.call214
 ok := by
  intro W w bs us as_ hk hu hp
  split at hp
  ·rename_i c
   match us, hu with
   | [u0], hu =>
    obtain ⟨rfl, _⟩ := hu
    exact O8 c hp.1 hp.2 w
  ·exact hp.elim
theorem JB (W : World) (c : Int) : IY.res W [.val (.int .u8 c)] = .int .i64 (ib dQ c) := rfl
theorem JH (W : World) (bs : List Nat) (c : Int) : IY.pre W bs [.val (.int .u8 c)] = (0 <= c /\ c < 256) := rfl
noncomputable def Γ61 : Env Tryz.prog := ⟨fun | 205 => some kr.spec | 206 => some pU.spec | 214 => some IY.spec | _ => none, fun | _ => none, fun _ _ => none⟩
theorem Gt61c205 : Γ61.sp 205 = some kr.spec := rfl
theorem Gt61c206 : Γ61.sp 206 = some pU.spec := rfl
theorem Gt61c214 : Γ61.sp 214 = some IY.spec := rfl
def PI : Except Int (Int × Int) -> Value
 | .ok (b, j) => .tuple #[.int .u8 b, .int .i64 j, .int .i64 (-1)]
 | .error j => .tuple #[.int .u8 0, .int .i64 0, .int .i64 j]
theorem lp (b j : Int) : PI (.ok (b, j)) = .tuple #[.int .u8 b, .int .i64 j, .int .i64 (-1)] := rfl
theorem gy (j : Int) : PI (.error j) = .tuple #[.int .u8 0, .int .i64 0, .int .i64 j] := rfl
def iB (inner : Bool) : ByteArray := bif inner then ki else vB
def cf := (nC se JB JH Gt61c205 Gt61c206 Gt61c214)
set_option maxHeartbeats 4000000 in
theorem Gv (s : ByteArray) (i : Int) (inner : Bool) (h0 : 0 <= i) (hi : i <= s.size) (hs : s.size <= 140737488351232) (w : World) :
  Calls Tryz.prog 174 #[.string s, .int .i64 i, .bool inner] w fun e w' => e = .returned (PI (dt s i (iB inner))) /\ ai w [] w' := by
 obtain ⟨b0, b1⟩ := dN s i
 refine al (nt := 144) [.tmp 6, .tmp 7, .tmp 8] Tryz.func174 rfl rfl rfl ?_
 refine vR Γ61 cf ?_
 refine Wp.seq ?_
 refine vR Γ61 cf ?_
 refine wC cf (fun hc => ?_) (fun hc => ?_)
 ·have hN : ¬ i < s.size := by
   simp at hc
   omega
  obtain rfl : i = s.size := by omega
  have he : dt s s.size (iB inner) = .error s.size := by rw [dt, if_neg (by omega), if_pos (by omega)]
  rw [he, gy]
  refine vR Γ61 cf ?_
  refine wZ cf ?_
  exact fun E => rfl
 ·have hN : i < s.size := by
   simp at hc
   omega
  have w1 : IntKind.i64.wrap (i + 1) = i + 1 := aa (by omega) (by omega)
  have w2 : IntKind.i64.wrap (i + 2) = i + 2 := aa (by omega) (by omega)
  refine wK ?_
  refine vR Γ61 cf ?_
  refine Wp.seq ?_
  refine vR Γ61 cf ?_
  refine wC cf (fun hc => ?_) (fun hc => ?_)
  ·have h92 : ¬ bt s i = 92 := by simpa using hc
   have hE : dt s i (iB inner) = if (bt s i < 32 \/ 126 < bt s i) \/ 0 <= ib (iB inner) (bt s i) then .error i else .ok (bt s i, i + 1) := by
    rw [dt, if_neg (by omega)]
    by_cases h : (bt s i < 32 \/ 126 < bt s i) \/ 0 <= ib (iB inner) (bt s i)
    ·rw [if_pos h, if_pos (by omega)]
    ·rw [if_neg h, if_neg (by omega)]
   refine vR Γ61 cf ?_
   refine bx ⟨60, bV [(0, .is (.v (.string s))), (1, .is (.v (.int .i64 i))), (9, .is (.v (.int .u8 (bt s i)))), (10, .is (.v (.bool (decide (bt s i < 32) || decide (126 < bt s i) || iN (iB inner) (bt s i)))))], cd []⟩ ?_ ?_
   ·skip
    refine vR Γ61 cf ?_
    refine wC cf (fun hc => ?_) (fun hc => ?_)
    ·subst hc
     refine wr Γ61 cf ?_ ?_
     ·exact fun _ => ⟨b0, b1⟩
     exact wM (fun k => .key k) (ab cf @iB.eq_1)
    ·subst hc
     refine wr Γ61 cf ?_ ?_
     ·exact fun _ => ⟨b0, b1⟩
     exact wM (fun k => .key k) (ab cf @iB.eq_1)
   refine Wp.seq ?_
   refine vR Γ61 cf ?_
   refine wC cf (fun hc => ?_) (fun hc => ?_)
   ·have hb : (bt s i < 32 \/ 126 < bt s i) \/ 0 <= ib (iB inner) (bt s i) := by simpa [iN] using hc
    rw [hE, if_pos hb, gy]
    refine vR Γ61 cf ?_
    refine wZ cf ?_
    exact fun E => rfl
   ·have hb : ¬ ((bt s i < 32 \/ 126 < bt s i) \/ 0 <= ib (iB inner) (bt s i)) := fun h => by
     apply Bool.eq_false_iff.1 hc
     simpa [iN] using h
    rw [hE, if_neg hb, lp]
    refine wK ?_
    refine vR Γ61 (ab cf w1) ?_
    refine wZ cf ?_
    exact fun E => rfl
  ·have h92 : bt s i = 92 := by simpa using hc
   have hE : dt s i (iB inner) = dw s (i + 1) := by rw [dt, if_pos ⟨hN, h92⟩]
   rw [hE]
   obtain ⟨c0, c1⟩ := dN s (i + 1)
   refine wK ?_
   refine Wp.seq ?_
   refine vR Γ61 (ab cf w1) ?_
   refine wC cf (fun hc => ?_) (fun hc => ?_)
   ·have hN2 : ¬ i + 1 < s.size := by
     simp at hc
     omega
    have he : dw s (i + 1) = .error s.size := by rw [dw, if_pos hN2, show i + 1 = (s.size : Int) by omega]
    rw [he, gy]
    refine vR Γ61 cf ?_
    refine wZ cf ?_
    exact fun E => rfl
   ·have hN2 : i + 1 < s.size := by
     simp at hc
     omega
    refine wK ?_
    refine wR Γ61 (ab cf w1) ?_ ?_
    ·omega
    refine Wp.seq ?_
    refine vR Γ61 cf ?_
    refine wC cf (fun hc => ?_) (fun hc => ?_)
    ·have h110 : bt s (i + 1) = 110 := by simpa using hc
     have w12 : i + 1 + 1 = i + 2 := by omega
     have he : dw s (i + 1) = .ok (10, i + 2) := by rw [dw, if_neg (by omega), if_pos h110, w12]
     rw [he, lp]
     refine vR Γ61 (ab cf w2) ?_
     refine wZ cf ?_
     exact fun E => rfl
    ·have h110 : ¬ bt s (i + 1) = 110 := by simpa using hc
     refine wK ?_
     refine Wp.seq ?_
     refine vR Γ61 cf ?_
     refine wC cf (fun hc => ?_) (fun hc => ?_)
     ·have h114 : bt s (i + 1) = 114 := by simpa using hc
      have w12 : i + 1 + 1 = i + 2 := by omega
      have he : dw s (i + 1) = .ok (13, i + 2) := by rw [dw, if_neg (by omega), if_neg h110, if_pos h114, w12]
      rw [he, lp]
      refine vR Γ61 (ab cf w2) ?_
      refine wZ cf ?_
      exact fun E => rfl
     ·have h114 : ¬ bt s (i + 1) = 114 := by simpa using hc
      refine wK ?_
      refine Wp.seq ?_
      refine vR Γ61 cf ?_
      refine wC cf (fun hc => ?_) (fun hc => ?_)
      ·have h116 : bt s (i + 1) = 116 := by simpa using hc
       have w12 : i + 1 + 1 = i + 2 := by omega
       have he : dw s (i + 1) = .ok (9, i + 2) := by rw [dw, if_neg (by omega), if_neg h110, if_neg h114, if_pos h116, w12]
       rw [he, lp]
       refine vR Γ61 (ab cf w2) ?_
       refine wZ cf ?_
       exact fun E => rfl
      ·have h116 : ¬ bt s (i + 1) = 116 := by simpa using hc
       refine wK ?_
       refine Wp.seq ?_
       refine vR Γ61 cf ?_
       refine wC cf (fun hc => ?_) (fun hc => ?_)
       ·have h120 : bt s (i + 1) = 120 := by simpa using hc
        have hX : dw s (i + 1) = match fQ s (i + 1 + 1) with
          | .error j => .error j
          | .ok (h, j) => match fQ s j with
           | .error k => .error k
           | .ok (l, k) => .ok (16 * h + l, k) := by
         rw [dw, if_neg (by omega), if_neg h110, if_neg h114, if_neg h116, if_pos h120]
         cases fQ s (i + 1 + 1) with
         | error j => rfl
         | ok p =>
          obtain ⟨h, j⟩ := p
          simp only
          cases fQ s j <;> rfl
        have gd : ∀ p : Int, fQ s p = if p < s.size /\ 0 <= ib dQ (bt s p) then .ok (ib dQ (bt s p), p + 1) else .error p := fun p => rfl
        have rng : ∀ p : Int, 0 <= bt s p /\ bt s p < 256 := fun p => dN s p
        refine Wp.seq ?_
        refine vR Γ61 cf ?_
        refine Wp.block ?_
        refine Wp.loop (fun k : Nat => ⟨90, bV [(0, .is (.v (.string s))), (1, .is (.v (.int .i64 i))), (11, .is (.v (.int .i64 (k : Nat))))], cd []⟩) (fun k => (2 <= k /\ k <= 4) /\ ∀ m : Nat, 2 <= m -> m < k -> i + m < s.size /\ 0 <= ib dQ (bt s (i + m))) (fun k => 4 - k) 2 ?_ ⟨⟨by omega, by omega⟩, fun m h1 h2 => by omega⟩ ?_
        ·exact wM (fun k => .key k) cf
        rintro k ⟨⟨hk2, hk4⟩, hk⟩
        have wk : IntKind.i64.wrap (i + (k : Int)) = i + k := aa (by omega) (by omega)
        refine Wp.seq ?_
        refine vR Γ61 cf ?_
        refine wC cf (fun hc => ?_) (fun hc => ?_)
        ·have hk3 : k < 4 := by
          simp at hc
          omega
         obtain ⟨d0, d1⟩ := rng (i + k)
         refine wK ?_
         refine Wp.seq (Wp.block ?_)
         refine wR Γ61 (ab cf wk) ?_ ?_
         ·simp; omega
         refine wC cf (fun hc => ?_) (fun hc => ?_)
         ·have hb : ¬ (i + k < s.size /\ 0 <= ib dQ (bt s (i + k))) := by
           simp at hc
           omega
          have hx : fQ s (i + k) = .error (i + k) := by rw [gd, if_neg hb]
          have he : dw s (i + 1) = .error (i + k) := by
           have hk23 : k = 2 \/ k = 3 := by omega
           rcases hk23 with rfl | rfl
           ·rw [hX, show i + 1 + 1 = i + ((2 : Nat) : Int) by omega, hx]
           ·have h2 := hk 2 (by omega) (by omega)
            have hx2 : fQ s (i + ((2 : Nat) : Int)) = .ok (ib dQ (bt s (i + ((2 : Nat) : Int))), i + ((3 : Nat) : Int)) := by rw [gd, if_pos h2, show i + ((2 : Nat) : Int) + 1 = i + ((3 : Nat) : Int) by omega]
            rw [hX, show i + 1 + 1 = i + ((2 : Nat) : Int) by omega, hx2]
            simp only [hx]
          rw [he, gy]
          refine vR Γ61 (ab cf wk) ?_
          refine wZ cf ?_
          exact fun E => rfl
         ·have hb : i + k < s.size /\ 0 <= ib dQ (bt s (i + k)) := by
           simp at hc
           omega
          have wk1 : IntKind.i64.wrap ((k : Int) + 1) = ((k + 1 : Nat) : Int) := by rw [aa (by omega) (by omega)]; omega
          refine wK ?_
          refine vr Γ61 (ab cf wk1) ?_
          refine ⟨k + 1, ⟨⟨by omega, by omega⟩, fun m h1 h2 => ?_⟩, by omega, ?_⟩
          ·by_cases h : m = k
           ·rw [h]; exact hb
           ·exact hk m h1 (by omega)
          ·exact wM (fun k => .key k) cf
        ·have hk3 : k = 4 := by
          simp at hc
          omega
         subst hk3
         have g2 := hk 2 (by omega) (by omega)
         have g3 := hk 3 (by omega) (by omega)
         have l2 := sE _ (rng (i + ((2 : Nat) : Int))).1 (rng (i + ((2 : Nat) : Int))).2
         have l3 := sE _ (rng (i + ((3 : Nat) : Int))).1 (rng (i + ((3 : Nat) : Int))).2
         have r2 := rng (i + 2)
         have r3 := rng (i + 3)
         have w3 : IntKind.i64.wrap (i + 3) = i + 3 := aa (by omega) (by omega)
         have w4 : IntKind.i64.wrap (i + 4) = i + 4 := aa (by omega) (by omega)
         rw [show ((2 : Nat) : Int) = 2 from rfl] at g2 l2
         rw [show ((3 : Nat) : Int) = 3 from rfl] at g3 l3
         have hx2 : fQ s (i + 2) = .ok (ib dQ (bt s (i + 2)), i + 3) := by rw [gd, if_pos g2, show i + 2 + 1 = i + 3 by omega]
         have hx3 : fQ s (i + 3) = .ok (ib dQ (bt s (i + 3)), i + 4) := by rw [gd, if_pos g3, show i + 3 + 1 = i + 4 by omega]
         have he : dw s (i + 1) = .ok (16 * ib dQ (bt s (i + 2)) + ib dQ (bt s (i + 3)), i + 4) := by
          rw [hX, show i + 1 + 1 = i + 2 by omega, hx2]
          simp only [hx3]
         have wa : IntKind.i64.wrap (16 * ib dQ (bt s (i + 2))) = 16 * ib dQ (bt s (i + 2)) := aa (by omega) (by omega)
         have wb : IntKind.i64.wrap (16 * ib dQ (bt s (i + 2)) + ib dQ (bt s (i + 3))) = 16 * ib dQ (bt s (i + 2)) + ib dQ (bt s (i + 3)) := aa (by omega) (by omega)
         have wc : IntKind.u8.wrap (16 * ib dQ (bt s (i + 2)) + ib dQ (bt s (i + 3))) = 16 * ib dQ (bt s (i + 2)) + ib dQ (bt s (i + 3)) := gn (by omega) (by omega)
         rw [he, lp]
         refine wE ?_
         refine kY Γ61 (Ci cf w2 w3 w4 wa wb wc) ?_ ?_
         ·omega
         refine wZ cf ?_
         exact fun E => rfl
       ·have h120 : ¬ bt s (i + 1) = 120 := by simpa using hc
        refine wK ?_
        refine vR Γ61 cf ?_
        refine Wp.seq ?_
        refine vR Γ61 cf ?_
        refine wC cf (fun hc => ?_) (fun hc => ?_)
        ·have hb : (((bt s (i + 1) < 32 \/ 126 < bt s (i + 1)) \/ 48 <= bt s (i + 1) /\ bt s (i + 1) <= 57) \/ 97 <= bt s (i + 1) /\ bt s (i + 1) <= 122) \/ 65 <= bt s (i + 1) /\ bt s (i + 1) <= 90 := by
          simp at hc
          omega
         have he : dw s (i + 1) = .error (i + 1) := by rw [dw, if_neg (by omega), if_neg h110, if_neg h114, if_neg h116, if_neg h120, if_pos hb]
         rw [he, gy]
         refine vR Γ61 (ab cf w1) ?_
         refine wZ cf ?_
         exact fun E => rfl
        ·have hb : ¬ ((((bt s (i + 1) < 32 \/ 126 < bt s (i + 1)) \/ 48 <= bt s (i + 1) /\ bt s (i + 1) <= 57) \/ 97 <= bt s (i + 1) /\ bt s (i + 1) <= 122) \/ 65 <= bt s (i + 1) /\ bt s (i + 1) <= 90) := fun h => by
          apply Bool.eq_false_iff.1 hc
          simp
          omega
         have w12 : i + 1 + 1 = i + 2 := by omega
         have he : dw s (i + 1) = .ok (bt s (i + 1), i + 2) := by rw [dw, if_neg (by omega), if_neg h110, if_neg h114, if_neg h116, if_neg h120, if_neg hb, w12]
         rw [he, lp]
         refine wK ?_
         refine vR Γ61 (ab cf w2) ?_
         refine wZ cf ?_
         exact fun E => rfl
end
section
open Go.RowKit Go.LE
set_option maxRecDepth 10000
def eI (f : Nat -> Bool) : List Value := (List.range 256).map fun i => .bool (f i)
theorem mY (f : Nat -> Bool) : (eI f).length = 256 := by simp [eI]
theorem cY (f : Nat -> Bool) : (List.map SV.v (eI f)).length = 256 := by simp [eI]
theorem qs {f g : Nat -> Bool} (h : ∀ i, i < 256 -> f i = g i) : eI f = eI g := List.map_congr_left fun i hi => by rw [h i (List.mem_range.1 hi)]
theorem kz : List.replicate 256 (Value.bool false) = eI fun _ => false := by
 simp [eI, List.map_const']
theorem jY (f : Nat -> Bool) (i : Nat) (hi : i < 256) : (List.map SV.v (eI f)).getD i (.v undef) = .v (.bool (f i)) := by
 simp [eI, List.getD_eq_getElem?_getD, hi]
theorem sI (f : Nat -> Bool) (i : Nat) (b : Bool) (hi : i < 256) : List.take i (List.map SV.v (eI f)) ++ [SV.v (.bool b)] ++ List.drop (i + 1) (List.map SV.v (eI f)) = List.map SV.v (eI fun k => if k = i then b else f k) := by
 apply List.ext_getElem
 ·simp [eI]; omega
 ·intro n h1 h2
  simp only [List.length_map, eI, List.length_range] at h2
  by_cases hn : n < i
  ·rw [List.getElem_append_left (by simp [eI]; omega), List.getElem_append_left (by simp [eI]; omega)]
   simp [eI, show ¬ n = i by omega]
  ·by_cases hn2 : n = i
   ·subst hn2
    rw [List.getElem_append_left (by simp [eI]; omega), List.getElem_append_right (by simp [eI]; omega)]
    simp [eI]
   ·rw [List.getElem_append_right (by simp [eI]; omega)]
    simp [eI, hn2]
    congr 3
    omega
theorem jk (f : Nat -> Bool) : List.take 256 (List.map SV.v (eI f)) = List.map SV.v (eI f) := List.take_of_length_le (by rw [cY]; omega)
theorem kK (f : Nat -> Bool) : List.drop 256 (List.map SV.v (eI f)) = [] := List.drop_of_length_le (by rw [cY]; omega)
theorem jX (f : Nat -> Bool) : (List.map SV.v (eI f)).all cq = true := by
 rw [List.all_eq_true]
 intro x hx
 obtain ⟨v, hv, rfl⟩ := List.mem_map.1 hx
 obtain ⟨i, _, rfl⟩ := List.mem_map.1 hv
 rfl
def kp (S : CS) : Value := .agg (eI S.getLsbD).toArray
def XJ (f : Nat -> Bool) : Value := .agg (eI f).toArray
theorem fZ (E : Nat -> Value) (f : Nat -> Bool) : den E (.agg ((eI f).map SV.v)) = XJ f := by
 simp only [den, az, XJ]
theorem zG {f : Nat -> Bool} {S : CS} (h : ∀ i, i < 256 -> f i = S.getLsbD i) : XJ f = kp S := by rw [XJ, qs h]; rfl
def sN : a7 Tryz.prog 174 where
 pre := fun W bs => fun | [.val (.string s), .val (.int .i64 i), .val (.bool inner)] => 0 <= i /\ i <= s.size /\ s.size <= 140737488351232 | _ => False
 res := fun W => fun | [.val (.string s), .val (.int .i64 i), .val (.bool inner)] => PI (dt s i (iB inner)) | _ => undef
 enters := Tryz.call174
 ok := by
  intro W w bs us as_ hk hu hp
  split at hp
  ·rename_i s i inner
   match us, hu with
   | [u0, u1, u2], hu =>
    obtain ⟨rfl, rfl, rfl, _⟩ := hu
    exact Gv s i inner hp.1 hp.2.1 hp.2.2 w
  ·exact hp.elim
theorem C0 (W : World) (s : ByteArray) (i : Int) (inner : Bool) : sN.res W [.val (.string s), .val (.int .i64 i), .val (.bool inner)] = PI (dt s i (iB inner)) := rfl
theorem CQ (W : World) (bs : List Nat) (s : ByteArray) (i : Int) (inner : Bool) : sN.pre W bs [.val (.string s), .val (.int .i64 i), .val (.bool inner)] = (0 <= i /\ i <= s.size /\ s.size <= 140737488351232) := rfl
noncomputable def Γ62 : Env Tryz.prog := ⟨fun | 174 => some sN.spec | _ => none, fun | _ => none, fun _ _ => none⟩
theorem Gt62c174 : Γ62.sp 174 = some sN.spec := rfl
def Vy : Except Int (CS × Int) -> Value
 | .ok (a, j) => .tuple #[kp a, .int .i64 j, .int .i64 0, .int .i64 0]
 | .error j => .tuple #[kp 0, .int .i64 0, .int .i64 10, .int .i64 j]
theorem VF (i : Nat) (hi : i < 256) : (~~~(DB ⟨#[10]⟩ 1)).getLsbD i = decide (i ≠ 10) := by
 have h : DB ⟨#[10]⟩ 1 = pS 0 10 := by decide
 rw [BitVec.getLsbD_not, h, pL _ _ _ (by omega)]
 simp [hi]
theorem B0 {s : ByteArray} {i j : Int} (h : fQ s i = .error j) : j = i := by
 rw [fQ] at h
 split at h
 ·cases h
 ·exact (Except.error.inj h).symm
theorem MS {s : ByteArray} {i j : Int} (h : dw s i = .error j) (h0 : 0 <= i) : 0 <= j := by
 rw [dw] at h
 split at h
 ·obtain rfl := Except.error.inj h; exact h0
 ·split at h
  ·cases h
  ·split at h
   ·cases h
   ·split at h
    ·cases h
    ·split at h
     ·cases h2 : fQ s (i + 1) with
      | error k =>
       rw [h2] at h
       obtain rfl := Except.error.inj h
       have := B0 h2
       omega
      | ok p =>
       obtain ⟨a, k⟩ := p
       have g := o6 h2 (by omega)
       rw [h2] at h
       simp only at h
       cases h3 : fQ s k with
       | error l =>
        rw [h3] at h
        obtain rfl := Except.error.inj h
        have := B0 h3
        omega
       | ok p => rw [h3] at h; cases h
     ·split at h
      ·obtain rfl := Except.error.inj h; exact h0
      ·cases h
theorem vk {s q : ByteArray} {i j : Int} (h : dt s i q = .error j) (h0 : 0 <= i) : 0 <= j := by
 rw [dt] at h
 split at h
 ·exact MS h (by omega)
 ·split at h
  ·obtain rfl := Except.error.inj h; exact h0
  ·cases h
structure MI where
 n : Nat
 i : Int
 a : CS
theorem SP (a : CS) (lo hi : Int) (h0 : 0 <= lo) (h2 : 0 <= hi) (h1 : hi < 256) (k : Nat) (hk : k < 256) : (a ||| j1 lo hi).getLsbD k = (a.getLsbD k || (decide (lo <= k) && decide ((k : Int) <= hi))) := by
 rw [BitVec.getLsbD_or, j1, BZ _ _ _ (by omega), <- Bool.decide_and]
 congr 1
 rw [decide_eq_decide]
 omega
def aX := (aq @aw @ah jS jP jn cQ cV (aq cX cS da c9 c8 db iv (aq ie ig ir iw eW eV eX (aq eZ e8 e9 xW xo yo xL (aq W6 Xc @aO @au @aB @aC @kz (aq @cY @jk @kK @jX @aE @fZ C0 (fj CQ Gt62c174 @lp @gy)))))))
set_option maxHeartbeats 4000000 in
theorem JC (s : ByteArray) (i : Int) (h0 : 0 <= i) (hi : i < s.size) (hs : s.size <= 140737488351232) (w : World) :
  Calls Tryz.prog 122 #[.string s, .int .i64 i] w fun e w' => e = .returned (Vy (df s i)) /\ ai w [] w' := by
 have hz : ∀ E, den E (.agg ((eI fun _ => false).map SV.v)) = kp 0 := fun E => by rw [fZ]; exact zG fun i _ => by simp
 have w1 : IntKind.i64.wrap (i + 1) = i + 1 := aa (by omega) (by omega)
 refine al (nt := 157) [.cell 4 241, .tmp 5, .tmp 6, .tmp 7] Tryz.func122 rfl rfl rfl ?_
 refine vR Γ0 aX ?_
 refine vR Γ0 aX ?_
 refine Wp.seq ?_
 refine vR Γ0 aX ?_
 refine wC aX (fun hc => ?_) (fun hc => ?_)
 ·exfalso
  simp at hc
  omega
 ·refine wK ?_
  refine Wp.seq ?_
  refine vR Γ0 aX ?_
  refine wC aX (fun hc => ?_) (fun hc => ?_)
  ·have h46 : bt s i = 46 := by simpa using hc
   have hI : df s i = .ok (~~~(DB ⟨#[10]⟩ 1), i + 1) := by rw [df, if_pos h46]
   rw [hI]
   refine Wp.seq ?_
   refine vR Γ0 aX ?_
   refine Wp.block ?_
   refine Wp.loop (fun j : Nat => ⟨20, bV [(0, .is (.v (.string s))), (1, .is (.v (.int .i64 i))), (4, .is (.own 0 0)), (8, .is (.own 32 0)), (9, .is (.v (.int .i64 (j : Nat))))], cd [(0, .cells 241 ((eI fun _ => false).map .v)), (32, .cells 241 ((eI fun k => decide (k < j) && decide (k ≠ 10)).map .v))]⟩) (fun j => j <= 256) (fun j => 256 - j) 0 ?_ (Nat.zero_le _) ?_
   ·exact wM (fun x => .key x) (dk aX @Nat.not_lt_zero @Bool.false_and)
   rintro j hj
   refine Wp.seq ?_
   refine vR Γ0 aX ?_
   refine wC aX (fun hc => ?_) (fun hc => ?_)
   ·have hlt : j < 256 := by
     simp at hc
     omega
    have wj : IntKind.i64.wrap ((j : Int) + 1) = ((j + 1 : Nat) : Int) := by rw [aa (by omega) (by omega)]; omega
    refine wK ?_
    refine Wp.seq (Wp.block ?_)
    refine Wp.At Γ0 bP (by simp only [dM, Op.operands, Value.cells, σ0, σB, Nat.reduceEqDiff, Nat.reduceAdd, Nat.reduceMul, Nat.reduceLT, Nat.reduceLeDiff, Nat.reduceBEq, ae, Int.reduceToNat, Int.reduceLT, Int.reduceLE, Nat.reduceDiv, Nat.reduceMod, Nat.reduceSub, Int.reducePow, Nat.reducePow, σP, σB3, aX, sI _ j _ hlt]; exact rfl) rfl ?_ ?_
    ·omega
    refine qq ?_
    refine vr Γ0 (ab aX wj) ?_
    have e : (fun k => if k = j then !decide ((j : Int) = 10) else decide (k < j) && decide (¬k = 10)) = fun k => decide (k < j + 1) && decide (¬k = 10) := by
     funext k
     by_cases hk : k = j
     ·subst hk
      rw [if_pos rfl, decide_eq_true (show k < k + 1 by omega), Bool.true_and, <- decide_not, decide_eq_decide]
      omega
     ·rw [if_neg hk]
      congr 1
      rw [decide_eq_decide]
      omega
    refine ⟨j + 1, by omega, by omega, ?_⟩
    exact wM (fun x => .key x) (ab aX e)
   ·have hlt : j = 256 := by
     simp at hc
     omega
    subst hlt
    refine wE ?_
    refine vR Γ0 (ab aX w1) ?_
    refine wZ aX ?_
    intro E
    show Value.tuple #[den E (.agg _), .int .i64 (i + 1), .int .i64 0, .int .i64 0] = _
    rw [fZ, zG (S := ~~~(DB ⟨#[10]⟩ 1)) fun k hk => by rw [VF k hk, decide_eq_true hk, Bool.true_and]]
    rfl
  ·have h46 : ¬ bt s i = 46 := by simpa using hc
   refine wK ?_
   refine Wp.seq ?_
   refine vR Γ0 aX ?_
   refine wC aX (fun hc => ?_) (fun hc => ?_)
   ·have h91 : ¬ bt s i = 91 := by simpa using hc
    have hI : df s i = Sl (dt s i vB) := by rw [df, if_neg h46, if_neg h91]
    rw [hI]
    have hb : dt s i (iB false) = dt s i vB := rfl
    cases hO : dt s i vB with
    | error j =>
     have hj : (0 : Int) <= j := vk hO h0
     refine wR Γ62 (dk aX hb hO) ?_ ?_
     ·exact ⟨by omega, by omega, hs⟩
     refine Wp.seq ?_
     refine vR Γ0 aX ?_
     refine wC aX (fun hc => ?_) (fun hc => ?_)
     ·skip
      refine vR Γ0 aX ?_
      refine wZ aX ?_
      intro E
      show Value.tuple #[den E (.agg _), .int .i64 0, .int .i64 10, .int .i64 j] = _
      rw [hz]; rfl
     ·exfalso
      simp at hc
      omega
    | ok q =>
     obtain ⟨b, j⟩ := q
     have hb1 := iI hO h0
     refine wR Γ62 (dk aX hb hO) ?_ ?_
     ·exact ⟨by omega, by omega, hs⟩
     refine Wp.seq ?_
     refine vR Γ0 aX ?_
     refine wC aX (fun hc => ?_) (fun hc => ?_)
     ·exfalso
      simp at hc
     ·obtain ⟨c, rfl⟩ := Int.eq_ofNat_of_zero_le hb1.1
      have wc : IntKind.i64.wrap ((c : Nat) : Int) = ((c : Nat) : Int) := aa (by omega) (by omega)
      refine wK ?_
      refine Wp.ny Γ0 bP (by simp only [dM, Op.operands, Value.cells, σ0, σB, Nat.reduceEqDiff, Nat.reduceAdd, Nat.reduceMul, Nat.reduceLT, Nat.reduceLeDiff, Nat.reduceBEq, ae, Int.reduceToNat, Int.reduceLT, Int.reduceLE, Nat.reduceDiv, Nat.reduceMod, Nat.reduceSub, Int.reducePow, Nat.reducePow, σP, σB3, aX, wc, sI _ c _ (show c < 256 by omega)]; exact rfl) rfl ?_ ?_
      ·omega
      refine vR Γ0 aX ?_
      refine wZ aX ?_
      intro E
      show Value.tuple #[den E (.agg _), .int .i64 j, .int .i64 0, .int .i64 0] = _
      rw [fZ, zG (S := j1 (c : Int) (c : Int)) fun k hk => by
       rw [j1, BZ _ _ _ (by omega)]
       by_cases h : k = c
       ·rw [if_pos h, h]; simp
       ·rw [if_neg h, eq_comm, decide_eq_false_iff_not]; omega]
      rfl
   ·have h91 : bt s i = 91 := by simpa using hc
    have hI : df s i = dR s (i + 1) := by rw [df, if_neg h46, if_pos h91]
    rw [hI]
    refine wK ?_
    refine vR Γ0 (ab aX w1) ?_
    refine wR Γ0 aX ?_ ?_
    ·simp; omega
    generalize hi0 : (if gr s (i + 1) then i + 1 + 1 else i + 1) = i0
    have hj0 : 0 <= i0 /\ i0 <= s.size := by
     rw [<- hi0]
     split
     ·rename_i h
      simp [gr] at h
      omega
     ·omega
    generalize hR : qH s (s.size + 1) i0 0 = R
    have hm : dR s (i + 1) = pX (gr s (i + 1)) R := by rw [dR, hi0, hR]
    rw [hm]
    refine bx ⟨40, bV [(0, .is (.v (.string s))), (4, .is (.own 0 0)), (8, .is (.own 32 0)), (13, .is (.v (.int .i64 i0))), (14, .is (.v (.bool (gr s (i + 1)))))], cd [(0, .cells 241 ((eI fun _ => false).map .v)), (32, .cells 241 ((eI fun _ => false).map .v))]⟩ ?_ ?_
    ·skip
     refine vR Γ0 aX ?_
     refine wC aX (fun hc => ?_) (fun hc => ?_)
     ·have hcar : gr s (i + 1) = true := hc
      rw [hcar] at hi0
      simp only [if_true] at hi0
      subst hi0
      have w2 : IntKind.i64.wrap (i + 1 + 1) = i + 1 + 1 := aa (by omega) (by omega)
      refine vr Γ0 (ab aX w2) ?_
      exact wM (fun x => .key x) (ab aX @gr.eq_1)
     ·have hcar : gr s (i + 1) = false := hc
      rw [hcar] at hi0
      simp only [Bool.false_eq_true, if_false] at hi0
      subst hi0
      refine wK ?_
      exact wM (fun x => .key x) (ab aX @gr.eq_1)
    have e0 : (0 : CS).getLsbD = fun _ => false := by funext k; simp
    refine Wp.seq (Wp.block ?_)
    refine Wp.loop (fun p : MI => ⟨50, bV [(0, .is (.v (.string s))), (4, .is (.own 0 0)), (8, .is (.own 32 0)), (13, .is (.v (.int .i64 p.i))), (14, .is (.v (.bool (gr s (i + 1)))))], cd [(0, .cells 241 ((eI fun _ => false).map .v)), (32, .cells 241 ((eI p.a.getLsbD).map .v))]⟩)
     (fun p => (0 <= p.i /\ p.i <= s.size) /\ (s.size - p.i < p.n /\ 1 <= p.n) /\ qH s p.n p.i p.a = R) (fun p => p.n) ⟨s.size + 1, i0, 0⟩ ?_ ⟨hj0, ⟨by simp only; omega, by simp only; omega⟩, hR⟩ ?_
    ·exact wM (fun x => .key x) (ab aX e0)
    rintro ⟨n, i', a⟩ ⟨⟨k0, k4⟩, ⟨k1, k3⟩, k2⟩
    simp only at k0 k1 k2 k3 k4
    dsimp only
    obtain ⟨n, rfl⟩ : ∃ m, n = m + 1 := ⟨n - 1, by omega⟩
    rw [qH] at k2
    refine Wp.seq ?_
    refine wR Γ0 aX ?_ ?_
    ·simp; omega
    refine wC aX (fun hc => ?_) (fun hc => ?_)
    ·have hn : ¬ (i' < s.size /\ bt s i' = 93) := by
      simp at hc
      omega
     rw [if_neg hn] at k2
     refine wK ?_
     refine Wp.block ?_
     have hb : dt s i' (iB true) = dt s i' ki := rfl
     cases h1 : dt s i' ki with
     | error j =>
      have hj := vk h1 k0
      rw [h1] at k2
      simp only at k2
      rw [<- k2, pX]
      refine wR Γ62 (dk aX hb h1) ?_ ?_
      ·exact ⟨k0, k4, hs⟩
      refine Wp.seq ?_
      refine vR Γ0 aX ?_
      refine wC aX (fun hc => ?_) (fun hc => ?_)
      ·skip
       refine vR Γ0 aX ?_
       refine wZ aX ?_
       intro E
       show Value.tuple #[den E (.agg _), .int .i64 0, .int .i64 10, .int .i64 j] = _
       rw [hz]; rfl
      ·exfalso
       simp at hc
       omega
     | ok p =>
      obtain ⟨lo, j⟩ := p
      obtain ⟨o0, o1, o2, o3⟩ := iI h1 k0
      rw [h1] at k2
      simp only at k2
      refine wR Γ62 (dk aX hb h1) ?_ ?_
      ·exact ⟨k0, k4, hs⟩
      refine Wp.seq ?_
      refine vR Γ0 aX ?_
      refine wC aX (fun hc => ?_) (fun hc => ?_)
      ·exfalso
       simp at hc
      ·refine wK ?_
       refine vR Γ0 aX ?_
       refine vR Γ0 aX ?_
       refine iK (fun p : Int × Int => ⟨110, bV [(0, .is (.v (.string s))), (4, .is (.own 0 0)), (8, .is (.own 32 0)), (13, .is (.v (.int .i64 p.2))), (14, .is (.v (.bool (gr s (i + 1))))), (15, .is (.v (.int .u8 lo))), (18, .is (.v (.int .u8 p.1)))], cd [(0, .cells 241 ((eI fun _ => false).map .v)), (32, .cells 241 ((eI a.getLsbD).map .v))]⟩) (fun _ => w) (fun _ => [])
        (fun p => (0 <= p.1 /\ p.1 < 256) /\ (i' < p.2 /\ p.2 <= s.size) /\ qH s n p.2 (a ||| j1 lo p.1) = R) ?_ ?_
       ·skip
        refine wR Γ0 aX ?_ ?_
        ·simp; omega
        refine wC aX (fun hc => ?_) (fun hc => ?_)
        ·have h45 : j < s.size /\ bt s j = 45 := by
          simp at hc
          omega
         rw [if_pos h45] at k2
         have wj : IntKind.i64.wrap (j + 1) = j + 1 := aa (by omega) (by omega)
         have hb2 : dt s (j + 1) (iB true) = dt s (j + 1) ki := rfl
         refine vR Γ0 (ab aX wj) ?_
         cases h2 : dt s (j + 1) ki with
         | error l =>
          have hl := vk h2 (by omega)
          rw [h2] at k2
          simp only at k2
          rw [<- k2, pX]
          refine wR Γ62 (dk aX hb2 h2) ?_ ?_
          ·exact ⟨by omega, by omega, hs⟩
          refine Wp.seq ?_
          refine vR Γ0 aX ?_
          refine wC aX (fun hc => ?_) (fun hc => ?_)
          ·skip
           refine vR Γ0 aX ?_
           refine wZ aX ?_
           intro E
           show Value.tuple #[den E (.agg _), .int .i64 0, .int .i64 10, .int .i64 l] = _
           rw [hz]; rfl
          ·exfalso
           simp at hc
           omega
         | ok q =>
          obtain ⟨hi', l⟩ := q
          obtain ⟨q0, q1, q2, q3⟩ := iI h2 (by omega)
          rw [h2] at k2
          simp only at k2
          refine wR Γ62 (dk aX hb2 h2) ?_ ?_
          ·exact ⟨by omega, by omega, hs⟩
          refine Wp.seq ?_
          refine vR Γ0 aX ?_
          refine wC aX (fun hc => ?_) (fun hc => ?_)
          ·exfalso
           simp at hc
          ·refine wK ?_
           refine Wp.seq ?_
           refine vR Γ0 aX ?_
           refine wC aX (fun hc => ?_) (fun hc => ?_)
           ·have hlt : hi' < lo := by simpa using hc
            rw [if_pos hlt] at k2
            rw [<- k2, pX]
            refine vR Γ0 aX ?_
            refine wZ aX ?_
            intro E
            show Value.tuple #[den E (.agg _), .int .i64 0, .int .i64 10, .int .i64 (j + 1)] = _
            rw [hz]; rfl
           ·have hlt : ¬ hi' < lo := by simpa using hc
            rw [if_neg hlt] at k2
            refine wK ?_
            refine vr Γ0 aX ?_
            refine ⟨(hi', l), ⟨⟨q0, q1⟩, ⟨by simp only; omega, q3⟩, k2⟩, rfl, rfl, ?_⟩
            exact wM (fun x => .key x) aX
        ·have h45 : ¬ (j < s.size /\ bt s j = 45) := fun h => by
          apply Bool.eq_false_iff.1 hc
          simp
          exact h
         rw [if_neg h45] at k2
         refine wK ?_
         refine ⟨(lo, j), ⟨⟨o0, o1⟩, ⟨by simp only; omega, o3⟩, k2⟩, rfl, rfl, ?_⟩
         exact wM (fun x => .key x) aX
       rintro ⟨hi', j'⟩ ⟨⟨q0, q1⟩, ⟨q2, q3⟩, q4⟩ _
       simp only at q0 q1 q2 q3 q4
       dsimp only
       obtain ⟨lo, rfl⟩ := Int.eq_ofNat_of_zero_le o0
       obtain ⟨hi', rfl⟩ := Int.eq_ofNat_of_zero_le q0
       have wl : IntKind.i64.wrap ((lo : Nat) : Int) = ((lo : Nat) : Int) := aa (by omega) (by omega)
       have wh : IntKind.i64.wrap ((hi' : Nat) : Int) = ((hi' : Nat) : Int) := aa (by omega) (by omega)
       refine vR Γ0 (ab aX wl) ?_
       refine Wp.block ?_
       refine Wp.loop (fun m : Nat => ⟨120, bV [(0, .is (.v (.string s))), (4, .is (.own 0 0)), (8, .is (.own 32 0)), (13, .is (.v (.int .i64 j'))), (14, .is (.v (.bool (gr s (i + 1))))), (18, .is (.v (.int .u8 (hi' : Nat)))), (20, .is (.v (.int .i64 ((lo + m : Nat) : Int))))], cd [(0, .cells 241 ((eI fun _ => false).map .v)), (32, .cells 241 ((eI fun k => a.getLsbD k || (decide (lo <= k) && decide (k < lo + m))).map .v))]⟩)
        (fun m => m <= hi' + 1 - lo) (fun m => hi' + 1 - lo - m) 0 ?_ (Nat.zero_le _) ?_
       ·have e : (fun k => a.getLsbD k || (decide (lo <= k) && decide (k < lo + 0))) = a.getLsbD := by
         funext k
         have : (decide (lo <= k) && decide (k < lo + 0)) = false := by
          rw [<- Bool.decide_and, decide_eq_false_iff_not]; omega
         rw [this, Bool.or_false]
        rw [e]
        exact wM (fun x => .key x) aX
       rintro m hm'
       refine Wp.seq ?_
       refine vR Γ0 (ab aX wh) ?_
       refine wC aX (fun hc => ?_) (fun hc => ?_)
       ·have hlt : lo + m <= hi' := by
         simp at hc
         omega
        have wm : IntKind.i64.wrap (((lo + m : Nat) : Int) + 1) = ((lo + (m + 1) : Nat) : Int) := by rw [aa (by omega) (by omega)]; omega
        refine wK ?_
        refine Wp.seq (Wp.block ?_)
        refine Wp.At Γ0 bP (by simp only [dM, Op.operands, Value.cells, σ0, σB, Nat.reduceEqDiff, Nat.reduceAdd, Nat.reduceMul, Nat.reduceLT, Nat.reduceLeDiff, Nat.reduceBEq, ae, Int.reduceToNat, Int.reduceLT, Int.reduceLE, Nat.reduceDiv, Nat.reduceMod, Nat.reduceSub, Int.reducePow, Nat.reducePow, σP, σB3, aX, sI _ (lo + m) _ (show lo + m < 256 by omega)]; exact rfl) rfl ?_ ?_
        ·omega
        refine qq ?_
        refine vr Γ0 (ab aX wm) ?_
        have e : (fun k => if k = lo + m then true else a.getLsbD k || (decide (lo <= k) && decide (k < lo + m))) = fun k => a.getLsbD k || (decide (lo <= k) && decide (k < lo + (m + 1))) := by
         funext k
         by_cases hk : k = lo + m
         ·rw [if_pos hk, decide_eq_true (show lo <= k by omega), decide_eq_true (show k < lo + (m + 1) by omega)]; simp
         ·rw [if_neg hk]
          congr 2
          rw [decide_eq_decide]
          omega
        refine ⟨m + 1, by omega, by omega, ?_⟩
        exact wM (fun x => .key x) (ab aX e)
       ·have hlt : ¬ lo + m <= hi' := by
         simp at hc
         omega
        have e : eI (fun k => a.getLsbD k || (decide (lo <= k) && decide (k < lo + m))) = eI (a ||| j1 (lo : Int) (hi' : Int)).getLsbD := qs fun k hk => by
         rw [SP a _ _ (by omega) (by omega) (by omega) k hk]
         congr 1
         rw [<- Bool.decide_and, <- Bool.decide_and, decide_eq_decide]
         omega
        refine wE ?_
        refine ⟨⟨n, j', a ||| j1 (lo : Int) (hi' : Int)⟩, ⟨⟨by simp only; omega, q3⟩, ⟨by simp only; omega, by simp only; omega⟩, q4⟩, by simp only; omega, ?_⟩
        exact wM (fun x => .key x) (ab aX e)
    ·have hn : i' < s.size /\ bt s i' = 93 := by
      simp at hc
      omega
     rw [if_pos hn] at k2
     have wi : IntKind.i64.wrap (i' + 1) = i' + 1 := aa (by omega) (by omega)
     refine wE ?_
     refine bx ⟨90, bV [(4, .is (.own 0 0)), (8, .is (.own 32 0)), (13, .is (.v (.int .i64 i')))], cd [(0, .cells 241 ((eI fun _ => false).map .v)), (32, .cells 241 ((eI (HJ (gr s (i + 1)) a).getLsbD).map .v))]⟩ ?_ ?_
     ·skip
      refine vR Γ0 aX ?_
      refine wC aX (fun hc => ?_) (fun hc => ?_)
      ·have hcar : gr s (i + 1) = true := hc
       rw [hcar]
       refine vR Γ0 aX ?_
       refine Wp.block ?_
       refine Wp.loop (fun m : Nat => ⟨80, bV [(4, .is (.own 0 0)), (8, .is (.own 32 0)), (13, .is (.v (.int .i64 i'))), (21, .is (.v (.int .i64 (m : Nat))))], cd [(0, .cells 241 ((eI fun _ => false).map .v)), (32, .cells 241 ((eI fun k => if k < m then !a.getLsbD k else a.getLsbD k).map .v))]⟩)
        (fun m => m <= 256) (fun m => 256 - m) 0 ?_ (Nat.zero_le _) ?_
       ·have e : (fun k => if k < 0 then !a.getLsbD k else a.getLsbD k) = a.getLsbD := by
         funext k
         rw [if_neg (by omega)]
        rw [e]
        exact wM (fun x => .key x) aX
       rintro m hm'
       refine Wp.seq ?_
       refine vR Γ0 aX ?_
       refine wC aX (fun hc => ?_) (fun hc => ?_)
       ·have hlt : m < 256 := by
         simp at hc
         omega
        have wm : IntKind.i64.wrap ((m : Int) + 1) = ((m + 1 : Nat) : Int) := by rw [aa (by omega) (by omega)]; omega
        refine wK ?_
        refine Wp.seq (Wp.block ?_)
        refine Wp.At Γ0 bP (by simp only [dM, Op.operands, Value.cells, σ0, σB, Nat.reduceEqDiff, Nat.reduceAdd, Nat.reduceMul, Nat.reduceLT, Nat.reduceLeDiff, Nat.reduceBEq, ae, Int.reduceToNat, Int.reduceLT, Int.reduceLE, Nat.reduceDiv, Nat.reduceMod, Nat.reduceSub, Int.reducePow, Nat.reducePow, σP, σB3, aX, sI _ m _ hlt, jY _ m hlt]; exact rfl) rfl ?_ ?_
        ·omega
        refine qq ?_
        refine vr Γ0 (ab aX wm) ?_
        have e : (fun k => if k = m then !(if m < m then !a.getLsbD m else a.getLsbD m) else if k < m then !a.getLsbD k else a.getLsbD k) = fun k => if k < m + 1 then !a.getLsbD k else a.getLsbD k := by
         funext k
         by_cases hk : k = m
         ·subst hk
          rw [if_pos rfl, if_neg (by omega), if_pos (by omega)]
         ·rw [if_neg hk]
          by_cases h : k < m
          ·rw [if_pos h, if_pos (by omega)]
          ·rw [if_neg h, if_neg (by omega)]
        refine ⟨m + 1, by omega, by omega, ?_⟩
        exact wM (fun x => .key x) (ab aX e)
       ·have hlt : m = 256 := by
         simp at hc
         omega
        subst hlt
        have e : eI (fun k => if k < 256 then !a.getLsbD k else a.getLsbD k) = eI (HJ true a).getLsbD := qs fun k hk => by
         rw [if_pos hk]
         show _ = (~~~a).getLsbD k
         rw [BitVec.getLsbD_not]
         simp [hk]
        refine wE ?_
        exact wM (fun x => .key x) (ab aX e)
      ·have hcar : gr s (i + 1) = false := hc
       rw [hcar]
       refine wK ?_
       exact wM (fun x => .key x) (dk aX @HJ.eq_1 @Bool.false_eq_true)
     rw [<- k2, pX]
     refine vR Γ0 (ab aX wi) ?_
     refine wZ aX ?_
     intro E
     show Value.tuple #[den E (.agg _), .int .i64 (i' + 1), .int .i64 0, .int .i64 0] = _
     rw [fZ]; rfl
def yR : a7 Tryz.prog 122 where
 pre := fun W bs => fun | [.val (.string s), .val (.int .i64 i)] => 0 <= i /\ i < s.size /\ s.size <= 140737488351232 | _ => False
 res := fun W => fun | [.val (.string s), .val (.int .i64 i)] => Vy (df s i) | _ => undef
 enters := Tryz.call122
 ok := by
  intro W w bs us as_ hk hu hp
  split at hp
  ·rename_i s i
   match us, hu with
   | [u0, u1], hu =>
    obtain ⟨rfl, rfl, _⟩ := hu
    exact JC s i hp.1 hp.2.1 hp.2.2 w
  ·exact hp.elim
theorem Fo (W : World) (s : ByteArray) (i : Int) : yR.res W [.val (.string s), .val (.int .i64 i)] = Vy (df s i) := rfl
theorem FE (W : World) (bs : List Nat) (s : ByteArray) (i : Int) : yR.pre W bs [.val (.string s), .val (.int .i64 i)] = (0 <= i /\ i < s.size /\ s.size <= 140737488351232) := rfl
end
section
open Go.RowKit Go.LE
set_option maxRecDepth 10000
def rW (s : ByteArray) (i : Int) : Bool := (decide (i < s.size) && decide (48 <= bt s i)) && decide (bt s i <= 57)
def S7 := (aq jS jP Mv Mq Mr jn cQ (aq cV cX cS da c9 c8 db (aq iv ie ig ir iw eW eV (aq eX eZ e8 e9 rB rC rG (aq pJ Hx He HD ID II HL (aq G9 Hf Iu Hy H2 G6 HC (aq Hh G4 Ia HR Hk IL Ii (aq HA Iy o7 qX qZ oI rQ (aq rM qT rE qU q5 rS @aO (dk @au @aB @aC))))))))))
set_option maxHeartbeats 1000000 in
theorem Jy (s : ByteArray) (i : Int) (h0 : 0 <= i) (w : World) : Calls Tryz.prog 172 #[.string s, .int .i64 i] w fun e w' => e = .returned (.bool (rW s i)) /\ ai w [] w' := by
 refine al (nt := 21) [.tmp 4] Tryz.func172 rfl rfl rfl ?_
 refine vR Γ0 S7 ?_
 refine wR Γ0 S7 ?_ ?_
 ·simp [h0]; omega
 refine wZ S7 ?_
 exact fun E => rfl
def Ag : a7 Tryz.prog 172 where
 pre := fun W bs => fun | [.val (.string s), .val (.int .i64 i)] => 0 <= i | _ => False
 res := fun W => fun | [.val (.string s), .val (.int .i64 i)] => .bool (rW s i) | _ => undef
 enters := Tryz.call172
 ok := by
  intro W w bs us as_ hk hu hp
  split at hp
  ·rename_i s i
   match us, hu with
   | [u0, u1], hu =>
    obtain ⟨rfl, rfl, _⟩ := hu
    exact Jy s i hp w
  ·exact hp.elim
theorem uH (W : World) (s : ByteArray) (i : Int) : Ag.res W [.val (.string s), .val (.int .i64 i)] = .bool (rW s i) := rfl
theorem uM (W : World) (bs : List Nat) (s : ByteArray) (i : Int) : Ag.pre W bs [.val (.string s), .val (.int .i64 i)] = (0 <= i) := rfl
def vl (c : Int) : Bool := decide (bf c)
def Tx := (dk S7 @uH @uM)
set_option maxHeartbeats 1000000 in
theorem C9 (c : Int) (w : World) : Calls Tryz.prog 117 #[.int .u8 c] w fun e w' => e = .returned (.bool (vl c)) /\ ai w [] w' := by
 have e : vl c = (((decide (c = 42) || decide (c = 43)) || decide (c = 63)) || decide (c = 123)) := by
  rw [vl, <- Bool.decide_or, <- Bool.decide_or, <- Bool.decide_or, decide_eq_decide]
  unfold bf
  omega
 rw [e]
 refine al (nt := 17) [.tmp 2] Tryz.func117 rfl rfl rfl ?_
 refine vR Γ0 Tx ?_
 refine vR Γ0 Tx ?_
 refine wZ Tx ?_
 exact fun E => rfl
def oH : a7 Tryz.prog 117 where
 pre := fun W bs => fun | [.val (.int .u8 c)] => True | _ => False
 res := fun W => fun | [.val (.int .u8 c)] => .bool (vl c) | _ => undef
 enters := Tryz.call117
 ok := by
  intro W w bs us as_ hk hu hp
  split at hp
  ·rename_i c
   match us, hu with
   | [u0], hu =>
    obtain ⟨rfl, _⟩ := hu
    exact C9 c w
  ·exact hp.elim
theorem oz (W : World) (c : Int) : oH.res W [.val (.int .u8 c)] = .bool (vl c) := rfl
theorem oX (W : World) (bs : List Nat) (c : Int) : oH.pre W bs [.val (.int .u8 c)] = (True) := rfl
structure Fm where
 place : Int
 alt : Int
 meet : Int
 sgn : Int
 row : Int
 fac : Int
def Fm.bh (f : Fm) : List Value := [.int .i64 f.place, .int .i64 f.alt, .int .i64 f.meet, .int .u8 f.sgn, .int .i64 f.row, .int .i64 f.fac]
def iE (i : Int) : Fm := ⟨i, -1, -1, 0, -1, -1⟩
def S1 := (dk Tx @oz @oX)
set_option maxHeartbeats 1000000 in
theorem MY (i : Int) (w : World) : Calls Tryz.prog 116 #[.int .i64 i] w fun e w' => e = .returned (.agg (iE i).bh.toArray) /\ ai w [] w' := by
 refine al (nt := 5) [.cell 2 234] Tryz.func116 rfl rfl rfl ?_
 refine vR Γ0 S1 ?_
 refine vR Γ0 (ab S1 @aw) ?_
 refine wZ S1 ?_
 exact fun E => rfl
def xq : a7 Tryz.prog 116 where
 pre := fun W bs => fun | [.val (.int .i64 i)] => True | _ => False
 res := fun W => fun | [.val (.int .i64 i)] => .agg (iE i).bh.toArray | _ => undef
 enters := Tryz.call116
 ok := by
  intro W w bs us as_ hk hu hp
  split at hp
  ·rename_i i
   match us, hu with
   | [u0], hu =>
    obtain ⟨rfl, _⟩ := hu
    exact MY i w
  ·exact hp.elim
theorem xn (W : World) (i : Int) : xq.res W [.val (.int .i64 i)] = .agg (iE i).bh.toArray := rfl
theorem yn (W : World) (bs : List Nat) (i : Int) : xq.pre W bs [.val (.int .i64 i)] = (True) := rfl
structure Nd where
 op : Int
 set : CS
 a : Int
 b : Int
 m : Int
 n : Int
def Nd.bh (d : Nd) : List Value := .int .i64 d.op :: (eI d.set.getLsbD ++ [.int .i64 d.a, .int .i64 d.b, .int .i64 d.m, .int .i64 d.n])
def cK (l : List Nd) : List Value := l.flatMap Nd.bh
theorem Nd.gp (d : Nd) : d.bh.length = 261 := by simp [Nd.bh, mY]
theorem Ic (l : List Nd) : (cK l).length = l.length * 261 := by
 induction l with
 | nil => rfl
 | cons d r ih =>
  have : cK (d :: r) = d.bh ++ cK r := rfl
  rw [this, List.length_append, ih, Nd.gp, List.length_cons]; omega
def bO (op a b : Int) : Nd := ⟨op, 0, a, b, 0, 0⟩
theorem py (op a b : Int) : cU Tryz.prog 243 [0, 2, 3] [.v (.int .i64 op), .v (.int .i64 a), .v (.int .i64 b)] = ⟨True, .agg ((bO op a b).bh.map .v), [], none, [], []⟩ := by
 kernel_rfl
theorem Kr {P : Program} {T e : TypeId} {sz : Nat} {zs : List Value} (κ : Nat) (l : List SV) (h1 : P.underlying T = some (.slice e)) (h2 : ts P e = some sz) (h3 : tz P e = some zs) (h4 : zs.length = sz) (h5 : sz <= 16777216) (h6 : 0 < sz) (h7 : l.length = sz) :
  bj P κ T 1 [0] [.agg l] = ⟨True, .hd (8 * κ), [(8 * κ, some (.row e sz 1 l))], none, [], []⟩ := by
 have hp : partsOf (.agg l) = l := rfl
 have hf : cN (fun i => some (i * sz, sz)) ((List.replicate 1 zs).flatten.map .v) ([0].zip [.agg l]) = some l := by
  simp only [List.zip_cons_cons, List.zip_nil_right, cN, hp, Nat.zero_mul, Nat.zero_add]
  rw [if_pos ⟨h7, by simp [h4]⟩]
  simp [ae, h7, <- h4]
 unfold bj
 simp only [h1, h2, h3, hf]
 congr 1
 exact eq_true ⟨by omega, h4, h6⟩
theorem oN (κ : Nat) (d : Nd) : bj Tryz.prog κ 62 1 [0] [.agg (d.bh.map .v)] = ⟨True, .hd (8 * κ), [(8 * κ, some (.row 243 261 1 (d.bh.map .v)))], none, [], []⟩ :=
 Kr κ _ pJ o7 oI (by simp) (by omega) (by omega) (by rw [List.length_map, Nd.gp])
theorem pM (l : List Nd) (d : Nd) : List.map SV.v (cK l) ++ List.map SV.v d.bh = List.map SV.v (cK (l ++ [d])) := by simp [cK]
theorem De (l : List Nd) (d : Nd) : l.length + 1 = (l ++ [d]).length := by simp
theorem Nd.dh (d : Nd) : (List.map SV.v d.bh).all cq = true := by
 show (List.map SV.v (Value.int .i64 d.op :: (eI d.set.getLsbD ++ [.int .i64 d.a, .int .i64 d.b, .int .i64 d.m, .int .i64 d.n]))).all cq = true
 rw [List.map_cons, List.all_cons, List.map_append, List.all_append, jX]
 rfl
def MZ := (aq S1 @xn @yn @kz @cY @jk @kK (nC @jX @aE @fZ @py @oN @pM))
set_option maxHeartbeats 1000000 in
theorem Sd (l : List Nd) (op a b : Int) (xs : List Value) (u : Value) (fp : List Nat) (w : World) (hl : l.length <= 4000000) (ho : lg w u fp 232 [.row 243 261 l.length (cK l)] xs) (hlt : ∀ b ∈ fp, b < w.heap.size) :
  Calls Tryz.prog 173 (#[u] ++ #[.int .i64 op, .int .i64 a, .int .i64 b]) w fun e w' => IJ w u fp 232 xs e w' (.ret (.int .i64 (l.length : Nat)) [.row 243 261 (l ++ [bO op a b]).length (cK (l ++ [bO op a b]))]) := by
 rw [<- De]
 refine Fy (nt := 28) #[.int .i64 op, .int .i64 a, .int .i64 b] [.tmp 8] (by show 1 <= 7; omega) ho hlt Tryz.func173 rfl rfl rfl ?_
 refine vR Γ0 MZ ?_
 refine wR Γ0 MZ ?_ ?_
 ·exact ⟨by omega, by omega, by omega, ⟨by simp [mY], by unfold maxLen; omega, by omega, Nd.dh _⟩, by omega⟩
 have w1 : IntKind.i64.wrap (((l.length + 1 : Nat) : Int) - 1) = ((l.length : Nat) : Int) := by rw [aa (by omega) (by omega)]; omega
 refine wR Γ0 (ab MZ w1) ?_ ?_
 ·exact ⟨by omega, by omega, by omega, _, rfl⟩
 refine wZ MZ ?_
 exact ⟨_, _, rfl, fun E => rfl, [_], _, rfl, by simp only [dM, Op.operands, Value.cells, σ0, σB, Nat.reduceEqDiff, Nat.reduceAdd, Nat.reduceMul, Nat.reduceLT, Nat.reduceLeDiff, Nat.reduceBEq, ae, Int.reduceToNat, Int.reduceLT, Int.reduceLE, Nat.reduceDiv, Nat.reduceMod, Nat.reduceSub, Int.reducePow, Nat.reducePow, σP, σB3, MZ, aE]; rfl, by decide⟩
def Bb : HP Tryz.prog 173 where
 T := 232
 m := 1
 pre := fun W bs fs as_ => match fs, as_ with | [.row 243 261 n vs], [.val (.int .i64 op), .val (.int .i64 a), .val (.int .i64 b)] => ∃ l : List Nd, vs = cK l /\ n = l.length /\ l.length <= 4000000 | _, _ => False
 out := fun W fs as_ => match fs, as_ with | [.row 243 261 n vs], [.val (.int .i64 op), .val (.int .i64 a), .val (.int .i64 b)] => .ret (.int .i64 (n : Nat)) [.row 243 261 (n + 1) (vs ++ (bO op a b).bh)] | _, _ => .pan [] undef
 enters := Tryz.call173
 ok := by
  intro W w bs u fp us fs as_ xs hk ho hlt hmine hu hp
  split at hp
  ·rename_i n vs op a b
   match us, hu with
   | [u0, u1, u2], hu =>
    obtain ⟨rfl, rfl, rfl, _⟩ := hu
    obtain ⟨l, rfl, rfl, hl⟩ := hp; have := Sd l op a b xs u fp w hl ho hlt; rw [<- De] at this; rw [show cK l ++ (bO op a b).bh = cK (l ++ [bO op a b]) by simp [cK]]; exact this
  ·exact hp.elim
theorem AP (W : World) (n : Nat) (vs : List Value) (op : Int) (a : Int) (b : Int) : Bb.out W [.row 243 261 n vs] [.val (.int .i64 op), .val (.int .i64 a), .val (.int .i64 b)] = .ret (.int .i64 (n : Nat)) [.row 243 261 (n + 1) (vs ++ (bO op a b).bh)] := rfl
theorem Bs (W : World) (bs : List Nat) (n : Nat) (vs : List Value) (op : Int) (a : Int) (b : Int) : Bb.pre W bs [.row 243 261 n vs] [.val (.int .i64 op), .val (.int .i64 a), .val (.int .i64 b)] = (∃ l : List Nd, vs = cK l /\ n = l.length /\ l.length <= 4000000) := rfl
theorem Oq : Bb.T = 232 := rfl
theorem MB : Bb.m = 1 := rfl
end
section
def aD (ar : List Nd) (f : Fm) : List Nd × Fm :=
 if f.fac < 0 then (ar, f)
 else if f.row < 0 then (ar, { f with row := f.fac, fac := -1 })
 else (ar ++ [bO 2 f.row f.fac], { f with row := ar.length, fac := -1 })
def ic (ar : List Nd) (f : Fm) : List Nd × Fm :=
 if f.row < 0 then (ar ++ [bO 0 0 0], { f with row := ar.length }) else (ar, f)
def kI (ar : List Nd) (f : Fm) : List Nd × Fm :=
 if f.meet < 0 then (ar, { f with meet := f.row, row := -1 })
 else if f.sgn = 38 then (ar ++ [bO 5 f.meet f.row], { f with meet := ar.length, row := -1 })
 else (ar ++ [bO 6 f.meet f.row], { f with meet := ar.length, row := -1 })
def eA (ar : List Nd) (f : Fm) : List Nd × Fm :=
 kI (ic (aD ar f).1 (aD ar f).2).1 (ic (aD ar f).1 (aD ar f).2).2
def rF (ar : List Nd) (f : Fm) : List Nd × Fm :=
 if f.alt < 0 then (ar, { f with alt := f.meet, meet := -1 })
 else (ar ++ [bO 3 f.alt f.meet], { f with alt := ar.length, meet := -1 })
def aJ (ar : List Nd) (f : Fm) : List Nd × Fm := rF (eA ar f).1 (eA ar f).2
def qo (m n : Int) : Prop := (m = -2 /\ n = -1) \/ (0 <= m /\ m <= 255 /\ n <= 255 /\ (n = -1 \/ (0 <= n /\ m <= n)))
inductive NM (ts : List RT) : Nd -> RT -> Prop where
 | eps (d : Nd) : d.op = 0 -> d.set = 0 -> NM ts d .eps
 | cls (d : Nd) : d.op = 1 -> NM ts d (.cls d.set)
 | cat (d : Nd) (a b : RT) : d.op = 2 -> 0 <= d.a -> ts[d.a.toNat]? = some a -> 0 <= d.b -> ts[d.b.toNat]? = some b -> NM ts d (.cat a b)
 | alt (d : Nd) (a b : RT) : d.op = 3 -> 0 <= d.a -> ts[d.a.toNat]? = some a -> 0 <= d.b -> ts[d.b.toNat]? = some b -> NM ts d (.alt a b)
 | and (d : Nd) (a b : RT) : d.op = 5 -> 0 <= d.a -> ts[d.a.toNat]? = some a -> 0 <= d.b -> ts[d.b.toNat]? = some b -> NM ts d (.and a b)
 | minus (d : Nd) (a b : RT) : d.op = 6 -> 0 <= d.a -> ts[d.a.toNat]? = some a -> 0 <= d.b -> ts[d.b.toNat]? = some b -> NM ts d (.minus a b)
 | rep (d : Nd) (a : RT) : d.op = 7 -> 0 <= d.a -> ts[d.a.toNat]? = some a -> qo d.m d.n -> NM ts d (.rep a d.m d.n)
inductive AR : List Nd -> List RT -> Prop where
 | nil : AR [] []
 | snoc {ar ts d t} : AR ar ts -> NM ts d t -> AR (ar ++ [d]) (ts ++ [t])
theorem AR.len {ar : List Nd} {ts : List RT} (h : AR ar ts) : ts.length = ar.length := by
 induction h with
 | nil => rfl
 | snoc _ _ ih => simp [ih]
def OD (ts : List RT) (x : Int) : Option RT -> Prop
 | none => x < 0
 | some t => 0 <= x /\ ts[x.toNat]? = some t
theorem OD.app {ts : List RT} {x : Int} {o : Option RT} (h : OD ts x o) (l : List RT) : OD (ts ++ l) x o := by
 cases o with
 | none => exact h
 | some t =>
  refine ⟨h.1, ?_⟩
  rw [List.getElem?_append_left (List.getElem?_eq_some_iff.1 h.2).1]
  exact h.2
theorem OD.last {ar : List Nd} {ts : List RT} (h : AR ar ts) (t : RT) : OD (ts ++ [t]) ar.length (some t) := by
 refine ⟨by omega, ?_⟩
 rw [Int.toNat_natCast, <- h.len]
 simp
structure FR (ts : List RT) (f : Fm) (L : Lv) : Prop where
 place : f.place = L.place
 alt : OD ts f.alt L.alt
 meet : OD ts f.meet L.meet
 sgn : f.sgn = L.sgn
 row : OD ts f.row L.row
 fac : OD ts f.fac L.fac
theorem FR.app {ts : List RT} {f : Fm} {L : Lv} (h : FR ts f L) (l : List RT) : FR (ts ++ l) f L :=
 ⟨h.place, h.alt.app l, h.meet.app l, h.sgn, h.row.app l, h.fac.app l⟩
def Mu (ts : List RT) : List Fm -> List Lv -> Prop
 | [], [] => True
 | f :: r, L :: s => FR ts f L /\ Mu ts r s
 | _, _ => False
theorem Mu.app {ts : List RT} : ∀ {r : List Fm} {s : List Lv}, Mu ts r s -> ∀ l, Mu (ts ++ l) r s
 | [], [], _, _ => trivial
 | [], _ :: _, h, _ => h.elim
 | _ :: _, [], h, _ => h.elim
 | f :: r, L :: s, h, l => ⟨h.1.app l, Mu.app h.2 l⟩
theorem Mu.len {ts : List RT} : ∀ {r : List Fm} {s : List Lv}, Mu ts r s -> r.length = s.length
 | [], [], _ => rfl
 | [], _ :: _, h => h.elim
 | _ :: _, [], h => h.elim
 | f :: r, L :: s, h => by rw [List.length_cons, List.length_cons, Mu.len h.2]
theorem nS {ar : List Nd} {ts : List RT} {f : Fm} {L : Lv} (ha : AR ar ts) (h : FR ts f L) : ∃ l, AR (aD ar f).1 (ts ++ l) /\ FR (ts ++ l) (aD ar f).2 (dI L) := by
 unfold aD
 cases hf : L.fac with
 | none =>
  have h1 := h.fac
  rw [hf] at h1
  have h2 : f.fac < 0 := h1
  rw [if_pos h2]
  refine ⟨[], by simpa using ha, ?_⟩
  rw [List.append_nil]
  refine ⟨h.place, h.alt, h.meet, h.sgn, ?_, ?_⟩
  ·show OD ts f.row (rowOf L.row L.fac)
   rw [hf]; exact h.row
  ·exact h2
 | some p =>
  have h1 := h.fac
  rw [hf] at h1
  have hf0 : ¬ f.fac < 0 := by have := h1.1; omega
  rw [if_neg hf0]
  cases hr : L.row with
  | none =>
   have h3 := h.row
   rw [hr] at h3
   have h4 : f.row < 0 := h3
   rw [if_pos h4]
   refine ⟨[], by simpa using ha, ?_⟩
   rw [List.append_nil]
   refine ⟨h.place, h.alt, h.meet, h.sgn, ?_, ?_⟩
   ·show OD ts f.fac (rowOf L.row L.fac)
    rw [hf, hr]; exact h1
   ·show (-1 : Int) < 0
    omega
  | some r =>
   have h3 := h.row
   rw [hr] at h3
   have h4 : ¬ f.row < 0 := by have := h3.1; omega
   rw [if_neg h4]
   refine ⟨[.cat r p], .snoc ha (.cat _ r p rfl h3.1 h3.2 h1.1 h1.2), ?_⟩
   refine ⟨h.place, h.alt.app _, h.meet.app _, h.sgn, ?_, ?_⟩
   ·show OD _ (ar.length : Int) (rowOf L.row L.fac)
    rw [hf, hr]; exact OD.last ha _
   ·show (-1 : Int) < 0
    omega
theorem TW {ar : List Nd} {ts : List RT} {f : Fm} {L : Lv} (ha : AR ar ts) (h : FR ts f L) : ∃ l, AR (ic ar f).1 (ts ++ l) /\ FR (ts ++ l) (ic ar f).2 { L with row := some (L.row.getD .eps) } := by
 unfold ic
 cases hr : L.row with
 | none =>
  have h3 := h.row
  rw [hr] at h3
  have h4 : f.row < 0 := h3
  rw [if_pos h4]
  exact ⟨[.eps], .snoc ha (.eps _ rfl rfl), h.place, h.alt.app _, h.meet.app _, h.sgn, OD.last ha _, h.fac.app _⟩
 | some r =>
  have h3 := h.row
  rw [hr] at h3
  have h4 : ¬ f.row < 0 := by have := h3.1; omega
  rw [if_neg h4]
  refine ⟨[], by simpa using ha, ?_⟩
  rw [List.append_nil]
  exact ⟨h.place, h.alt, h.meet, h.sgn, h3, h.fac⟩
theorem PL {ar : List Nd} {ts : List RT} {f : Fm} {L : Lv} {r : RT} (ha : AR ar ts) (h : FR ts f L) (hr : L.row = some r) : ∃ l, AR (kI ar f).1 (ts ++ l) /\ FR (ts ++ l) (kI ar f).2 { L with meet := some (jB L.meet L.sgn r), row := none } := by
 have h3 := h.row
 rw [hr] at h3
 unfold kI
 cases hm : L.meet with
 | none =>
  have h1 := h.meet
  rw [hm] at h1
  have h2 : f.meet < 0 := h1
  rw [if_pos h2]
  refine ⟨[], by simpa using ha, ?_⟩
  rw [List.append_nil]
  exact ⟨h.place, h.alt, h3, h.sgn, (by show (-1 : Int) < 0; omega), h.fac⟩
 | some m =>
  have h1 := h.meet
  rw [hm] at h1
  have h2 : ¬ f.meet < 0 := by have := h1.1; omega
  rw [if_neg h2]
  by_cases hs : f.sgn = 38
  ·rw [if_pos hs]
   refine ⟨[.and m r], .snoc ha (.and _ m r rfl h1.1 h1.2 h3.1 h3.2), h.place, h.alt.app _, ?_, h.sgn, (by show (-1 : Int) < 0; omega), h.fac.app _⟩
   show OD _ (ar.length : Int) (some (jB (some m) L.sgn r))
   rw [show jB (some m) L.sgn r = .and m r by simp [jB, <- h.sgn, hs]]
   exact OD.last ha _
  ·rw [if_neg hs]
   refine ⟨[.minus m r], .snoc ha (.minus _ m r rfl h1.1 h1.2 h3.1 h3.2), h.place, h.alt.app _, ?_, h.sgn, (by show (-1 : Int) < 0; omega), h.fac.app _⟩
   show OD _ (ar.length : Int) (some (jB (some m) L.sgn r))
   rw [show jB (some m) L.sgn r = .minus m r by simp [jB, <- h.sgn, hs]]
   exact OD.last ha _
theorem Ds {ar : List Nd} {ts : List RT} {f : Fm} {L : Lv} (ha : AR ar ts) (h : FR ts f L) : ∃ l, AR (eA ar f).1 (ts ++ l) /\ FR (ts ++ l) (eA ar f).2 (jZ L) := by
 obtain ⟨l1, a1, f1⟩ := nS ha h
 obtain ⟨l2, a2, f2⟩ := TW a1 f1
 obtain ⟨l3, a3, f3⟩ := PL a2 f2 rfl
 refine ⟨l1 ++ l2 ++ l3, ?_, ?_⟩
 ·rw [<- List.append_assoc, <- List.append_assoc]; exact a3
 ·rw [<- List.append_assoc, <- List.append_assoc]; exact f3
theorem mV {ar : List Nd} {ts : List RT} {f : Fm} {L : Lv} (ha : AR ar ts) (h : FR ts f L) : ∃ l, AR (aJ ar f).1 (ts ++ l) /\ FR (ts ++ l) (aJ ar f).2 (nZ L) := by
 obtain ⟨l1, a1, f1⟩ := Ds ha h
 have hm : (jZ L).meet = some (dD L) := rfl
 have h1 := f1.meet
 rw [hm] at h1
 unfold aJ rF
 cases hal : L.alt with
 | none =>
  have h2 := f1.alt
  rw [show (jZ L).alt = L.alt from rfl, hal] at h2
  have h3 : (eA ar f).2.alt < 0 := h2
  rw [if_pos h3]
  refine ⟨l1, a1, f1.place, ?_, (by show (-1 : Int) < 0; omega), f1.sgn, f1.row, f1.fac⟩
  show OD _ _ (some (gl L))
  rw [show gl L = dD L by unfold gl; rw [hal]; rfl]
  exact h1
 | some a =>
  have h2 := f1.alt
  rw [show (jZ L).alt = L.alt from rfl, hal] at h2
  have h3 : ¬ (eA ar f).2.alt < 0 := by have := h2.1; omega
  rw [if_neg h3]
  refine ⟨l1 ++ [.alt a (dD L)], ?_, ?_⟩
  ·rw [<- List.append_assoc]
   exact .snoc a1 (.alt _ _ _ rfl h2.1 h2.2 h1.1 h1.2)
  ·rw [<- List.append_assoc]
   refine ⟨f1.place, ?_, (by show (-1 : Int) < 0; omega), f1.sgn, f1.row.app _, f1.fac.app _⟩
   show OD _ _ (some (gl L))
   rw [show gl L = .alt a (dD L) by unfold gl; rw [hal]; rfl]
   exact OD.last a1 _
end
section
section
variable (c : Int -> Int) (N : Int) (rd : Int -> Except (Int × Int) (BitVec 256 × Int))
def Mp (i : Int) : Except (Int × Int) (Int × Int × Int) :=
 if c i = 43 then .ok (-2, -1, i + 1) else if c i = 63 then .ok (0, 1, i + 1) else if c i = 123 then lE c N i else .ok (0, -1, i + 1)
def Cg (i : Int) (ar : List Nd) (f : Fm) (rest : List Fm) : Except (Int × Int) (Int × List Nd × Fm × List Fm) :=
 match Mp c N i with
 | .error e => .error e
 | .ok (m, n, j) => .ok (j, ar ++ [⟨7, 0, f.fac, 0, m, n⟩], { f with fac := ar.length }, rest)
def UP (i : Int) (ar : List Nd) (f : Fm) : List Fm -> Except (Int × Int) (Int × List Nd × Fm × List Fm)
 | [] => .error (20, i)
 | g :: r => .ok (i + 1, (aJ ar f).1, { g with fac := (aJ ar f).2.alt }, r)
def I3 (i : Int) (ar : List Nd) (f : Fm) (rest : List Fm) : Except (Int × Int) (Int × List Nd × Fm × List Fm) :=
 match rd i with
 | .error e => .error e
 | .ok (S, j) => .ok (j, (aD ar f).1 ++ [⟨1, S, 0, 0, 0, 0⟩], { (aD ar f).2 with fac := (aD ar f).1.length }, rest)
def lK (i : Int) (ar : List Nd) (f : Fm) (rest : List Fm) : Except (Int × Int) (Int × List Nd × Fm × List Fm) :=
 if bf (c i) then (if f.fac < 0 then .error (20, i) else Cg c N i ar f rest)
 else if c i = 124 then .ok (i + 1, (aJ ar f).1, (aJ ar f).2, rest)
 else if c i = 38 \/ c i = 45 then .ok (i + 1, (eA ar f).1, { (eA ar f).2 with sgn := c i }, rest)
 else if c i = 41 then UP i ar f rest
 else if c i = 40 then
  if 1000 < rest.length + 1 then .error (23, i) else .ok (i + 1, (aD ar f).1, iE i, (aD ar f).2 :: rest)
 else I3 rd i ar f rest
def nU : Nat -> Int -> List Nd -> Fm -> List Fm -> Except (Int × Int) (List Nd × Fm × List Fm)
 | 0, _, ar, f, rest => .ok (ar, f, rest)
 | n + 1, i, ar, f, rest =>
  if i < N then match lK c N rd i ar f rest with
   | .error e => .error e
   | .ok (j, ar', g, r) => nU n j ar' g r
  else .ok (ar, f, rest)
end
def lU (z : List Int) (d : Nd) : Int :=
 if d.op = 0 \/ d.op = 1 then 1
 else if d.op = 7 then cO (z.getD d.a.toNat 0) d.m d.n
 else 1 + z.getD d.a.toNat 0 + z.getD d.b.toNat 0
def GS (z : List Int) (d : Nd) : Int := if 2001 < lU z d then 2001 else lU z d
def lG (ar : List Nd) : List Int := ar.foldl (fun z d => z ++ [GS z d]) []
def Am : Except (Int × Int) (List Nd × Fm × List Fm) -> Except (Int × Int) (List Nd × Int)
 | .error e => .error e
 | .ok (ar, f, rest) => if rest ≠ [] then .error (21, f.place)
  else if 2000 < (lG (aJ ar f).1).getD (aJ ar f).2.alt.toNat 0 then .error (24, 0) else .ok ((aJ ar f).1, (aJ ar f).2.alt)
def ij (c : Int -> Int) (N : Int) (rd : Int -> Except (Int × Int) (BitVec 256 × Int)) : Except (Int × Int) (List Nd × Int) :=
 if 1048576 < N then .error (1, 0) else Am (nU c N rd (N.toNat + 1) 0 [] (iE (-1)) [])
theorem Jk {c : Int -> Int} {N i m n j : Int} (h : lE c N i = .ok (m, n, j)) : m <= 255 /\ n <= 255 := by
 unfold lE at h
 cases h1 : fO c N (i + 1) with
 | error e => rw [h1] at h; cases h
 | ok p =>
  obtain ⟨m', j'⟩ := p
  rw [h1] at h
  simp only at h
  cases h2 : tB c N m' j' with
  | error e => rw [h2] at h; cases h
  | ok p =>
   obtain ⟨n', j2⟩ := p
   rw [h2] at h
   simp only at h
   unfold kD at h
   split at h
   ·cases h
   ·split at h
    ·cases h
    ·rename_i hn
     simp only [Except.ok.injEq, Prod.mk.injEq] at h
     obtain ⟨rfl, rfl, _⟩ := h
     omega
theorem Vv {c : Int -> Int} {N i m n j : Int} (h : Mp c N i = .ok (m, n, j)) : qo m n := by
 unfold Mp at h
 unfold qo
 split at h
 ·simp only [Except.ok.injEq, Prod.mk.injEq] at h; omega
 ·split at h
  ·simp only [Except.ok.injEq, Prod.mk.injEq] at h; omega
  ·split at h
   ·have h1 := Pd h
    have h2 := Jk h
    omega
   ·simp only [Except.ok.injEq, Prod.mk.injEq] at h; omega
section
variable {c : Int -> Int} {N : Int} {rd : Int -> Except (Int × Int) (BitVec 256 × Int)}
def WX (ts : List RT) : Except (Int × Int) (Int × Lv × List Lv) -> Except (Int × Int) (Int × List Nd × Fm × List Fm) -> Prop
 | .error e, .error e' => e = e'
 | .ok (j, L, Ls), .ok (j', ar, f, r) => j = j' /\ ∃ l, AR ar (ts ++ l) /\ FR (ts ++ l) f L /\ Mu (ts ++ l) r Ls
 | _, _ => False
theorem Se {i : Int} {L : Lv} {p : RT} (hp : bf (c i)) : lY c N i L p = match Mp c N i with
  | .error e => .error e
  | .ok (m, n, j) => .ok (j, { L with fac := some (.rep p m n) }) := by
 unfold lY Mp
 unfold bf at hp
 by_cases h42 : c i = 42
 ·rw [if_pos h42, if_neg (by omega), if_neg (by omega), if_neg (by omega)]
 ·rw [if_neg h42]
  by_cases h43 : c i = 43
  ·rw [if_pos h43, if_pos h43]
  ·rw [if_neg h43, if_neg h43]
   by_cases h63 : c i = 63
   ·rw [if_pos h63, if_pos h63]
   ·rw [if_neg h63, if_neg h63, if_pos (by omega)]
    cases lE c N i <;> rfl
theorem P1 {i : Int} {ar : List Nd} {ts : List RT} {f : Fm} {L : Lv} {rest : List Fm} {Ls : List Lv} (ha : AR ar ts) (hf : FR ts f L) (hr : Mu ts rest Ls) : WX ts (dE c N rd i L Ls) (lK c N rd i ar f rest) := by
 unfold dE lK
 by_cases hp : bf (c i)
 ·rw [if_pos hp, if_pos hp]
  cases hL : L.fac with
  | none =>
   have h1 := hf.fac
   rw [hL] at h1
   have h2 : f.fac < 0 := h1
   rw [if_pos h2]
   rfl
  | some p =>
   have h1 := hf.fac
   rw [hL] at h1
   have h2 : ¬ f.fac < 0 := by have := h1.1; omega
   rw [if_neg h2]
   simp only [Se hp, Cg]
   cases hm : Mp c N i with
   | error e => rfl
   | ok q =>
    obtain ⟨m, n, j⟩ := q
    refine ⟨rfl, [.rep p m n], .snoc ha (.rep ⟨7, 0, f.fac, 0, m, n⟩ p rfl h1.1 h1.2 (Vv hm)), ⟨hf.place, hf.alt.app _, hf.meet.app _, hf.sgn, hf.row.app _, OD.last ha _⟩, hr.app _⟩
 ·rw [if_neg hp, if_neg hp]
  by_cases h124 : c i = 124
  ·rw [if_pos h124, if_pos h124]
   obtain ⟨l, a1, f1⟩ := mV ha hf
   exact ⟨rfl, l, a1, f1, hr.app l⟩
  ·rw [if_neg h124, if_neg h124]
   by_cases h2 : c i = 38 \/ c i = 45
   ·rw [if_pos h2, if_pos h2]
    obtain ⟨l, a1, f1⟩ := Ds ha hf
    exact ⟨rfl, l, a1, ⟨f1.place, f1.alt, f1.meet, rfl, f1.row, f1.fac⟩, hr.app l⟩
   ·rw [if_neg h2, if_neg h2]
    by_cases h41 : c i = 41
    ·rw [if_pos h41, if_pos h41]
     match rest, Ls, hr with
     | [], [], _ => rfl
     | g :: r, M :: Ms, hr =>
      obtain ⟨l, a1, f1⟩ := mV ha hf
      have g1 := hr.1.app l
      exact ⟨rfl, l, a1, ⟨g1.place, g1.alt, g1.meet, g1.sgn, g1.row, f1.alt⟩, hr.2.app l⟩
    ·rw [if_neg h41, if_neg h41]
     by_cases h40 : c i = 40
     ·rw [if_pos h40, if_pos h40, hr.len]
      by_cases hd : 1000 < Ls.length + 1
      ·rw [if_pos hd, if_pos hd]; rfl
      ·rw [if_neg hd, if_neg hd]
       obtain ⟨l, a1, f1⟩ := nS ha hf
       have hm : ∀ o : Int, o = -1 -> OD (ts ++ l) o none := fun o h => by show o < 0; omega
       exact ⟨rfl, l, a1, ⟨rfl, hm _ rfl, hm _ rfl, rfl, hm _ rfl, hm _ rfl⟩, f1, hr.app l⟩
     ·rw [if_neg h40, if_neg h40]
      unfold I3
      cases hS : rd i with
      | error e => rfl
      | ok q =>
       obtain ⟨S, j⟩ := q
       obtain ⟨l, a1, f1⟩ := nS ha hf
       refine ⟨rfl, l ++ [.cls S], ?_, ?_, ?_⟩
       ·rw [<- List.append_assoc]
        exact .snoc a1 (.cls ⟨1, S, 0, 0, 0, 0⟩ rfl)
       ·rw [<- List.append_assoc]
        exact ⟨f1.place, f1.alt.app _, f1.meet.app _, f1.sgn, f1.row.app _, OD.last a1 _⟩
       ·exact hr.app _
def XA : Except (Int × Int) (Lv × List Lv) -> Except (Int × Int) (List Nd × Fm × List Fm) -> Prop
 | .error e, .error e' => e = e'
 | .ok (L, Ls), .ok (ar, f, r) => ∃ ts, AR ar ts /\ FR ts f L /\ Mu ts r Ls
 | _, _ => False
theorem y7 : ∀ (n : Nat) (i : Int) (ar : List Nd) (ts : List RT) (f : Fm) (L : Lv) (rest : List Fm) (Ls : List Lv), AR ar ts -> FR ts f L -> Mu ts rest Ls -> XA (runN c N rd n i L Ls) (nU c N rd n i ar f rest)
 | 0, i, ar, ts, f, L, rest, Ls, ha, hf, hr => ⟨ts, ha, hf, hr⟩
 | n + 1, i, ar, ts, f, L, rest, Ls, ha, hf, hr => by
  rw [runN, nU]
  by_cases hi : i < N
  ·rw [if_pos hi, if_pos hi]
   have h1 := P1 (c := c) (N := N) (rd := rd) (i := i) ha hf hr
   revert h1
   cases dE c N rd i L Ls with
   | error e =>
    cases lK c N rd i ar f rest with
    | error e' => exact fun h => h
    | ok q => exact fun h => h.elim
   | ok p =>
    obtain ⟨j, L', Ls'⟩ := p
    cases lK c N rd i ar f rest with
    | error e' => exact fun h => h.elim
    | ok q =>
     obtain ⟨j', ar', f', r'⟩ := q
     rintro ⟨rfl, l, a1, f1, r1⟩
     exact y7 n j ar' _ f' L' r' Ls' a1 f1 r1
  ·rw [if_neg hi, if_neg hi]
   exact ⟨ts, ha, hf, hr⟩
end
theorem xl {a m n : Int} (ha : 0 <= a) (h : qo m n) : 0 <= cO a m n := by
 unfold qo at h
 unfold cO
 split
 ·omega
 ·split
  ·omega
  ·split
   ·have : 0 <= m * a := Int.mul_nonneg (by omega) ha
    omega
   ·split
    ·omega
    ·split
     ·have : 0 <= n * (a + 2) := Int.mul_nonneg (by omega) (by omega)
      omega
     ·have h1 : 0 <= m * a := Int.mul_nonneg (by omega) ha
      have h2 : 0 <= (n - m) * (a + 2 + 1) := Int.mul_nonneg (by omega) (by omega)
      omega
theorem Vd {ts : List RT} {d : Nd} {t : RT} (h : NM ts d t) : GS (ts.map fun t => (t.sz : Int)) d = (t.sz : Int) := by
 have at' : ∀ (x : Int) (a : RT), ts[x.toNat]? = some a -> (ts.map fun t => (t.sz : Int)).getD x.toNat 0 = (a.sz : Int) := fun x a hx => by
  rw [List.getD_eq_getElem?_getD, List.getElem?_map, hx]; rfl
 have cap : ∀ v : Nat, (if (2001 : Int) < (v : Int) then (2001 : Int) else (v : Int)) = ((b7 v : Nat) : Int) := fun v => by unfold b7; split <;> omega
 cases h with
 | eps h0 _ =>
  have hv : lU (ts.map fun t => (t.sz : Int)) d = ((1 : Nat) : Int) := by rw [lU, if_pos (.inl h0)]; rfl
  rw [GS, hv, cap]; rfl
 | cls h0 =>
  have hv : lU (ts.map fun t => (t.sz : Int)) d = ((1 : Nat) : Int) := by rw [lU, if_pos (.inr h0)]; rfl
  rw [GS, hv, cap]; rfl
 | cat a b h0 h1 h2 h3 h4 =>
  have hv : lU (ts.map fun t => (t.sz : Int)) d = ((1 + a.sz + b.sz : Nat) : Int) := by rw [lU, if_neg (by omega), if_neg (by omega), at' _ _ h2, at' _ _ h4]; omega
  rw [GS, hv, cap]; rfl
 | alt a b h0 h1 h2 h3 h4 =>
  have hv : lU (ts.map fun t => (t.sz : Int)) d = ((1 + a.sz + b.sz : Nat) : Int) := by rw [lU, if_neg (by omega), if_neg (by omega), at' _ _ h2, at' _ _ h4]; omega
  rw [GS, hv, cap]; rfl
 | and a b h0 h1 h2 h3 h4 =>
  have hv : lU (ts.map fun t => (t.sz : Int)) d = ((1 + a.sz + b.sz : Nat) : Int) := by rw [lU, if_neg (by omega), if_neg (by omega), at' _ _ h2, at' _ _ h4]; omega
  rw [GS, hv, cap]; rfl
 | minus a b h0 h1 h2 h3 h4 =>
  have hv : lU (ts.map fun t => (t.sz : Int)) d = ((1 + a.sz + b.sz : Nat) : Int) := by rw [lU, if_neg (by omega), if_neg (by omega), at' _ _ h2, at' _ _ h4]; omega
  rw [GS, hv, cap]; rfl
 | rep a h0 h1 h2 h3 =>
  have hn := xl (a := (a.sz : Int)) (by omega) h3
  obtain ⟨v, hv⟩ := Int.eq_ofNat_of_zero_le hn
  have hz : lU (ts.map fun t => (t.sz : Int)) d = ((v : Nat) : Int) := by rw [lU, if_neg (by omega), if_pos h0, at' _ _ h2, hv]
  rw [GS, hz, cap]
  show _ = ((b7 (cO a.sz d.m d.n).toNat : Nat) : Int)
  rw [hv]; rfl
theorem Ob {ar : List Nd} {ts : List RT} (h : AR ar ts) : lG ar = ts.map fun t => (t.sz : Int) := by
 induction h with
 | nil => rfl
 | snoc ha hn ih =>
  unfold lG at ih ⊢
  rw [List.foldl_append, ih]
  simp [Vd hn]
theorem kn {c : Int -> Int} {N : Int} {rd : Int -> Except (Int × Int) (BitVec 256 × Int)} (hN : 0 <= N) : match fY c N rd, ij c N rd with
  | .error e, .error e' => e = e'
  | .ok t, .ok (ar, x) => ∃ ts, AR ar ts /\ 0 <= x /\ ts[x.toNat]? = some t
  | _, _ => False := by
 unfold fY ij
 by_cases hb : 1048576 < N
 ·rw [if_pos hb, if_pos hb]
 ·rw [if_neg hb, if_neg hb]
  have hm : ∀ o : Int, o = -1 -> OD [] o none := fun o h => by show o < 0; omega
  have h1 := y7 (c := c) (N := N) (rd := rd) (N.toNat + 1) 0 [] [] (iE (-1)) (eT (-1)) [] [] .nil ⟨rfl, hm _ rfl, hm _ rfl, rfl, hm _ rfl, hm _ rfl⟩ trivial
  have e : run c N rd 0 (eT (-1)) [] = runN c N rd (N.toNat + 1) 0 (eT (-1)) [] := by
   unfold run
   rw [Int.sub_zero]
  rw [e]
  revert h1
  cases runN c N rd (N.toNat + 1) 0 (eT (-1)) [] with
  | error e =>
   cases nU c N rd (N.toNat + 1) 0 [] (iE (-1)) [] with
   | error e' => exact fun h => h
   | ok q => exact fun h => h.elim
  | ok p =>
   obtain ⟨L, Ls⟩ := p
   cases nU c N rd (N.toNat + 1) 0 [] (iE (-1)) [] with
   | error e' => exact fun h => h.elim
   | ok q =>
    obtain ⟨ar, f, r⟩ := q
    rintro ⟨ts, ha, hf, hr⟩
    simp only [mm, Am]
    match r, Ls, hr with
    | g :: r, M :: Ms, hr =>
     rw [if_pos (by simp), if_pos (by simp)]
     rw [hf.place]
    | [], [], _ =>
     rw [if_neg (show ¬ ([] : List Lv) ≠ [] by simp), if_neg (show ¬ ([] : List Fm) ≠ [] by simp)]
     obtain ⟨l, a1, f1⟩ := mV ha hf
     have h2 := f1.alt
     rw [show (nZ L).alt = some (gl L) from rfl] at h2
     have h3 : (lG (aJ ar f).1).getD (aJ ar f).2.alt.toNat 0 = ((gl L).sz : Int) := by
      rw [Ob a1, List.getD_eq_getElem?_getD, List.getElem?_map, h2.2]; rfl
     rw [h3]
     by_cases hz : 2000 < (gl L).sz
     ·rw [if_pos hz, if_pos (by omega)]
     ·rw [if_neg hz, if_neg (by omega)]
      exact ⟨_, a1, h2.1, h2.2⟩
end
section
open Go.RowKit Go.LE
set_option maxRecDepth 10000
def oV (l : List Fm) : List Value := l.flatMap Fm.bh
theorem RB (l : List Fm) : (oV l).length = l.length * 6 := by
 induction l with
 | nil => rfl
 | cons d r ih =>
  have : oV (d :: r) = d.bh ++ oV r := rfl
  rw [this, List.length_append, ih, List.length_cons]
  show 6 + _ = _
  omega
def yQ (ar : List Nd) (pre : List Fm) (f : Fm) : List AV := [.row 243 261 ar.length (cK ar), .row 234 6 (pre.length + 1) (oV pre ++ f.bh)]
theorem oW (ar : List Nd) (d : Nd) (pre : List Fm) (f : Fm) : yQ (ar ++ [d]) pre f = [.row 243 261 (ar.length + 1) (cK ar ++ d.bh), .row 234 6 (pre.length + 1) (oV pre ++ f.bh)] := by
 simp [yQ, cK]
theorem dy (pre : List Fm) (f : Fm) : List.map SV.v (oV pre ++ f.bh) = List.map SV.v (oV pre) ++ [.v (.int .i64 f.place), .v (.int .i64 f.alt), .v (.int .i64 f.meet), .v (.int .u8 f.sgn), .v (.int .i64 f.row), .v (.int .i64 f.fac)] := by
 rw [List.map_append]; rfl
section
variable (pre : List Fm) (B : List SV) (d : SV) (j : Nat)
theorem sy : (List.map SV.v (oV pre)).length = pre.length * 6 := by rw [List.length_map, RB]
theorem E6 : (List.map SV.v (oV pre) ++ B).length = pre.length * 6 + B.length := by rw [List.length_append, sy]
theorem yw : (List.map SV.v (oV pre) ++ B).getD (pre.length * 6 + j) d = B.getD j d := by
 rw [List.getD_eq_getElem?_getD, List.getD_eq_getElem?_getD, <- sy, List.getElem?_append_right (by omega), Nat.add_sub_cancel_left]
theorem Af : (List.map SV.v (oV pre) ++ B).getD (pre.length * 6) d = B.getD 0 d := yw pre B d 0
theorem sw : List.take (pre.length * 6 + j) (List.map SV.v (oV pre) ++ B) = List.map SV.v (oV pre) ++ List.take j B := by
 rw [<- sy, List.take_length_add_append]
theorem tL : List.take (pre.length * 6) (List.map SV.v (oV pre) ++ B) = List.map SV.v (oV pre) := by
 have := sw pre B 0
 simpa using this
theorem o8 : List.drop (pre.length * 6 + j) (List.map SV.v (oV pre) ++ B) = List.drop j B := by
 rw [<- sy, List.drop_length_add_append]
theorem tF : List.drop (pre.length * 6 + j + 1) (List.map SV.v (oV pre) ++ B) = List.drop (j + 1) B := o8 pre B (j + 1)
theorem p4 : List.drop (pre.length * 6 + 1) (List.map SV.v (oV pre) ++ B) = List.drop 1 B := o8 pre B 1
end
theorem dz (A : List Value) (B : List SV) : cE (List.map SV.v A ++ B) = (cE B).map (A ++ ·) := by
 induction A with
 | nil => simp
 | cons x r ih => simp [cE, ih, Option.map_map, Function.comp_def]
theorem sH (pre : List Fm) (h : pre.length <= 2000) : IntKind.i64.wrap (((pre.length + 1 : Nat) : Int) - 1) = ((pre.length : Nat) : Int) := by
 rw [aa (by omega) (by omega)]; omega
noncomputable def Γ63 : Env Tryz.prog := ⟨fun | 173 => some Bb.spec | _ => none, fun | _ => none, fun _ _ => none⟩
theorem Gt63c173 : Γ63.sp 173 = some Bb.spec := rfl
def nX := (aq jS jP jn cQ cV cX cS (aq da c9 c8 db Hx He HD (aq ID II Mz MM Px P9 HL (aq G9 Hf Iu Hy H2 G6 HC (aq Hh G4 Ia HR Hk IL Ii (aq HA Iy Qp QW QE M4 Pe (aq @aO @au @aB @aC @dy @E6 @yw (aq @Af @sw @tL @o8 @tF @p4 @List.append_assoc.{0} (nC @dz @AP @Bs @Oq @MB @Gt63c173)))))))))
set_option maxHeartbeats 1000000 in
theorem lu (ar : List Nd) (pre : List Fm) (f : Fm) (u : Value) (fp : List Nat) (w : World) (hl : ar.length <= 4000000) (hp : pre.length <= 2000) (ho : bz w u fp 232 (yQ ar pre f)) (hlt : ∀ b ∈ fp, b < w.heap.size) :
  Calls Tryz.prog 121 (#[u] ++ #[]) w fun e w' => fu w u fp 232 e w' (.ret (.tuple #[]) (yQ (aD ar f).1 pre (aD ar f).2)) := by
 have wp := sH pre hp
 refine bL (nt := 47) #[] [] (by show 2 <= 7; omega) ho hlt Tryz.func121 rfl rfl rfl ?_
 refine kY Γ0 (dk nX @yQ.eq_1 wp) ?_ ?_
 ·exact ⟨⟨_, rfl⟩, by omega, by omega⟩
 refine Wp.seq ?_
 refine wR Γ0 nX ?_ ?_
 ·omega
 refine wC nX (fun hc => ?_) (fun hc => ?_)
 ·have hf : f.fac < 0 := by simpa using hc
  have he : aD ar f = (ar, f) := by rw [aD, if_pos hf]
  rw [he]
  refine wZ nX ?_
  exact ⟨_, _, rfl, fun E => rfl, _, _, rfl, by simp only [dM, Op.operands, Value.cells, σ0, σB, Nat.reduceEqDiff, Nat.reduceAdd, Nat.reduceMul, Nat.reduceLT, Nat.reduceLeDiff, Nat.reduceBEq, ae, Int.reduceToNat, Int.reduceLT, Int.reduceLE, Nat.reduceDiv, Nat.reduceMod, Nat.reduceSub, Int.reducePow, Nat.reducePow, σP, σB3, nX, aE, dz]; rfl, by decide⟩
 ·have hf : ¬ f.fac < 0 := by simpa using hc
  refine wK ?_
  refine Wp.seq ?_
  refine vR Γ0 nX ?_
  refine wC nX (fun hc => ?_) (fun hc => ?_)
  ·have hr : f.row < 0 := by simpa using hc
   have he : aD ar f = (ar, { f with row := f.fac, fac := -1 }) := by rw [aD, if_neg hf, if_pos hr]
   rw [he]
   refine wr Γ0 nX ?_ ?_
   ·omega
   refine wr Γ0 nX ?_ ?_
   ·omega
   refine wS nX ?_
   exact ⟨_, _, rfl, fun E => rfl, _, _, rfl, by simp only [dM, Op.operands, Value.cells, σ0, σB, Nat.reduceEqDiff, Nat.reduceAdd, Nat.reduceMul, Nat.reduceLT, Nat.reduceLeDiff, Nat.reduceBEq, ae, Int.reduceToNat, Int.reduceLT, Int.reduceLE, Nat.reduceDiv, Nat.reduceMod, Nat.reduceSub, Int.reducePow, Nat.reducePow, σP, σB3, nX, aE, dz]; rfl, by decide⟩
  ·have hr : ¬ f.row < 0 := by simpa using hc
   have he : aD ar f = (ar ++ [bO 2 f.row f.fac], { f with row := ar.length, fac := -1 }) := by rw [aD, if_neg hf, if_neg hr]
   rw [he, oW]
   refine rX Γ63 nX ?_ ?_
   ·refine ⟨by omega, by omega, by omega, by omega, by omega, by omega, ⟨⟨ar, rfl, rfl, hl⟩, by decide, by simp⟩, by omega, by omega, by omega⟩
   refine wr Γ0 nX ?_ ?_
   ·omega
   refine wS nX ?_
   exact ⟨_, _, rfl, fun E => rfl, _, _, rfl, by simp only [dM, Op.operands, Value.cells, σ0, σB, Nat.reduceEqDiff, Nat.reduceAdd, Nat.reduceMul, Nat.reduceLT, Nat.reduceLeDiff, Nat.reduceBEq, ae, Int.reduceToNat, Int.reduceLT, Int.reduceLE, Nat.reduceDiv, Nat.reduceMod, Nat.reduceSub, Int.reducePow, Nat.reducePow, σP, σB3, nX, aE, dz]; rfl, by decide⟩
def VZ (f : FuncId) (g : List Nd -> Fm -> List Nd × Fm) (hen : ∀ args w, (callFunc f args).run Tryz.prog w = .ok (.enter f args) w)
  (h : ∀ (ar : List Nd) (pre : List Fm) (fm : Fm) (u : Value) (fp : List Nat) (w : World), ar.length <= 4000000 -> pre.length <= 2000 -> bz w u fp 232 (yQ ar pre fm) -> (∀ b ∈ fp, b < w.heap.size) ->
   Calls Tryz.prog f (#[u] ++ #[]) w fun e w' => fu w u fp 232 e w' (.ret (.tuple #[]) (yQ (g ar fm).1 pre (g ar fm).2))) (ar : List Nd) (pre : List Fm) (fm : Fm) : dv Tryz.prog f where
 T := 232
 pre := fun _ _ fs as_ => (fs = yQ ar pre fm /\ as_ = []) /\ ar.length <= 4000000 /\ pre.length <= 2000
 out := fun _ _ _ => .ret (.tuple #[]) (yQ (g ar fm).1 pre (g ar fm).2)
 enters := hen
 ok := by
  intro W w bs u fp us fs as_ hk ho hlt hmine hu hp
  obtain ⟨⟨rfl, rfl⟩, h1, h2⟩ := hp
  match us, hu with
  | [], _ => exact h ar pre fm u fp w h1 h2 ho hlt
end
section
open Go.RowKit Go.LE
set_option maxRecDepth 10000
noncomputable def Γ64 (ar : List Nd) (pre : List Fm) (f : Fm) : Env Tryz.prog := ⟨fun | 121 => some (VZ 121 aD Tryz.call121 lu ar pre f).spec | 173 => some Bb.spec | _ => none, fun _ => none, fun _ _ => none⟩
theorem Gt64c121 (ar : List Nd) (pre : List Fm) (f : Fm) : (Γ64 ar pre f).sp 121 = some (VZ 121 aD Tryz.call121 lu ar pre f).spec := rfl
theorem mz (ar : List Nd) (f : Fm) : (aD ar f).1.length <= ar.length + 1 := by
 unfold aD
 split
 ·simp
 ·split
  ·simp
  ·simp
theorem pz (ar : List Nd) (f : Fm) : (ic ar f).1.length <= ar.length + 1 := by
 unfold ic
 split <;> simp
theorem xw (ar : List Nd) (f : Fm) : (kI ar f).1.length <= ar.length + 1 := by
 unfold kI
 split
 ·simp
 ·split <;> simp
theorem Lh (ar : List Nd) (f : Fm) : (eA ar f).1.length <= ar.length + 3 := by
 have h1 := mz ar f
 have h2 := pz (aD ar f).1 (aD ar f).2
 have h3 := xw (ic (aD ar f).1 (aD ar f).2).1 (ic (aD ar f).1 (aD ar f).2).2
 unfold eA
 omega
theorem qx (l : List Nd) (d : Nd) : (l ++ [d]).length = l.length + 1 := by simp
theorem KL (l : List Nd) (d : Nd) : cK (l ++ [d]) = cK l ++ d.bh := by simp [cK]
def gX := (aq jS jP jn cQ cV cX cS (aq da c9 c8 db iv ie ig (aq ir iw Hx He HD ID II (aq Mz MM Px P9 HL G9 Hf (aq Iu Hy H2 G6 HC Hh G4 (aq Ia HR Hk IL Ii HA Iy (aq Qp QW QE M4 Pe @aO @au (aq @aB @aC @dy @E6 @yw @Af @sw (aq @tL @o8 @tF @p4 @List.append_assoc.{0} @dz @AP (Ci @Bs @Oq @MB @Gt63c173 @VZ.eq_1 @yQ.eq_1 @Gt64c121))))))))))
set_option maxHeartbeats 2000000 in
theorem OO (ar : List Nd) (pre : List Fm) (f : Fm) (u : Value) (fp : List Nat) (w : World) (hl : ar.length <= 3999990) (hp : pre.length <= 2000) (ho : bz w u fp 232 (yQ ar pre f)) (hlt : ∀ b ∈ fp, b < w.heap.size) :
  Calls Tryz.prog 120 (#[u] ++ #[]) w fun e w' => fu w u fp 232 e w' (.ret (.tuple #[]) (yQ (eA ar f).1 pre (eA ar f).2)) := by
 have wp := sH pre hp
 have l1 := mz ar f
 have l2 := pz (aD ar f).1 (aD ar f).2
 refine bL (nt := 72) #[] [] (by show 2 <= 7; omega) ho hlt Tryz.func120 rfl rfl rfl ?_
 refine wR (Γ64 ar pre f) gX ?_ ?_
 ·exact ⟨⟨rfl, by omega, hp⟩, by decide, by simp⟩
 have hfo : eA ar f = kI (ic (aD ar f).1 (aD ar f).2).1 (ic (aD ar f).1 (aD ar f).2).2 := rfl
 rw [hfo]
 generalize (aD ar f).2 = f1 at *
 generalize (aD ar f).1 = ar1 at *
 refine kY Γ0 (ab gX wp) ?_ ?_
 ·exact ⟨⟨_, rfl⟩, by omega, by omega⟩
 refine bx ⟨40, bV [(0, .is (.own 0 0)), (2, .is (.own 17 (pre.length * 6)))], cd [(0, .cells 232 [.hd 3, .hd 17]), (3, .row 243 261 (ic ar1 f1).1.length ((cK (ic ar1 f1).1).map .v)), (17, .row 234 6 (pre.length + 1) ((oV pre ++ (ic ar1 f1).2.bh).map .v))]⟩ ?_ ?_
 ·skip
  refine wR Γ0 gX ?_ ?_
  ·omega
  refine wC gX (fun hc => ?_) (fun hc => ?_)
  ·have hr : f1.row < 0 := by simpa using hc
   have he : ic ar1 f1 = (ar1 ++ [bO 0 0 0], { f1 with row := ar1.length }) := by rw [ic, if_pos hr]
   rw [he]
   refine wr Γ63 gX ?_ ?_
   ·exact ⟨⟨⟨ar1, rfl, rfl, by omega⟩, by decide, by simp⟩, by omega, by omega, by omega⟩
   exact wM (fun x => if x = 3 then .key 176 else .key x) (nC gX @Fm.bh.eq_1 @qx @KL @List.map_append.{0,0} @a8)
  ·have hr : ¬ f1.row < 0 := by simpa using hc
   have he : ic ar1 f1 = (ar1, f1) := by rw [ic, if_neg hr]
   rw [he]
   refine wK ?_
   exact wM (fun x => if x = 3 then .key 16 else .key x) (ab gX @a8)
 generalize (ic ar1 f1).2 = f2 at *
 generalize (ic ar1 f1).1 = ar2 at *
 refine Wp.seq ?_
 refine wR Γ0 gX ?_ ?_
 ·omega
 refine wC gX (fun hc => ?_) (fun hc => ?_)
 ·have hm : f2.meet < 0 := by simpa using hc
  have he : kI ar2 f2 = (ar2, { f2 with meet := f2.row, row := -1 }) := by rw [kI, if_pos hm]
  rw [he]
  refine wr Γ0 gX ?_ ?_
  ·omega
  refine wr Γ0 gX ?_ ?_
  ·omega
  refine wS gX ?_
  exact ⟨_, _, rfl, fun E => rfl, _, _, rfl, by simp only [dM, Op.operands, Value.cells, σ0, σB, Nat.reduceEqDiff, Nat.reduceAdd, Nat.reduceMul, Nat.reduceLT, Nat.reduceLeDiff, Nat.reduceBEq, ae, Int.reduceToNat, Int.reduceLT, Int.reduceLE, Nat.reduceDiv, Nat.reduceMod, Nat.reduceSub, Int.reducePow, Nat.reducePow, σP, σB3, gX, aE, dz]; rfl, by decide⟩
 ·have hm : ¬ f2.meet < 0 := by simpa using hc
  refine wR Γ0 gX ?_ ?_
  ·omega
  refine wC gX (fun hc => ?_) (fun hc => ?_)
  ·have hs : f2.sgn = 38 := by simpa using hc
   have he : kI ar2 f2 = (ar2 ++ [bO 5 f2.meet f2.row], { f2 with meet := ar2.length, row := -1 }) := by rw [kI, if_neg hm, if_pos hs]
   rw [he, oW]
   refine rX Γ63 gX ?_ ?_
   ·exact ⟨by omega, by omega, by omega, by omega, by omega, by omega, ⟨⟨ar2, rfl, rfl, by omega⟩, by decide, by simp⟩, by omega, by omega, by omega⟩
   refine wr Γ0 gX ?_ ?_
   ·omega
   refine wS gX ?_
   exact ⟨_, _, rfl, fun E => rfl, _, _, rfl, by simp only [dM, Op.operands, Value.cells, σ0, σB, Nat.reduceEqDiff, Nat.reduceAdd, Nat.reduceMul, Nat.reduceLT, Nat.reduceLeDiff, Nat.reduceBEq, ae, Int.reduceToNat, Int.reduceLT, Int.reduceLE, Nat.reduceDiv, Nat.reduceMod, Nat.reduceSub, Int.reducePow, Nat.reducePow, σP, σB3, gX, aE, dz]; rfl, by decide⟩
  ·have hs : ¬ f2.sgn = 38 := by simpa using hc
   have he : kI ar2 f2 = (ar2 ++ [bO 6 f2.meet f2.row], { f2 with meet := ar2.length, row := -1 }) := by rw [kI, if_neg hm, if_neg hs]
   rw [he, oW]
   refine rX Γ63 gX ?_ ?_
   ·exact ⟨by omega, by omega, by omega, by omega, by omega, by omega, ⟨⟨ar2, rfl, rfl, by omega⟩, by decide, by simp⟩, by omega, by omega, by omega⟩
   refine wr Γ0 gX ?_ ?_
   ·omega
   refine wS gX ?_
   exact ⟨_, _, rfl, fun E => rfl, _, _, rfl, by simp only [dM, Op.operands, Value.cells, σ0, σB, Nat.reduceEqDiff, Nat.reduceAdd, Nat.reduceMul, Nat.reduceLT, Nat.reduceLeDiff, Nat.reduceBEq, ae, Int.reduceToNat, Int.reduceLT, Int.reduceLE, Nat.reduceDiv, Nat.reduceMod, Nat.reduceSub, Int.reducePow, Nat.reducePow, σP, σB3, gX, aE, dz]; rfl, by decide⟩
def xC (ar : List Nd) (pre : List Fm) (fm : Fm) : dv Tryz.prog 120 where
 T := 232
 pre := fun _ _ fs as_ => (fs = yQ ar pre fm /\ as_ = []) /\ ar.length <= 3999990 /\ pre.length <= 2000
 out := fun _ _ _ => .ret (.tuple #[]) (yQ (eA ar fm).1 pre (eA ar fm).2)
 enters := Tryz.call120
 ok := by
  intro W w bs u fp us fs as_ hk ho hlt hmine hu hp
  obtain ⟨⟨rfl, rfl⟩, h1, h2⟩ := hp
  match us, hu with
  | [], _ => exact OO ar pre fm u fp w h1 h2 ho hlt
noncomputable def Γ65 (ar : List Nd) (pre : List Fm) (f : Fm) : Env Tryz.prog := ⟨fun | 120 => some (xC ar pre f).spec | 173 => some Bb.spec | _ => none, fun _ => none, fun _ _ => none⟩
theorem Gt65c120 (ar : List Nd) (pre : List Fm) (f : Fm) : (Γ65 ar pre f).sp 120 = some (xC ar pre f).spec := rfl
def vI := (dk gX @Gt65c120 @xC.eq_1)
set_option maxHeartbeats 2000000 in
theorem KX (ar : List Nd) (pre : List Fm) (f : Fm) (u : Value) (fp : List Nat) (w : World) (hl : ar.length <= 3999980) (hp : pre.length <= 2000) (ho : bz w u fp 232 (yQ ar pre f)) (hlt : ∀ b ∈ fp, b < w.heap.size) :
  Calls Tryz.prog 119 (#[u] ++ #[]) w fun e w' => fu w u fp 232 e w' (.ret (.tuple #[]) (yQ (aJ ar f).1 pre (aJ ar f).2)) := by
 have wp := sH pre hp
 have l1 := Lh ar f
 refine bL (nt := 44) #[] [] (by show 2 <= 7; omega) ho hlt Tryz.func119 rfl rfl rfl ?_
 refine wR (Γ65 ar pre f) vI ?_ ?_
 ·exact ⟨⟨rfl, by omega, hp⟩, by decide, by simp⟩
 have hfo : aJ ar f = rF (eA ar f).1 (eA ar f).2 := rfl
 rw [hfo]
 generalize (eA ar f).2 = f1 at *
 generalize (eA ar f).1 = ar1 at *
 refine kY Γ0 (ab vI wp) ?_ ?_
 ·exact ⟨⟨_, rfl⟩, by omega, by omega⟩
 refine Wp.seq ?_
 refine wR Γ0 vI ?_ ?_
 ·omega
 refine wC vI (fun hc => ?_) (fun hc => ?_)
 ·have hm : f1.alt < 0 := by simpa using hc
  have he : rF ar1 f1 = (ar1, { f1 with alt := f1.meet, meet := -1 }) := by rw [rF, if_pos hm]
  rw [he]
  refine wr Γ0 vI ?_ ?_
  ·omega
  refine wr Γ0 vI ?_ ?_
  ·omega
  refine wS vI ?_
  exact ⟨_, _, rfl, fun E => rfl, _, _, rfl, by simp only [dM, Op.operands, Value.cells, σ0, σB, Nat.reduceEqDiff, Nat.reduceAdd, Nat.reduceMul, Nat.reduceLT, Nat.reduceLeDiff, Nat.reduceBEq, ae, Int.reduceToNat, Int.reduceLT, Int.reduceLE, Nat.reduceDiv, Nat.reduceMod, Nat.reduceSub, Int.reducePow, Nat.reducePow, σP, σB3, gX, aE, dz]; rfl, by decide⟩
 ·have hm : ¬ f1.alt < 0 := by simpa using hc
  have he : rF ar1 f1 = (ar1 ++ [bO 3 f1.alt f1.meet], { f1 with alt := ar1.length, meet := -1 }) := by rw [rF, if_neg hm]
  rw [he, oW]
  refine rX Γ63 vI ?_ ?_
  ·exact ⟨by omega, by omega, by omega, by omega, by omega, by omega, ⟨⟨ar1, rfl, rfl, by omega⟩, by decide, by simp⟩, by omega, by omega, by omega⟩
  refine wr Γ0 vI ?_ ?_
  ·omega
  refine wS vI ?_
  exact ⟨_, _, rfl, fun E => rfl, _, _, rfl, by simp only [dM, Op.operands, Value.cells, σ0, σB, Nat.reduceEqDiff, Nat.reduceAdd, Nat.reduceMul, Nat.reduceLT, Nat.reduceLeDiff, Nat.reduceBEq, ae, Int.reduceToNat, Int.reduceLT, Int.reduceLE, Nat.reduceDiv, Nat.reduceMod, Nat.reduceSub, Int.reducePow, Nat.reducePow, σP, σB3, gX, aE, dz]; rfl, by decide⟩
def EV (ar : List Nd) (pre : List Fm) (fm : Fm) : dv Tryz.prog 119 where
 T := 232
 pre := fun _ _ fs as_ => (fs = yQ ar pre fm /\ as_ = []) /\ ar.length <= 3999980 /\ pre.length <= 2000
 out := fun _ _ _ => .ret (.tuple #[]) (yQ (aJ ar fm).1 pre (aJ ar fm).2)
 enters := Tryz.call119
 ok := by
  intro W w bs u fp us fs as_ hk ho hlt hmine hu hp
  obtain ⟨⟨rfl, rfl⟩, h1, h2⟩ := hp
  match us, hu with
  | [], _ => exact KX ar pre fm u fp w h1 h2 ho hlt
end
section
open Go.RowKit Go.LE
set_option maxRecDepth 10000
noncomputable def Γ66 : Env Tryz.prog := ⟨fun | 172 => some Ag.spec | _ => none, fun | _ => none, fun _ _ => none⟩
theorem Gt66c172 : Γ66.sp 172 = some Ag.spec := rfl
def OB : Except (Int × Int) (Int × Int × Int) -> Value
 | .error (c, j) => .tuple #[.int .i64 0, .int .i64 0, .int .i64 0, .int .i64 c, .int .i64 j]
 | .ok (m, n, j) => .tuple #[.int .i64 m, .int .i64 n, .int .i64 j, .int .i64 0, .int .i64 0]
theorem kE (s : ByteArray) (i : Int) : rW s i = true ↔ (i < s.size /\ 48 <= bt s i /\ bt s i <= 57) := by simp [rW, and_assoc]
theorem HM (s : ByteArray) (i : Int) (h : rW s i = false) : fO (bt s) s.size i = .error (20, i) := by
 have h' : ¬ rW s i = true := by simp [h]
 rw [kE] at h'
 rw [fO, hJ, if_neg h', if_pos rfl]
theorem CB (s : ByteArray) (i : Int) (h : rW s i = true) : fO (bt s) s.size i = .ok (hJ (bt s) s.size 3 0 i) := by
 rw [kE] at h
 have h2 := (H5 (c := bt s) (N := s.size) 2 (10 * 0 + (bt s i - 48)) (i + 1)).1
 rw [fO, if_neg]
 rw [hJ, if_pos h]
 omega
def okB (s : ByteArray) (i : Int) (p : Int × Int × Int × Int) : Prop :=
 (p.1 = 0 /\ p.2.1 = 0 /\ p.2.2.1 = 0 /\ p.2.2.2 = i + 1) \/
 (p.1 = 1 /\ p.2.2.1 = 0 /\ (0 <= p.2.1 /\ p.2.1 <= 999) /\ (i < p.2.2.2 /\ p.2.2.2 <= s.size) /\ fO (bt s) s.size (i + 1) = .ok (p.2.1, p.2.2.2 - 1) /\ tB (bt s) s.size p.2.1 (p.2.2.2 - 1) = fO (bt s) s.size p.2.2.2) \/
 (p.1 = 2 /\ (0 <= p.2.1 /\ p.2.1 <= 999) /\ (-1 <= p.2.2.1 /\ p.2.2.1 <= 999) /\ (i < p.2.2.2 /\ p.2.2.2 <= s.size) /\ ∃ l, fO (bt s) s.size (i + 1) = .ok (p.2.1, l) /\ tB (bt s) s.size p.2.1 l = .ok (p.2.2.1, p.2.2.2))
def YV (s : ByteArray) (i : Int) (p : Int × Int × Int × Int) : Prop :=
 (p.1 = 1 /\ p.2.2.1 = 0 /\ (0 <= p.2.1 /\ p.2.1 <= 999) /\ (i < p.2.2.2 /\ p.2.2.2 <= s.size) /\ fO (bt s) s.size (i + 1) = .ok (p.2.1, p.2.2.2) /\ tB (bt s) s.size p.2.1 p.2.2.2 = .ok (p.2.1, p.2.2.2)) \/
 (p.1 = 2 /\ (0 <= p.2.1 /\ p.2.1 <= 999) /\ (-1 <= p.2.2.1 /\ p.2.2.1 <= 999) /\ (i < p.2.2.2 /\ p.2.2.2 <= s.size) /\ ∃ l, fO (bt s) s.size (i + 1) = .ok (p.2.1, l) /\ tB (bt s) s.size p.2.1 l = .ok (p.2.2.1, p.2.2.2))
def bJ := (aq jS jP jn cQ cV cX cS (aq da c9 c8 db iv ie ig (aq ir iw eW eV eX eZ e8 (aq e9 W7 Xu WW W5 @aO @au (p8 @aB @aC @uH @uM Gt66c172)))))
set_option maxHeartbeats 4000000 in
theorem BV (s : ByteArray) (i : Int) (h0 : 0 <= i) (hi : i < s.size) (hs : s.size <= 140737488351232) (w : World) : Calls Tryz.prog 118 #[.string s, .int .i64 i] w fun e w' => e = .returned (OB (lE (bt s) s.size i)) /\ ai w [] w' := by
 refine al (nt := 117) [.tmp 4, .tmp 5, .tmp 6, .tmp 7, .tmp 8] Tryz.func118 rfl rfl rfl ?_
 have w1 : IntKind.i64.wrap (i + 1) = i + 1 := aa (by omega) (by omega)
 have wl1 : IntKind.i64.wrap (0 + 1) = 1 := rfl
 have wl2 : IntKind.i64.wrap (1 + 1) = 2 := rfl
 refine vR Γ0 bJ ?_
 refine vR Γ0 (ab bJ w1) ?_
 refine vR Γ0 bJ ?_
 refine vR Γ0 bJ ?_
 refine iK (fun p : Int × Int × Int × Int => ⟨200, bV [(0, .is (.v (.string s))), (1, .is (.v (.int .i64 i))), (9, .is (.v (.int .i64 p.2.2.2))), (10, .is (.own 64 0)), (11, .is (.v (.int .i64 p.1)))], cd [(64, .cells 298 [.v (.int .i64 p.2.1), .v (.int .i64 p.2.2.1)])]⟩) (fun _ => w) (fun _ => []) (YV s i) ?_ ?_
 ·refine Wp.block ?_
  refine Wp.loop (fun p : Int × Int × Int × Int => ⟨30, bV [(0, .is (.v (.string s))), (1, .is (.v (.int .i64 i))), (9, .is (.v (.int .i64 p.2.2.2))), (10, .is (.own 64 0)), (11, .is (.v (.int .i64 p.1)))], cd [(64, .cells 298 [.v (.int .i64 p.2.1), .v (.int .i64 p.2.2.1)])]⟩)
   (okB s i) (fun p => (2 - p.1).toNat) (0, 0, 0, i + 1) ?_ (.inl ⟨rfl, rfl, rfl, rfl⟩) ?_
  ·exact wM (fun k => .key k) bJ
  rintro ⟨p, m, n, j⟩ (⟨hp, hm, hn, hj⟩ | ⟨hp, hn, hm, hj, hN, hU⟩ | ⟨hp, hm, hn, hj, l, hN, hU⟩)
  ·simp only at hp hm hn hj
   subst hp hn hm hj
   have hjj : i < i + 1 /\ i + 1 <= s.size := by omega
   generalize hj : i + 1 = j at *
   refine Wp.seq ?_
   refine vR Γ0 bJ ?_
   refine wC bJ (fun hc => ?_) (fun hc => ?_)
   rotate_left
   ·exfalso
    simp at hc
   refine wK ?_
   refine Wp.block ?_
   refine Wp.seq ?_
   refine wR Γ66 bJ ?_ ?_
   ·omega
   refine wC bJ (fun hc => ?_) (fun hc => ?_)
   ·have hd : rW s j = false := by simpa using hc
    have he : lE (bt s) s.size i = .error (20, j) := by
     rw [lE, hj, HM s j hd]
    rw [he]
    refine vR Γ0 bJ ?_
    refine wZ bJ ?_
    exact fun E => rfl
   have hd : rW s j = true := by simpa using hc
   have hE := CB s j hd
   refine wK ?_
   generalize hR : hJ (bt s) s.size 3 0 j = R at *
   refine iK (fun q : Int × Int => ⟨200, bV [(0, .is (.v (.string s))), (1, .is (.v (.int .i64 i))), (9, .is (.v (.int .i64 q.2))), (10, .is (.own 64 0)), (11, .is (.v (.int .i64 0)))], cd [(64, .cells 298 [.v (.int .i64 q.1), .v (.int .i64 0)])]⟩) (fun _ => w) (fun _ => []) (fun q => R = q /\ (0 <= q.1 /\ q.1 <= 999) /\ (j <= q.2 /\ q.2 <= s.size)) ?_ ?_
   ·skip
    refine vR Γ0 bJ ?_
    refine Wp.block ?_
    refine Wp.loop (fun q : Nat × Int => ⟨70, bV [(0, .is (.v (.string s))), (1, .is (.v (.int .i64 i))), (9, .is (.v (.int .i64 (j + (3 - (q.1 : Nat)))))), (10, .is (.own 64 0)), (11, .is (.v (.int .i64 0))), (12, .is (.v (.int .i64 (3 - (q.1 : Nat)))))], cd [(64, .cells 298 [.v (.int .i64 q.2), .v (.int .i64 0)])]⟩)
     (fun q => q.1 <= 3 /\ (0 <= q.2 /\ q.2 <= bd q.1) /\ j + (3 - (q.1 : Nat)) <= s.size /\ hJ (bt s) s.size q.1 q.2 (j + (3 - (q.1 : Nat))) = R) (fun q => q.1) (3, 0) ?_ ⟨by simp, by simp [bd], by simp only; omega, by simpa using hR⟩ ?_
    ·exact wM (fun k => .key k) (fj bJ @Int.sub_self @Int.add_zero (show (3 : Int) - ((3 : Nat) : Int) = 0 from rfl))
    rintro ⟨k, x⟩ ⟨hk, ⟨hx0, hx1⟩, hi', hR'⟩
    simp only at hk hx0 hx1 hi' hR'
    have hbd := HN k
    refine Wp.seq ?_
    refine wR Γ66 bJ ?_ ?_
    ·exact fun _ => by omega
    refine wC bJ (fun hc => ?_) (fun hc => ?_)
    ·simp only [Bool.and_eq_true, decide_eq_true_eq, kE] at hc
     obtain ⟨h1, h2⟩ := hc
     obtain ⟨k, rfl⟩ : ∃ j, k = j + 1 := ⟨k - 1, by omega⟩
     rw [hJ, if_pos h2] at hR'
     obtain ⟨h2, h3, h4⟩ := h2
     have hst := sO hk
     generalize hat : j + (3 - ((k + 1 : Nat) : Int)) = at_ at *
     have wa : IntKind.i64.wrap (10 * x) = 10 * x := aa (by omega) (by omega)
     have wb : IntKind.u8.wrap (bt s at_ - 48) = bt s at_ - 48 := gn (by omega) (by omega)
     have wc : IntKind.i64.wrap (bt s at_ - 48) = bt s at_ - 48 := aa (by omega) (by omega)
     have wd : IntKind.i64.wrap (10 * x + (bt s at_ - 48)) = 10 * x + (bt s at_ - 48) := aa (by omega) (by omega)
     have we : IntKind.i64.wrap (at_ + 1) = j + (3 - ((k : Nat) : Int)) := by rw [aa (by omega) (by omega)]; omega
     have wf : IntKind.i64.wrap (3 - ((k + 1 : Nat) : Int) + 1) = 3 - ((k : Nat) : Int) := by rw [aa (by omega) (by omega)]; omega
     refine wK ?_
     refine Wp.seq (Wp.block ?_)
     refine kY Γ0 (p8 bJ wa wb wc wd) ?_ ?_
     ·exact ⟨by omega, by omega⟩
     refine vr Γ0 (ab bJ we) ?_
     refine vr Γ0 (ab bJ wf) ?_
     refine ⟨(k, 10 * x + (bt s at_ - 48)), ⟨by simp only; omega, ⟨by simp only; omega, by simp only; omega⟩, by simp only; omega, by simp only; rw [show j + (3 - (k : Int)) = at_ + 1 by omega]; exact hR'⟩, by simp only; omega, ?_⟩
     exact wM (fun k => .key k) bJ
    ·have hst : ¬ (3 - (k : Int) < 3 /\ (j + (3 - (k : Int)) < s.size /\ 48 <= bt s (j + (3 - (k : Int))) /\ bt s (j + (3 - (k : Int))) <= 57)) := fun h => by
      apply Bool.eq_false_iff.1 hc
      simp only [Bool.and_eq_true, decide_eq_true_eq, kE]
      exact h
     have hRe : R = (x, j + (3 - (k : Int))) := by
      rw [<- hR']
      cases k with
      | zero => rfl
      | succ k => exact qN _ _ _ _ _ (fun h => hst ⟨by omega, h⟩)
     refine wE ?_
     refine ⟨(x, j + (3 - (k : Int))), ⟨hRe, ⟨hx0, by simp only; omega⟩, by simp only; omega, hi'⟩, rfl, rfl, ?_⟩
     exact wM (fun k => .key k) bJ
   rintro ⟨x, l⟩ ⟨hRe, hx, hl⟩ -
   simp only at hRe hx hl
   rw [hRe] at hE
   subst hRe
   clear hR
   dsimp only
   refine vR Γ0 (dk bJ wl1 wl2) ?_
   refine Wp.seq ?_
   refine wR Γ0 bJ ?_ ?_
   ·exact fun h => by simp only [Bool.not_eq_true', Bool.or_eq_false_iff, decide_eq_false_iff_not] at h; omega
   refine wC bJ (fun hc => ?_) (fun hc => ?_)
   ·have h44 : ¬ (l < s.size /\ bt s l = 44) := by
     simp only [Bool.or_eq_true, decide_eq_true_eq, Bool.not_eq_true', decide_eq_false_iff_not] at hc
     omega
    refine wE ?_
    refine ⟨(1, x, 0, l), .inl ⟨rfl, rfl, hx, ⟨by simp only; omega, by simp only; omega⟩, by rw [hj]; exact hE, by rw [tB, if_neg h44]⟩, rfl, rfl, ?_⟩
    exact wM (fun k => .key k) bJ
   have h44 : l < s.size /\ bt s l = 44 := by
    simp only [Bool.or_eq_false_iff, decide_eq_false_iff_not, Bool.not_eq_false', decide_eq_true_eq] at hc
    omega
   have wl : IntKind.i64.wrap (l + 1) = l + 1 := aa (by omega) (by omega)
   refine wK ?_
   refine vR Γ0 (ab bJ wl) ?_
   refine wR Γ0 bJ ?_ ?_
   ·first | exact fun h => by omega | exact fun h => by (simp at h; omega)
   refine wC bJ (fun hc => ?_) (fun hc => ?_)
   ·have h125 : ¬ (¬ l + 1 < s.size \/ bt s (l + 1) ≠ 125) := by
     simp only [Bool.and_eq_true, decide_eq_true_eq] at hc
     omega
    refine vR Γ0 bJ ?_
    refine vr Γ0 bJ ?_
    refine ⟨(2, x, -1, l + 1), .inr (.inr ⟨rfl, hx, by simp only; omega, ⟨by simp only; omega, by simp only; omega⟩, l, by rw [hj]; exact hE, by rw [tB, if_pos h44, if_neg h125]⟩), by simp, ?_⟩
    exact wM (fun k => .key k) bJ
   ·have h125 : ¬ l + 1 < s.size \/ bt s (l + 1) ≠ 125 := by
     simp only [Bool.and_eq_false_iff, decide_eq_false_iff_not] at hc
     omega
    refine wK ?_
    refine ⟨(1, x, 0, l + 1), .inr (.inl ⟨rfl, rfl, hx, ⟨by simp only; omega, by simp only; omega⟩, by rw [hj]; show fO _ _ _ = .ok (x, l + 1 - 1); rw [Int.add_sub_cancel]; exact hE, by show tB _ _ x (l + 1 - 1) = _; rw [Int.add_sub_cancel, tB, if_pos h44, if_pos h125]⟩), by simp, ?_⟩
    exact wM (fun k => .key k) bJ
  ·simp only at hp hm hn hj hN hU
   subst hp hn
   have hjj := hj
   refine Wp.seq ?_
   refine vR Γ0 bJ ?_
   refine wC bJ (fun hc => ?_) (fun hc => ?_)
   rotate_left
   ·exfalso
    simp at hc
   refine wK ?_
   refine Wp.block ?_
   refine Wp.seq ?_
   refine wR Γ66 bJ ?_ ?_
   ·omega
   refine wC bJ (fun hc => ?_) (fun hc => ?_)
   ·have hd : rW s j = false := by simpa using hc
    have he : lE (bt s) s.size i = .error (20, j) := by
     rw [lE, hN]; simp only [hU, HM s j hd]
    rw [he]
    refine vR Γ0 bJ ?_
    refine wZ bJ ?_
    exact fun E => rfl
   have hd : rW s j = true := by simpa using hc
   have hE := CB s j hd
   refine wK ?_
   generalize hR : hJ (bt s) s.size 3 0 j = R at *
   refine iK (fun q : Int × Int => ⟨200, bV [(0, .is (.v (.string s))), (1, .is (.v (.int .i64 i))), (9, .is (.v (.int .i64 q.2))), (10, .is (.own 64 0)), (11, .is (.v (.int .i64 1)))], cd [(64, .cells 298 [.v (.int .i64 m), .v (.int .i64 q.1)])]⟩) (fun _ => w) (fun _ => []) (fun q => R = q /\ (0 <= q.1 /\ q.1 <= 999) /\ (j <= q.2 /\ q.2 <= s.size)) ?_ ?_
   ·skip
    refine vR Γ0 bJ ?_
    refine Wp.block ?_
    refine Wp.loop (fun q : Nat × Int => ⟨70, bV [(0, .is (.v (.string s))), (1, .is (.v (.int .i64 i))), (9, .is (.v (.int .i64 (j + (3 - (q.1 : Nat)))))), (10, .is (.own 64 0)), (11, .is (.v (.int .i64 1))), (12, .is (.v (.int .i64 (3 - (q.1 : Nat)))))], cd [(64, .cells 298 [.v (.int .i64 m), .v (.int .i64 q.2)])]⟩)
     (fun q => q.1 <= 3 /\ (0 <= q.2 /\ q.2 <= bd q.1) /\ j + (3 - (q.1 : Nat)) <= s.size /\ hJ (bt s) s.size q.1 q.2 (j + (3 - (q.1 : Nat))) = R) (fun q => q.1) (3, 0) ?_ ⟨by simp, by simp [bd], by simp only; omega, by simpa using hR⟩ ?_
    ·exact wM (fun k => .key k) (fj bJ @Int.sub_self @Int.add_zero (show (3 : Int) - ((3 : Nat) : Int) = 0 from rfl))
    rintro ⟨k, x⟩ ⟨hk, ⟨hx0, hx1⟩, hi', hR'⟩
    simp only at hk hx0 hx1 hi' hR'
    have hbd := HN k
    refine Wp.seq ?_
    refine wR Γ66 bJ ?_ ?_
    ·exact fun _ => by omega
    refine wC bJ (fun hc => ?_) (fun hc => ?_)
    ·simp only [Bool.and_eq_true, decide_eq_true_eq, kE] at hc
     obtain ⟨h1, h2⟩ := hc
     obtain ⟨k, rfl⟩ : ∃ j, k = j + 1 := ⟨k - 1, by omega⟩
     rw [hJ, if_pos h2] at hR'
     obtain ⟨h2, h3, h4⟩ := h2
     have hst := sO hk
     generalize hat : j + (3 - ((k + 1 : Nat) : Int)) = at_ at *
     have wa : IntKind.i64.wrap (10 * x) = 10 * x := aa (by omega) (by omega)
     have wb : IntKind.u8.wrap (bt s at_ - 48) = bt s at_ - 48 := gn (by omega) (by omega)
     have wc : IntKind.i64.wrap (bt s at_ - 48) = bt s at_ - 48 := aa (by omega) (by omega)
     have wd : IntKind.i64.wrap (10 * x + (bt s at_ - 48)) = 10 * x + (bt s at_ - 48) := aa (by omega) (by omega)
     have we : IntKind.i64.wrap (at_ + 1) = j + (3 - ((k : Nat) : Int)) := by rw [aa (by omega) (by omega)]; omega
     have wf : IntKind.i64.wrap (3 - ((k + 1 : Nat) : Int) + 1) = 3 - ((k : Nat) : Int) := by rw [aa (by omega) (by omega)]; omega
     refine wK ?_
     refine Wp.seq (Wp.block ?_)
     refine kY Γ0 (p8 bJ wa wb wc wd) ?_ ?_
     ·exact ⟨by omega, by omega⟩
     refine vr Γ0 (ab bJ we) ?_
     refine vr Γ0 (ab bJ wf) ?_
     refine ⟨(k, 10 * x + (bt s at_ - 48)), ⟨by simp only; omega, ⟨by simp only; omega, by simp only; omega⟩, by simp only; omega, by simp only; rw [show j + (3 - (k : Int)) = at_ + 1 by omega]; exact hR'⟩, by simp only; omega, ?_⟩
     exact wM (fun k => .key k) bJ
    ·have hst : ¬ (3 - (k : Int) < 3 /\ (j + (3 - (k : Int)) < s.size /\ 48 <= bt s (j + (3 - (k : Int))) /\ bt s (j + (3 - (k : Int))) <= 57)) := fun h => by
      apply Bool.eq_false_iff.1 hc
      simp only [Bool.and_eq_true, decide_eq_true_eq, kE]
      exact h
     have hRe : R = (x, j + (3 - (k : Int))) := by
      rw [<- hR']
      cases k with
      | zero => rfl
      | succ k => exact qN _ _ _ _ _ (fun h => hst ⟨by omega, h⟩)
     refine wE ?_
     refine ⟨(x, j + (3 - (k : Int))), ⟨hRe, ⟨hx0, by simp only; omega⟩, by simp only; omega, hi'⟩, rfl, rfl, ?_⟩
     exact wM (fun k => .key k) bJ
   rintro ⟨x, l⟩ ⟨hRe, hx, hl⟩ -
   simp only at hRe hx hl
   rw [hRe] at hE
   subst hRe
   clear hR
   dsimp only
   refine vR Γ0 (dk bJ wl1 wl2) ?_
   refine Wp.seq ?_
   refine wR Γ0 bJ ?_ ?_
   ·first | trivial | exact fun h => by simp at h | (trace_state; omega)
   refine wC bJ (fun hc => ?_) (fun hc => ?_)
   rotate_left
   ·exfalso
    simp at hc
   refine wE ?_
   refine ⟨(2, m, x, l), .inr ⟨rfl, hm, by simp only; omega, ⟨by simp only; omega, by simp only; omega⟩, j - 1, hN, by rw [hU, hE]⟩, rfl, rfl, ?_⟩
   exact wM (fun k => .key k) bJ
  ·simp only at hp hm hn hj hN hU
   subst hp
   refine Wp.seq ?_
   refine vR Γ0 bJ ?_
   refine wC bJ (fun hc => ?_) (fun hc => ?_)
   ·exfalso
    simp at hc
   refine wE ?_
   refine ⟨(2, m, n, j), .inr ⟨rfl, hm, hn, hj, l, hN, hU⟩, rfl, rfl, ?_⟩
   exact wM (fun k => .key k) bJ
 have fin : ∀ m n j : Int, (0 <= m /\ m <= 999) -> (-1 <= n /\ n <= 999) -> (i < j /\ j <= s.size) -> lE (bt s) s.size i = kD (bt s) s.size m n j i ->
   ∃ m' n' : Int, True := fun m n j _ _ _ _ => ⟨m, n, trivial⟩
 refine fun p hp _ => iK (fun p : Int × Int × Int => ⟨300, bV [(0, .is (.v (.string s))), (1, .is (.v (.int .i64 i))), (9, .is (.v (.int .i64 p.2.2))), (10, .is (.own 64 0))], cd [(64, .cells 298 [.v (.int .i64 p.1), .v (.int .i64 p.2.1)])]⟩) (fun _ => w) (fun _ => [])
  (fun p => (0 <= p.1 /\ p.1 <= 999) /\ (-1 <= p.2.1 /\ p.2.1 <= 999) /\ (i < p.2.2 /\ p.2.2 <= s.size) /\ lE (bt s) s.size i = kD (bt s) s.size p.1 p.2.1 p.2.2 i) ?_ ?_
 ·obtain ⟨p, m, n, j⟩ := p
  rcases hp with ⟨hp, hn, hm, hj, hN, hU⟩ | ⟨hp, hm, hn, hj, l, hN, hU⟩
  ·simp only at hp hn hm hj hN hU
   subst hp hn
   dsimp only
   refine vR Γ0 bJ ?_
   refine wC bJ (fun hc => ?_) (fun hc => ?_)
   rotate_left
   ·exfalso
    simp at hc
   refine vr Γ0 bJ ?_
   refine ⟨(m, m, j), ⟨hm, by simp only; omega, hj, by rw [lE, hN]; simp only [hU]⟩, rfl, rfl, ?_⟩
   exact wM (fun k => .key k) bJ
  ·simp only at hp hn hm hj hN hU
   subst hp
   dsimp only
   refine vR Γ0 bJ ?_
   refine wC bJ (fun hc => ?_) (fun hc => ?_)
   ·exfalso
    simp at hc
   refine wK ?_
   refine ⟨(m, n, j), ⟨hm, hn, hj, by rw [lE, hN]; simp only [hU]⟩, rfl, rfl, ?_⟩
   exact wM (fun k => .key k) bJ
 rintro ⟨m, n, j⟩ ⟨hm, hn, hj, he⟩ -
 simp only at hm hn hj he
 rw [he]
 dsimp only
 refine Wp.seq ?_
 refine wR Γ0 bJ ?_ ?_
 ·exact fun h => by simp only [Bool.not_eq_true', Bool.or_eq_false_iff, decide_eq_false_iff_not] at h; omega
 refine wC bJ (fun hc => ?_) (fun hc => ?_)
 ·have h125 : ¬ j < s.size \/ bt s j ≠ 125 := by
   simp only [Bool.or_eq_true, decide_eq_true_eq, Bool.not_eq_true', decide_eq_false_iff_not] at hc
   omega
  rw [kD, if_pos h125]
  refine vR Γ0 bJ ?_
  refine wZ bJ ?_
  exact fun E => rfl
 have h125 : ¬ (¬ j < s.size \/ bt s j ≠ 125) := by
  simp only [Bool.or_eq_false_iff, decide_eq_false_iff_not, Bool.not_eq_false', decide_eq_true_eq] at hc
  omega
 refine wK ?_
 refine Wp.seq ?_
 refine vR Γ0 bJ ?_
 refine wC bJ (fun hc => ?_) (fun hc => ?_)
 ·have hb : 255 < m \/ 255 < n \/ (0 <= n /\ n < m) := by
   simp only [Bool.or_eq_true, Bool.and_eq_true, decide_eq_true_eq] at hc
   omega
  rw [kD, if_neg h125, if_pos hb]
  refine vR Γ0 bJ ?_
  refine wZ bJ ?_
  exact fun E => rfl
 have hb : ¬ (255 < m \/ 255 < n \/ (0 <= n /\ n < m)) := by
  intro hb
  apply Bool.eq_false_iff.1 hc
  simp only [Bool.or_eq_true, Bool.and_eq_true, decide_eq_true_eq]
  omega
 rw [kD, if_neg h125, if_neg hb]
 refine wK ?_
 have wj : IntKind.i64.wrap (j + 1) = j + 1 := aa (by omega) (by omega)
 refine TS Γ0 (ab bJ wj) ?_
 refine wZ bJ ?_
 exact fun E => rfl
def o5 : a7 Tryz.prog 118 where
 pre := fun W bs => fun | [.val (.string s), .val (.int .i64 i)] => 0 <= i /\ i < s.size /\ s.size <= 140737488351232 | _ => False
 res := fun W => fun | [.val (.string s), .val (.int .i64 i)] => OB (lE (bt s) s.size i) | _ => undef
 enters := Tryz.call118
 ok := by
  intro W w bs us as_ hk hu hp
  split at hp
  ·rename_i s i
   match us, hu with
   | [u0, u1], hu =>
    obtain ⟨rfl, rfl, _⟩ := hu
    exact BV s i hp.1 hp.2.1 hp.2.2 w
  ·exact hp.elim
theorem zK (W : World) (s : ByteArray) (i : Int) : o5.res W [.val (.string s), .val (.int .i64 i)] = OB (lE (bt s) s.size i) := rfl
theorem zx (W : World) (bs : List Nat) (s : ByteArray) (i : Int) : o5.pre W bs [.val (.string s), .val (.int .i64 i)] = (0 <= i /\ i < s.size /\ s.size <= 140737488351232) := rfl
end
section
open Go.RowKit Go.LE
set_option maxRecDepth 10000
theorem Fu {x y p q : Int} (h0 : 0 <= x) (h1 : x <= p) (h2 : 0 <= y) (h3 : y <= q) : 0 <= x * y /\ x * y <= p * q :=
 ⟨Int.mul_nonneg h0 h2, Int.mul_le_mul h1 h3 h2 (by omega)⟩
def jl := (aq jn cQ cV cX cS da c9 (nC c8 db @aO @au @aB @aC))
set_option maxHeartbeats 2000000 in
theorem FA (a m n : Int) (h0 : 0 <= a) (h1 : a <= 2001) (hmn : qo m n) (w : World) : Calls Tryz.prog 175 #[.int .i64 a, .int .i64 m, .int .i64 n] w fun e w' => e = .returned (.int .i64 (cO a m n)) /\ ai w [] w' := by
 refine al (nt := 59) [.tmp 6] Tryz.func175 rfl rfl rfl ?_
 unfold qo at hmn
 refine vR Γ0 jl ?_
 refine Wp.seq ?_
 refine vR Γ0 jl ?_
 refine wC jl (fun hc => ?_) (fun hc => ?_)
 ·have hm : m = -2 := by simpa using hc
  have e1 : IntKind.i64.wrap (a + 1) = a + 1 := aa (by omega) (by omega)
  have e2 : IntKind.i64.wrap (a + 1 + a) = a + 1 + a := aa (by omega) (by omega)
  have e3 : IntKind.i64.wrap (a + 1 + a + 1) = a + 1 + a + 1 := aa (by omega) (by omega)
  rw [cO, if_pos hm]
  refine vR Γ0 (fj jl e1 e2 e3) ?_
  refine wZ jl ?_
  exact fun E => rfl
 have hm : ¬ m = -2 := by simpa using hc
 have hm0 : 0 <= m /\ m <= 255 /\ n <= 255 := by omega
 have hma := Fu hm0.1 hm0.2.1 h0 h1
 rw [cO, if_neg hm]
 refine wK ?_
 refine Wp.seq ?_
 refine vR Γ0 jl ?_
 refine wC jl (fun hc => ?_) (fun hc => ?_)
 ·have h2 : n < 0 /\ m = 0 := by simpa using hc
  have e1 : IntKind.i64.wrap (a + 1) = a + 1 := aa (by omega) (by omega)
  rw [if_pos h2]
  refine vR Γ0 (ab jl e1) ?_
  refine wZ jl ?_
  exact fun E => rfl
 have h2 : ¬ (n < 0 /\ m = 0) := by
  intro h
  apply Bool.eq_false_iff.1 hc
  simp [h.1, h.2]
 rw [if_neg h2]
 refine wK ?_
 refine Wp.seq ?_
 refine vR Γ0 jl ?_
 refine wC jl (fun hc => ?_) (fun hc => ?_)
 ·have h3 : n < 0 := by simpa using hc
  have e0 : IntKind.i64.wrap (m * a) = m * a := aa (by omega) (by omega)
  have e1 : IntKind.i64.wrap (m * a + m) = m * a + m := aa (by omega) (by omega)
  have e2 : IntKind.i64.wrap (m * a + m - 1) = m * a + m - 1 := aa (by omega) (by omega)
  have e3 : IntKind.i64.wrap (m * a + m - 1 + 1) = m * a + m - 1 + 1 := aa (by omega) (by omega)
  have e4 : IntKind.i64.wrap (m * a + m - 1 + 1 + a) = m * a + m - 1 + 1 + a := aa (by omega) (by omega)
  have e5 : IntKind.i64.wrap (m * a + m - 1 + 1 + a + 1) = m * a + m - 1 + 1 + a + 1 := aa (by omega) (by omega)
  rw [if_pos h3]
  refine vR Γ0 (Ci jl e0 e1 e2 e3 e4 e5) ?_
  refine wZ jl ?_
  exact fun E => rfl
 have h3 : ¬ n < 0 := by simpa using hc
 rw [if_neg h3]
 refine wK ?_
 refine Wp.seq ?_
 refine vR Γ0 jl ?_
 refine wC jl (fun hc => ?_) (fun hc => ?_)
 ·have h4 : n = 0 := by simpa using hc
  rw [if_pos h4]
  refine vR Γ0 jl ?_
  refine wZ jl ?_
  exact fun E => rfl
 have h4 : ¬ n = 0 := by simpa using hc
 rw [if_neg h4]
 refine wK ?_
 refine Wp.seq ?_
 refine vR Γ0 jl ?_
 refine wC jl (fun hc => ?_) (fun hc => ?_)
 ·have h5 : m = 0 := by simpa using hc
  have hna := Fu (x := n) (y := a + 2) (p := 255) (q := 2003) (by omega) (by omega) (by omega) (by omega)
  have e0 : IntKind.i64.wrap (a + 2) = a + 2 := aa (by omega) (by omega)
  have e1 : IntKind.i64.wrap (n * (a + 2)) = n * (a + 2) := aa (by omega) (by omega)
  have e2 : IntKind.i64.wrap (n * (a + 2) + n) = n * (a + 2) + n := aa (by omega) (by omega)
  have e3 : IntKind.i64.wrap (n * (a + 2) + n - 1) = n * (a + 2) + n - 1 := aa (by omega) (by omega)
  rw [if_pos h5]
  refine vR Γ0 (p8 jl e0 e1 e2 e3) ?_
  refine wZ jl ?_
  exact fun E => rfl
 have h5 : ¬ m = 0 := by simpa using hc
 have hnm := Fu (x := n - m) (y := a + 2 + 1) (p := 255) (q := 2004) (by omega) (by omega) (by omega) (by omega)
 have e0 : IntKind.i64.wrap (m * a) = m * a := aa (by omega) (by omega)
 have e1 : IntKind.i64.wrap (m * a + m) = m * a + m := aa (by omega) (by omega)
 have e2 : IntKind.i64.wrap (m * a + m - 1) = m * a + m - 1 := aa (by omega) (by omega)
 have e3 : IntKind.i64.wrap (n - m) = n - m := aa (by omega) (by omega)
 have e4 : IntKind.i64.wrap (a + 2) = a + 2 := aa (by omega) (by omega)
 have e5 : IntKind.i64.wrap (a + 2 + 1) = a + 2 + 1 := aa (by omega) (by omega)
 have e6 : IntKind.i64.wrap ((n - m) * (a + 2 + 1)) = (n - m) * (a + 2 + 1) := aa (by omega) (by omega)
 have e7 : IntKind.i64.wrap (m * a + m - 1 + (n - m) * (a + 2 + 1)) = m * a + m - 1 + (n - m) * (a + 2 + 1) := aa (by omega) (by omega)
 rw [if_neg h5]
 refine wK ?_
 refine vR Γ0 (aq jl e0 e1 e2 e3 e4 e5 (ab e6 e7)) ?_
 refine wZ jl ?_
 exact fun E => rfl
def sM : a7 Tryz.prog 175 where
 pre := fun W bs => fun | [.val (.int .i64 a), .val (.int .i64 m), .val (.int .i64 n)] => (0 <= a /\ a <= 2001) /\ qo m n | _ => False
 res := fun W => fun | [.val (.int .i64 a), .val (.int .i64 m), .val (.int .i64 n)] => .int .i64 (cO a m n) | _ => undef
 enters := Tryz.call175
 ok := by
  intro W w bs us as_ hk hu hp
  split at hp
  ·rename_i a m n
   match us, hu with
   | [u0, u1, u2], hu =>
    obtain ⟨rfl, rfl, rfl, _⟩ := hu
    exact FA a m n hp.1.1 hp.1.2 hp.2 w
  ·exact hp.elim
theorem AI (W : World) (a : Int) (m : Int) (n : Int) : sM.res W [.val (.int .i64 a), .val (.int .i64 m), .val (.int .i64 n)] = .int .i64 (cO a m n) := rfl
theorem A7 (W : World) (bs : List Nat) (a : Int) (m : Int) (n : Int) : sM.pre W bs [.val (.int .i64 a), .val (.int .i64 m), .val (.int .i64 n)] = ((0 <= a /\ a <= 2001) /\ qo m n) := rfl
end
section
open Go.RowKit Go.LE
set_option maxRecDepth 10000
noncomputable def Γ67 : Env Tryz.prog := ⟨fun | 175 => some sM.spec | _ => none, fun | _ => none, fun _ _ => none⟩
theorem Gt67c175 : Γ67.sp 175 = some sM.spec := rfl
def D3 (ar : List Nd) : Prop := ∀ k (h : k < ar.length), (0 <= ar[k].op /\ ar[k].op <= 7) /\ (2 <= ar[k].op -> 0 <= ar[k].a /\ ar[k].a < k) /\ (2 <= ar[k].op -> ar[k].op ≠ 7 -> 0 <= ar[k].b /\ ar[k].b < k) /\ (ar[k].op = 7 -> qo ar[k].m ar[k].n)
theorem NM.ok {ts : List RT} {d : Nd} {t : RT} (h : NM ts d t) : (0 <= d.op /\ d.op <= 7) /\ (2 <= d.op -> 0 <= d.a /\ d.a < ts.length) /\ (2 <= d.op -> d.op ≠ 7 -> 0 <= d.b /\ d.b < ts.length) /\ (d.op = 7 -> qo d.m d.n) := by
 have lt : ∀ {x : Int} {a : RT}, 0 <= x -> ts[x.toNat]? = some a -> x < ts.length := fun {x a} h0 h => by
  have := (List.getElem?_eq_some_iff.1 h).1
  omega
 cases h with
 | eps h0 _ => exact ⟨by omega, fun h => by omega, fun h => by omega, fun h => by omega⟩
 | cls h0 => exact ⟨by omega, fun h => by omega, fun h => by omega, fun h => by omega⟩
 | cat a b h0 h1 h2 h3 h4 => exact ⟨by omega, fun h => ⟨h1, lt h1 h2⟩, fun h _ => ⟨h3, lt h3 h4⟩, fun h => by omega⟩
 | alt a b h0 h1 h2 h3 h4 => exact ⟨by omega, fun h => ⟨h1, lt h1 h2⟩, fun h _ => ⟨h3, lt h3 h4⟩, fun h => by omega⟩
 | and a b h0 h1 h2 h3 h4 => exact ⟨by omega, fun h => ⟨h1, lt h1 h2⟩, fun h _ => ⟨h3, lt h3 h4⟩, fun h => by omega⟩
 | minus a b h0 h1 h2 h3 h4 => exact ⟨by omega, fun h => ⟨h1, lt h1 h2⟩, fun h _ => ⟨h3, lt h3 h4⟩, fun h => by omega⟩
 | rep a h0 h1 h2 h3 => exact ⟨by omega, fun h => ⟨h1, lt h1 h2⟩, fun h h' => absurd h0 h', fun _ => h3⟩
theorem AR.ok {ar : List Nd} {ts : List RT} (h : AR ar ts) : D3 ar := by
 induction h with
 | nil => intro k hk; cases hk
 | @snoc ar ts d t ha hn ih =>
  intro k hk
  by_cases hlt : k < ar.length
  ·rw [List.getElem_append_left hlt]
   exact ih k hlt
  ·have hk' : k = ar.length := by simp at hk; omega
   subst hk'
   have := hn.ok
   rw [ha.len] at this
   rw [List.getElem_append_right (Nat.le_refl _)]
   simpa using this
theorem FN : ∀ (l : List Nd) (k j : Nat) (hk : k < l.length), j < 261 -> (cK l)[k * 261 + j]? = l[k].bh[j]?
 | d :: r, 0, j, _, hj => by
  show (d.bh ++ cK r)[0 * 261 + j]? = _
  rw [List.getElem?_append_left (by rw [Nd.gp]; omega)]
  simp
 | d :: r, k + 1, j, hk, hj => by
  show (d.bh ++ cK r)[(k + 1) * 261 + j]? = _
  rw [List.getElem?_append_right (by rw [Nd.gp]; omega), Nd.gp, show (k + 1) * 261 + j - 261 = k * 261 + j by omega]
  have := FN r k j (by simpa using hk) hj
  simpa using this
theorem Nd.U5 (d : Nd) : d.bh[0]? = some (.int .i64 d.op) := rfl
theorem Nd.mg (d : Nd) (j : Nat) : d.bh[257 + j]? = [Value.int .i64 d.a, .int .i64 d.b, .int .i64 d.m, .int .i64 d.n][j]? := by
 have e : d.bh = (Value.int .i64 d.op :: eI d.set.getLsbD) ++ [.int .i64 d.a, .int .i64 d.b, .int .i64 d.m, .int .i64 d.n] := rfl
 rw [e, List.getElem?_append_right (by rw [List.length_cons, mY]; omega), List.length_cons, mY, show 257 + j - (256 + 1) = j by omega]
theorem jA.nd {w : World} {ao : Option Addr} {l : List Nd} (h : jA w ao (cK l)) {k : Nat} (hk : k < l.length) : ∃ b o, ao = some ⟨b, o, none⟩ /\
  w.cell? ⟨b, o + k * 261, none⟩ = some (.int .i64 l[k].op) /\ w.cell? ⟨b, o + k * 261 + 257, none⟩ = some (.int .i64 l[k].a) /\ w.cell? ⟨b, o + k * 261 + 258, none⟩ = some (.int .i64 l[k].b) /\
  w.cell? ⟨b, o + k * 261 + 259, none⟩ = some (.int .i64 l[k].m) /\ w.cell? ⟨b, o + k * 261 + 260, none⟩ = some (.int .i64 l[k].n) := by
 have hl := Ic l
 rcases h with h | ⟨b, o, rfl, hc⟩
 ·rw [h] at hl; simp at hl; omega
 ·have key : ∀ j (hj : j < 261) (v : Value), l[k].bh[j]? = some v -> w.cell? ⟨b, o + k * 261 + j, none⟩ = some v := fun j hj v hv => by
   have hlt : k * 261 + j < (cK l).length := by omega
   have h1 := hc (k * 261 + j) hlt
   have h2 := FN l k j hk hj
   rw [List.getElem?_eq_getElem hlt, hv] at h2
   rw [<- Nat.add_assoc] at h1
   rw [h1, h2]
  exact ⟨b, o, rfl, key 0 (by omega) _ (Nd.U5 _), key 257 (by omega) _ (Nd.mg _ 0), key 258 (by omega) _ (Nd.mg _ 1), key 259 (by omega) _ (Nd.mg _ 2), key 260 (by omega) _ (Nd.mg _ 3)⟩
def iV (Z : List Int) : List Value := Z.map (.int .i64)
theorem G5 (Z : List Int) : (List.map SV.v (iV Z)).length = Z.length := by simp [iV]
theorem yN (Z : List Int) (k : Nat) (hk : k < Z.length) : (List.map SV.v (iV Z)).getD k (.v undef) = .v (.int .i64 (Z.getD k 0)) := by
 simp [iV, List.getD_eq_getElem?_getD, hk]
theorem uy (Z : List Int) (k : Nat) (x : Int) (hk : k < Z.length) : List.take k (List.map SV.v (iV Z)) ++ [SV.v (.int .i64 x)] ++ List.drop (k + 1) (List.map SV.v (iV Z)) = List.map SV.v (iV (Z.set k x)) := by
 rw [List.set_eq_take_append_cons_drop, if_pos hk]
 simp [iV]
def zZ (ar : List Nd) (k : Nat) : List Int := lG (ar.take k) ++ List.replicate (ar.length - k) 0
theorem vm (ar : List Nd) (d : Nd) : lG (ar ++ [d]) = lG ar ++ [GS (lG ar) d] := by
 unfold lG
 rw [List.foldl_append]; rfl
theorem HW {α : Type} {P : List α -> Prop} (h0 : P []) (h1 : ∀ l d, P l -> P (l ++ [d])) (l : List α) : P l := by
 have key : ∀ m : List α, P m.reverse := fun m => by
  induction m with
  | nil => exact h0
  | cons d r ih => rw [List.reverse_cons]; exact h1 _ _ ih
 have := key l.reverse
 rwa [List.reverse_reverse] at this
theorem j6 (ar : List Nd) : (lG ar).length = ar.length := by
 refine HW (P := fun ar => (lG ar).length = ar.length) rfl (fun ar d ih => ?_) ar
 ·rw [vm, List.length_append, List.length_append, ih]; rfl
theorem VB (ar : List Nd) (k : Nat) (hk : k <= ar.length) : (zZ ar k).length = ar.length := by
 rw [zZ, List.length_append, j6, List.length_take, List.length_replicate]; omega
theorem Vi (ar : List Nd) (k j : Nat) (hj : j < k) (hk : k <= ar.length) : (zZ ar k).getD j 0 = (lG (ar.take k)).getD j 0 := by
 rw [List.getD_eq_getElem?_getD, List.getD_eq_getElem?_getD, zZ, List.getElem?_append_left (by rw [j6, List.length_take]; omega)]
theorem UU (ar : List Nd) (k : Nat) (hk : k < ar.length) : (zZ ar k).set k (GS (lG (ar.take k)) ar[k]) = zZ ar (k + 1) := by
 have hl : (lG (ar.take k)).length = k := by rw [j6, List.length_take]; omega
 have ht : ar.take (k + 1) = ar.take k ++ [ar[k]] := by rw [List.take_succ_eq_append_getElem hk]
 rw [zZ, zZ, ht, vm, List.set_append_right _ _ (by omega), hl, Nat.sub_self, show ar.length - k = (ar.length - (k + 1)) + 1 by omega, List.replicate_succ, List.set_cons_zero, List.append_assoc]
 rfl
theorem RC (ar : List Nd) : List.map SV.v (List.replicate ar.length [Value.int .i64 0]).flatten = List.map SV.v (iV (zZ ar 0)) := by
 have : ∀ n : Nat, (List.replicate n [Value.int .i64 0]).flatten = iV (List.replicate n 0) := fun n => by
  induction n with
  | zero => rfl
  | succ n ih => rw [List.replicate_succ, List.flatten_cons, ih]; rfl
 rw [this]
 simp [zZ, lG]
theorem UT (ar : List Nd) (hok : D3 ar) : ∀ j, j < ar.length -> 0 <= (lG ar).getD j 0 /\ (lG ar).getD j 0 <= 2001 := by
 revert hok
 refine HW (P := fun ar => D3 ar -> ∀ j, j < ar.length -> 0 <= (lG ar).getD j 0 /\ (lG ar).getD j 0 <= 2001) (fun _ j hj => by cases hj) (fun ar d ih hok => ?_) ar
 ·skip
  have hok' : D3 ar := fun k hk => by
   have := hok k (by simp; omega)
   rw [List.getElem_append_left hk] at this
   exact this
  intro j hj
  rw [vm, List.getD_eq_getElem?_getD]
  by_cases hlt : j < ar.length
  ·rw [List.getElem?_append_left (by rw [j6]; exact hlt), <- List.getD_eq_getElem?_getD]
   exact ih hok' j hlt
  ·have hj' : j = ar.length := by simp at hj; omega
   subst hj'
   have hd := hok ar.length (by simp)
   rw [List.getElem_append_right (Nat.le_refl _)] at hd
   simp only [Nat.sub_self, List.getElem_cons_zero] at hd
   rw [List.getElem?_append_right (by rw [j6]; exact Nat.le_refl _), j6, Nat.sub_self]
   show 0 <= GS (lG ar) d /\ GS (lG ar) d <= 2001
   have hv : 0 <= lU (lG ar) d := by
    unfold lU
    split
    ·omega
    ·rename_i h1
     have ha := hd.2.1 (by omega)
     have hA := ih hok' d.a.toNat (by omega)
     split
     ·rename_i h7
      exact xl hA.1 (hd.2.2.2 h7)
     ·rename_i h7
      have hb := hd.2.2.1 (by omega) h7
      have hB := ih hok' d.b.toNat (by omega)
      omega
   unfold GS
   split <;> omega
def ei := (aq jS jP jn cQ cV cX cS (aq da c9 c8 db rB rC rG (aq pJ Il IQ Ir HB o7 qX (aq qZ oI rQ rM qT rE qU (aq q5 rS @aO @au @aB @aC @AI (dk @A7 Gt67c175 @G5))))))
set_option maxHeartbeats 2000000 in
theorem Kk (ar : List Nd) (hok : D3 ar) (hln : ar.length <= 4000000) (ao : Option Addr) (c : Nat) (w : World) (hl : jA w ao (cK ar)) :
  Calls Tryz.prog 123 #[.slice ao ar.length c] w fun e w' =>
   ∃ u fp, e = .returned u /\ (∀ E', bn E' u fp w' (.row 3 1 ar.length ((iV (lG ar)).map .v))) /\ (∀ b ∈ fp, w.heap.size <= b /\ b < w'.heap.size) /\ ai w [] w' := by
 refine rH (nt := 80) id [.tmp 2] Tryz.func123 rfl rfl rfl ?_
 refine vR Γ0 ei ?_
 refine vR Γ0 (ab ei @RC) ?_
 refine Wp.seq ?_
 refine vR Γ0 ei ?_
 refine Wp.block ?_
 refine Wp.loop (fun k : Nat => ⟨20, bV [(0, .is (.v (.slice ao ar.length c))), (3, .is (.hd 24)), (4, .is (.v (.int .i64 (k : Nat))))], cd [(24, .row 3 1 ar.length (List.map SV.v (iV (zZ ar k))))]⟩) (fun k => k <= ar.length) (fun k => ar.length - k) 0 ?_ (Nat.zero_le _) ?_
 ·exact wM (fun k => .key k) ei
 rintro k h1
 refine Wp.seq ?_
 refine vR Γ0 ei ?_
 refine wC ei (fun hc => ?_) (fun hc => ?_)
 ·have hk : k < ar.length := by
   simp at hc
   omega
  obtain ⟨b, o, rfl, c0, c1, c2, c3, c4⟩ := jA.nd hl hk
  have hd := hok k hk
  have hS := UU ar k hk
  have hZl := VB ar k h1
  have hZb : ∀ x : Int, 0 <= x -> x < k -> (zZ ar k).getD x.toNat 0 = (lG (ar.take k)).getD x.toNat 0 := fun x h0 hx => Vi ar k x.toNat (by omega) h1
  have hok' : D3 (ar.take k) := fun j hj => by
   rw [List.length_take] at hj
   rw [List.getElem_take]
   exact hok j (by omega)
  have hB := UT (ar.take k) hok'
  have hB' : ∀ x : Int, 0 <= x -> x < k -> 0 <= (lG (ar.take k)).getD x.toNat 0 /\ (lG (ar.take k)).getD x.toNat 0 <= 2001 := fun x h0 hx => hB x.toNat (by rw [List.length_take]; omega)
  have hsz : GS (lG (ar.take k)) ar[k] = if 2001 < lU (lG (ar.take k)) ar[k] then 2001 else lU (lG (ar.take k)) ar[k] := rfl
  have wk : IntKind.i64.wrap ((k : Int) + 1) = ((k + 1 : Nat) : Int) := by rw [aa (by omega) (by omega)]; omega
  rw [hsz] at hS
  generalize ar[k] = d at *
  generalize hsL : lG (ar.take k) = sz at *
  generalize hZZ : zZ ar k = Z at *
  generalize hZ1 : zZ ar (k + 1) = Z1 at *
  refine wK ?_
  refine Wp.seq (Wp.block ?_)
  refine vR Γ0 ei ?_
  refine bx ⟨40, bV [(0, .is (.v (.slice (some ⟨b, o, none⟩) ar.length c))), (3, .is (.hd 24)), (4, .is (.v (.int .i64 (k : Nat)))), (5, .is (.v (.int .i64 (if 2 <= d.op then sz.getD d.a.toNat 0 else 0))))], cd [(24, .row 3 1 ar.length (List.map SV.v (iV Z)))]⟩ ?_ ?_
  ·skip
   refine wR Γ0 (ab ei c0) ?_ ?_
   ·omega
   refine wC ei (fun hc => ?_) (fun hc => ?_)
   ·have h2 : 2 <= d.op := by simpa using hc
    have ha := hd.2.1 h2
    rw [if_pos h2]
    refine wr Γ0 (fj ei c1 (yN Z d.a.toNat (by omega)) (hZb d.a ha.1 ha.2)) ?_ ?_
    ·omega
    exact wM (fun k => .key k) ei
   ·have h2 : ¬ 2 <= d.op := by simpa using hc
    rw [if_neg h2]
    refine wK ?_
    exact wM (fun k => .key k) ei
  generalize h5 : (if 2 <= d.op then sz.getD d.a.toNat 0 else 0) = t5
  refine bx ⟨70, bV [(0, .is (.v (.slice (some ⟨b, o, none⟩) ar.length c))), (3, .is (.hd 24)), (4, .is (.v (.int .i64 (k : Nat))))], cd [(24, .row 3 1 ar.length (List.map SV.v (iV (Z.set k (lU sz d)))))]⟩ ?_ ?_
  ·skip
   refine wR Γ0 (ab ei c0) ?_ ?_
   ·omega
   refine Wp.block ?_
   refine Wp.seq ?_
   refine vR Γ0 ei ?_
   refine wC ei (fun hc => ?_) (fun hc => ?_)
   ·have h0 : d.op = 0 := by simpa using hc
    have hv : lU sz d = 1 := by rw [lU, if_pos (.inl h0)]
    rw [hv]
    refine wK ?_
    refine wC ei (fun hc => ?_) (fun hc => ?_)
    rotate_left
    ·exfalso
     simp [h0] at hc
    refine wr Γ0 (ab ei (uy Z k 1 (by omega))) ?_ ?_
    ·omega
    exact wM (fun k => .key k) ei
   have h0 : ¬ d.op = 0 := by simpa using hc
   refine vr Γ0 ei ?_
   refine wC ei (fun hc => ?_) (fun hc => ?_)
   ·have h1' : d.op = 1 := by simpa using hc
    have hv : lU sz d = 1 := by rw [lU, if_pos (.inr h1')]
    rw [hv]
    refine wr Γ0 (ab ei (uy Z k 1 (by omega))) ?_ ?_
    ·omega
    exact wM (fun k => .key k) ei
   have h1' : ¬ d.op = 1 := by simpa using hc
   have h2 : 2 <= d.op := by omega
   have ha := hd.2.1 h2
   have hA := hB' d.a ha.1 ha.2
   rw [if_pos h2] at h5
   rw [h5] at hA
   refine vR Γ0 ei ?_
   refine wC ei (fun hc => ?_) (fun hc => ?_)
   ·have h7 : d.op = 7 := by simpa using hc
    have hv : lU sz d = cO t5 d.m d.n := by rw [lU, if_neg (by omega), if_pos h7, h5]
    have hmn := hd.2.2.2 h7
    rw [hv]
    refine rX Γ67 (fj ei c3 c4 (uy Z k (cO t5 d.m d.n) (by omega))) ?_ ?_
    ·exact ⟨by omega, by omega, ⟨hA, hmn⟩, by omega, by omega⟩
    exact wM (fun k => .key k) ei
   ·have h7 : ¬ d.op = 7 := by simpa using hc
    have hb := hd.2.2.1 h2 h7
    have hBb := hB' d.b hb.1 hb.2
    have hv : lU sz d = 1 + t5 + sz.getD d.b.toNat 0 := by rw [lU, if_neg (by omega), if_neg h7, h5]
    have e1 : IntKind.i64.wrap (1 + t5) = 1 + t5 := aa (by omega) (by omega)
    have e2 : IntKind.i64.wrap (1 + t5 + sz.getD d.b.toNat 0) = 1 + t5 + sz.getD d.b.toNat 0 := aa (by omega) (by omega)
    rw [hv]
    refine wr Γ0 (Ci ei c2 (yN Z d.b.toNat (by omega)) (hZb d.b hb.1 hb.2) e1 e2 (uy Z k (1 + t5 + sz.getD d.b.toNat 0) (by omega))) ?_ ?_
    ·omega
    exact wM (fun k => .key k) ei
  have hgs : (Z.set k (lU sz d)).getD k 0 = lU sz d := by
   rw [List.getD_eq_getElem?_getD, List.getElem?_set_self (by omega)]; rfl
  have hls : (Z.set k (lU sz d)).length = ar.length := by rw [List.length_set, hZl]
  refine wR Γ0 (dk ei (yN (Z.set k (lU sz d)) k (by omega)) hgs) ?_ ?_
  ·omega
  refine wC ei (fun hc => ?_) (fun hc => ?_)
  ·have hc' : 2001 < lU sz d := by simpa using hc
   rw [if_pos hc'] at hS
   refine wr Γ0 (fj ei (uy (Z.set k (lU sz d)) k 2001 (by omega)) @List.set_set.{0} hS) ?_ ?_
   ·omega
   refine vr Γ0 (ab ei wk) ?_
   refine ⟨k + 1, by omega, by omega, ?_⟩
   rw [hZ1]
   exact wM (fun k => .key k) ei
  ·have hc' : ¬ 2001 < lU sz d := by simpa using hc
   rw [if_neg hc'] at hS
   refine wK ?_
   refine vr Γ0 (ab ei wk) ?_
   refine ⟨k + 1, by omega, by omega, ?_⟩
   rw [hZ1]
   exact wM (fun k => .key k) (ab ei hS)
 ·have hk : k = ar.length := by
   simp at hc
   omega
  have hz : zZ ar k = lG ar := by
   rw [hk, zZ, List.take_length, Nat.sub_self]
   simp
  refine wE ?_
  refine vR Γ0 ei ?_
  refine wZ ei ?_
  refine ⟨_, ⟨by decide, .inl ⟨_, rfl, ?_⟩⟩, fun E => rfl⟩
  rw [<- hz]
  rfl
def FO (ar : List Nd) : A5 Tryz.prog 123 where
 pre := fun W bs as_ => (∃ a, as_ = [a] /\ We W bs 261 ar.length (cK ar) a) /\ D3 ar /\ ar.length <= 4000000
 T := 3
 s := 1
 n := fun _ _ => ar.length
 vs := fun _ _ => iV (lG ar)
 tm := fun _ _ x => x
 g := fun _ _ v => v
 tmg := fun _ _ _ _ => rfl
 tmk := fun _ _ _ _ h => h
 enters := Tryz.call123
 ok := by
  intro W w bs us as_ hk hu hp
  obtain ⟨⟨a, rfl, h1⟩, h2, h3⟩ := hp
  match us, hu with
  | [u], hu =>
   obtain ⟨ao, c, rfl, hsl⟩ := Ub hk hu.1 h1
   exact Kk ar h2 h3 ao c w hsl
end
section
open Go.RowKit Go.LE
set_option maxRecDepth 10000
def aG : Rx -> Nat
 | .eps => 1
 | .cls _ => 1
 | .cat a b => aG a + aG b + 1
 | .alt a b => aG a + aG b + 1
 | .star a => aG a + 1
 | .and a b => aG a + aG b + 1
 | .minus a b => aG a + aG b + 1
def dr (n : Nat) : Rx -> List Nd
 | .eps => [bO 0 0 0]
 | .cls S => [⟨1, S, 0, 0, 0, 0⟩]
 | .cat a b => dr n a ++ (dr (n + aG a) b ++ [bO 2 ((n + aG a - 1 : Nat) : Int) ((n + aG a + aG b - 1 : Nat) : Int)])
 | .alt a b => dr n a ++ (dr (n + aG a) b ++ [bO 3 ((n + aG a - 1 : Nat) : Int) ((n + aG a + aG b - 1 : Nat) : Int)])
 | .star a => dr n a ++ [bO 4 ((n + aG a - 1 : Nat) : Int) 0]
 | .and a b => dr n a ++ (dr (n + aG a) b ++ [bO 5 ((n + aG a - 1 : Nat) : Int) ((n + aG a + aG b - 1 : Nat) : Int)])
 | .minus a b => dr n a ++ (dr (n + aG a) b ++ [bO 6 ((n + aG a - 1 : Nat) : Int) ((n + aG a + aG b - 1 : Nat) : Int)])
theorem gP (t : Rx) : 1 <= aG t := by cases t <;> simp [aG]
theorem eG (t : Rx) : ∀ n, (dr n t).length = aG t := by
 induction t with
 | eps => intro n; rfl
 | cls S => intro n; rfl
 | star a ih => intro n; simp [dr, aG, ih]
 | cat a b iha ihb => intro n; simp only [dr, aG, List.length_append, iha, ihb, List.length_cons, List.length_nil]; omega
 | alt a b iha ihb => intro n; simp only [dr, aG, List.length_append, iha, ihb, List.length_cons, List.length_nil]; omega
 | and a b iha ihb => intro n; simp only [dr, aG, List.length_append, iha, ihb, List.length_cons, List.length_nil]; omega
 | minus a b iha ihb => intro n; simp only [dr, aG, List.length_append, iha, ihb, List.length_cons, List.length_nil]; omega
theorem bE (l m : List Nd) : cK (l ++ m) = cK l ++ cK m := by simp [cK]
theorem j7 (d : Nd) : cK [d] = d.bh := by simp [cK]
def Nq := (aq jS jP Mv Mq Mr jn cQ (aq cV cX cS rB rC rG pJ (aq s3 sY tZ u9 s7 sP o7 (aq qX qZ oI rQ rM qT rE (aq qU q5 rS AQ Bg A6 CP (aq AN @aO @au @aB @aC @py @oN @pM))))))
set_option maxHeartbeats 1000000 in
theorem SC (l : List Nd) (r : Int) (op a b : Int) (u : Value) (fp : List Nat) (w : World) (hl : l.length <= 4000000) (ho : bz w u fp 64 [.row 243 261 l.length (cK l), .val (.int .i64 r)]) (hlt : ∀ b ∈ fp, b < w.heap.size) :
  Calls Tryz.prog 177 (#[u] ++ #[.int .i64 op, .int .i64 a, .int .i64 b]) w fun e w' => fu w u fp 64 e w' (.ret (.int .i64 (l.length : Nat)) [.row 243 261 (l.length + 1) (cK l ++ (bO op a b).bh), .val (.int .i64 r)]) := by
 rw [show cK l ++ (bO op a b).bh = cK (l ++ [bO op a b]) by simp [cK]]
 refine bL (nt := 28) #[.int .i64 op, .int .i64 a, .int .i64 b] [.tmp 8] (by show 2 <= 7; omega) ho hlt Tryz.func177 rfl rfl rfl ?_
 refine vR Γ0 Nq ?_
 refine wR Γ0 Nq ?_ ?_
 ·exact ⟨by simp, by unfold maxLen; omega, by omega, Nd.dh _⟩
 have w1 : IntKind.i64.wrap (((l.length + 1 : Nat) : Int) - 1) = ((l.length : Nat) : Int) := by rw [aa (by omega) (by omega)]; omega
 refine vR Γ0 (ab Nq w1) ?_
 refine wZ Nq ?_
 exact ⟨_, _, rfl, fun E => rfl, _, _, rfl, by simp only [dM, Op.operands, Value.cells, σ0, σB, Nat.reduceEqDiff, Nat.reduceAdd, Nat.reduceMul, Nat.reduceLT, Nat.reduceLeDiff, Nat.reduceBEq, ae, Int.reduceToNat, Int.reduceLT, Int.reduceLE, Nat.reduceDiv, Nat.reduceMod, Nat.reduceSub, Int.reducePow, Nat.reducePow, σP, σB3, Nq, aE, List.map_append]; rfl, by decide⟩
def yu : dv Tryz.prog 177 where
 T := 64
 pre := fun W bs fs as_ => match fs, as_ with | [.row 243 261 n vs, .val (.int .i64 r)], [.val (.int .i64 op), .val (.int .i64 a), .val (.int .i64 b)] => ∃ l : List Nd, vs = cK l /\ n = l.length /\ l.length <= 4000000 | _, _ => False
 out := fun W fs as_ => match fs, as_ with | [.row 243 261 n vs, .val (.int .i64 r)], [.val (.int .i64 op), .val (.int .i64 a), .val (.int .i64 b)] => .ret (.int .i64 (n : Nat)) [.row 243 261 (n + 1) (vs ++ (bO op a b).bh), .val (.int .i64 r)] | _, _ => .pan [] undef
 enters := Tryz.call177
 ok := by
  intro W w bs u fp us fs as_ hk ho hlt hmine hu hp
  split at hp
  ·rename_i n vs r op a b
   match us, hu with
   | [u0, u1, u2], hu =>
    obtain ⟨rfl, rfl, rfl, _⟩ := hu
    obtain ⟨l, rfl, rfl, hl⟩ := hp; exact SC l r op a b u fp w hl ho hlt
  ·exact hp.elim
theorem tH (W : World) (n : Nat) (vs : List Value) (r : Int) (op : Int) (a : Int) (b : Int) : yu.out W [.row 243 261 n vs, .val (.int .i64 r)] [.val (.int .i64 op), .val (.int .i64 a), .val (.int .i64 b)] = .ret (.int .i64 (n : Nat)) [.row 243 261 (n + 1) (vs ++ (bO op a b).bh), .val (.int .i64 r)] := rfl
theorem tC (W : World) (bs : List Nat) (n : Nat) (vs : List Value) (r : Int) (op : Int) (a : Int) (b : Int) : yu.pre W bs [.row 243 261 n vs, .val (.int .i64 r)] [.val (.int .i64 op), .val (.int .i64 a), .val (.int .i64 b)] = (∃ l : List Nd, vs = cK l /\ n = l.length /\ l.length <= 4000000) := rfl
theorem FI : yu.T = 64 := rfl
end
section
open Go.RowKit Go.LE
set_option maxRecDepth 10000
theorem KD {W w : World} {bs fp : List Nat} (hk : ai W bs w) (h : ∀ b ∈ fp, W.heap.size <= b \/ b ∈ bs) : cr W (Out bs) w (Out fp) := fun b hb hs =>
 ⟨hk.block b hb hs, fun hf => (h b hf).elim (fun g => by omega) hs⟩
theorem Tj (a b : Nd) : cK [a, b] = a.bh ++ b.bh := by simp [cK]
abbrev GV (ar : List Nd) (ao : Option Addr) (c : Nat) (f : FuncId) (v : Value) (t : Rx) : Prop :=
 ∀ (l : List Nd) (r : Int) (u : Value) (fp : List Nat) (w : World), l.length + aG t <= 4000000 -> bz w u fp 64 [.row 243 261 l.length (cK l), .val (.int .i64 r)] -> (∀ b ∈ fp, b < w.heap.size) -> ej w (Out fp) ao (cK ar) ->
  Calls Tryz.prog f #[.slice ao ar.length c, v, u] w fun e w' => fu w u fp 64 e w' (.ret (.int .i64 ((l.length + aG t - 1 : Nat) : Int)) [.row 243 261 (l.length + aG t) (cK l ++ cK (dr l.length t)), .val (.int .i64 r)])
def layOut (tv : Value -> Rx) (fs as_ : List AV) : BOut := match fs, as_ with
 | [.row _ _ n vs, .val r], [_, .val v] => .ret (.int .i64 ((n + aG (tv v) - 1 : Nat) : Int)) [.row 243 261 (n + aG (tv v)) (vs ++ cK (dr n (tv v))), .val r]
 | _, _ => .ret undef []
theorem mR (tv : Value -> Rx) (T s n : Nat) (vs : List Value) (r v : Value) (x : AV) : layOut tv [.row T s n vs, .val r] [x, .val v] = .ret (.int .i64 ((n + aG (tv v) - 1 : Nat) : Int)) [.row 243 261 (n + aG (tv v)) (vs ++ cK (dr n (tv v))), .val r] := rfl
def nR (ar : List Nd) (ao : Option Addr) (c : Nat) (f : FuncId) (hen : ∀ args w, (callFunc f args).run Tryz.prog w = .ok (.enter f args) w) (dom : Value -> Prop) (tv : Value -> Rx) (h : ∀ v, dom v -> GV ar ao c f v (tv v)) : sK Tryz.prog f where
 T := 64
 pre := fun W bs fs as_ => ∃ (l : List Nd) (r : Int) (v : Value), fs = [.row 243 261 l.length (cK l), .val (.int .i64 r)] /\ as_ = [.val (.slice ao ar.length c), .val v] /\ dom v /\ l.length + aG (tv v) <= 4000000 /\ ej W (Out bs) ao (cK ar)
 out := fun _ => layOut tv
 enters := hen
 ok := by
  intro W w bs u fp us fs as_ hk ho hlt hmine hu hp
  obtain ⟨l, r, v, rfl, rfl, hd, hl, hs⟩ := hp
  match us, hu with
  | [x, y], hu =>
   obtain ⟨rfl, rfl, _⟩ := hu
   exact h _ hd l r u fp w hl ho hlt (hs.mono (KD hk hmine))
section
variable (ar : List Nd) (ao : Option Addr) (c : Nat) (f : FuncId) (hen : ∀ args w, (callFunc f args).run Tryz.prog w = .ok (.enter f args) w) (dom : Value -> Prop) (tv : Value -> Rx) (h : ∀ v, dom v -> GV ar ao c f v (tv v))
theorem zv : (nR ar ao c f hen dom tv h).T = 64 := rfl
theorem po (W : World) : (nR ar ao c f hen dom tv h).out W = layOut tv := rfl
theorem o9 (W : World) (bs : List Nat) (T s n : Nat) (vs : List Value) (r : Int) (v : Value) : (nR ar ao c f hen dom tv h).pre W bs [.row T s n vs, .val (.int .i64 r)] [.val (.slice ao ar.length c), .val v] =
  (T = 243 /\ s = 261 /\ (∃ l : List Nd, vs = cK l /\ n = l.length) /\ dom v /\ n + aG (tv v) <= 4000000 /\ ej W (Out bs) ao (cK ar)) := by
 apply propext
 constructor
 ·rintro ⟨l, r', v', h1, h2, h3, h4, h5⟩
  simp only [List.cons.injEq, AV.row.injEq, AV.val.injEq, and_true] at h1 h2
  obtain ⟨⟨rfl, rfl, rfl, rfl⟩, _⟩ := h1
  obtain ⟨_, rfl⟩ := h2
  exact ⟨rfl, rfl, ⟨l, rfl, rfl⟩, h3, h4, h5⟩
 ·rintro ⟨rfl, rfl, ⟨l, rfl, rfl⟩, h3, h4, h5⟩
  exact ⟨l, r, v, rfl, rfl, h3, h4, h5⟩
end
def Mn (ts : List RT) (v : Value) : Rx := match v with
 | .int _ x => (ts.getD x.toNat .eps).expand
 | _ => .eps
theorem sC (ts : List RT) (k : IntKind) (x : Int) : Mn ts (.int k x) = (ts.getD x.toNat .eps).expand := rfl
def Ly (ts : List RT) (v : Value) : Rx := .alt (Mn ts v) .eps
def below (n : Nat) (v : Value) : Prop := ∃ x : Int, v = .int .i64 x /\ 0 <= x /\ x < n
theorem nr (n : Nat) (x : Int) : below n (.int .i64 x) = (0 <= x /\ x < n) := by
 apply propext
 constructor
 ·rintro ⟨y, h, h1, h2⟩
  simp only [Value.int.injEq, true_and] at h
  subst h
  exact ⟨h1, h2⟩
 ·exact fun h => ⟨x, rfl, h⟩
abbrev gQ (ar : List Nd) (ts : List RT) (ao : Option Addr) (c n : Nat) : Prop := ∀ v, below n v -> GV ar ao c 124 v (Mn ts v)
abbrev KN (ar : List Nd) (ts : List RT) (ao : Option Addr) (c n : Nat) : Prop := ∀ v, below n v -> GV ar ao c 215 v (Ly ts v)
section
variable (ar : List Nd) (ts : List RT) (ao : Option Addr) (c n : Nat)
noncomputable def Γ68 (h : gQ ar ts ao c n) : Env Tryz.prog := ⟨fun | 124 => some (nR ar ao c 124 Tryz.call124 (below n) (Mn ts) h).spec | 177 => some yu.spec | _ => none, fun _ => none, fun _ _ => none⟩
theorem Gt68c124 (h : gQ ar ts ao c n) : (Γ68 ar ts ao c n h).sp 124 = some (nR ar ao c 124 Tryz.call124 (below n) (Mn ts) h).spec := rfl
theorem Gt68c177 (h : gQ ar ts ao c n) : (Γ68 ar ts ao c n h).sp 177 = some yu.spec := rfl
def Kn := (aq jn cQ cV cX cS rB rC (aq rG pJ s3 sY tZ u9 s7 (aq sP o7 qX qZ oI rQ rM (aq qT rE qU q5 rS AQ Bg (aq A6 CP AN @aO @au @aB @aC (aq @tH @tC @FI @zv @po @o9 @mR (fj @nr @sC @Gt68c124 @Gt68c177)))))))
set_option maxHeartbeats 2000000 in
theorem Hn (hg : gQ ar ts ao c n) : KN ar ts ao c n := by
 rintro _ ⟨x, rfl, hx⟩ l r u fp w hl ho hlt hs
 have hrs : aG (Ly ts (.int .i64 x)) = aG (ts.getD x.toNat .eps).expand + 1 + 1 := rfl
 have hla : ∀ m, dr m (Ly ts (.int .i64 x)) = dr m (ts.getD x.toNat .eps).expand ++ ([bO 0 0 0] ++ [bO 3 ((m + aG (ts.getD x.toNat .eps).expand - 1 : Nat) : Int) ((m + aG (ts.getD x.toNat .eps).expand + 1 - 1 : Nat) : Int)]) := fun m => rfl
 rw [hla, hrs]
 rw [hrs] at hl
 have hT := eG (ts.getD x.toNat .eps).expand l.length
 refine kb (nt := 19) _ _ [.tmp 6] (by show 2 <= 7; omega) ho hlt Tryz.func215 rfl rfl rfl ?_
 refine vR Γ0 Kn ?_
 refine wR (Γ68 ar ts ao c n hg) Kn ?_ ?_
 ·exact ⟨⟨⟨l, rfl, rfl⟩, hx, by omega, hs⟩, by decide, by simp⟩
 generalize (ts.getD x.toNat .eps).expand = T at *
 refine wR (Γ68 ar ts ao c n hg) Kn ?_ ?_
 ·exact ⟨⟨l ++ dr l.length T, by rw [bE], by rw [List.length_append, hT], by rw [List.length_append, hT]; omega⟩, by decide, by simp⟩
 refine wR (Γ68 ar ts ao c n hg) Kn ?_ ?_
 ·exact ⟨⟨l ++ dr l.length T ++ [bO 0 0 0], by rw [bE, bE, j7], by rw [List.length_append, List.length_append, hT]; rfl, by rw [List.length_append, List.length_append, hT, List.length_singleton]; omega⟩, by decide, by simp⟩
 refine wZ Kn ?_
 have e : (l.length + (aG T + 1 + 1) - 1 : Nat) = l.length + aG T + 1 := by omega
 have e2 : (l.length + aG T + 1 - 1 : Nat) = l.length + aG T := by omega
 have e3 : l.length + (aG T + 1 + 1) = l.length + aG T + 1 + 1 := by omega
 rw [e, e2, e3, bE, Tj, <- List.append_assoc, <- List.append_assoc]
 exact ⟨_, _, rfl, fun E => rfl, _, _, rfl, by simp only [dM, Op.operands, Value.cells, σ0, σB, Nat.reduceEqDiff, Nat.reduceAdd, Nat.reduceMul, Nat.reduceLT, Nat.reduceLeDiff, Nat.reduceBEq, ae, Int.reduceToNat, Int.reduceLT, Int.reduceLE, Nat.reduceDiv, Nat.reduceMod, Nat.reduceSub, Int.reducePow, Nat.reducePow, σP, σB3, Kn, aE]; rfl, by decide⟩
end
end
end Go.Proofs.YtnemkecffmdlnaaGreatDoor
