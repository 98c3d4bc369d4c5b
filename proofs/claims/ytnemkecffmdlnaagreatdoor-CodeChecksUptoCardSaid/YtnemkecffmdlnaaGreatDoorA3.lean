/-
 Part 3 of the proof (packed).
-/
import Derived.Test.YtnemkecffmdlnaaGreatDoorA2
import Derived.Lib.Bytealg
set_option linter.unusedSimpArgs false
set_option linter.unusedVariables false
set_option linter.defProp false
namespace Go.LE
section
open Go.RowKit
structure Sh where
 tm : Nat -> SV
 g : ∀ E k, den E (tm k) = den (fun _ => E k) (tm 0)
 k : ∀ k, ∀ j ∈ (tm k).keys, j = k
def Sh.val (s : Sh) (cs : List Value) : Value := den (fun _ => dm cs) (s.tm 0)
def Sh.one : Sh := ⟨fun k => .part k 0, fun _ _ => rfl, fun k j hj => by simpa [SV.keys] using hj⟩
def Sh.two : Sh := ⟨fun k => .agg [.part k 0, .part k 1], fun _ _ => rfl, fun k j hj => by simpa [SV.keys, ax] using hj⟩
abbrev Kd := Option (Sh × FK)
def rN : Option Value -> Option (List Value) -> Option (List Value)
 | some v, some vs => some (v :: vs)
 | _, _ => none
def func2 (f : Fn) : Option (List Value) -> Option (List Value) -> Option Value
 | some a, some c => some (.func f a.toArray c.toArray)
 | _, _ => none
mutual
def cy : SV -> Option Value
 | .v x => some x
 | .agg l => (eU l).map fun vs => .agg vs.toArray
 | .ifc t x => (cy x).map (.iface t)
 | .fn f a c => func2 f (eU a) (eU c)
 | _ => none
def eU : List SV -> Option (List Value)
 | [] => some []
 | x :: r => rN (cy x) (eU r)
end
mutual
theorem nW {E : Nat -> Value} : ∀ {x : SV} {v : Value}, cy x = some v -> den E x = v
 | .v x, v, h => by simp only [cy, Option.some.injEq] at h; exact h
 | .own _ _, v, h => by simp [cy] at h
 | .hd _, v, h => by simp [cy] at h
 | .part _ _, v, h => by simp [cy] at h
 | .tup _, v, h => by simp [cy] at h
 | .agg l, v, h => by
  simp only [cy, Option.map_eq_some_iff] at h
  obtain ⟨vs, h1, rfl⟩ := h
  simp only [den, lv h1]
 | .ifc t x, v, h => by
  simp only [cy, Option.map_eq_some_iff] at h
  obtain ⟨y, h1, rfl⟩ := h
  simp only [den, nW h1]
 | .fn f a c, v, h => by
  simp only [cy] at h
  cases h1 : eU a with
  | none => rw [h1] at h; simp [func2] at h
  | some a' =>
   cases h2 : eU c with
   | none => rw [h1, h2] at h; simp [func2] at h
   | some c' =>
    rw [h1, h2] at h
    simp only [func2, Option.some.injEq] at h
    subst h
    simp only [den, lv h1, lv h2]
theorem lv {E : Nat -> Value} : ∀ {l : List SV} {vs : List Value}, eU l = some vs -> an E l = vs
 | [], vs, h => by simp only [eU, Option.some.injEq] at h; subst h; rfl
 | x :: r, vs, h => by
  simp only [eU] at h
  cases h1 : cy x with
  | none => rw [h1] at h; simp [rN] at h
  | some v' =>
   cases h2 : eU r with
   | none => rw [h1, h2] at h; simp [rN] at h
   | some vs' =>
    rw [h1, h2] at h
    simp only [rN, Option.some.injEq] at h
    subst h
    simp only [an, nW h1, lv h2]
end
def jE : SV -> Option Nat
 | .part k _ => some k
 | .agg (.part k _ :: _) => some k
 | _ => none
structure GV1 where
 p : Prop
 a : AV
 rs : List Nat
 cs : List Nat
structure GVL where
 p : Prop
 as_ : List AV
 rs : List Nat
 cs : List Nat
def Vs : Option (AV × List Nat) -> GV1
 | some (a, r) => ⟨True, a, r, []⟩
 | none => ⟨False, .val undef, [], []⟩
def V1 (G : Nat -> Prop) (W : World) (bs : List Nat) (sh : Sh) (Φ : FK) (x : SV) (k : Nat) : Option bm -> GV1
 | some (.obj d R) => ⟨x = sh.tm k /\ d = [] /\ R = iF G W bs Φ, .val undef, [k], [k]⟩
 | _ => ⟨False, .val undef, [], []⟩
def UR (G : Nat -> Prop) (W : World) (bs : List Nat) (h : Hp) (sh : Sh) (Φ : FK) (x : SV) : Option Value -> Option Nat -> GV1
 | some v, _ => ⟨∃ cs, v = sh.val cs /\ Φ.Φ cs W (eY G bs), .val undef, [], []⟩
 | none, some k => V1 G W bs sh Φ x k (h k)
 | none, none => ⟨False, .val undef, [], []⟩
def vA (G : Nat -> Prop) (W : World) (bs : List Nat) (h : Hp) : Kd -> SV -> GV1
 | none, x => Vs (cc h x)
 | some (sh, Φ), x => UR G W bs h sh Φ x (cy x) (jE x)
def Wf (a : GV1) (l : GVL) : GVL := ⟨a.p /\ l.p, a.a :: l.as_, a.rs ++ l.rs, a.cs ++ l.cs⟩
def lA (G : Nat -> Prop) (W : World) (bs : List Nat) (h : Hp) : List Kd -> List SV -> GVL
 | [], [] => ⟨True, [], [], []⟩
 | kd :: ks, x :: r => Wf (vA G W bs h kd x) (lA G W bs h ks r)
 | _, _ => ⟨False, [], [], []⟩
def rl (w : World) (S : Nat -> Prop) : List Kd -> List Value -> List AV -> Prop
 | [], [], [] => True
 | none :: ks, u :: us, a :: as_ => uu w u a /\ rl w S ks us as_
 | some (sh, Φ) :: ks, u :: us, _ :: as_ => (∃ cs, u = sh.val cs /\ Φ.Φ cs w S) /\ rl w S ks us as_
 | _, _, _ => False
section
variable {P : Program} {W : World} {bs : List Nat} {κ : Nat} {E : Nat -> Value} {F : Nat -> List Nat} {h : Nat -> Option bm} {w : World} {K : Nat -> Prop} {G : Nat -> Prop}
def Ge (w : World) (S : Nat -> Prop) (u : Value) (a : AV) : Kd -> Prop
 | none => uu w u a
 | some (sh, Φ) => ∃ cs, u = sh.val cs /\ Φ.Φ cs w S
theorem TE (hs : ak W bs E F h w) {S : Nat -> Prop} (hS : ∀ b, b < W.heap.size -> eY G bs b -> S b) {kd : Kd} {x : SV} (hp : (vA G W bs h kd x).p) (hc : ∀ k ∈ (vA G W bs h kd x).cs, ∀ b ∈ F k, S b) :
  Ge w S (den E x) (vA G W bs h kd x).a kd := by
 match kd with
 | none =>
  simp only [vA, Ge] at hp ⊢
  cases hv : cc h x with
  | none => rw [hv] at hp; exact hp.elim
  | some q => obtain ⟨a, r⟩ := q; exact w9 hs hv
 | some (sh, Φ) =>
  simp only [vA, Ge] at hp hc ⊢
  cases hv : cy x with
  | some v =>
   rw [hv] at hp
   obtain ⟨cs, h1, h2⟩ := hp
   exact ⟨cs, by rw [nW hv, h1], Φ.mono (fun b hb hr => ⟨hs.keeps.block b hb hr.2, hS b hb hr⟩) h2⟩
  | none =>
   rw [hv] at hp hc
   cases hk : jE x with
   | none => rw [hk] at hp; exact hp.elim
   | some k =>
    rw [hk] at hp hc
    simp only [UR] at hp hc
    cases hkk : h k with
    | none => rw [hkk] at hp; exact hp.elim
    | some e =>
     rw [hkk] at hp hc
     cases e with
     | cells T vs => exact hp.elim
     | row T s n vs => exact hp.elim
     | obj d R =>
      obtain ⟨hx, rfl, rfl⟩ := hp
      obtain ⟨⟨⟨hG, cs, h1, h2⟩, _⟩, _⟩ := hs.ent k _ hkk
      refine ⟨cs, ?_, h2 w S (fun b hb hr => ⟨hs.keeps.block b hb hr.2, hS b hb hr⟩) fun b hb => ⟨rfl, hc k (by simp [V1]) b hb⟩⟩
      rw [hx, sh.g E k, h1]; rfl
theorem zr (hs : ak W bs E F h w) {S : Nat -> Prop} (hS : ∀ b, b < W.heap.size -> eY G bs b -> S b) : ∀ {kds : List Kd} {l : List SV}, (lA G W bs h kds l).p -> (∀ k ∈ (lA G W bs h kds l).cs, ∀ b ∈ F k, S b) ->
  rl w S kds (an E l) (lA G W bs h kds l).as_
 | [], [], _, _ => trivial
 | [], _ :: _, hp, _ => hp.elim
 | _ :: _, [], hp, _ => hp.elim
 | kd :: ks, x :: r, hp, hc => by
  have h1 := TE hs hS (kd := kd) (x := x) hp.1 (fun k hk => hc k (List.mem_append_left _ hk))
  have h2 := zr hs hS (kds := ks) (l := r) hp.2 (fun k hk => hc k (List.mem_append_right _ hk))
  revert h1
  cases kd with
  | none => exact fun h1 => ⟨h1, h2⟩
  | some q => exact fun h1 => ⟨h1, h2⟩
theorem Sa {h' : Hp} {kd : Kd} {x : SV} (hp : (vA G W bs h kd x).p) (hr : ∀ k ∈ (vA G W bs h kd x).rs, h' k = h k) : vA G W bs h' kd x = vA G W bs h kd x := by
 match kd with
 | none =>
  simp only [vA] at hp hr ⊢
  cases hv : cc h x with
  | none => rw [hv] at hp; exact hp.elim
  | some q =>
   obtain ⟨a, r⟩ := q
   rw [hv] at hr
   rw [xA hv hr]
 | some (sh, Φ) =>
  simp only [vA] at hp hr ⊢
  cases hv : cy x with
  | some v => rfl
  | none =>
   rw [hv] at hp hr
   cases hk : jE x with
   | none => rfl
   | some k =>
    rw [hk] at hp hr
    simp only [UR] at hp hr ⊢
    cases hkk : h k with
    | none => rw [hkk] at hp; exact hp.elim
    | some e =>
     rw [hkk] at hp hr
     cases e with
     | cells T vs => exact hp.elim
     | row T s n vs => exact hp.elim
     | obj d R => rw [hr k (by simp [V1]), hkk]
theorem Ad {h' : Hp} : ∀ {kds : List Kd} {l : List SV}, (lA G W bs h kds l).p -> (∀ k ∈ (lA G W bs h kds l).rs, h' k = h k) -> lA G W bs h' kds l = lA G W bs h kds l
 | [], [], _, _ => rfl
 | [], _ :: _, hp, _ => hp.elim
 | _ :: _, [], hp, _ => hp.elim
 | kd :: ks, x :: r, hp, hr => by
  have hp' : (vA G W bs h kd x).p /\ (lA G W bs h ks r).p := hp
  show Wf (vA G W bs h' kd x) (lA G W bs h' ks r) = Wf (vA G W bs h kd x) (lA G W bs h ks r)
  rw [Sa hp'.1 fun k hk => hr k (List.mem_append_left _ hk), Ad hp'.2 fun k hk => hr k (List.mem_append_right _ hk)]
theorem Ti {kd : Kd} {x : SV} (hp : (vA G W bs h kd x).p) : ∀ k ∈ (vA G W bs h kd x).cs, ∃ Φ, h k = some (.obj [] (iF G W bs Φ)) := by
 match kd with
 | none =>
  simp only [vA] at hp ⊢
  cases hv : cc h x with
  | none => rw [hv] at hp; exact hp.elim
  | some q => intro k hk; cases hk
 | some (sh, Φ) =>
  simp only [vA] at hp ⊢
  cases hv : cy x with
  | some v => intro k hk; cases hk
  | none =>
   rw [hv] at hp
   cases hk : jE x with
   | none => rw [hk] at hp; exact hp.elim
   | some k =>
    rw [hk] at hp
    simp only [UR] at hp ⊢
    cases hkk : h k with
    | none => rw [hkk] at hp; exact hp.elim
    | some e =>
     rw [hkk] at hp
     cases e with
     | cells T vs => exact hp.elim
     | row T s n vs => exact hp.elim
     | obj d R =>
      obtain ⟨hx, rfl, rfl⟩ := hp
      intro j hj
      simp only [V1, List.mem_singleton] at hj
      subst hj
      exact ⟨Φ, hkk⟩
theorem pC : ∀ {kds : List Kd} {l : List SV}, (lA G W bs h kds l).p -> ∀ k ∈ (lA G W bs h kds l).cs, ∃ Φ, h k = some (.obj [] (iF G W bs Φ))
 | [], [], _, k, hk => by cases hk
 | [], _ :: _, hp, _, _ => hp.elim
 | _ :: _, [], hp, _, _ => hp.elim
 | kd :: ks, x :: r, hp, k, hk => by
  rcases List.mem_append.1 hk with hk | hk
  ·exact Ti hp.1 k hk
  ·exact pC hp.2 k hk
end
inductive FOut where
 | val (v : Value)
 | fact (sh : Sh) (Φ : FK)
 | pan (c : List PanicEntry) (v : Value)
def l4 (w : World) (S : Nat -> Prop) (e : Ending) (w' : World) : FOut -> Prop
 | .val v => e = .returned v /\ ai w [] w'
 | .fact sh Φ => ∃ cs, e = .returned (sh.val cs) /\ Φ.Φ cs w' (fun b => b < w.heap.size -> S b) /\ ai w [] w'
 | .pan c _ => e = .panicked c /\ ai w [] w'
structure j8 (P : Program) (f : FuncId) where
 kinds : List Kd
 pre : List AV -> World -> (Nat -> Prop) -> Prop
 premono : ∀ as_ W S W' S', cr W S W' S' -> pre as_ W S -> pre as_ W' S'
 out : List AV -> FOut
 enters : ∀ args w, (callFunc f args).run P w = .ok (.enter f args) w
 ok : ∀ (w : World) (S : Nat -> Prop) (us : List Value) (as_ : List AV), rl w S kinds us as_ -> pre as_ w S -> Calls P f us.toArray w fun e w' => l4 w S e w' (out as_)
def oF (G : Nat -> Prop) (κ : Nat) (W : World) (bs : List Nat) (q : Prop) (rs cs : List Nat) : FOut -> R
 | .val v => ⟨q, .v v, [], none, [], rs⟩
 | .fact sh Φ => ⟨q /\ Up G W bs, sh.tm (8 * κ), dC cs ++ [(8 * κ, some (.obj [] (iF G W bs Φ)))], none, [], rs⟩
 | .pan c v => ⟨q, .v v, [], some c, [], rs⟩
def uW (G : Nat -> Prop) (κ : Nat) (W : World) (bs : List Nat) (pre : List AV -> World -> (Nat -> Prop) -> Prop) (out : List AV -> FOut) (g : GVL) : R :=
 oF G κ W bs (g.p /\ pre g.as_ W (eY G bs)) g.rs g.cs (out g.as_)
theorem Qi {W w : World} {bs : List Nat} {G : Nat -> Prop} {S : Nat -> Prop} (hk : ai W bs w) (hS : ∀ b, b < W.heap.size -> eY G bs b -> S b) : cr W (eY G bs) w S := fun b hb hr => ⟨hk.block b hb hr.2, hS b hb hr⟩
theorem xz {W w w' : World} {bs fp0 fp : List Nat} {G S Sn : Nat -> Prop} {Φ : FK} {cs : List Value} (hk : ai W bs w) (hkeep : ai w fp0 w')
  (hΦ : Φ.Φ cs w' Sn) (hS : ∀ b, S b -> (b < W.heap.size /\ eY G bs b) \/ b ∈ fp) (hS0 : ∀ b, b < W.heap.size -> eY G bs b -> b ∉ fp0)
  (hn : ∀ b, b < w'.heap.size -> Sn b -> (b < w.heap.size /\ S b) \/ b ∈ fp) (hG : ∀ b ∈ fp, G b) :
  ∀ w3 : World, (∀ b ∈ fp, w3.heap[b]? = w'.heap[b]?) -> iF G W bs Φ [] (dm cs) fp w3 := by
 intro w3 h3
 refine ⟨hG, cs, rfl, fun W₂ S₂ hold hnew => Φ.mono (fun b hb hg => ?_) hΦ⟩
 have inFp : b ∈ fp -> W₂.heap[b]? = w'.heap[b]? /\ S₂ b := fun hb' => by
  obtain ⟨g3, g4⟩ := hnew b hb'
  exact ⟨by rw [g3, h3 b hb'], g4⟩
 rcases hn b hb hg with ⟨hb1, hb2⟩ | hb'
 ·rcases hS b hb2 with ⟨g1, g2⟩ | hb'
  ·obtain ⟨g3, g4⟩ := hold b g1 g2
   exact ⟨by rw [g3, hkeep.block b hb1 (hS0 b g1 g2), hk.block b g1 g2.2], g4⟩
  ·exact inFp hb'
 ·exact inFp hb'
theorem l8 {w w' : World} (hs : w.heap.size <= w'.heap.size) (b : Nat) : b ∈ List.range' w.heap.size (w'.heap.size - w.heap.size) ↔ w.heap.size <= b /\ b < w'.heap.size := by
 rw [List.mem_range'_1]
 omega
def j8.spec {P : Program} {f : FuncId} (p : j8 P f) (G : Nat -> Prop) : Spec P f where
 ev := fun W bs κ h args => uW G κ W bs p.pre p.out (lA G W bs h p.kinds args)
 good := fun W bs κ E F h w K args hs hK hk hx hside => by
  rw [p.enters]
  have hS : ∀ b, b < W.heap.size -> eY G bs b -> (b < W.heap.size /\ eY G bs b) \/ ∃ k ∈ (lA G W bs h p.kinds args).cs, b ∈ F k := fun b h1 h2 => .inl ⟨h1, h2⟩
  have call : (lA G W bs h p.kinds args).p -> p.pre (lA G W bs h p.kinds args).as_ W (eY G bs) -> Calls P f (an E args).toArray w fun e w' => l4 w (fun b => (b < W.heap.size /\ eY G bs b) \/ ∃ k ∈ (lA G W bs h p.kinds args).cs, b ∈ F k) e w' (p.out (lA G W bs h p.kinds args).as_) := fun h1 h2 =>
   p.ok w _ _ _ (zr hs hS h1 fun k hk b hb => .inr ⟨k, hk, hb⟩) (p.premono _ _ _ _ _ (Qi hs.keeps hS) h2)
  revert hside
  unfold uW
  cases hout : p.out (lA G W bs h p.kinds args).as_ with
  | val v =>
   rintro ⟨h1, h2⟩
   have hc := call h1 h2
   rw [hout] at hc
   exact qk hs hc rfl rfl rfl
  | pan c v =>
   rintro ⟨h1, h2⟩
   have hc := call h1 h2
   rw [hout] at hc
   refine hc.mono fun e w' he => ?_
   obtain ⟨rfl, hkeep⟩ := he
   exact ⟨rfl, F, (hs.grow hkeep).drop fun k e he => by simpa [oF, dropKeys] using he⟩
  | fact sh Φ =>
   rintro ⟨⟨h1, h2⟩, hup⟩
   have hc := call h1 h2
   rw [hout] at hc
   refine hc.mono fun e w' he => ?_
   obtain ⟨cs, rfl, hΦ, hkeep⟩ := he
   have hobj := pC h1
   have hK8 : ¬ K (8 * κ) := hk _ (by omega)
   have hR := xz (G := G) (S := fun b => (b < W.heap.size /\ eY G bs b) \/ ∃ k ∈ (lA G W bs h p.kinds args).cs, b ∈ F k) (fp := List.range' w.heap.size (w'.heap.size - w.heap.size) ++ (lA G W bs h p.kinds args).cs.flatMap F) hs.keeps hkeep hΦ
    (fun b hb => hb.elim .inl fun ⟨k, hk, hbk⟩ => .inr (List.mem_append_right _ (List.mem_flatMap.2 ⟨k, hk, hbk⟩))) (fun _ _ _ => by simp)
    (fun b hb hn => by
     by_cases hbw : b < w.heap.size
     ·exact .inl ⟨hbw, hn hbw⟩
     ·exact .inr (List.mem_append_left _ ((l8 hkeep.size b).2 ⟨by omega, hb⟩)))
    (fun b hb => by
     rcases List.mem_append.1 hb with hb | hb
     ·exact hup b (.inl (Nat.le_trans hs.keeps.size ((l8 hkeep.size b).1 hb).1))
     ·obtain ⟨k, hk, hbk⟩ := List.mem_flatMap.1 hb
      obtain ⟨Φ', hk'⟩ := hobj k hk
      exact (hs.ent k _ hk').1.1.1 b hbk)
   refine ⟨rfl, bg E (8 * κ) (dm cs), bg F (8 * κ) (List.range' w.heap.size (w'.heap.size - w.heap.size) ++ (lA G W bs h p.kinds args).cs.flatMap F), fun k hk' => aj _ _ fun e => hk' (by subst e; omega), ?_, ?_⟩
   ·simp only [oF]
    rw [sh.g, af]; rfl
   ·simp only [oF]
    have hne : ∀ j x, h j = some x -> j ≠ 8 * κ := fun j x hj e => hK8 (e ▸ (hK j x hj).1)
    refine hs.mu hK (lA G W bs h p.kinds args).cs (bg (fun _ => none) (8 * κ) (some (.obj [] (iF G W bs Φ)))) (fun j hj => ?_) (fun j hj => aj _ _ fun e => hK8 (e ▸ hj)) (fun j e he => ?_) (fun i j e e' hij hi hj b hb => ?_) (fun j x hx hj => aj _ _ (hne j x hx)) (fun j => ?_) (hkeep.mono fun b hb => by cases hb)
    ·obtain ⟨Φ', hj'⟩ := hobj j hj; exact ⟨_, hj'⟩
    ·by_cases hj : j = 8 * κ
     ·subst hj
      simp only [af, Option.some.injEq] at he
      subst he
      rw [af, af]
      refine ⟨⟨⟨hR w' fun _ _ => rfl, rfl⟩, hR⟩, fun b hb => ?_, fun b hb => ?_⟩
      ·rcases List.mem_append.1 hb with hb | hb
       ·exact .inr ((l8 hkeep.size b).1 hb).1
       ·obtain ⟨k, hk, hbk⟩ := List.mem_flatMap.1 hb; exact .inl ⟨k, hk, hbk⟩
      ·rcases List.mem_append.1 hb with hb | hb
       ·exact ((l8 hkeep.size b).1 hb).2
       ·obtain ⟨k, hk, hbk⟩ := List.mem_flatMap.1 hb
        obtain ⟨Φ', hk'⟩ := hobj k hk
        exact Nat.lt_of_lt_of_le (hs.lt k _ hk' b hbk) hkeep.size
     ·rw [aj _ _ hj] at he; cases he
    ·by_cases hi' : i = 8 * κ
     ·by_cases hj' : j = 8 * κ
      ·exact absurd (hi'.trans hj'.symm) hij
      ·rw [aj _ _ hj'] at hj; cases hj
     ·rw [aj _ _ hi'] at hi; cases hi
    ·rw [ck]
     simp only [aY]
     by_cases hj : j = 8 * κ
     ·subst hj; simp [af]
     ·rw [aj _ _ hj, aj _ _ hj, ko]
 keys := fun W bs κ h K args hK hx hside => by
  revert hside
  unfold uW
  cases hout : p.out (lA G W bs h p.kinds args).as_ with
  | val v => exact fun _ => aH.plain (fun k hk => by cases hk) rfl
  | pan c v => exact fun _ => aH.plain (fun k hk => by cases hk) rfl
  | fact sh Φ =>
   rintro ⟨⟨h1, h2⟩, hup⟩
   refine ⟨fun k hk => .inr (by rw [sh.k _ k hk]; omega), fun q hq => ?_⟩
   simp only [oF, List.mem_append, List.mem_singleton, dC, List.mem_map] at hq
   rcases hq with ⟨j, hj, rfl⟩ | rfl
   ·obtain ⟨Φ', hj'⟩ := pC h1 j hj
    exact ⟨.inl (hK j _ hj').1, fun e he => by cases he⟩
   ·refine ⟨.inr (by simp only; omega), fun e he k hk => ?_⟩
    simp only [Option.some.injEq] at he
    subst he
    cases hk
 loc := fun W bs κ h h' args hside hr => by
  have hp : (lA G W bs h p.kinds args).p := by
   revert hside
   unfold uW
   cases p.out (lA G W bs h p.kinds args).as_ with
   | val v => exact fun h => h.1
   | pan c v => exact fun h => h.1
   | fact sh Φ => exact fun h => h.1.1
  have hr' : ∀ k ∈ (lA G W bs h p.kinds args).rs, h' k = h k := by
   revert hr
   unfold uW
   cases p.out (lA G W bs h p.kinds args).as_ <;> exact fun h => h
  rw [Ad hp hr']
theorem fe {P : Program} {f : FuncId} (p : j8 P f) (G : Nat -> Prop) (W : World) (bs : List Nat) (κ : Nat) (h : Hp) (l : List SV) : (p.spec G).ev W bs κ h l = uW G κ W bs p.pre p.out (lA G W bs h p.kinds l) := rfl
end
section
open Go.RowKit
inductive GOut where
 | ret (v : Value) (fs : List AV)
 | fact (sh : Sh) (Φ : FK) (fs : List AV)
 | pan (c : List PanicEntry) (v : Value)
def yl (w : World) (S : Nat -> Prop) (u : Value) (fp : List Nat) (T : TypeId) (e : Ending) (w' : World) : GOut -> Prop
 | .ret v fs => e = .returned v /\ (∃ fp', bz w' u fp' T fs /\ (∀ b ∈ fp', b ∈ fp \/ w.heap.size <= b) /\ ∀ b ∈ fp', b < w'.heap.size) /\ ai w fp w'
 | .fact sh Φ fs => ∃ cs, e = .returned (sh.val cs) /\ (∃ fp', bz w' u fp' T fs /\ (∀ b ∈ fp', b ∈ fp \/ w.heap.size <= b) /\ (∀ b ∈ fp', b < w'.heap.size) /\ Φ.Φ cs w' (fun b => (b < w.heap.size -> S b \/ b ∈ fp) /\ b ∉ fp')) /\ ai w fp w'
 | .pan c _ => e = .panicked c /\ ai w fp w'
structure wU (P : Program) (f : FuncId) where
 T : TypeId
 kinds : List Kd
 pre : List AV -> List AV -> World -> (Nat -> Prop) -> Prop
 premono : ∀ fs as_ W S W' S', cr W S W' S' -> pre fs as_ W S -> pre fs as_ W' S'
 out : List AV -> List AV -> GOut
 enters : ∀ args w, (callFunc f args).run P w = .ok (.enter f args) w
 ok : ∀ (w : World) (S : Nat -> Prop) (u : Value) (fp : List Nat) (us : List Value) (fs as_ : List AV), bz w u fp T fs -> (∀ b ∈ fp, b < w.heap.size) -> (∀ b ∈ fp, ¬ S b) -> rl w S kinds us as_ -> pre fs as_ w S ->
  Calls P f (u :: us).toArray w fun e w' => yl w S u fp T e w' (out fs as_)
def mH (G : Nat -> Prop) (κ k : Nat) (T : TypeId) (W : World) (bs : List Nat) (q : Prop) (rs rs' cs : List Nat) : GOut -> R
 | .ret v fs => ⟨q /\ (k :: rs).Nodup /\ (∀ j ∈ rs', j ∉ k :: rs) /\ fs.length <= 7, .v v, dC rs ++ (cn (aS (8 * κ) fs) ++ [(k, some (.cells T (aI (8 * κ) fs)))]), none, [], k :: (rs ++ rs')⟩
 | .fact sh Φ fs => ⟨q /\ (k :: rs).Nodup /\ (∀ j ∈ rs', j ∉ k :: rs) /\ fs.length <= 7 /\ Up G W bs, sh.tm (8 * κ + 7),
   dC (rs ++ cs) ++ (cn (aS (8 * κ) fs) ++ [(k, some (.cells T (aI (8 * κ) fs))), (8 * κ + 7, some (.obj [] (iF G W bs Φ)))]), none, [], k :: (rs ++ rs')⟩
 | .pan c v => ⟨q /\ (k :: rs).Nodup /\ (∀ j ∈ rs', j ∉ k :: rs), .v v, [], some c, k :: rs, k :: (rs ++ rs')⟩
def vu (G : Nat -> Prop) (κ k : Nat) (T T' : TypeId) (W : World) (bs : List Nat) (pre : List AV -> List AV -> World -> (Nat -> Prop) -> Prop) (out : List AV -> List AV -> GOut) (g : GVL) : Option (List AV × List Nat) -> R
 | some (fs, rs) => mH G κ k T W bs (T' = T /\ g.p /\ pre fs g.as_ W (eY G bs)) rs g.rs g.cs (out fs g.as_)
 | none => .bad
def ux (G : Nat -> Prop) (h : Hp) (κ k : Nat) (T : TypeId) (W : World) (bs : List Nat) (pre : List AV -> List AV -> World -> (Nat -> Prop) -> Prop) (out : List AV -> List AV -> GOut) (g : GVL) : Option bm -> R
 | some (.cells T' vs) => vu G κ k T T' W bs pre out g (ay h vs)
 | _ => .bad
def wV (G : Nat -> Prop) (h : Hp) (κ : Nat) (T : TypeId) (W : World) (bs : List Nat) (kinds : List Kd) (pre : List AV -> List AV -> World -> (Nat -> Prop) -> Prop) (out : List AV -> List AV -> GOut) : List SV -> R
 | .own k 0 :: rest => ux G h κ k T W bs pre out (lA G W bs h kinds rest) (h k)
 | _ => .bad
section
variable {P : Program} {W : World} {bs : List Nat} {κ : Nat} {E : Nat -> Value} {F : Nat -> List Nat} {h : Nat -> Option bm} {w : World} {K : Nat -> Prop} {G : Nat -> Prop}
theorem I4 {w' : World} {k : Nat} {T : TypeId} {vs : List SV} {fs fs' : List AV} {rs fp' ks' fpn : List Nat} {cs : List Value} {R : List Value -> Value -> List Nat -> World -> Prop} (hs : ak W bs E F h w) (hK : bI K h) (hk : ∀ k, k / 8 = κ -> ¬ K k)
  (hkk : h k = some (.cells T vs)) (hv : ay h vs = some (fs, rs)) (hlen : fs'.length <= 7) (hn : (k :: rs).Nodup) (hks : ∀ j ∈ ks', ∃ d R, h j = some (.obj d R))
  (ho : bz w' (E k) fp' T fs') (h1 : ∀ b ∈ fp', b ∈ (k :: rs).flatMap F \/ w.heap.size <= b) (h2 : ∀ b ∈ fp', b < w'.heap.size)
  (hfn : ∀ b ∈ fpn, b ∉ fp' /\ b < w'.heap.size /\ ((∃ j ∈ k :: (rs ++ ks'), b ∈ F j) \/ w.heap.size <= b)) (hR : ∀ w3 : World, (∀ b ∈ fpn, w3.heap[b]? = w'.heap[b]?) -> R [] (dm cs) fpn w3)
  (hkeep : ai w ((k :: rs).flatMap F) w') :
  ∃ E' F', (∀ j, j / 8 ≠ κ -> E' j = E j) /\ E' (8 * κ + 7) = dm cs /\ ak W bs E' F' (aY h (dC (rs ++ ks') ++ (cn (aS (8 * κ) fs') ++ [(k, some (.cells T (aI (8 * κ) fs'))), (8 * κ + 7, some (.obj [] R))]))) w' := by
 obtain ⟨b, us, hu, hb, hus, rfl, hnd⟩ := ho
 have hl := fG hus
 have hKk : K k := (hK k _ hkk).1
 have hfr : ∀ j, 8 * κ <= j -> j < 8 * κ + 8 -> ¬ K j := fun j g1 g2 => hk j (by omega)
 have hk7 : k ≠ 8 * κ + 7 := fun e => hfr k (by omega) (by omega) hKk
 have hkf : k < 8 * κ \/ 8 * κ + 8 <= k := by
  by_cases g1 : k < 8 * κ
  ·exact .inl g1
  ·by_cases g2 : 8 * κ + 8 <= k
   ·exact .inr g2
   ·exact absurd hKk (hfr k (by omega) (by omega))
 have hE : ∀ j, j / 8 ≠ κ -> bg (fP (8 * κ) us E) (8 * κ + 7) (dm cs) j = E j := fun j hj => by
  rw [aj _ _ (by omega)]
  exact gU (by omega)
 have hsome : ∀ p ∈ cn (aS (8 * κ) fs') ++ [(k, some (.cells T (aI (8 * κ) fs'))), (8 * κ + 7, some (.obj [] R))], ∃ e, p.2 = some e := fun p hp => by
  rcases List.mem_append.1 hp with hp | hp
  ·obtain ⟨e, he, _⟩ := dS.1 hp; exact ⟨e, by rw [he]⟩
  ·simp at hp
   rcases hp with rfl | rfl
   ·exact ⟨_, rfl⟩
   ·exact ⟨_, rfl⟩
 have hrow7 : ∀ j e, (j, e) ∈ aS (8 * κ) fs' -> j ≠ 8 * κ + 7 := fun j e hm => by
  have := dn _ hm
  simp only at this
  omega
 have hNm : ∀ j e, aY (fun _ => none) (cn (aS (8 * κ) fs') ++ [(k, some (.cells T (aI (8 * κ) fs'))), (8 * κ + 7, some (.obj [] R))]) j = some e ->
   (j = k /\ e = .cells T (aI (8 * κ) fs')) \/ (j = 8 * κ + 7 /\ e = .obj [] R) \/ (j ≠ k /\ j ≠ 8 * κ + 7 /\ (j, e) ∈ aS (8 * κ) fs') := fun j e he => by
  rw [ck] at he
  simp only [aY] at he
  by_cases hj7 : j = 8 * κ + 7
  ·subst hj7; rw [af] at he; cases he; exact .inr (.inl ⟨rfl, rfl⟩)
  ·rw [aj _ _ hj7] at he
   by_cases hj : j = k
   ·subst hj; rw [af] at he; cases he; exact .inl ⟨rfl, rfl⟩
   ·rw [aj _ _ hj] at he
    rcases kQ (fun _ => (none : Option bm)) (k := j) (u := cn (aS (8 * κ) fs')) with ⟨x, hx, hx'⟩ | ⟨_, hx'⟩
    ·rw [hx'] at he
     subst he
     obtain ⟨e', h3, h4⟩ := dS.1 hx
     simp only [Prod.mk.injEq, true_and, Option.some.injEq] at h3
     subst h3
     exact .inr (.inr ⟨hj, hj7, h4⟩)
    ·rw [hx'] at he; cases he
 have hNk : aY (fun _ => none) (cn (aS (8 * κ) fs') ++ [(k, some (.cells T (aI (8 * κ) fs'))), (8 * κ + 7, some (.obj [] R))]) k = some (.cells T (aI (8 * κ) fs')) := by
  rw [ck]; simp only [aY]; rw [aj _ _ hk7, af]
 have hN7 : aY (fun _ => none) (cn (aS (8 * κ) fs') ++ [(k, some (.cells T (aI (8 * κ) fs'))), (8 * κ + 7, some (.obj [] R))]) (8 * κ + 7) = some (.obj [] R) := by
  rw [ck]; simp [aY, af]
 have hb' : b ∉ rO us fs' := (List.nodup_cons.1 hnd).1
 have hnd' : (rO us fs').Nodup := (List.nodup_cons.1 hnd).2
 have own : ∀ j ∈ k :: (rs ++ ks'), ∃ e, h j = some e := fun j hj => by
  rcases List.mem_cons.1 hj with rfl | hj
  ·exact ⟨_, hkk⟩
  ·rcases List.mem_append.1 hj with hj | hj
   ·exact (bN hs hv).2 j hj
   ·obtain ⟨d, R', h'⟩ := hks j hj; exact ⟨_, h'⟩
 refine ⟨bg (fP (8 * κ) us E) (8 * κ + 7) (dm cs), bg (bg (fM (8 * κ) us fs' F) k [b]) (8 * κ + 7) fpn, hE, by rw [af], ?_⟩
 refine hs.mu hK (k :: (rs ++ ks')) (aY (fun _ => none) (cn (aS (8 * κ) fs') ++ [(k, some (.cells T (aI (8 * κ) fs'))), (8 * κ + 7, some (.obj [] R))])) own (fun j hj => hE j fun e => hk j e hj) (fun j e he => ?_) (fun i j e e' hij hi hj c hc => ?_) (fun j x hx hj => ?_) (fun j => ?_) ?_
 ·rcases hNm j e he with ⟨rfl, rfl⟩ | ⟨rfl, rfl⟩ | ⟨hjk, hj7, hm⟩
  ·rw [aj _ _ hk7, aj _ _ hk7, af, gU (by omega)]
   refine ⟨⟨b, hu, rfl, ?_⟩, fun c hc => ?_, fun c hc => h2 c (by simp at hc; simp [hc])⟩
   ·rw [bG (E' := fP (8 * κ) us E) _ fun i hi => aj _ _ (by have := cm i hi; omega), ew hus]; exact hb
   ·simp only [List.mem_singleton] at hc
    subst hc
    rcases h1 c (by simp) with g | g
    ·obtain ⟨i, hi, hci⟩ := List.mem_flatMap.1 g
     exact .inl ⟨i, by rcases List.mem_cons.1 hi with hi | hi
                       ·exact List.mem_cons.2 (.inl hi)
                       ·exact List.mem_cons.2 (.inr (List.mem_append_left _ hi)), hci⟩
    ·exact .inr g
  ·rw [af, af]
   refine ⟨⟨⟨hR w' fun _ _ => rfl, rfl⟩, hR⟩, fun c hc => (hfn c hc).2.2, fun c hc => (hfn c hc).2.1⟩
  ·rw [aj _ _ hj7, aj _ _ hj7, aj _ _ hjk]
   obtain ⟨g1, g2⟩ := fN (E := E) (F := F) hus hm (fP (8 * κ) us E)
   refine ⟨iR (fun i hi => ?_) g1, fun c hc => ?_, fun c hc => h2 c (List.mem_cons_of_mem _ (g2 c hc))⟩
   ·rw [(dn _ hm).2.2] at hi; cases hi
   ·rcases h1 c (List.mem_cons_of_mem _ (g2 c hc)) with g | g
    ·obtain ⟨i, hi, hci⟩ := List.mem_flatMap.1 g
     exact .inl ⟨i, by rcases List.mem_cons.1 hi with hi | hi
                       ·exact List.mem_cons.2 (.inl hi)
                       ·exact List.mem_cons.2 (.inr (List.mem_append_left _ hi)), hci⟩
    ·exact .inr g
 ·have hrowfp : ∀ i e, i ≠ k -> i ≠ 8 * κ + 7 -> (i, e) ∈ aS (8 * κ) fs' -> ∀ c ∈ bg (bg (fM (8 * κ) us fs' F) k [b]) (8 * κ + 7) fpn i, c ∈ rO us fs' := fun i e g1 g2 hm c hc => by
   rw [aj _ _ g2, aj _ _ g1] at hc
   exact bB hl hm c hc
  rcases hNm i e hi with ⟨rfl, rfl⟩ | ⟨rfl, rfl⟩ | ⟨hik, hi7, hmi⟩
  ·rw [aj _ _ hk7, af] at hc
   simp only [List.mem_singleton] at hc
   subst hc
   rcases hNm j e' hj with ⟨rfl, rfl⟩ | ⟨rfl, rfl⟩ | ⟨hjk, hj7, hmj⟩
   ·exact absurd rfl hij
   ·rw [af]
    exact fun hc' => (hfn c hc').1 (by simp)
   ·exact fun hc' => hb' (hrowfp j e' hjk hj7 hmj c hc')
  ·rw [af] at hc
   have hc1 := (hfn c hc).1
   rcases hNm j e' hj with ⟨rfl, rfl⟩ | ⟨rfl, rfl⟩ | ⟨hjk, hj7, hmj⟩
   ·rw [aj _ _ hk7, af]
    exact fun hc' => hc1 (by simp at hc'; simp [hc'])
   ·exact absurd rfl hij
   ·exact fun hc' => hc1 (List.mem_cons_of_mem _ (hrowfp j e' hjk hj7 hmj c hc'))
  ·rcases hNm j e' hj with ⟨rfl, rfl⟩ | ⟨rfl, rfl⟩ | ⟨hjk, hj7, hmj⟩
   ·have := hrowfp i e hik hi7 hmi c hc
    rw [aj _ _ hk7, af]
    intro hc'
    simp only [List.mem_singleton] at hc'
    subst hc'
    exact hb' this
   ·have := hrowfp i e hik hi7 hmi c hc
    rw [af]
    exact fun hc' => (hfn c hc').1 (List.mem_cons_of_mem _ this)
   ·rw [aj _ _ hi7, aj _ _ hik] at hc
    rw [aj _ _ hj7, aj _ _ hjk]
    exact ek hnd' hmi hmj hl hij c hc
 ·have hjk : j ≠ k := fun e => by rw [e, hNk] at hj; cases hj
  have hj7 : j ≠ 8 * κ + 7 := fun e => by rw [e, hN7] at hj; cases hj
  rw [aj _ _ hj7, aj _ _ hjk]
  have hKj := (hK j x hx).1
  by_cases g1 : j < 8 * κ
  ·exact gz (.inl g1)
  ·by_cases g2 : 8 * κ + 8 <= j
   ·exact gz (.inr (by omega))
   ·exact absurd hKj (hfr j (by omega) (by omega))
 ·rw [ck, jC _ _ _ hsome, ko]
  cases hN : aY (fun _ => none) (cn (aS (8 * κ) fs') ++ [(k, some (.cells T (aI (8 * κ) fs'))), (8 * κ + 7, some (.obj [] R))]) j with
  | some e => rfl
  | none =>
   have hjk : j ≠ k := fun e => by rw [e, hNk] at hN; cases hN
   simp [hjk]
 ·refine hkeep.mono fun c hc => ?_
  obtain ⟨i, hi, hci⟩ := List.mem_flatMap.1 hc
  refine List.mem_flatMap.2 ⟨i, ?_, hci⟩
  rcases List.mem_cons.1 hi with hi | hi
  ·exact List.mem_cons.2 (.inl hi)
  ·exact List.mem_cons.2 (.inr (List.mem_append_left _ hi))
end
def wU.spec {P : Program} {f : FuncId} (p : wU P f) (G : Nat -> Prop) : Spec P f where
 ev := fun W bs κ h args => wV G h κ p.T W bs p.kinds p.pre p.out args
 good := fun W bs κ E F h w K args hs hK hk hx hside => by
  rw [p.enters]
  revert hside
  unfold wV
  split
  ·rename_i k rest
   generalize hg : lA G W bs h p.kinds rest = g
   cases hkk : h k with
   | none => exact fun hf => hf.elim
   | some e =>
    cases e with
    | row T s n vs => exact fun hf => hf.elim
    | obj d R => exact fun hf => hf.elim
    | cells T' vs =>
     simp only [ux]
     cases hv : ay h vs with
     | none => exact fun hf => hf.elim
     | some q =>
      obtain ⟨fs, rs⟩ := q
      simp only [vu]
      have hent := hs.ent k _ hkk
      obtain ⟨b, hu, _, _⟩ := hent
      have hden : den E (.own k 0) = E k := by simp [den, hu, base, cx]
      have hobj : g.p -> ∀ j ∈ g.cs, ∃ Φ, h j = some (.obj [] (iF G W bs Φ)) := fun hp => by rw [<- hg] at hp ⊢; exact pC hp
      have hown : ∀ j ∈ k :: rs, ∃ e, h j = some e /\ ∀ d R, e ≠ .obj d R := fun j hj => by
       rcases List.mem_cons.1 hj with rfl | hj
       ·exact ⟨_, hkk, fun _ _ e => by cases e⟩
       ·obtain ⟨T, s, n, us, h1⟩ := jg hv j hj
        exact ⟨_, h1, fun _ _ e => by cases e⟩
      have fD : ∀ c ∈ (k :: rs).flatMap F, (∃ j ∈ k :: rs, c ∈ F j) /\ c < w.heap.size /\ (W.heap.size <= c \/ c ∈ bs) := fun c hc => by
       obtain ⟨j, hj, hcj⟩ := List.mem_flatMap.1 hc
       obtain ⟨e, he, _⟩ := hown j hj
       exact ⟨⟨j, hj, hcj⟩, hs.lt j e he c hcj, hs.mine j e he c hcj⟩
      have hS0 : ∀ b, b < W.heap.size -> eY G bs b -> b ∉ (k :: rs).flatMap F := fun b h1 h2 hb => (fD b hb).2.2.elim (fun g => absurd g (Nat.not_le.2 h1)) h2.2
      have hS : ∀ b, b < W.heap.size -> eY G bs b -> (b < W.heap.size /\ eY G bs b) \/ ∃ j ∈ g.cs, b ∈ F j := fun b h1 h2 => .inl ⟨h1, h2⟩
      have hSf : g.p -> ∀ b ∈ (k :: rs).flatMap F, ¬ ((b < W.heap.size /\ eY G bs b) \/ ∃ j ∈ g.cs, b ∈ F j) := fun hp b hb hS => by
       rcases hS with ⟨h1, h2⟩ | ⟨j, hj, hbj⟩
       ·exact hS0 b h1 h2 hb
       ·obtain ⟨Φ, hj'⟩ := hobj hp j hj
        obtain ⟨i, hi, hbi⟩ := (fD b hb).1
        obtain ⟨e, he, hne⟩ := hown i hi
        refine hs.apart i j e _ (fun hij => ?_) he hj' b hbi hbj
        rw [hij, hj'] at he
        exact hne _ _ (Option.some.inj he).symm
      have call : ∀ hn : (k :: rs).Nodup, T' = p.T -> g.p -> p.pre fs g.as_ W (eY G bs) -> Calls P f (an E (.own k 0 :: rest)).toArray w fun e w' => yl w (fun b => (b < W.heap.size /\ eY G bs b) \/ ∃ j ∈ g.cs, b ∈ F j) (E k) ((k :: rs).flatMap F) p.T e w' (p.out fs g.as_) := fun hn hT hp hpre => by
       subst hT
       have ho := eC hs hkk hv hn
       have hgs := zr hs hS (kds := p.kinds) (l := rest) (by rw [hg]; exact hp) (by rw [hg]; exact fun j hj b hb => .inr ⟨j, hj, hb⟩)
       rw [hg] at hgs
       have := p.ok w _ (E k) _ (an E rest) fs g.as_ ho (fun c hc => (fD c hc).2.1) (hSf hp) hgs (p.premono _ _ _ _ _ _ (Qi hs.keeps hS) hpre)
       simpa only [an, hden] using this
      cases hout : p.out fs g.as_ with
      | ret v fs' =>
       simp only [mH]
       rintro ⟨⟨hT, hp, hpre⟩, hn, hd, hlen⟩
       have hc := call hn hT hp hpre
       rw [hout] at hc
       subst hT
       refine hc.mono fun e w' he => ?_
       obtain ⟨rfl, ⟨fp', ho, h1, h2⟩, hkeep⟩ := he
       obtain ⟨E', F', hE', hs'⟩ := mf hs hK hk hkk hv (by omega) hn ho h1 h2 hkeep
       exact ⟨rfl, E', F', hE', rfl, hs'⟩
      | fact sh Φ fs' =>
       simp only [mH]
       rintro ⟨⟨hT, hp, hpre⟩, hn, hd, hlen, hup⟩
       have hc := call hn hT hp hpre
       rw [hout] at hc
       subst hT
       refine hc.mono fun e w' he => ?_
       obtain ⟨cs, rfl, ⟨fp', ho, h1, h2, hΦ⟩, hkeep⟩ := he
       have hfn : ∀ b, b ∈ (List.range' w.heap.size (w'.heap.size - w.heap.size) ++ (k :: (rs ++ g.cs)).flatMap F).filter (· ∉ fp') ↔ ((w.heap.size <= b /\ b < w'.heap.size) \/ ∃ j ∈ k :: (rs ++ g.cs), b ∈ F j) /\ b ∉ fp' := fun b => by
        simp only [List.mem_filter, List.mem_append, l8 hkeep.size b, List.mem_flatMap, decide_eq_true_eq]
       have hown' : ∀ j ∈ k :: (rs ++ g.cs), ∃ e, h j = some e := fun j hj => by
        rcases List.mem_cons.1 hj with rfl | hj
        ·exact ⟨_, hkk⟩
        ·rcases List.mem_append.1 hj with hj | hj
         ·obtain ⟨e, he, _⟩ := hown j (List.mem_cons_of_mem _ hj); exact ⟨e, he⟩
         ·obtain ⟨Φ', h'⟩ := hobj hp j hj; exact ⟨_, h'⟩
       have hsub : ∀ j ∈ k :: rs, j ∈ k :: (rs ++ g.cs) := fun j hj => by
        rcases List.mem_cons.1 hj with hj | hj
        ·exact List.mem_cons.2 (.inl hj)
        ·exact List.mem_cons.2 (.inr (List.mem_append_left _ hj))
       have hR := xz (G := G) (fp := (List.range' w.heap.size (w'.heap.size - w.heap.size) ++ (k :: (rs ++ g.cs)).flatMap F).filter (· ∉ fp')) (S := fun b => ((b < W.heap.size /\ eY G bs b) \/ ∃ j ∈ g.cs, b ∈ F j) /\ b ∉ fp') hs.keeps hkeep hΦ
        (fun b hb => hb.1.elim .inl fun ⟨j, hj, hbj⟩ => .inr ((hfn b).2 ⟨.inr ⟨j, List.mem_cons.2 (.inr (List.mem_append_right _ hj)), hbj⟩, hb.2⟩)) hS0
        (fun b hb hn => by
         by_cases hbw : b < w.heap.size
         ·rcases hn.1 hbw with h3 | h3
          ·exact .inl ⟨hbw, h3, hn.2⟩
          ·obtain ⟨j, hj, hbj⟩ := (fD b h3).1
           exact .inr ((hfn b).2 ⟨.inr ⟨j, hsub j hj, hbj⟩, hn.2⟩)
         ·exact .inr ((hfn b).2 ⟨.inl ⟨by omega, hb⟩, hn.2⟩))
        (fun b hb => by
         rcases ((hfn b).1 hb).1 with h3 | ⟨j, hj, hbj⟩
         ·exact hup b (.inl (Nat.le_trans hs.keeps.size h3.1))
         ·obtain ⟨e, he⟩ := hown' j hj
          exact hup b (hs.mine j e he b hbj))
       obtain ⟨E', F', hE', hE7, hs'⟩ := I4 (ks' := g.cs) (R := iF G W bs Φ) (cs := cs) hs hK hk hkk hv hlen hn (fun j hj => by obtain ⟨Φ', h'⟩ := hobj hp j hj; exact ⟨_, _, h'⟩) ho h1 h2
        (fun b hb => by
         obtain ⟨h3, h4⟩ := (hfn b).1 hb
         refine ⟨h4, ?_, h3.elim (fun h => .inr h.1) .inl⟩
         rcases h3 with h3 | ⟨j, hj, hbj⟩
         ·exact h3.2
         ·obtain ⟨e, he⟩ := hown' j hj
          exact Nat.lt_of_lt_of_le (hs.lt j e he b hbj) hkeep.size) hR hkeep
       refine ⟨rfl, E', F', hE', ?_, hs'⟩
       rw [sh.g, hE7]; rfl
      | pan c _ =>
       simp only [mH]
       rintro ⟨⟨hT, hp, hpre⟩, hn, hd⟩
       have hc := call hn hT hp hpre
       rw [hout] at hc
       refine hc.mono fun e w' he => ?_
       obtain ⟨rfl, hkeep⟩ := he
       refine ⟨rfl, F, ?_⟩
       refine hs.mu hK (k :: rs) (fun _ => none) (fun j hj => ?_) (fun _ _ => rfl) (fun j e he => by cases he) (fun i j e e' _ he => by cases he) (fun _ _ _ _ => rfl) (fun j => ?_) hkeep
       ·obtain ⟨e, he, _⟩ := hown j hj; exact ⟨e, he⟩
       ·simp only [dropKeys]
  ·exact fun hf => hf.elim
 keys := fun W bs κ h K args hK hx hside => by
  revert hside
  unfold wV
  split
  ·rename_i k rest
   generalize hg : lA G W bs h p.kinds rest = g
   cases hkk : h k with
   | none => exact fun hf => hf.elim
   | some e =>
    cases e with
    | row T s n vs => exact fun hf => hf.elim
    | obj d R => exact fun hf => hf.elim
    | cells T' vs =>
     simp only [ux]
     cases hv : ay h vs with
     | none => exact fun hf => hf.elim
     | some q =>
      obtain ⟨fs, rs⟩ := q
      simp only [vu]
      have hobj : g.p -> ∀ j ∈ g.cs, ∃ Φ, h j = some (.obj [] (iF G W bs Φ)) := fun hp => by rw [<- hg] at hp ⊢; exact pC hp
      have row : ∀ fs' : List AV, fs'.length <= 7 -> ∀ q ∈ cn (aS (8 * κ) fs'), (K q.1 \/ q.1 / 8 = κ) /\ ∀ e, q.2 = some e -> ∀ j ∈ e.keys, K j \/ j / 8 = κ := fun fs' hlen q hq => by
       obtain ⟨e, h1, h2⟩ := dS.1 hq
       obtain ⟨h3, h4⟩ := sq (by omega) h2
       refine ⟨.inr h3, fun e' he' j hj => ?_⟩
       rw [h1] at he'
       simp only [Option.some.injEq] at he'
       subst he'
       rw [h4] at hj
       cases hj
      have cel : ∀ fs' : List AV, fs'.length <= 7 -> (K k \/ k / 8 = κ) /\ ∀ e, some (bm.cells p.T (aI (8 * κ) fs')) = some e -> ∀ j ∈ e.keys, K j \/ j / 8 = κ := fun fs' hlen => by
       refine ⟨.inl (hK k _ hkk).1, fun e' he' j hj => .inr ?_⟩
       simp only [Option.some.injEq] at he'
       subst he'
       have := cm j hj
       omega
      cases hout : p.out fs g.as_ with
      | ret v fs' =>
       simp only [mH]
       rintro ⟨_, hn, hd, hlen⟩
       refine ⟨fun j hj => (by cases hj), fun q hq => ?_⟩
       simp only [List.mem_append, List.mem_singleton] at hq
       rcases hq with hq | hq | rfl
       ·simp only [dC, List.mem_map] at hq
        obtain ⟨j, hj, rfl⟩ := hq
        exact ⟨.inl (pq hK hv j hj), fun e he => by cases he⟩
       ·exact row fs' hlen q hq
       ·exact cel fs' hlen
      | fact sh Φ fs' =>
       simp only [mH]
       rintro ⟨⟨_, hp, _⟩, hn, hd, hlen, hup⟩
       refine ⟨fun j hj => .inr (by rw [sh.k _ j hj]; omega), fun q hq => ?_⟩
       simp only [List.mem_append, List.mem_cons, List.not_mem_nil, or_false] at hq
       rcases hq with hq | hq | rfl | rfl
       ·simp only [dC, List.mem_map, List.mem_append] at hq
        obtain ⟨j, hj, rfl⟩ := hq
        rcases hj with hj | hj
        ·exact ⟨.inl (pq hK hv j hj), fun e he => by cases he⟩
        ·obtain ⟨Φ', h'⟩ := hobj hp j hj
         exact ⟨.inl (hK j _ h').1, fun e he => by cases he⟩
       ·exact row fs' hlen q hq
       ·exact cel fs' hlen
       ·refine ⟨.inr (by simp only; omega), fun e he k hk => ?_⟩
        simp only [Option.some.injEq] at he
        subst he
        cases hk
      | pan c _ =>
       simp only [mH]
       rintro _
       exact ⟨fun j hj => (by cases hj), fun q hq => by cases hq⟩
  ·exact fun hf => hf.elim
 loc := fun W bs κ h h' args hside hr => by
  revert hside hr
  unfold wV
  split
  ·rename_i k rest
   generalize hg : lA G W bs h p.kinds rest = g
   cases hkk : h k with
   | none => exact fun hf => hf.elim
   | some e =>
    cases e with
    | row T s n vs => exact fun hf => hf.elim
    | obj d R => exact fun hf => hf.elim
    | cells T' vs =>
     simp only [ux]
     cases hv : ay h vs with
     | none => exact fun hf => hf.elim
     | some q =>
      obtain ⟨fs, rs⟩ := q
      simp only [vu]
      intro hside hr
      have hp : g.p := by
       revert hside
       cases p.out fs g.as_ <;> exact fun h => h.1.2.1
      have hr' : ∀ j ∈ k :: (rs ++ g.rs), h' j = h j := by
       revert hr
       cases p.out fs g.as_ <;> exact fun h => h
      have e1 : h' k = some (.cells T' vs) := by rw [hr' k (by simp), hkk]
      have e2 : lA G W bs h' p.kinds rest = g := by
       rw [<- hg]
       exact Ad (by rw [hg]; exact hp) (by rw [hg]; exact fun j hj => hr' j (by simp [hj]))
      have e3 : ay h' vs = some (fs, rs) := cD hv fun j hj => hr' j (by simp [hj])
      rw [e1, e2]
      simp only [ux, e3, vu]
  ·exact fun hf => hf.elim
theorem jq {P : Program} {f : FuncId} (p : wU P f) (G : Nat -> Prop) (W : World) (bs : List Nat) (κ : Nat) (h : Hp) (l : List SV) : (p.spec G).ev W bs κ h l = wV G h κ p.T W bs p.kinds p.pre p.out l := rfl
end
section
open Go.RowKit
def cF (w : World) (S : Nat -> Prop) : Nat -> Prop := fun b => b < w.heap.size -> S b
def aL (w : World) (S : Nat -> Prop) (fp : List Nat) : Nat -> Prop := fun b => b < w.heap.size -> S b \/ b ∈ fp
theorem cF.up (w : World) (S : Nat -> Prop) : Up (cF w S) w [] := fun b hb hlt => by
 rcases hb with hb | hb
 ·omega
 ·cases hb
theorem aL.up (w : World) (S : Nat -> Prop) (fp : List Nat) : Up (aL w S fp) w fp := fun b hb hlt => by
 rcases hb with hb | hb
 ·omega
 ·exact .inr hb
theorem cF.gT (w : World) (S : Nat -> Prop) : cr w S w (eY (cF w S) []) := fun b hb hS => ⟨rfl, fun _ => hS, by simp⟩
theorem aL.gT (w : World) (S : Nat -> Prop) (fp : List Nat) (h : ∀ b ∈ fp, ¬ S b) : cr w S w (eY (aL w S fp) fp) := fun b hb hS => ⟨rfl, fun _ => .inl hS, fun hf => h b hf hS⟩
def N2 (w : World) (S : Nat -> Prop) (W' : World) (bs' : List Nat) (x : SV) : FOut -> Prop
 | .val v => ∀ E, den E x = v
 | .fact sh Φ => ∃ cs, (∀ E, den E x = sh.val cs) /\ Φ.Φ cs W' (eY (cF w S) bs')
 | .pan _ _ => False
theorem eD {P : Program} {f : FuncId} {fn : Func} {c : Code} {args : Array Value} {w : World} {nt : Nat} {out : FOut} (S : Nat -> Prop) (rs : List ResultVar)
  (hf : P.funcs[f]? = some fn) (hb : fn.body = some c) (hrs : fn.results.toList = rs) (hnt : args.size + (fn.ntmps - args.size) = nt)
  (h : Wp P w [] nt ⟨[], []⟩ c (Fin P rs (fun W' bs' x _ => N2 w S W' bs' x out) (fun c _ => ∃ v, out = .pan c v)) (σ0 args.toList)) :
  Calls P f args w fun e w' => l4 w S e w' out := by
 subst hrs
 refine (jv hf hb (nf args hnt) h).mono fun e w' he => ?_
 cases e with
 | returned u =>
  obtain ⟨W', bs', E, F, x, h, hx, hok, rfl, hs, _⟩ := he
  cases out with
  | val v => exact ⟨by rw [hok E], hx.BY hs.keeps⟩
  | fact sh Φ =>
   obtain ⟨cs, hd, hΦ⟩ := hok
   exact ⟨cs, by rw [hd E], Φ.mono (fun b hb hr => ⟨hs.keeps.block b hb hr.2, hr.1⟩) hΦ, hx.BY hs.keeps⟩
  | pan c v => exact hok.elim
 | panicked c =>
  obtain ⟨W', bs', E, F, h', hx, ⟨v, rfl⟩, hs, _⟩ := he
  exact ⟨rfl, hx.BY hs.keeps⟩
 | outgrown => exact he.elim
def Q1 (w : World) (S : Nat -> Prop) (fp : List Nat) (T : TypeId) (W' : World) (bs' : List Nat) (x : SV) (h : Hp) : GOut -> Prop
 | .ret v fs' => (∀ E, den E x = v) /\ ∃ vs ks, h 0 = some (.cells T vs) /\ ay h vs = some (fs', ks) /\ (0 :: ks).Nodup
 | .fact sh Φ fs' => (∃ cs, (∀ E, den E x = sh.val cs) /\ Φ.Φ cs W' (eY (aL w S fp) bs')) /\ ∃ vs ks, h 0 = some (.cells T vs) /\ ay h vs = some (fs', ks) /\ (0 :: ks).Nodup
 | .pan _ _ => False
theorem gG {P : Program} {f : FuncId} {fn : Func} {c : Code} {w : World} {nt : Nat} {T : TypeId} {u : Value} {fp : List Nat} {fs : List AV} {out : GOut} (S : Nat -> Prop) (us : Array Value) (rs : List ResultVar)
  (hlen : fs.length <= 7) (ho : bz w u fp T fs) (hlt : ∀ b ∈ fp, b < w.heap.size)
  (hf : P.funcs[f]? = some fn) (hb : fn.body = some c) (hrs : fn.results.toList = rs) (hnt : us.size + 1 + (fn.ntmps - (us.size + 1)) = nt)
  (h : Wp P w fp nt ⟨[], [(0, u)]⟩ c (Fin P rs (fun W' bs' x h => Q1 w S fp T W' bs' x h out) (fun c _ => ∃ v, out = .pan c v)) (σB T fs us.toList)) :
  Calls P f (#[u] ++ us) w fun e w' => yl w S u fp T e w' out := by
 subst hrs
 have hsat := u7 (nt := nt) (m := fn.ntmps - (us.size + 1)) us hlen ho hlt hnt
 have hsz : (#[u] ++ us).size = us.size + 1 := by simp; omega
 refine (jv hf hb (by rw [hsz]; exact hsat) h).mono fun e w' he => ?_
 cases e with
 | returned v' =>
  obtain ⟨W', bs', E, F, x, h', hx, hok, rfl, hs, hp⟩ := he
  have hs' := hs.back hx
  have hE : E 0 = u := hp (0, u) (by simp)
  have back : ∀ {vs ks fs'}, h' 0 = some (.cells T vs) -> ay h' vs = some (fs', ks) -> (0 :: ks).Nodup -> bz w' u ((0 :: ks).flatMap F) T fs' /\ (∀ b ∈ (0 :: ks).flatMap F, b ∈ fp \/ w.heap.size <= b) /\ (∀ b ∈ (0 :: ks).flatMap F, b < w'.heap.size) /\ ∀ b ∈ (0 :: ks).flatMap F, W'.heap.size <= b \/ b ∈ bs' := fun {vs ks fs'} h0 hv hn => by
   have ho' := eC hs' h0 hv hn
   rw [hE] at ho'
   have own : ∀ b ∈ (0 :: ks).flatMap F, ∃ j e, h' j = some e /\ b ∈ F j := fun b hb => by
    obtain ⟨j, hj, hbj⟩ := List.mem_flatMap.1 hb
    rcases List.mem_cons.1 hj with rfl | hj
    ·exact ⟨_, _, h0, hbj⟩
    ·obtain ⟨e, he⟩ := (bN hs' hv).2 j hj
     exact ⟨_, e, he, hbj⟩
   refine ⟨ho', fun b hb => ?_, fun b hb => ?_, fun b hb => ?_⟩
   ·obtain ⟨j, e, he, hbj⟩ := own b hb; exact (hs'.mine j e he b hbj).symm
   ·obtain ⟨j, e, he, hbj⟩ := own b hb; exact hs'.lt j e he b hbj
   ·obtain ⟨j, e, he, hbj⟩ := own b hb; exact hs.mine j e he b hbj
  cases out with
  | ret v fs' =>
   obtain ⟨hd, vs, ks, h0, hv, hn⟩ := hok
   obtain ⟨g1, g2, g3, _⟩ := back h0 hv hn
   exact ⟨by rw [hd E], ⟨_, g1, g2, g3⟩, hs'.keeps⟩
  | fact sh Φ fs' =>
   obtain ⟨⟨cs, hd, hΦ⟩, vs, ks, h0, hv, hn⟩ := hok
   obtain ⟨g1, g2, g3, g4⟩ := back h0 hv hn
   exact ⟨cs, by rw [hd E], ⟨_, g1, g2, g3, Φ.mono (fun b hb hr => ⟨hs.keeps.block b hb hr.2, hr.1, fun hf => (g4 b hf).elim (fun g => absurd g (Nat.not_le.2 hb)) hr.2⟩) hΦ⟩, hs'.keeps⟩
  | pan c v => exact hok.elim
 | panicked c =>
  obtain ⟨W', bs', E, F, h', hx, ⟨_, rfl⟩, hs, hp⟩ := he
  exact ⟨rfl, (hs.back hx).keeps⟩
 | outgrown => exact he.elim
section
variable (G : Nat -> Prop) (W : World) (bs : List Nat) (h : Hp) (κ k : Nat) (T T' : TypeId)
theorem Pj (x : Value) : cy (.v x) = some x := rfl
theorem D6 (k o : Nat) : cy (.own k o) = none := rfl
theorem KT (k : Nat) : cy (.hd k) = none := rfl
theorem AH (k i : Nat) : cy (.part k i) = none := rfl
theorem DP (l : List SV) : cy (.agg l) = (eU l).map fun vs => .agg vs.toArray := rfl
theorem Fc (t : TypeId) (x : SV) : cy (.ifc t x) = (cy x).map (.iface t) := rfl
theorem Jh (f : Fn) (a c : List SV) : cy (.fn f a c) = func2 f (eU a) (eU c) := rfl
theorem D9 : eU [] = some [] := rfl
theorem Be (x : SV) (r : List SV) : eU (x :: r) = rN (cy x) (eU r) := rfl
theorem EC (v : Value) (vs : List Value) : rN (some v) (some vs) = some (v :: vs) := rfl
theorem Fa (o : Option (List Value)) : rN none o = none := rfl
theorem AS (v : Value) : rN (some v) none = none := rfl
theorem GK (f : Fn) (a c : List Value) : func2 f (some a) (some c) = some (.func f a.toArray c.toArray) := rfl
theorem wH (k i : Nat) : jE (.part k i) = some k := rfl
theorem yC (k i : Nat) (r : List SV) : jE (.agg (.part k i :: r)) = some k := rfl
theorem TA : lA G W bs h [] [] = ⟨True, [], [], []⟩ := rfl
theorem QO (kd : Kd) (ks : List Kd) (x : SV) (r : List SV) : lA G W bs h (kd :: ks) (x :: r) = Wf (vA G W bs h kd x) (lA G W bs h ks r) := rfl
theorem Pv (x : SV) : vA G W bs h none x = Vs (cc h x) := rfl
theorem PX (sh : Sh) (Φ : FK) (x : SV) : vA G W bs h (some (sh, Φ)) x = UR G W bs h sh Φ x (cy x) (jE x) := rfl
theorem Kx (a : AV) (r : List Nat) : Vs (some (a, r)) = ⟨True, a, r, []⟩ := rfl
theorem Xk (sh : Sh) (Φ : FK) (x : SV) (v : Value) (o : Option Nat) : UR G W bs h sh Φ x (some v) o = ⟨∃ cs, v = sh.val cs /\ Φ.Φ cs W (eY G bs), .val undef, [], []⟩ := rfl
theorem Xm (sh : Sh) (Φ : FK) (x : SV) (k : Nat) : UR G W bs h sh Φ x none (some k) = V1 G W bs sh Φ x k (h k) := rfl
theorem RV (sh : Sh) (Φ : FK) (x : SV) (k : Nat) (d : List Value) (R : List Value -> Value -> List Nat -> World -> Prop) : V1 G W bs sh Φ x k (some (.obj d R)) = ⟨x = sh.tm k /\ d = [] /\ R = iF G W bs Φ, .val undef, [k], [k]⟩ := rfl
theorem VI (p q : Prop) (a : AV) (as_ : List AV) (r rs c cs : List Nat) : Wf ⟨p, a, r, c⟩ ⟨q, as_, rs, cs⟩ = ⟨p /\ q, a :: as_, r ++ rs, c ++ cs⟩ := rfl
theorem Ns (pre : List AV -> World -> (Nat -> Prop) -> Prop) (out : List AV -> FOut) (p : Prop) (as_ : List AV) (rs cs : List Nat) : uW G κ W bs pre out ⟨p, as_, rs, cs⟩ = oF G κ W bs (p /\ pre as_ W (eY G bs)) rs cs (out as_) := rfl
theorem LQ (q : Prop) (rs cs : List Nat) (v : Value) : oF G κ W bs q rs cs (.val v) = ⟨q, .v v, [], none, [], rs⟩ := rfl
theorem Fl (q : Prop) (rs cs : List Nat) (sh : Sh) (Φ : FK) : oF G κ W bs q rs cs (.fact sh Φ) = ⟨q /\ Up G W bs, sh.tm (8 * κ), dC cs ++ [(8 * κ, some (.obj [] (iF G W bs Φ)))], none, [], rs⟩ := rfl
theorem J4 (q : Prop) (rs cs : List Nat) (c : List PanicEntry) (v : Value) : oF G κ W bs q rs cs (.pan c v) = ⟨q, .v v, [], some c, [], rs⟩ := rfl
theorem Kb (kinds : List Kd) (pre : List AV -> List AV -> World -> (Nat -> Prop) -> Prop) (out : List AV -> List AV -> GOut) (rest : List SV) : wV G h κ T W bs kinds pre out (.own k 0 :: rest) = ux G h κ k T W bs pre out (lA G W bs h kinds rest) (h k) := rfl
theorem A0 (pre : List AV -> List AV -> World -> (Nat -> Prop) -> Prop) (out : List AV -> List AV -> GOut) (g : GVL) (vs : List SV) : ux G h κ k T W bs pre out g (some (.cells T' vs)) = vu G κ k T T' W bs pre out g (ay h vs) := rfl
theorem NQ (pre : List AV -> List AV -> World -> (Nat -> Prop) -> Prop) (out : List AV -> List AV -> GOut) (p : Prop) (as_ fs : List AV) (rs cs rs0 : List Nat) : vu G κ k T T' W bs pre out ⟨p, as_, rs, cs⟩ (some (fs, rs0)) = mH G κ k T W bs (T' = T /\ p /\ pre fs as_ W (eY G bs)) rs0 rs cs (out fs as_) := rfl
theorem J8 (q : Prop) (rs rs' cs : List Nat) (v : Value) (fs : List AV) : mH G κ k T W bs q rs rs' cs (.ret v fs) = ⟨q /\ (k :: rs).Nodup /\ (∀ j ∈ rs', j ∉ k :: rs) /\ fs.length <= 7, .v v, dC rs ++ (cn (aS (8 * κ) fs) ++ [(k, some (.cells T (aI (8 * κ) fs)))]), none, [], k :: (rs ++ rs')⟩ := rfl
theorem FJ (q : Prop) (rs rs' cs : List Nat) (sh : Sh) (Φ : FK) (fs : List AV) : mH G κ k T W bs q rs rs' cs (.fact sh Φ fs) = ⟨q /\ (k :: rs).Nodup /\ (∀ j ∈ rs', j ∉ k :: rs) /\ fs.length <= 7 /\ Up G W bs, sh.tm (8 * κ + 7), dC (rs ++ cs) ++ (cn (aS (8 * κ) fs) ++ [(k, some (.cells T (aI (8 * κ) fs))), (8 * κ + 7, some (.obj [] (iF G W bs Φ)))]), none, [], k :: (rs ++ rs')⟩ := rfl
theorem Lj (q : Prop) (rs rs' cs : List Nat) (c : List PanicEntry) (v : Value) : mH G κ k T W bs q rs rs' cs (.pan c v) = ⟨q /\ (k :: rs).Nodup /\ (∀ j ∈ rs', j ∉ k :: rs), .v v, [], some c, k :: rs, k :: (rs ++ rs')⟩ := rfl
theorem VT (k : Nat) : Sh.one.tm k = .part k 0 := rfl
theorem VR (k : Nat) : Sh.two.tm k = .agg [.part k 0, .part k 1] := rfl
end
def XU := ab @Pj <| ab @D6 <| ab @KT <| ab @AH <| ab @DP <| ab @Fc <| ab @Jh <| ab @D9 <| ab @Be <| ab @EC <| ab @Fa <| ab @AS <| ab @GK <| ab @wH <| ab @yC <| ab @TA <| ab @QO <| ab @Pv <| ab @PX <| ab @Kx <| ab @Xk <| ab @Xm <| ab @RV <| ab @VI <| ab @Ns <| ab @LQ <| ab @Fl <| ab @J4 <| ab @Kb <| ab @A0 <| ab @NQ <| ab @J8 <| ab @FJ <| ab @Lj <| ab @VT <| ab @VR <| ab @fe @jq
end
section
open Go.RowKit
theorem iK {P : Program} {W : World} {bs : List Nat} {nt : Nat} {ds : Aux} {Q : jU} {σ : St} {x y : Code} {ι : Type} (I : ι -> St) (V : ι -> World) (B : ι -> List Nat) (ok : ι -> Prop)
  (h1 : Wp P W bs nt ds x (Th (fun W' bs' σ1 => ∃ p, ok p /\ V p = W' /\ B p = bs' /\ Le W' bs' nt ds σ1 (I p)) Q) σ)
  (h2 : ∀ p, ok p -> Ext W bs (V p) (B p) -> Wp P (V p) (B p) nt ds y Q (I p)) : Wp P W bs nt ds (.seq x y) Q σ := fun a w hs =>
 wp_seq (wp_mono (h1 a w hs) fun e a' w' ⟨W', bs', σ1, he, hq, hs'⟩ => by
  cases e with
  | normal =>
   obtain ⟨p, hp, rfl, rfl, hle⟩ := hq
   exact wp_mono (h2 p hp he a' w' (hle a' w' hs')) fun e' a'' w'' hh => nw he hh
  | _ => exact ⟨W', bs', σ1, he, hq, hs'⟩)
end
section
open Go.RowKit
structure A8 (P : Program) (f : FuncId) where
 T : TypeId
 pre : World -> List Nat -> List AV -> List AV -> Prop
 res : World -> List AV -> List AV -> Value
 enters : ∀ args w, (callFunc f args).run P w = .ok (.enter f args) w
 ok : ∀ (W w : World) (bs : List Nat) (u : Value) (fp : List Nat) (us : List Value) (fs as_ : List AV), ai W bs w -> bz w u fp T fs -> ey w us as_ -> pre W bs fs as_ ->
  Calls P f (u :: us).toArray w fun e w' => e = .returned (res W fs as_) /\ ai w [] w'
def tg (k : Nat) (T T' : TypeId) (pre : List AV -> List AV -> Prop) (res : List AV -> List AV -> Value) (as_ : List AV) (rs' : List Nat) : Option (List AV × List Nat) -> R
 | some (fs, rs) => ⟨(T' = T /\ (k :: rs).Nodup) /\ pre fs as_, .v (res fs as_), [], none, [], k :: (rs ++ rs')⟩
 | none => .bad
def sR (h : Hp) (k : Nat) (T : TypeId) (pre : List AV -> List AV -> Prop) (res : List AV -> List AV -> Value) : Option bm -> Option (List AV × List Nat) -> R
 | some (.cells T' vs), some (as_, rs') => tg k T T' pre res as_ rs' (ay h vs)
 | _, _ => .bad
def wX (h : Hp) (T : TypeId) (pre : List AV -> List AV -> Prop) (res : List AV -> List AV -> Value) : List SV -> R
 | .own k 0 :: rest => sR h k T pre res (h k) (ay h rest)
 | _ => .bad
def A8.spec {P : Program} {f : FuncId} (p : A8 P f) : Spec P f where
 ev := fun W bs κ h args => wX h p.T (p.pre W bs) (p.res W) args
 good := fun W bs κ E F h w K args hs hK hk hx hside => by
  rw [p.enters]
  revert hside
  unfold wX
  split
  ·rename_i k rest
   cases hkk : h k with
   | none => exact fun hf => hf.elim
   | some e =>
    cases e with
    | row T s n vs => exact fun hf => hf.elim
    | obj d R => exact fun hf => hf.elim
    | cells T' vs =>
     cases hr : ay h rest with
     | none => exact fun hf => hf.elim
     | some q =>
      obtain ⟨as_, rs'⟩ := q
      simp only [sR]
      cases hv : ay h vs with
      | none => exact fun hf => hf.elim
      | some q =>
       obtain ⟨fs, rs⟩ := q
       simp only [tg]
       rintro ⟨⟨rfl, hn⟩, hp⟩
       have hent := hs.ent k _ hkk
       obtain ⟨b, hu, _, _⟩ := hent
       have hden : den E (.own k 0) = E k := by simp [den, hu, base, cx]
       have ho := eC hs hkk hv hn
       have := p.ok W w bs (E k) _ (an E rest) fs as_ hs.keeps ho (dA hs hr) hp
       have e : an E (.own k 0 :: rest) = E k :: an E rest := by simp only [an, hden]
       rw [e]
       exact qk hs this rfl rfl rfl
  ·exact fun hf => hf.elim
 keys := fun W bs κ h K args hK hx hside => by
  revert hside
  unfold wX
  split
  ·rename_i k rest
   cases hkk : h k with
   | none => exact fun hf => hf.elim
   | some e =>
    cases e with
    | row T s n vs => exact fun hf => hf.elim
    | obj d R => exact fun hf => hf.elim
    | cells T' vs =>
     cases hr : ay h rest with
     | none => exact fun hf => hf.elim
     | some q =>
      obtain ⟨as_, rs'⟩ := q
      simp only [sR]
      cases hv : ay h vs with
      | none => exact fun hf => hf.elim
      | some q =>
       obtain ⟨fs, rs⟩ := q
       simp only [tg]
       exact fun _ => aH.plain (fun k hk => by cases hk) rfl
  ·exact fun hf => hf.elim
 loc := fun W bs κ h h' args hside hr => by
  revert hside hr
  unfold wX
  split
  ·rename_i k rest
   cases hkk : h k with
   | none => exact fun hf => hf.elim
   | some e =>
    cases e with
    | row T s n vs => exact fun hf => hf.elim
    | obj d R => exact fun hf => hf.elim
    | cells T' vs =>
     cases hrr : ay h rest with
     | none => exact fun hf => hf.elim
     | some q =>
      obtain ⟨as_, rs'⟩ := q
      simp only [sR]
      cases hv : ay h vs with
      | none => exact fun hf => hf.elim
      | some q =>
       obtain ⟨fs, rs⟩ := q
       simp only [tg]
       intro _ hr
       have e1 : h' k = some (.cells T' vs) := by rw [hr k (by simp), hkk]
       have e2 : ay h' rest = some (as_, rs') := cD hrr fun j hj => hr j (by simp [hj])
       have e3 : ay h' vs = some (fs, rs) := cD hv fun j hj => hr j (by simp [hj])
       rw [e1, e2]
       simp only [sR, e3, tg]
  ·exact fun hf => hf.elim
section
variable (h : Hp) (k : Nat) (T T' : TypeId) (pre : List AV -> List AV -> Prop) (res : List AV -> List AV -> Value)
theorem NH {P : Program} {f : FuncId} (p : A8 P f) (W : World) (bs : List Nat) (κ : Nat) (h : Hp) (l : List SV) : p.spec.ev W bs κ h l = wX h p.T (p.pre W bs) (p.res W) l := rfl
theorem Lm (rest : List SV) : wX h T pre res (.own k 0 :: rest) = sR h k T pre res (h k) (ay h rest) := rfl
theorem Bo (vs : List SV) (as_ : List AV) (rs' : List Nat) : sR h k T pre res (some (.cells T' vs)) (some (as_, rs')) = tg k T T' pre res as_ rs' (ay h vs) := rfl
theorem EL (as_ fs : List AV) (rs' rs : List Nat) : tg k T T' pre res as_ rs' (some (fs, rs)) = ⟨(T' = T /\ (k :: rs).Nodup) /\ pre fs as_, .v (res fs as_), [], none, [], k :: (rs ++ rs')⟩ := rfl
end
section
variable {P : Program} (κ : Nat) (h : Hp) (T : TypeId)
theorem zC (k : Nat) (ik : IntKind) (b : Int) : dX P κ h T false true false [.hd k, .v (.int ik b)] = yk P κ k b (P.underlying T) (h k) := rfl
theorem DC (k : Nat) (b : Int) (e e' : TypeId) (s n : Nat) (vs : List SV) : yk P κ k b (some (.slice e)) (some (.row e' s n vs)) = qe κ k b e' s n vs (ts P e) := rfl
theorem Ca (k : Nat) (b : Int) (e s n s' : Nat) (vs : List SV) : qe κ k b e s n vs (some s') = ⟨s' = s /\ 0 <= b /\ b.toNat <= n, .hd (8 * κ), [(k, none), (8 * κ, some (.row e s b.toNat (vs.take (b.toNat * s))))], none, [], [k]⟩ := rfl
end
def XQ := ab @zC <| ab @DC @Ca
def XW := ab @NH <| ab @Lm <| ab @Bo @EL
theorem Jx {w : World} {u : Value} {fp : List Nat} {T : TypeId} {fs : List AV} (h : bz w u fp T fs) : ∃ b us, u = .pointer (some ⟨b, 0, none⟩) /\ ey w us fs /\ ∀ j (hj : j < us.length), w.cell? ⟨b, j, none⟩ = some us[j] := by
 obtain ⟨b, us, h1, h2, h3, _⟩ := h
 exact ⟨b, us, h1, h3, fun j hj => cell_of h2 j hj⟩
end
section
open Go.RowKit
def lg (w : World) (u : Value) (fp : List Nat) (T : TypeId) (fs : List AV) (xs : List Value) : Prop :=
 ∃ b us, u = .pointer (some ⟨b, 0, none⟩) /\ w.heap[b]? = some (.cells (us ++ xs).toArray T (0, 0)) /\ ey w us fs /\ fp = b :: rO us fs /\ (b :: rO us fs).Nodup
def IJ (w : World) (u : Value) (fp : List Nat) (T : TypeId) (xs : List Value) (e : Ending) (w' : World) : BOut -> Prop
 | .ret v fs => e = .returned v /\ (∃ fp', lg w' u fp' T fs xs /\ (∀ b ∈ fp', b ∈ fp \/ w.heap.size <= b) /\ ∀ b ∈ fp', b < w'.heap.size) /\ ai w fp w'
 | .pan c _ => e = .panicked c /\ ai w fp w'
structure HP (P : Program) (f : FuncId) where
 T : TypeId
 m : Nat
 pre : World -> List Nat -> List AV -> List AV -> Prop
 out : World -> List AV -> List AV -> BOut
 enters : ∀ args w, (callFunc f args).run P w = .ok (.enter f args) w
 ok : ∀ (W w : World) (bs : List Nat) (u : Value) (fp : List Nat) (us : List Value) (fs as_ : List AV) (xs : List Value), ai W bs w -> lg w u fp T fs xs -> (∀ b ∈ fp, b < w.heap.size) -> (∀ b ∈ fp, W.heap.size <= b \/ b ∈ bs) -> ey w us as_ -> pre W bs fs as_ ->
  Calls P f (u :: us).toArray w fun e w' => IJ w u fp T xs e w' (out W fs as_)
def ur (κ k : Nat) (T : TypeId) (ys : List SV) (pre : Prop) (rs rs' : List Nat) : BOut -> R
 | .ret v fs => ⟨pre /\ (k :: rs).Nodup /\ (∀ j ∈ rs', j ∉ k :: rs) /\ fs.length <= 8, .v v, dC rs ++ (cn (aS (8 * κ) fs) ++ [(k, some (.cells T (aI (8 * κ) fs ++ ys)))]), none, [], k :: (rs ++ rs')⟩
 | .pan c v => ⟨pre /\ (k :: rs).Nodup /\ (∀ j ∈ rs', j ∉ k :: rs), .v v, [], some c, k :: rs, k :: (rs ++ rs')⟩
def tE (κ k : Nat) (T T' : TypeId) (ys : List SV) (pre : List AV -> List AV -> Prop) (out : List AV -> List AV -> BOut) (as_ : List AV) (rs' : List Nat) : Option (List AV × List Nat) -> R
 | some (fs, rs) => ur κ k T ys (T' = T /\ pre fs as_) rs rs' (out fs as_)
 | none => .bad
def uY (h : Hp) (κ k : Nat) (T : TypeId) (m : Nat) (pre : List AV -> List AV -> Prop) (out : List AV -> List AV -> BOut) : Option bm -> Option (List AV × List Nat) -> R
 | some (.cells T' vs), some (as_, rs') => tE κ k T T' (vs.drop m) pre out as_ rs' (ay h (vs.take m))
 | _, _ => .bad
def xp (h : Hp) (κ : Nat) (T : TypeId) (m : Nat) (pre : List AV -> List AV -> Prop) (out : List AV -> List AV -> BOut) : List SV -> R
 | .own k 0 :: rest => uY h κ k T m pre out (h k) (ay h rest)
 | _ => .bad
section
variable {P : Program} {W : World} {bs : List Nat} {κ : Nat} {E : Nat -> Value} {F : Nat -> List Nat} {h : Nat -> Option bm} {w : World} {K : Nat -> Prop}
theorem oD (hs : ak W bs E F h w) {k : Nat} {T : TypeId} {vs ys : List SV} {fs : List AV} {rs : List Nat} (hk : h k = some (.cells T (vs ++ ys))) (hv : ay h vs = some (fs, rs)) (hn : (k :: rs).Nodup) :
  lg w (E k) ((k :: rs).flatMap F) T fs (an E ys) := by
 obtain ⟨b, h1, h2, h3⟩ := hs.ent k _ hk
 obtain ⟨g1, g2⟩ := bN hs hv
 have hnd := n8 hs (ks := k :: rs) hn fun j hj => by
  rcases List.mem_cons.1 hj with rfl | hj
  ·exact ⟨_, hk, fun _ _ e => by cases e⟩
  ·obtain ⟨T', s, n, us, h4⟩ := jg hv j hj
   exact ⟨_, h4, fun _ _ e => by cases e⟩
 have hfp : (k :: rs).flatMap F = b :: rO (an E vs) fs := by
  rw [List.flatMap_cons, h2, g1]; rfl
 refine ⟨b, an E vs, h1, by rw [h3, di], dA hs hv, hfp, by rw [<- hfp]; exact hnd⟩
theorem Kt {w' : World} {k : Nat} {T : TypeId} {vs ys : List SV} {fs fs' : List AV} {rs fp' : List Nat} (hs : ak W bs E F h w) (hK : bI K h) (hk : ∀ k, k / 8 = κ -> ¬ K k)
  (hkk : h k = some (.cells T (vs ++ ys))) (hv : ay h vs = some (fs, rs)) (hlen : fs'.length <= 8) (hn : (k :: rs).Nodup)
  (ho : lg w' (E k) fp' T fs' (an E ys)) (h1 : ∀ b ∈ fp', b ∈ (k :: rs).flatMap F \/ w.heap.size <= b) (h2 : ∀ b ∈ fp', b < w'.heap.size) (hkeep : ai w ((k :: rs).flatMap F) w') :
  ∃ E' F', (∀ j, j / 8 ≠ κ -> E' j = E j) /\ ak W bs E' F' (aY h (dC rs ++ (cn (aS (8 * κ) fs') ++ [(k, some (.cells T (aI (8 * κ) fs' ++ ys)))]))) w' := by
 obtain ⟨b, us, hu, hb, hus, rfl, hnd⟩ := ho
 have hl := fG hus
 have hKk : K k := (hK k _ hkk).1
 have hfr : ∀ j, 8 * κ <= j -> j < 8 * κ + 8 -> ¬ K j := fun j g1 g2 => hk j (by omega)
 have hkf : k < 8 * κ \/ 8 * κ + 8 <= k := by
  by_cases g1 : k < 8 * κ
  ·exact .inl g1
  ·by_cases g2 : 8 * κ + 8 <= k
   ·exact .inr g2
   ·exact absurd hKk (hfr k (by omega) (by omega))
 have hE : ∀ j, j / 8 ≠ κ -> fP (8 * κ) us E j = E j := fun j hj => gU (by omega)
 have hsome : ∀ p ∈ cn (aS (8 * κ) fs') ++ [(k, some (.cells T (aI (8 * κ) fs' ++ ys)))], ∃ e, p.2 = some e := fun p hp => by
  rcases List.mem_append.1 hp with hp | hp
  ·obtain ⟨e, he, _⟩ := dS.1 hp; exact ⟨e, by rw [he]⟩
  ·simp at hp; exact ⟨_, by rw [hp]⟩
 have hNm : ∀ j e, aY (fun _ => none) (cn (aS (8 * κ) fs') ++ [(k, some (.cells T (aI (8 * κ) fs' ++ ys)))]) j = some e -> (j = k /\ e = .cells T (aI (8 * κ) fs' ++ ys)) \/ (j ≠ k /\ (j, e) ∈ aS (8 * κ) fs') := fun j e he => by
  rw [ck] at he
  simp only [aY] at he
  by_cases hj : j = k
  ·subst hj; rw [af] at he; cases he; exact .inl ⟨rfl, rfl⟩
  ·rw [aj _ _ hj] at he
   rcases kQ (fun _ => (none : Option bm)) (k := j) (u := cn (aS (8 * κ) fs')) with ⟨x, hx, hx'⟩ | ⟨_, hx'⟩
   ·rw [hx'] at he
    subst he
    obtain ⟨e', h3, h4⟩ := dS.1 hx
    simp only [Prod.mk.injEq, true_and, Option.some.injEq] at h3
    subst h3
    exact .inr ⟨hj, h4⟩
   ·rw [hx'] at he; cases he
 have hNk : aY (fun _ => none) (cn (aS (8 * κ) fs') ++ [(k, some (.cells T (aI (8 * κ) fs' ++ ys)))]) k = some (.cells T (aI (8 * κ) fs' ++ ys)) := by
  rw [ck]; simp [aY, af]
 have hb' : b ∉ rO us fs' := (List.nodup_cons.1 hnd).1
 have hnd' : (rO us fs').Nodup := (List.nodup_cons.1 hnd).2
 refine ⟨fP (8 * κ) us E, bg (fM (8 * κ) us fs' F) k [b], hE, ?_⟩
 refine hs.mu hK (k :: rs) (aY (fun _ => none) (cn (aS (8 * κ) fs') ++ [(k, some (.cells T (aI (8 * κ) fs' ++ ys)))])) (fun j hj => ?_) (fun j hj => hE j fun e => hk j e hj) (fun j e he => ?_) (fun i j e e' hij hi hj c hc => ?_) (fun j x hx hj => ?_) (fun j => ?_) hkeep
 ·rcases List.mem_cons.1 hj with rfl | hj
  ·exact ⟨_, hkk⟩
  ·exact (bN hs hv).2 j hj
 ·rcases hNm j e he with ⟨rfl, rfl⟩ | ⟨hjk, hm⟩
  ·rw [af, hE j fun e => hk j e hKk]
   refine ⟨⟨b, hu, rfl, by rw [di, ew hus, bG (E' := E) ys fun i hi => hE i fun e => hk i e ((hK _ _ hkk).2 i (by simp only [bm.keys, aR]; exact List.mem_append_right _ hi))]; exact hb⟩, fun c hc => ?_, fun c hc => h2 c (by simp at hc; simp [hc])⟩
   simp only [List.mem_singleton] at hc
   subst hc
   rcases h1 c (by simp) with g | g
   ·obtain ⟨i, hi, hci⟩ := List.mem_flatMap.1 g; exact .inl ⟨i, hi, hci⟩
   ·exact .inr g
  ·rw [aj _ _ hjk]
   obtain ⟨g1, g2⟩ := fN (E := E) (F := F) hus hm (fP (8 * κ) us E)
   refine ⟨g1, fun c hc => ?_, fun c hc => h2 c (List.mem_cons_of_mem _ (g2 c hc))⟩
   rcases h1 c (List.mem_cons_of_mem _ (g2 c hc)) with g | g
   ·obtain ⟨i, hi, hci⟩ := List.mem_flatMap.1 g; exact .inl ⟨i, hi, hci⟩
   ·exact .inr g
 ·rcases hNm i e hi with ⟨rfl, rfl⟩ | ⟨hik, hmi⟩
  ·rcases hNm j e' hj with ⟨rfl, rfl⟩ | ⟨hjk, hmj⟩
   ·exact absurd rfl hij
   ·rw [af] at hc
    rw [aj _ _ hjk]
    simp only [List.mem_singleton] at hc
    subst hc
    exact fun hc' => hb' (bB hl hmj c hc')
  ·rw [aj _ _ hik] at hc
   rcases hNm j e' hj with ⟨rfl, rfl⟩ | ⟨hjk, hmj⟩
   ·rw [af]
    intro hc'
    simp only [List.mem_singleton] at hc'
    subst hc'
    exact hb' (bB hl hmi c hc)
   ·rw [aj _ _ hjk]
    exact ek hnd' hmi hmj hl hij c hc
 ·have hjk : j ≠ k := fun e => by rw [e, hNk] at hj; cases hj
  rw [aj _ _ hjk]
  have hKj := (hK j x hx).1
  by_cases g1 : j < 8 * κ
  ·exact gz (.inl g1)
  ·by_cases g2 : 8 * κ + 8 <= j
   ·exact gz (.inr (by omega))
   ·exact absurd hKj (hfr j (by omega) (by omega))
 ·rw [ck, jC _ _ _ hsome, ko]
  cases hN : aY (fun _ => none) (cn (aS (8 * κ) fs') ++ [(k, some (.cells T (aI (8 * κ) fs' ++ ys)))]) j with
  | some e => rfl
  | none =>
   have hjk : j ≠ k := fun e => by rw [e, hNk] at hN; cases hN
   simp [hjk]
end
def HP.spec {P : Program} {f : FuncId} (p : HP P f) : Spec P f where
 ev := fun W bs κ h args => xp h κ p.T p.m (p.pre W bs) (p.out W) args
 good := fun W bs κ E F h w K args hs hK hk hx hside => by
  rw [p.enters]
  revert hside
  unfold xp
  split
  ·rename_i k rest
   cases hkk : h k with
   | none => exact fun hf => hf.elim
   | some e =>
    cases e with
    | row T s n vs => exact fun hf => hf.elim
    | obj d R => exact fun hf => hf.elim
    | cells T' vs =>
     cases hr : ay h rest with
     | none => exact fun hf => hf.elim
     | some q =>
      obtain ⟨as_, rs'⟩ := q
      simp only [uY]
      have hsplit : vs = vs.take p.m ++ vs.drop p.m := (List.take_append_drop _ _).symm
      cases hv : ay h (vs.take p.m) with
      | none => exact fun hf => hf.elim
      | some q =>
       obtain ⟨fs, rs⟩ := q
       simp only [tE]
       have hent := hs.ent k _ hkk
       obtain ⟨b, hu, _, _⟩ := hent
       have hden : den E (.own k 0) = E k := by simp [den, hu, base, cx]
       have call : ∀ hn : (k :: rs).Nodup, T' = p.T -> p.pre W bs fs as_ -> Calls P f (an E (.own k 0 :: rest)).toArray w fun e w' => IJ w (E k) ((k :: rs).flatMap F) p.T (an E (vs.drop p.m)) e w' (p.out W fs as_) := fun hn hT hp => by
        subst hT
        have ho := oD hs (hsplit ▸ hkk) hv hn
        have := p.ok W w bs (E k) _ (an E rest) fs as_ _ hs.keeps ho (fun c hc => ?_) (fun c hc => ?_) (dA hs hr) hp
        ·simpa only [an, hden] using this
        ·obtain ⟨j, hj, hcj⟩ := List.mem_flatMap.1 hc
         rcases List.mem_cons.1 hj with rfl | hj
         ·exact hs.lt _ _ hkk c hcj
         ·obtain ⟨e, he⟩ := (bN hs hv).2 j hj
          exact hs.lt j e he c hcj
        ·obtain ⟨j, hj, hcj⟩ := List.mem_flatMap.1 hc
         rcases List.mem_cons.1 hj with rfl | hj
         ·exact hs.mine _ _ hkk c hcj
         ·obtain ⟨e, he⟩ := (bN hs hv).2 j hj
          exact hs.mine j e he c hcj
       cases hout : p.out W fs as_ with
       | ret v fs' =>
        simp only [ur]
        rintro ⟨⟨hT, hp⟩, hn, hd, hlen⟩
        have hc := call hn hT hp
        rw [hout] at hc
        subst hT
        refine hc.mono fun e w' he => ?_
        obtain ⟨rfl, ⟨fp', ho, h1, h2⟩, hkeep⟩ := he
        obtain ⟨E', F', hE', hs'⟩ := Kt hs hK hk (hsplit ▸ hkk) hv hlen hn ho h1 h2 hkeep
        exact ⟨rfl, E', F', hE', rfl, hs'⟩
       | pan c _ =>
        simp only [ur]
        rintro ⟨⟨hT, hp⟩, hn, hd⟩
        have hc := call hn hT hp
        rw [hout] at hc
        refine hc.mono fun e w' he => ?_
        obtain ⟨rfl, hkeep⟩ := he
        refine ⟨rfl, F, ?_⟩
        refine hs.mu hK (k :: rs) (fun _ => none) (fun j hj => ?_) (fun _ _ => rfl) (fun j e he => by cases he) (fun i j e e' _ he => by cases he) (fun _ _ _ _ => rfl) (fun j => ?_) hkeep
        ·rcases List.mem_cons.1 hj with rfl | hj
         ·exact ⟨_, hkk⟩
         ·exact (bN hs hv).2 j hj
        ·simp only [dropKeys]
  ·exact fun hf => hf.elim
 keys := fun W bs κ h K args hK hx hside => by
  revert hside
  unfold xp
  split
  ·rename_i k rest
   cases hkk : h k with
   | none => exact fun hf => hf.elim
   | some e =>
    cases e with
    | row T s n vs => exact fun hf => hf.elim
    | obj d R => exact fun hf => hf.elim
    | cells T' vs =>
     cases hr : ay h rest with
     | none => exact fun hf => hf.elim
     | some q =>
      obtain ⟨as_, rs'⟩ := q
      simp only [uY]
      have hsplit : vs = vs.take p.m ++ vs.drop p.m := (List.take_append_drop _ _).symm
      cases hv : ay h (vs.take p.m) with
      | none => exact fun hf => hf.elim
      | some q =>
       obtain ⟨fs, rs⟩ := q
       simp only [tE]
       cases hout : p.out W fs as_ with
       | ret v fs' =>
        simp only [ur]
        rintro ⟨_, hn, hd, hlen⟩
        refine ⟨fun j hj => (by cases hj), fun q hq => ?_⟩
        simp only [List.mem_append, List.mem_singleton] at hq
        rcases hq with hq | hq | rfl
        ·simp only [dC, List.mem_map] at hq
         obtain ⟨j, hj, rfl⟩ := hq
         exact ⟨.inl (pq hK hv j hj), fun e he => by cases he⟩
        ·obtain ⟨e, h1, h2⟩ := dS.1 hq
         obtain ⟨h3, h4⟩ := sq hlen h2
         refine ⟨.inr h3, fun e' he' j hj => ?_⟩
         rw [h1] at he'
         simp only [Option.some.injEq] at he'
         subst he'
         rw [h4] at hj
         cases hj
        ·refine ⟨.inl (hK k _ hkk).1, fun e' he' j hj => ?_⟩
         simp only [Option.some.injEq] at he'
         subst he'
         simp only [bm.keys, aR, List.mem_append] at hj
         rcases hj with hj | hj
         ·have := cm j hj
          exact .inr (by omega)
         ·refine .inl ((hK k _ hkk).2 j ?_)
          simp only [bm.keys]
          rw [hsplit, aR]
          exact List.mem_append_right _ hj
       | pan c _ =>
        simp only [ur]
        rintro _
        exact ⟨fun j hj => (by cases hj), fun q hq => by cases hq⟩
  ·exact fun hf => hf.elim
 loc := fun W bs κ h h' args hside hr => by
  revert hside hr
  unfold xp
  split
  ·rename_i k rest
   cases hkk : h k with
   | none => exact fun hf => hf.elim
   | some e =>
    cases e with
    | row T s n vs => exact fun hf => hf.elim
    | obj d R => exact fun hf => hf.elim
    | cells T' vs =>
     cases hrr : ay h rest with
     | none => exact fun hf => hf.elim
     | some q =>
      obtain ⟨as_, rs'⟩ := q
      simp only [uY]
      have hsplit : vs = vs.take p.m ++ vs.drop p.m := (List.take_append_drop _ _).symm
      cases hv : ay h (vs.take p.m) with
      | none => exact fun hf => hf.elim
      | some q =>
       obtain ⟨fs, rs⟩ := q
       simp only [tE]
       have key : ∀ r : R, (∀ j ∈ r.reads, h' j = h j) -> r.reads = k :: (rs ++ rs') -> h' k = some (.cells T' vs) /\ ay h' rest = some (as_, rs') /\ ay h' (vs.take p.m) = some (fs, rs) := fun r hr he => by
        rw [he] at hr
        exact ⟨by rw [hr k (by simp), hkk], cD hrr fun j hj => hr j (by simp [hj]), cD hv fun j hj => hr j (by simp [hj])⟩
       intro _ hr
       obtain ⟨g1, g2, g3⟩ := key _ hr (by cases p.out W fs as_ <;> rfl)
       rw [g1, g2]
       simp only [uY, g3, tE]
  ·exact fun hf => hf.elim
section
variable (h : Hp) (κ k : Nat) (T T' : TypeId) (m : Nat) (pre : List AV -> List AV -> Prop) (out : List AV -> List AV -> BOut)
theorem Qq {P : Program} {f : FuncId} (p : HP P f) (W : World) (bs : List Nat) (κ : Nat) (h : Hp) (l : List SV) : p.spec.ev W bs κ h l = xp h κ p.T p.m (p.pre W bs) (p.out W) l := rfl
theorem L8 (rest : List SV) : xp h κ T m pre out (.own k 0 :: rest) = uY h κ k T m pre out (h k) (ay h rest) := rfl
theorem Bh (vs : List SV) (as_ : List AV) (rs' : List Nat) : uY h κ k T m pre out (some (.cells T' vs)) (some (as_, rs')) = tE κ k T T' (vs.drop m) pre out as_ rs' (ay h (vs.take m)) := rfl
theorem Gz (ys : List SV) (as_ : List AV) (rs' : List Nat) (fs : List AV) (rs : List Nat) : tE κ k T T' ys pre out as_ rs' (some (fs, rs)) = ur κ k T ys (T' = T /\ pre fs as_) rs rs' (out fs as_) := rfl
theorem Lx (ys : List SV) (q : Prop) (rs rs' : List Nat) (v : Value) (fs : List AV) : ur κ k T ys q rs rs' (.ret v fs) = ⟨q /\ (k :: rs).Nodup /\ (∀ j ∈ rs', j ∉ k :: rs) /\ fs.length <= 8, .v v, dC rs ++ (cn (aS (8 * κ) fs) ++ [(k, some (.cells T (aI (8 * κ) fs ++ ys)))]), none, [], k :: (rs ++ rs')⟩ := rfl
end
def Yn := ab @Qq <| ab @L8 <| ab @Bh <| ab @Gz @Lx
def σP (T : TypeId) (fs : List AV) (xs args : List Value) : St := ⟨1, bV ((0, .is (.own 0 0)) :: oh args 1), cd ((0, .cells T (aI 1 fs ++ xs.map .v)) :: aS 1 fs)⟩
theorem QB {w : World} {nt m : Nat} {T : TypeId} {fs : List AV} {xs : List Value} {u : Value} {fp : List Nat} (us : Array Value) (hlen : fs.length <= 7) (ho : lg w u fp T fs xs) (hlt : ∀ b ∈ fp, b < w.heap.size) (hnt : us.size + 1 + m = nt) :
  Sat w fp nt ⟨[], [(0, u)]⟩ (σP T fs xs us.toList) { tmps := (#[u] ++ us) ++ Array.replicate m undef, defers := [] } w := by
 obtain ⟨b, vs, rfl, hb, hvs, rfl, hnd⟩ := ho
 have hl := fG hvs
 have hb' : b ∉ rO vs fs := (List.nodup_cons.1 hnd).1
 have hnd' : (rO vs fs).Nodup := (List.nodup_cons.1 hnd).2
 have at' : ∀ j e, cd ((0, .cells T (aI 1 fs ++ xs.map .v)) :: aS 1 fs) j = some e -> (j = 0 /\ e = .cells T (aI 1 fs ++ xs.map .v)) \/ (j ≠ 0 /\ (j, e) ∈ aS 1 fs) := fun j e he => by
  simp only [cd] at he
  by_cases hj : j = 0
  ·subst hj; rw [af] at he; cases he; exact .inl ⟨rfl, rfl⟩
  ·rw [aj _ _ hj] at he; exact .inr ⟨hj, uh he⟩
 have e0 : fP 1 vs (fun _ => .pointer (some ⟨b, 0, none⟩)) 0 = .pointer (some ⟨b, 0, none⟩) := gU (.inl (by omega))
 refine ⟨⟨fP 1 vs (fun _ => .pointer (some ⟨b, 0, none⟩)), bg (fM 1 vs fs (fun _ => [])) 0 [b], fun t => ?_, ⟨fun j e he => ?_, fun j e he c hc => ?_, fun j e he c hc => ?_, fun i j e e' hij hi hj c hc => ?_, ai.refl w _⟩, fun p hp => ?_⟩, ?_, rfl, fun p hp => ?_, fun t k hk => ?_, fun j e he => ?_⟩
 ·show fits _ (bV ((0, .is (.own 0 0)) :: oh us.toList 1) t) _
  simp only [bV, bg]
  split
  ·rename_i ht
   subst ht
   simp only [fits, den, e0, base, cx]
   rw [Array.getD_eq_getD_getElem?, Array.getElem?_append_left (by simp; omega), Array.getElem?_append_left (by simp)]
   rfl
  ·refine kG _ us.toList 1 t (fun t => ((#[Value.pointer (some ⟨b, 0, none⟩)] ++ us) ++ Array.replicate m undef).getD t undef) fun j hj => ?_
   have hj' : j < us.size := by simpa using hj
   rw [Array.getD_eq_getD_getElem?, Array.getElem?_append_left (by simp; omega), Array.getElem?_append_right (by simp)]
   simp [Array.getElem?_eq_getElem hj']
 ·rcases at' j e he with ⟨rfl, rfl⟩ | ⟨hj, hm⟩
  ·exact ⟨b, e0, by rw [af], by rw [di, ew hvs, az]; exact hb⟩
  ·rw [aj _ _ hj]
   exact (fN hvs hm _).1
 ·rcases at' j e he with ⟨rfl, rfl⟩ | ⟨hj, hm⟩
  ·rw [af] at hc; exact hlt c (by simp at hc; simp [hc])
  ·rw [aj _ _ hj] at hc; exact hlt c (List.mem_cons_of_mem _ (bB hl hm c hc))
 ·right
  rcases at' j e he with ⟨rfl, rfl⟩ | ⟨hj, hm⟩
  ·rw [af] at hc; simp at hc; simp [hc]
  ·rw [aj _ _ hj] at hc; exact List.mem_cons_of_mem _ (bB hl hm c hc)
 ·rcases at' i e hi with ⟨rfl, rfl⟩ | ⟨hi0, hmi⟩
  ·rcases at' j e' hj with ⟨rfl, rfl⟩ | ⟨hj0, hmj⟩
   ·exact absurd rfl hij
   ·rw [af] at hc
    rw [aj _ _ hj0]
    simp only [List.mem_singleton] at hc
    subst hc
    exact fun hc' => hb' (bB hl hmj c hc')
  ·rw [aj _ _ hi0] at hc
   rcases at' j e' hj with ⟨rfl, rfl⟩ | ⟨hj0, hmj⟩
   ·rw [af]
    intro hc'
    simp only [List.mem_singleton] at hc'
    subst hc'
    exact hb' (bB hl hmi c hc)
   ·rw [aj _ _ hj0]
    exact ek hnd' hmi hmj hl hij c hc
 ·simp only [List.mem_singleton] at hp
  subst hp
  exact e0
 ·simp; omega
 ·simp only [List.mem_singleton] at hp
  subst hp
  show 0 / 8 < 1
  omega
 ·simp only [σP, bV, bg] at hk
  split at hk
  ·simp [FV.keys, SV.keys] at hk; subst hk; show 0 / 8 < 1; omega
  ·rw [kj] at hk; cases hk
 ·rcases at' j e he with ⟨rfl, rfl⟩ | ⟨hj, hm⟩
  ·refine ⟨by show 0 / 8 < 1; omega, fun i hi => ?_⟩
   simp only [bm.keys, aR, aN, List.append_nil] at hi
   have := cm i hi
   show i / 8 < 1
   omega
  ·have := dn _ hm
   refine ⟨by show j / 8 < 1; simp only at this; omega, fun i hi => ?_⟩
   rw [this.2.2] at hi
   cases hi
theorem Fy {P : Program} {f : FuncId} {fn : Func} {c : Code} {w : World} {nt : Nat} {T : TypeId} {u : Value} {fp : List Nat} {fs : List AV} {xs : List Value} {out : BOut} (us : Array Value) (rs : List ResultVar)
  (hlen : fs.length <= 7) (ho : lg w u fp T fs xs) (hlt : ∀ b ∈ fp, b < w.heap.size)
  (hf : P.funcs[f]? = some fn) (hb : fn.body = some c) (hrs : fn.results.toList = rs) (hnt : us.size + 1 + (fn.ntmps - (us.size + 1)) = nt)
  (h : Wp P w fp nt ⟨[], [(0, u)]⟩ c (Fin P rs (fun _ _ x h => ∃ v fs', out = .ret v fs' /\ (∀ E, den E x = v) /\ ∃ vs ks, h 0 = some (.cells T (vs ++ xs.map .v)) /\ ay h vs = some (fs', ks) /\ (0 :: ks).Nodup) (fun c _ => ∃ v, out = .pan c v)) (σP T fs xs us.toList)) :
  Calls P f (#[u] ++ us) w fun e w' => IJ w u fp T xs e w' out := by
 subst hrs
 have hsat := QB (nt := nt) (m := fn.ntmps - (us.size + 1)) us hlen ho hlt hnt
 have hsz : (#[u] ++ us).size = us.size + 1 := by simp; omega
 refine (jv hf hb (by rw [hsz]; exact hsat) h).mono fun e w' he => ?_
 cases e with
 | returned v' =>
  obtain ⟨W', bs', E, F, x, h', hx, ⟨v, fs', rfl, hd, vs, ks, h0, hv, hn⟩, rfl, hs, hp⟩ := he
  have hs' := hs.back hx
  have hE : E 0 = u := hp (0, u) (by simp)
  have ho' := oD hs' h0 hv hn
  rw [hE, az] at ho'
  refine ⟨by rw [hd E], ⟨_, ho', fun b hb => ?_, fun b hb => ?_⟩, hs'.keeps⟩
  ·obtain ⟨j, hj, hbj⟩ := List.mem_flatMap.1 hb
   have : ∃ e, h' j = some e := by
    rcases List.mem_cons.1 hj with rfl | hj
    ·exact ⟨_, h0⟩
    ·exact (bN hs' hv).2 j hj
   obtain ⟨e, he⟩ := this
   exact (hs'.mine j e he b hbj).symm
  ·obtain ⟨j, hj, hbj⟩ := List.mem_flatMap.1 hb
   have : ∃ e, h' j = some e := by
    rcases List.mem_cons.1 hj with rfl | hj
    ·exact ⟨_, h0⟩
    ·exact (bN hs' hv).2 j hj
   obtain ⟨e, he⟩ := this
   exact hs'.lt j e he b hbj
 | panicked c =>
  obtain ⟨W', bs', E, F, h', hx, ⟨_, rfl⟩, hs, hp⟩ := he
  exact ⟨rfl, (hs.back hx).keeps⟩
 | outgrown => exact he.elim
end
section
open Go.RowKit
structure sK (P : Program) (f : FuncId) where
 T : TypeId
 pre : World -> List Nat -> List AV -> List AV -> Prop
 out : World -> List AV -> List AV -> BOut
 enters : ∀ args w, (callFunc f args).run P w = .ok (.enter f args) w
 ok : ∀ (W w : World) (bs : List Nat) (u : Value) (fp : List Nat) (us : List Value) (fs as_ : List AV), ai W bs w -> bz w u fp T fs -> (∀ b ∈ fp, b < w.heap.size) -> (∀ b ∈ fp, W.heap.size <= b \/ b ∈ bs) -> ey w us as_ -> pre W bs fs as_ ->
  Calls P f (us ++ [u]).toArray w fun e w' => fu w u fp T e w' (out W fs as_)
def kM (h : Hp) (κ : Nat) (T : TypeId) (pre : List AV -> List AV -> Prop) (out : List AV -> List AV -> BOut) : List SV -> R
 | [x, y, .own k 0] => eQ h κ k T pre out (h k) (ay h [x, y])
 | _ => .bad
theorem zQ (h : Hp) (κ k : Nat) (T : TypeId) (pre : List AV -> List AV -> Prop) (out : List AV -> List AV -> BOut) (x y : SV) : kM h κ T pre out [x, y, .own k 0] = eQ h κ k T pre out (h k) (ay h [x, y]) := by
 cases x <;> rfl
def sK.spec {P : Program} {f : FuncId} (p : sK P f) : Spec P f where
 ev := fun W bs κ h args => kM h κ p.T (p.pre W bs) (p.out W) args
 good := fun W bs κ E F h w K args hs hK hk hx hside => by
  rw [p.enters]
  revert hside
  unfold kM
  split
  ·rename_i x y k
   cases hkk : h k with
   | none => exact fun hf => hf.elim
   | some e =>
    cases e with
    | row T s n vs => exact fun hf => hf.elim
    | obj d R => exact fun hf => hf.elim
    | cells T' vs =>
     cases hr : ay h [x, y] with
     | none => exact fun hf => hf.elim
     | some q =>
      obtain ⟨as_, rs'⟩ := q
      simp only [eQ]
      cases hv : ay h vs with
      | none => exact fun hf => hf.elim
      | some q =>
       obtain ⟨fs, rs⟩ := q
       simp only [fT]
       have hent := hs.ent k _ hkk
       obtain ⟨b, hu, _, _⟩ := hent
       have hden : den E (.own k 0) = E k := by simp [den, hu, base, cx]
       have call : ∀ hn : (k :: rs).Nodup, T' = p.T -> p.pre W bs fs as_ -> Calls P f (an E [x, y, .own k 0]).toArray w fun e w' => fu w (E k) ((k :: rs).flatMap F) p.T e w' (p.out W fs as_) := fun hn hT hp => by
        subst hT
        have ho := eC hs hkk hv hn
        have := p.ok W w bs (E k) _ [den E x, den E y] fs as_ hs.keeps ho (fun c hc => ?_) (fun c hc => ?_) (dA hs hr) hp
        ·simp only [an, hden]
         exact this
        ·obtain ⟨j, hj, hcj⟩ := List.mem_flatMap.1 hc
         rcases List.mem_cons.1 hj with rfl | hj
         ·exact hs.lt _ _ hkk c hcj
         ·obtain ⟨e, he⟩ := (bN hs hv).2 j hj
          exact hs.lt j e he c hcj
        ·obtain ⟨j, hj, hcj⟩ := List.mem_flatMap.1 hc
         rcases List.mem_cons.1 hj with rfl | hj
         ·exact hs.mine _ _ hkk c hcj
         ·obtain ⟨e, he⟩ := (bN hs hv).2 j hj
          exact hs.mine j e he c hcj
       cases hout : p.out W fs as_ with
       | ret v fs' =>
        simp only [fB]
        rintro ⟨⟨hT, hp⟩, hn, hd, hlen⟩
        have hc := call hn hT hp
        rw [hout] at hc
        subst hT
        refine hc.mono fun e w' he => ?_
        obtain ⟨rfl, ⟨fp', ho, h1, h2⟩, hkeep⟩ := he
        obtain ⟨E', F', hE', hs'⟩ := mf hs hK hk hkk hv hlen hn ho h1 h2 hkeep
        exact ⟨rfl, E', F', hE', rfl, hs'⟩
       | pan c _ =>
        simp only [fB]
        rintro ⟨⟨hT, hp⟩, hn, hd⟩
        have hc := call hn hT hp
        rw [hout] at hc
        refine hc.mono fun e w' he => ?_
        obtain ⟨rfl, hkeep⟩ := he
        refine ⟨rfl, F, ?_⟩
        refine hs.mu hK (k :: rs) (fun _ => none) (fun j hj => ?_) (fun _ _ => rfl) (fun j e he => by cases he) (fun i j e e' _ he => by cases he) (fun _ _ _ _ => rfl) (fun j => ?_) hkeep
        ·rcases List.mem_cons.1 hj with rfl | hj
         ·exact ⟨_, hkk⟩
         ·exact (bN hs hv).2 j hj
        ·simp only [dropKeys]
  ·exact fun hf => hf.elim
 keys := fun W bs κ h K args hK hx hside => by
  revert hside
  unfold kM
  split
  ·rename_i x y k
   cases hkk : h k with
   | none => exact fun hf => hf.elim
   | some e =>
    cases e with
    | row T s n vs => exact fun hf => hf.elim
    | obj d R => exact fun hf => hf.elim
    | cells T' vs =>
     cases hr : ay h [x, y] with
     | none => exact fun hf => hf.elim
     | some q =>
      obtain ⟨as_, rs'⟩ := q
      simp only [eQ]
      cases hv : ay h vs with
      | none => exact fun hf => hf.elim
      | some q =>
       obtain ⟨fs, rs⟩ := q
       simp only [fT]
       cases hout : p.out W fs as_ with
       | ret v fs' =>
        simp only [fB]
        rintro ⟨_, hn, hd, hlen⟩
        refine ⟨fun j hj => (by cases hj), fun q hq => ?_⟩
        simp only [List.mem_append, List.mem_singleton] at hq
        rcases hq with hq | hq | rfl
        ·simp only [dC, List.mem_map] at hq
         obtain ⟨j, hj, rfl⟩ := hq
         exact ⟨.inl (pq hK hv j hj), fun e he => by cases he⟩
        ·obtain ⟨e, h1, h2⟩ := dS.1 hq
         obtain ⟨h3, h4⟩ := sq hlen h2
         refine ⟨.inr h3, fun e' he' j hj => ?_⟩
         rw [h1] at he'
         simp only [Option.some.injEq] at he'
         subst he'
         rw [h4] at hj
         cases hj
        ·refine ⟨.inl (hK k _ hkk).1, fun e' he' j hj => .inr ?_⟩
         simp only [Option.some.injEq] at he'
         subst he'
         have := cm j hj
         omega
       | pan c _ =>
        simp only [fB]
        rintro _
        exact ⟨fun j hj => (by cases hj), fun q hq => by cases hq⟩
  ·exact fun hf => hf.elim
 loc := fun W bs κ h h' args hside hr => by
  revert hside hr
  unfold kM
  split
  ·rename_i x y k
   cases hkk : h k with
   | none => exact fun hf => hf.elim
   | some e =>
    cases e with
    | row T s n vs => exact fun hf => hf.elim
    | obj d R => exact fun hf => hf.elim
    | cells T' vs =>
     cases hrr : ay h [x, y] with
     | none => exact fun hf => hf.elim
     | some q =>
      obtain ⟨as_, rs'⟩ := q
      simp only [eQ]
      cases hv : ay h vs with
      | none => exact fun hf => hf.elim
      | some q =>
       obtain ⟨fs, rs⟩ := q
       simp only [fT]
       have key : ∀ r : R, (∀ j ∈ r.reads, h' j = h j) -> r.reads = k :: (rs ++ rs') -> h' k = some (.cells T' vs) /\ ay h' [x, y] = some (as_, rs') /\ ay h' vs = some (fs, rs) := fun r hr he => by
        rw [he] at hr
        exact ⟨by rw [hr k (by simp), hkk], cD hrr fun j hj => hr j (by simp [hj]), cD hv fun j hj => hr j (by simp [hj])⟩
       intro _ hr
       obtain ⟨g1, g2, g3⟩ := key _ hr (by cases p.out W fs as_ <;> rfl)
       rw [g1, g2]
       simp only [eQ, g3, fT]
  ·exact fun hf => hf.elim
theorem Ee {P : Program} {f : FuncId} (p : sK P f) (W : World) (bs : List Nat) (κ : Nat) (h : Hp) (l : List SV) : p.spec.ev W bs κ h l = kM h κ p.T (p.pre W bs) (p.out W) l := rfl
def Yb := ab @Ee @zQ
def σB3 (T : TypeId) (fs : List AV) (x y : Value) : St := ⟨1, bV ((2, .is (.own 0 0)) :: oh [x, y] 0), cd ((0, .cells T (aI 1 fs)) :: aS 1 fs)⟩
theorem Bw {w : World} {nt m : Nat} {T : TypeId} {fs : List AV} {u : Value} {fp : List Nat} (x y : Value) (hlen : fs.length <= 7) (ho : bz w u fp T fs) (hlt : ∀ b ∈ fp, b < w.heap.size) (hnt : 3 + m = nt) :
  Sat w fp nt ⟨[], [(0, u)]⟩ (σB3 T fs x y) { tmps := #[x, y, u] ++ Array.replicate m undef, defers := [] } w := by
 obtain ⟨b, vs, rfl, hb, hvs, rfl, hnd⟩ := ho
 have hl := fG hvs
 have hb' : b ∉ rO vs fs := (List.nodup_cons.1 hnd).1
 have hnd' : (rO vs fs).Nodup := (List.nodup_cons.1 hnd).2
 have at' : ∀ j e, cd ((0, .cells T (aI 1 fs)) :: aS 1 fs) j = some e -> (j = 0 /\ e = .cells T (aI 1 fs)) \/ (j ≠ 0 /\ (j, e) ∈ aS 1 fs) := fun j e he => by
  simp only [cd] at he
  by_cases hj : j = 0
  ·subst hj; rw [af] at he; cases he; exact .inl ⟨rfl, rfl⟩
  ·rw [aj _ _ hj] at he; exact .inr ⟨hj, uh he⟩
 have e0 : fP 1 vs (fun _ => .pointer (some ⟨b, 0, none⟩)) 0 = .pointer (some ⟨b, 0, none⟩) := gU (.inl (by omega))
 refine ⟨⟨fP 1 vs (fun _ => .pointer (some ⟨b, 0, none⟩)), bg (fM 1 vs fs (fun _ => [])) 0 [b], fun t => ?_, ⟨fun j e he => ?_, fun j e he c hc => ?_, fun j e he c hc => ?_, fun i j e e' hij hi hj c hc => ?_, ai.refl w _⟩, fun p hp => ?_⟩, ?_, rfl, fun p hp => ?_, fun t k hk => ?_, fun j e he => ?_⟩
 ·show fits _ (bV ((2, .is (.own 0 0)) :: oh [x, y] 0) t) _
  simp only [bV, bg]
  split
  ·rename_i ht
   subst ht
   simp only [fits, den, e0, base, cx]
   rw [Array.getD_eq_getD_getElem?, Array.getElem?_append_left (by simp)]
   rfl
  ·refine kG _ [x, y] 0 t (fun t => ((#[x, y, Value.pointer (some ⟨b, 0, none⟩)]) ++ Array.replicate m undef).getD t undef) fun j hj => ?_
   have hj' : j < 2 := by simpa using hj
   rw [Array.getD_eq_getD_getElem?, Array.getElem?_append_left (by simp; omega)]
   match j, hj' with
   | 0, _ => rfl
   | 1, _ => rfl
 ·rcases at' j e he with ⟨rfl, rfl⟩ | ⟨hj, hm⟩
  ·exact ⟨b, e0, by rw [af], by rw [ew hvs]; exact hb⟩
  ·rw [aj _ _ hj]
   exact (fN hvs hm _).1
 ·rcases at' j e he with ⟨rfl, rfl⟩ | ⟨hj, hm⟩
  ·rw [af] at hc; exact hlt c (by simp at hc; simp [hc])
  ·rw [aj _ _ hj] at hc; exact hlt c (List.mem_cons_of_mem _ (bB hl hm c hc))
 ·right
  rcases at' j e he with ⟨rfl, rfl⟩ | ⟨hj, hm⟩
  ·rw [af] at hc; simp at hc; simp [hc]
  ·rw [aj _ _ hj] at hc; exact List.mem_cons_of_mem _ (bB hl hm c hc)
 ·rcases at' i e hi with ⟨rfl, rfl⟩ | ⟨hi0, hmi⟩
  ·rcases at' j e' hj with ⟨rfl, rfl⟩ | ⟨hj0, hmj⟩
   ·exact absurd rfl hij
   ·rw [af] at hc
    rw [aj _ _ hj0]
    simp only [List.mem_singleton] at hc
    subst hc
    exact fun hc' => hb' (bB hl hmj c hc')
  ·rw [aj _ _ hi0] at hc
   rcases at' j e' hj with ⟨rfl, rfl⟩ | ⟨hj0, hmj⟩
   ·rw [af]
    intro hc'
    simp only [List.mem_singleton] at hc'
    subst hc'
    exact hb' (bB hl hmi c hc)
   ·rw [aj _ _ hj0]
    exact ek hnd' hmi hmj hl hij c hc
 ·simp only [List.mem_singleton] at hp
  subst hp
  exact e0
 ·simp; omega
 ·simp only [List.mem_singleton] at hp
  subst hp
  show 0 / 8 < 1
  omega
 ·simp only [σB3, bV, bg] at hk
  split at hk
  ·simp [FV.keys, SV.keys] at hk; subst hk; show 0 / 8 < 1; omega
  ·rw [kj] at hk; cases hk
 ·rcases at' j e he with ⟨rfl, rfl⟩ | ⟨hj, hm⟩
  ·refine ⟨by show 0 / 8 < 1; omega, fun i hi => ?_⟩
   have := cm i hi
   show i / 8 < 1
   omega
  ·have := dn _ hm
   refine ⟨by show j / 8 < 1; simp only at this; omega, fun i hi => ?_⟩
   rw [this.2.2] at hi
   cases hi
theorem kb {P : Program} {f : FuncId} {fn : Func} {c : Code} {w : World} {nt : Nat} {T : TypeId} {u : Value} {fp : List Nat} {fs : List AV} {out : BOut} (x y : Value) (rs : List ResultVar)
  (hlen : fs.length <= 7) (ho : bz w u fp T fs) (hlt : ∀ b ∈ fp, b < w.heap.size)
  (hf : P.funcs[f]? = some fn) (hb : fn.body = some c) (hrs : fn.results.toList = rs) (hnt : 3 + (fn.ntmps - 3) = nt)
  (h : Wp P w fp nt ⟨[], [(0, u)]⟩ c (Fin P rs (fun _ _ x h => ∃ v fs', out = .ret v fs' /\ (∀ E, den E x = v) /\ ∃ vs ks, h 0 = some (.cells T vs) /\ ay h vs = some (fs', ks) /\ (0 :: ks).Nodup) (fun c _ => ∃ v, out = .pan c v)) (σB3 T fs x y)) :
  Calls P f #[x, y, u] w fun e w' => fu w u fp T e w' out := by
 subst hrs
 have hsat := Bw (nt := nt) (m := fn.ntmps - 3) x y hlen ho hlt hnt
 refine (jv hf hb hsat h).mono fun e w' he => ?_
 cases e with
 | returned v' =>
  obtain ⟨W', bs', E, F, x', h', hx, ⟨v, fs', rfl, hd, vs, ks, h0, hv, hn⟩, rfl, hs, hp⟩ := he
  have hs' := hs.back hx
  have hE : E 0 = u := hp (0, u) (by simp)
  have ho' := eC hs' h0 hv hn
  rw [hE] at ho'
  refine ⟨by rw [hd E], ⟨_, ho', fun b hb => ?_, fun b hb => ?_⟩, hs'.keeps⟩
  ·obtain ⟨j, hj, hbj⟩ := List.mem_flatMap.1 hb
   have : ∃ e, h' j = some e := by
    rcases List.mem_cons.1 hj with rfl | hj
    ·exact ⟨_, h0⟩
    ·exact (bN hs' hv).2 j hj
   obtain ⟨e, he⟩ := this
   exact (hs'.mine j e he b hbj).symm
  ·obtain ⟨j, hj, hbj⟩ := List.mem_flatMap.1 hb
   have : ∃ e, h' j = some e := by
    rcases List.mem_cons.1 hj with rfl | hj
    ·exact ⟨_, h0⟩
    ·exact (bN hs' hv).2 j hj
   obtain ⟨e, he⟩ := this
   exact hs'.lt j e he b hbj
 | panicked c =>
  obtain ⟨W', bs', E, F, h', hx, ⟨_, rfl⟩, hs, hp⟩ := he
  exact ⟨rfl, (hs.back hx).keeps⟩
 | outgrown => exact he.elim
end
end Go.LE
namespace Go.Proofs.YtnemkecffmdlnaaGreatDoor
section
open Go.RowKit Go.LE
def dM := (aq (nC (ab @if_true.{1} @if_false.{1}) (ab @List.toList_toArray.{0} @Option.isNone_none.{0}) (ab @Option.isNone_some.{0} @Option.isSome_none.{0}) (ab @Option.isSome_some.{0} @and_true) (ab @true_and @and_self) (ab @true_imp_iff @forall_const.{1})) (nC (ab @forall_const.{0} @List.append_nil.{0}) (ab @List.nil_append.{0} @List.cons_append.{0}) (ab @cond_true.{1} @cond_false.{1}) (ab @List.map_cons.{0,0} @List.map_nil.{0,0}) (ab @Bool.true_and @Bool.and_true) (ab @beq_false @beq_true)) (nC (ab @imp_self @implies_true.{1}) (ab @implies_true.{0} @Bool.cond_self.{1}) (ab @Option.bind_some.{0,0} @List.getElem?_toArray.{0}) (ab @List.getElem?_cons_zero.{0} @List.getElem?_cons_succ.{0}) (ab @List.length_cons.{0} @List.length_nil.{0}) (ab @List.getD_cons_zero.{0} @List.getD_cons_succ.{0})) (nC (ab @List.take_succ_cons.{0} @List.take_zero.{0}) (ab @List.drop_succ_cons.{0} @List.drop_zero.{0}) (ab @List.zip_cons_cons.{0,0} @List.zip_nil_right.{0,0}) (ab @Option.getD_some.{0} @List.all_cons.{0}) (ab @List.all_nil.{0} @Bool.cond_true_left) (ab @Bool.cond_false_right @Bool.cond_true_right)) (nC (ab @Bool.cond_false_left YE) (ab Yz YW) (ab YZ Yy) (ab YP Y1) (ab YB YC) (ab @Option.map_some.{0,0} @List.not_mem_nil.{0})) (nC (ab @Int.toNat_natCast @Option.toArray_none.{0}) (ab @Option.toArray_some.{0} @List.append_toArray.{0}) (ab @Nat.add_zero @Nat.zero_add) (ab @decide_true @decide_false) (ab @Bool.not_true @Bool.not_false) (ab @List.flatten_cons.{0} @List.flatten_nil.{0})) (nC (ab @List.isEmpty_nil.{0} @ne_eq.{1}) (ab @not_true_eq_false @not_false_eq_true) (ab @Nat.mul_one @Nat.one_mul) (ab @Nat.zero_mul @Nat.sub_zero) (ab @w7 @Array.getD_eq_getD_getElem?.{0}) (ab @List.size_toArray.{0} @WD)) (aq @Yh XS XU @Option.map_none.{0,0} XW XQ Yn Yb))
theorem ev {e p : Prop} (he : e) (h : e -> p := by intro he; simp only [dM, Op.operands, Value.cells, σ0, σB, Nat.reduceEqDiff, Nat.reduceAdd, Nat.reduceMul, Nat.reduceLT, Nat.reduceLeDiff, Nat.reduceBEq, ae, Int.reduceToNat, Int.reduceLT, Int.reduceLE, Nat.reduceDiv, Nat.reduceMod, Nat.reduceSub, Int.reducePow, Nat.reducePow, σP, σB3, he]; exact rfl) : p := h he
section
variable {W : World} {bs : List Nat} {nt : Nat} {ds : Aux} {Q : jU} {σ : St} {e q : Prop} {id : Nat} {ops : Array Oper} {y : Code} {side : Prop} {n : Nat} {φ : Fr} {h : Hp} {pans : List (Option (List PanicEntry))} {lost : List Nat} {fx : List (List Nat × List Nat)}
theorem wR (Γ : Env Tryz.prog) (he : e) (hs : side) (hQ : Wp Tryz.prog W bs nt ds y Q ⟨n, φ, h⟩) (hg : e -> lX Γ W bs nt ops ops.toList σ.n σ.φ σ.h = ⟨side, n, φ, h, pans, lost, fx⟩ := by intro he; simp only [dM, Op.operands, Value.cells, σ0, σB, Nat.reduceEqDiff, Nat.reduceAdd, Nat.reduceMul, Nat.reduceLT, Nat.reduceLeDiff, Nat.reduceBEq, ae, Int.reduceToNat, Int.reduceLT, Int.reduceLE, Nat.reduceDiv, Nat.reduceMod, Nat.reduceSub, Int.reducePow, Nat.reducePow, σP, σB3, he]; exact rfl) (hp : pans.all Option.isNone = true := by rfl) : Wp Tryz.prog W bs nt ds (.seq (.region id ops false) y) Q σ := Wp.ny Γ bP (hg he) hp hs hQ
theorem vR (Γ : Env Tryz.prog) (he : e) (hQ : Wp Tryz.prog W bs nt ds y Q ⟨n, φ, h⟩) (hg : e -> lX Γ W bs nt ops ops.toList σ.n σ.φ σ.h = ⟨side, n, φ, h, pans, lost, fx⟩ := by intro he; simp only [dM, Op.operands, Value.cells, σ0, σB, Nat.reduceEqDiff, Nat.reduceAdd, Nat.reduceMul, Nat.reduceLT, Nat.reduceLeDiff, Nat.reduceBEq, ae, Int.reduceToNat, Int.reduceLT, Int.reduceLE, Nat.reduceDiv, Nat.reduceMod, Nat.reduceSub, Int.reducePow, Nat.reducePow, σP, σB3, he]; exact rfl) (hp : pans.all Option.isNone = true := by rfl) (hs : side := by first | trivial | omega | exact ⟨_, rfl⟩ | (simp; done) | (unfold maxLen; omega) | (simp <;> omega) | (simp <;> unfold maxLen <;> omega)) : Wp Tryz.prog W bs nt ds (.seq (.region id ops false) y) Q σ := Wp.ny Γ bP (hg he) hp hs hQ
theorem wr (Γ : Env Tryz.prog) (he : e) (hs : side) (hQ : q) (hg : e -> lX Γ W bs nt ops ops.toList σ.n σ.φ σ.h = ⟨side, n, φ, h, pans, lost, fx⟩ := by intro he; simp only [dM, Op.operands, Value.cells, σ0, σB, Nat.reduceEqDiff, Nat.reduceAdd, Nat.reduceMul, Nat.reduceLT, Nat.reduceLeDiff, Nat.reduceBEq, ae, Int.reduceToNat, Int.reduceLT, Int.reduceLE, Nat.reduceDiv, Nat.reduceMod, Nat.reduceSub, Int.reducePow, Nat.reducePow, σP, σB3, he]; exact rfl) (hp : pans.all Option.isNone = true := by rfl) (t : q -> Q .normal W bs ⟨n, φ, h⟩ := by intro hq; (with_reducible repeat (first | refine eH ?_ | refine eO ?_ | refine iJ ?_ | refine iM ?_ | refine dG (by decide) ?_ | refine ln ?_ | refine ld ?_ | refine gf ?_ | refine fW ?_)); exact hq) : Wp Tryz.prog W bs nt ds (.region id ops false) Q σ := Wp.At Γ bP (hg he) hp hs (t hQ)
theorem vr (Γ : Env Tryz.prog) (he : e) (hQ : q) (hg : e -> lX Γ W bs nt ops ops.toList σ.n σ.φ σ.h = ⟨side, n, φ, h, pans, lost, fx⟩ := by intro he; simp only [dM, Op.operands, Value.cells, σ0, σB, Nat.reduceEqDiff, Nat.reduceAdd, Nat.reduceMul, Nat.reduceLT, Nat.reduceLeDiff, Nat.reduceBEq, ae, Int.reduceToNat, Int.reduceLT, Int.reduceLE, Nat.reduceDiv, Nat.reduceMod, Nat.reduceSub, Int.reducePow, Nat.reducePow, σP, σB3, he]; exact rfl) (hp : pans.all Option.isNone = true := by rfl) (hs : side := by first | trivial | omega | exact ⟨_, rfl⟩ | (simp; done) | (unfold maxLen; omega) | (simp <;> omega) | (simp <;> unfold maxLen <;> omega)) (t : q -> Q .normal W bs ⟨n, φ, h⟩ := by intro hq; (with_reducible repeat (first | refine eH ?_ | refine eO ?_ | refine iJ ?_ | refine iM ?_ | refine dG (by decide) ?_ | refine ln ?_ | refine ld ?_ | refine gf ?_ | refine fW ?_)); exact hq) : Wp Tryz.prog W bs nt ds (.region id ops false) Q σ := Wp.At Γ bP (hg he) hp hs (t hQ)
theorem kY (Γ : Env Tryz.prog) (he : e) (hs : side) (hQ : Wp Tryz.prog W bs nt ds y Q ⟨n, φ, h⟩) (hg : e -> lX Γ W bs nt ops ops.toList σ.n σ.φ σ.h = ⟨side, n, φ, h, pans, lost, fx⟩ := by intro he; simp only [dM, Op.operands, Value.cells, σ0, σB, Nat.reduceEqDiff, Nat.reduceAdd, Nat.reduceMul, Nat.reduceLT, Nat.reduceLeDiff, Nat.reduceBEq, ae, Int.reduceToNat, Int.reduceLT, Int.reduceLE, Nat.reduceDiv, Nat.reduceMod, Nat.reduceSub, Int.reducePow, Nat.reducePow, σP, σB3, he]; exact rfl) (hp : pans.all Option.isNone = true := by rfl) (hd : (lP ops && lJ ops fx) = true := by kernel_rfl) : Wp Tryz.prog W bs nt ds (.seq (.region id ops true) y) Q σ := Wp.Uv Γ bP (hg he) hp hd hs hQ
theorem TS (Γ : Env Tryz.prog) (he : e) (hQ : Wp Tryz.prog W bs nt ds y Q ⟨n, φ, h⟩) (hg : e -> lX Γ W bs nt ops ops.toList σ.n σ.φ σ.h = ⟨side, n, φ, h, pans, lost, fx⟩ := by intro he; simp only [dM, Op.operands, Value.cells, σ0, σB, Nat.reduceEqDiff, Nat.reduceAdd, Nat.reduceMul, Nat.reduceLT, Nat.reduceLeDiff, Nat.reduceBEq, ae, Int.reduceToNat, Int.reduceLT, Int.reduceLE, Nat.reduceDiv, Nat.reduceMod, Nat.reduceSub, Int.reducePow, Nat.reducePow, σP, σB3, he]; exact rfl) (hp : pans.all Option.isNone = true := by rfl) (hd : (lP ops && lJ ops fx) = true := by kernel_rfl) (hs : side := by first | trivial | omega | exact ⟨_, rfl⟩ | (simp; done) | (unfold maxLen; omega) | (simp <;> omega) | (simp <;> unfold maxLen <;> omega)) : Wp Tryz.prog W bs nt ds (.seq (.region id ops true) y) Q σ := Wp.Uv Γ bP (hg he) hp hd hs hQ
theorem rX (Γ : Env Tryz.prog) (he : e) (hs : side) (hQ : q) (hg : e -> lX Γ W bs nt ops ops.toList σ.n σ.φ σ.h = ⟨side, n, φ, h, pans, lost, fx⟩ := by intro he; simp only [dM, Op.operands, Value.cells, σ0, σB, Nat.reduceEqDiff, Nat.reduceAdd, Nat.reduceMul, Nat.reduceLT, Nat.reduceLeDiff, Nat.reduceBEq, ae, Int.reduceToNat, Int.reduceLT, Int.reduceLE, Nat.reduceDiv, Nat.reduceMod, Nat.reduceSub, Int.reducePow, Nat.reducePow, σP, σB3, he]; exact rfl) (hp : pans.all Option.isNone = true := by rfl) (hd : (lP ops && lJ ops fx) = true := by kernel_rfl) (t : q -> Q .normal W bs ⟨n, φ, h⟩ := by intro hq; (with_reducible repeat (first | refine eH ?_ | refine eO ?_ | refine iJ ?_ | refine iM ?_ | refine dG (by decide) ?_ | refine ln ?_ | refine ld ?_ | refine gf ?_ | refine fW ?_)); exact hq) : Wp Tryz.prog W bs nt ds (.region id ops true) Q σ := Wp.T8 Γ bP (hg he) hp hd hs (t hQ)
theorem Yu (Γ : Env Tryz.prog) (he : e) (hQ : q) (hg : e -> lX Γ W bs nt ops ops.toList σ.n σ.φ σ.h = ⟨side, n, φ, h, pans, lost, fx⟩ := by intro he; simp only [dM, Op.operands, Value.cells, σ0, σB, Nat.reduceEqDiff, Nat.reduceAdd, Nat.reduceMul, Nat.reduceLT, Nat.reduceLeDiff, Nat.reduceBEq, ae, Int.reduceToNat, Int.reduceLT, Int.reduceLE, Nat.reduceDiv, Nat.reduceMod, Nat.reduceSub, Int.reducePow, Nat.reducePow, σP, σB3, he]; exact rfl) (hp : pans.all Option.isNone = true := by rfl) (hd : (lP ops && lJ ops fx) = true := by kernel_rfl) (hs : side := by first | trivial | omega | exact ⟨_, rfl⟩ | (simp; done) | (unfold maxLen; omega) | (simp <;> omega) | (simp <;> unfold maxLen <;> omega)) (t : q -> Q .normal W bs ⟨n, φ, h⟩ := by intro hq; (with_reducible repeat (first | refine eH ?_ | refine eO ?_ | refine iJ ?_ | refine iM ?_ | refine dG (by decide) ?_ | refine ln ?_ | refine ld ?_ | refine gf ?_ | refine fW ?_)); exact hq) : Wp Tryz.prog W bs nt ds (.region id ops true) Q σ := Wp.T8 Γ bP (hg he) hp hd hs (t hQ)
theorem wK (hQ : q) (t : q -> Q .normal W bs σ := by intro hq; (with_reducible repeat (first | refine eH ?_ | refine eO ?_ | refine iJ ?_ | refine iM ?_ | refine dG (by decide) ?_ | refine ln ?_ | refine ld ?_ | refine gf ?_ | refine fW ?_)); exact hq) : Wp Tryz.prog W bs nt ds .skip Q σ := Wp.skip (t hQ)
theorem wE {i : Nat} (hQ : q) (t : q -> Q (.exit i) W bs σ := by intro hq; (with_reducible repeat (first | refine eH ?_ | refine eO ?_ | refine iJ ?_ | refine iM ?_ | refine dG (by decide) ?_ | refine ln ?_ | refine ld ?_ | refine gf ?_ | refine fW ?_)); exact hq) : Wp Tryz.prog W bs nt ds (.exit i) Q σ := Wp.exit (t hQ)
theorem wT (hQ : q) (t : q -> Q .ret W bs σ := by intro hq; (with_reducible repeat (first | refine eH ?_ | refine eO ?_ | refine iJ ?_ | refine iM ?_ | refine dG (by decide) ?_ | refine ln ?_ | refine ld ?_ | refine gf ?_ | refine fW ?_)); exact hq) : Wp Tryz.prog W bs nt ds .ret Q σ := Wp.ret (t hQ)
theorem wZ (he : e) (hQ : q) (t : e -> q -> Q .ret W bs σ := by intro he; intro hq; (with_reducible repeat (first | refine eH ?_ | refine eO ?_ | refine iJ ?_ | refine iM ?_ | refine dG (by decide) ?_ | refine ln ?_ | refine ld ?_ | refine gf ?_ | refine fW ?_)); simp only [dM, Op.operands, Value.cells, σ0, σB, Nat.reduceEqDiff, Nat.reduceAdd, Nat.reduceMul, Nat.reduceLT, Nat.reduceLeDiff, Nat.reduceBEq, ae, Int.reduceToNat, Int.reduceLT, Int.reduceLE, Nat.reduceDiv, Nat.reduceMod, Nat.reduceSub, Int.reducePow, Nat.reducePow, σP, σB3, mP, gL, kF, jo, he]; exact hq) : Wp Tryz.prog W bs nt ds .ret Q σ := Wp.ret (t he hQ)
end
theorem wC {W : World} {bs : List Nat} {nt : Nat} {ds : Aux} {Q : jU} {σ : St} {e : Prop} {c : Operand} {x y : Code} {b : Bool} {p : Prop} (he : e) (ht : b = true -> Wp Tryz.prog W bs nt ds x Q σ) (hf : b = false -> Wp Tryz.prog W bs nt ds y Q σ) (hc : e -> kX σ.φ true c = (p, .v (.bool b)) := by intro he; simp only [dM, Op.operands, Value.cells, σ0, σB, Nat.reduceEqDiff, Nat.reduceAdd, Nat.reduceMul, Nat.reduceLT, Nat.reduceLeDiff, Nat.reduceBEq, ae, Int.reduceToNat, Int.reduceLT, Int.reduceLE, Nat.reduceDiv, Nat.reduceMod, Nat.reduceSub, Int.reducePow, Nat.reducePow, σP, σB3, he]; exact rfl) (hp : p := by trivial) : Wp Tryz.prog W bs nt ds (.cond c x y) Q σ := Wp.cond (hc he) hp ht hf
theorem wM {W : World} {bs : List Nat} {nt : Nat} {ds : Aux} {σ : St} {e : Prop} (m : Nat -> Go.LE.Src) (he : e) {n' : Nat} {L : List (Nat × FV)} {H : List (Nat × bm)} (hk : Qg n' L H := by exact ⟨by simp [FV.keys, SV.keys, ax], by simp [bm.keys, ax, SV.keys, aN, aR]⟩) (hf : e -> E4 m σ.φ L := by intro he; simp only [dM, Op.operands, Value.cells, σ0, σB, Nat.reduceEqDiff, Nat.reduceAdd, Nat.reduceMul, Nat.reduceLT, Nat.reduceLeDiff, Nat.reduceBEq, ae, Int.reduceToNat, Int.reduceLT, Int.reduceLE, Nat.reduceDiv, Nat.reduceMod, Nat.reduceSub, Int.reducePow, Nat.reducePow, σP, σB3, E4, D4, wD, jL, he] <;> trivial) (hh : e -> F9 m σ.h H := by intro he; simp only [dM, Op.operands, Value.cells, σ0, σB, Nat.reduceEqDiff, Nat.reduceAdd, Nat.reduceMul, Nat.reduceLT, Nat.reduceLeDiff, Nat.reduceBEq, ae, Int.reduceToNat, Int.reduceLT, Int.reduceLE, Nat.reduceDiv, Nat.reduceMod, Nat.reduceSub, Int.reducePow, Nat.reducePow, σP, σB3, F9, re, Cd, og, lT, wD, he] <;> trivial) (hn : (gO m H).Nodup := by simp [gO]) (hpn : ∀ p ∈ ds.pins, m p.1 = .key p.1 /\ p.1 / 8 < n' := by simp) : Le W bs nt ds σ ⟨n', bV L, cd H⟩ := Le.mk m hk (hf he) (hh he) hn hpn
theorem wS {e p q : Prop} (he : e) (h : q) (t : e -> q -> p := by intro he hq; simp only [dM, Op.operands, Value.cells, σ0, σB, Nat.reduceEqDiff, Nat.reduceAdd, Nat.reduceMul, Nat.reduceLT, Nat.reduceLeDiff, Nat.reduceBEq, ae, Int.reduceToNat, Int.reduceLT, Int.reduceLE, Nat.reduceDiv, Nat.reduceMod, Nat.reduceSub, Int.reducePow, Nat.reducePow, σP, σB3, mP, gL, kF, jo, he]; exact hq) : p := t he h
theorem qq {p q : Prop} (h : q) (t : q -> p := by intro hq; (with_reducible repeat (first | refine eH ?_ | refine eO ?_ | refine iJ ?_ | refine iM ?_ | refine dG (by decide) ?_ | refine ln ?_ | refine ld ?_ | refine gf ?_ | refine fW ?_)); exact hq) : p := t h
theorem oo {p : Prop} (h : p := by first | trivial | omega | exact ⟨_, rfl⟩ | (simp; done) | (unfold maxLen; omega) | (simp <;> omega) | (simp <;> unfold maxLen <;> omega)) : p := h
end
section
inductive Rx where
 | eps
 | cls (S : BitVec 256)
 | cat (a b : Rx)
 | alt (a b : Rx)
 | star (a : Rx)
 | and (a b : Rx)
 | minus (a b : Rx)
abbrev RL := Nat × Rx
def b7 (n : Nat) : Nat := min n 2001
def aQ (mk : Rx -> Rx -> Rx) (a b : RL) : RL := (b7 (1 + a.1 + b.1), mk a.2 b.2)
def bK (t : Rx) : RL := (1, t)
def eo (a : RL) : RL := (b7 (1 + a.1), .star a.2)
def bw (a : RL) : RL := aQ .alt a (bK .eps)
def bq (f : RL -> RL) : Nat -> RL -> RL
 | 0, x => x
 | n + 1, x => bq f n (f x)
def cJ (a : RL) (m n : Int) : RL :=
 if m = 0 /\ n < 0 then eo a
 else if m = 0 /\ n = 0 then bK .eps
 else if n < 0 then aQ .cat (bq (fun x => aQ .cat x a) (m - 1).toNat (if m = 0 then bw a else a)) (eo a)
 else bq (fun x => aQ .cat x (bw a)) (n - max m 1).toNat (bq (fun x => aQ .cat x a) (m - 1).toNat (if m = 0 then bw a else a))
section
variable (c : Int -> Int) (N : Int) (rd : Int -> Except (Int × Int) (BitVec 256 × Int))
def hJ : Nat -> Int -> Int -> Int × Int
 | 0, n, i => (n, i)
 | k + 1, n, i => if i < N /\ 48 <= c i /\ c i <= 57 then hJ k (10 * n + (c i - 48)) (i + 1) else (n, i)
def fO (i : Int) : Except (Int × Int) (Int × Int) :=
 if (hJ c N 3 0 i).2 = i then .error (20, i) else .ok (hJ c N 3 0 i)
def tB (m j : Int) : Except (Int × Int) (Int × Int) :=
 if j < N /\ c j = 44 then (if ¬ j + 1 < N \/ c (j + 1) ≠ 125 then fO c N (j + 1) else .ok (-1, j + 1)) else .ok (m, j)
def kD (m n j i : Int) : Except (Int × Int) (Int × Int × Int) :=
 if ¬ j < N \/ c j ≠ 125 then .error (20, j)
 else if 255 < m \/ 255 < n \/ (0 <= n /\ n < m) then .error (22, i)
 else .ok (m, n, j + 1)
def lE (i : Int) : Except (Int × Int) (Int × Int × Int) :=
 match fO c N (i + 1) with
 | .error e => .error e
 | .ok (m, j) => match tB c N m j with
  | .error e => .error e
  | .ok (n, j) => kD c N m n j i
def gB : Nat -> RL -> Int -> Except (Int × Int) (RL × Int)
 | 0, r, i => .ok (r, i)
 | f + 1, r, i =>
  if ¬ i < N then .ok (r, i)
  else if c i = 42 then gB f (eo r) (i + 1)
  else if c i = 43 then gB f (aQ .cat r (eo r)) (i + 1)
  else if c i = 63 then gB f (bw r) (i + 1)
  else if c i = 123 then
   match lE c N i with
   | .error e => .error e
   | .ok (m, n, j) => gB f (cJ r m n) j
  else .ok (r, i)
def qn (o : Option RL) : RL := o.getD (bK .eps)
def vn (o : Option RL) (p : RL) : RL := match o with
 | none => p
 | some x => aQ .cat x p
def eS (x : Int) : Prop := x = 124 \/ x = 38 \/ x = 45 \/ x = 41
def bf (x : Int) : Prop := x = 42 \/ x = 43 \/ x = 63 \/ x = 123
instance (x : Int) : Decidable (eS x) := by unfold eS; infer_instance
instance (x : Int) : Decidable (bf x) := by unfold bf; infer_instance
def dP (atom : Int -> Except (Int × Int) (RL × Int)) : Nat -> Option RL -> Int -> Except (Int × Int) (RL × Int)
 | 0, o, i => .ok (qn o, i)
 | f + 1, o, i =>
  if ¬ i < N then .ok (qn o, i)
  else if eS (c i) then .ok (qn o, i)
  else if bf (c i) then .error (20, i)
  else match atom i with
   | .error e => .error e
   | .ok (a, j) => match gB c N (N.toNat + 1) a j with
    | .error e => .error e
    | .ok (p, k) => dP atom f (some (vn o p)) k
def jD (row : Int -> Except (Int × Int) (RL × Int)) : Nat -> RL -> Int -> Except (Int × Int) (RL × Int)
 | 0, o, i => .ok (o, i)
 | f + 1, o, i =>
  if ¬ i < N then .ok (o, i)
  else if c i = 38 then match row (i + 1) with
   | .error e => .error e
   | .ok (r, j) => jD row f (aQ .and o r) j
  else if c i = 45 then match row (i + 1) with
   | .error e => .error e
   | .ok (r, j) => jD row f (aQ .minus o r) j
  else .ok (o, i)
def jr (row : Int -> Except (Int × Int) (RL × Int)) (i : Int) : Except (Int × Int) (RL × Int) :=
 match row i with
 | .error e => .error e
 | .ok (r, j) => jD c N row (N.toNat + 1) r j
def sW (meet : Int -> Except (Int × Int) (RL × Int)) : Nat -> RL -> Int -> Except (Int × Int) (RL × Int)
 | 0, o, i => .ok (o, i)
 | f + 1, o, i =>
  if i < N /\ c i = 124 then match meet (i + 1) with
   | .error e => .error e
   | .ok (r, j) => sW meet f (aQ .alt o r) j
  else .ok (o, i)
def Vp (meet : Int -> Except (Int × Int) (RL × Int)) (i : Int) : Except (Int × Int) (RL × Int) :=
 match meet i with
 | .error e => .error e
 | .ok (r, j) => sW c N meet (N.toNat + 1) r j
def sf (atom : Int -> Except (Int × Int) (RL × Int)) : Int -> Except (Int × Int) (RL × Int) :=
 Vp c N (jr c N (dP c N atom (N.toNat + 1) none))
def pg (i : Int) : Except (Int × Int) (RL × Int) := match rd i with
 | .error e => .error e
 | .ok (S, j) => .ok (bK (.cls S), j)
def qP (i : Int) : Except (Int × Int) (RL × Int) -> Except (Int × Int) (RL × Int)
 | .error e => .error e
 | .ok (r, j) => if ¬ j < N then .error (21, i) else .ok (r, j + 1)
def bk : Nat -> Int -> Except (Int × Int) (RL × Int)
 | 0, i => if c i = 40 then .error (23, i) else pg rd i
 | n + 1, i => if c i = 40 then qP N i (sf c N (bk n) (i + 1)) else pg rd i
def alts (n : Nat) : Int -> Except (Int × Int) (RL × Int) := sf c N (bk c N rd n)
def LA : Except (Int × Int) (RL × Int) -> Except (Int × Int) Rx
 | .error e => .error e
 | .ok (r, j) => if j < N then .error (20, j) else if 2000 < r.1 then .error (24, 0) else .ok r.2
def uX : Except (Int × Int) Rx := if 1048576 < N then .error (1, 0) else LA N (alts c N rd 1000 0)
end
end
section
inductive RT where
 | eps
 | cls (S : BitVec 256)
 | cat (a b : RT)
 | alt (a b : RT)
 | and (a b : RT)
 | minus (a b : RT)
 | rep (a : RT) (m n : Int)
def cC (x : Rx) (m : Int) (k : Int) : Rx := if k < m then x else .alt x .eps
def cR (x : Rx) (m : Int) : Nat -> Int -> Rx -> Rx
 | 0, _, w => w
 | n + 1, k, w => cR x m n (k + 1) (.cat w (cC x m k))
def bX (m : Int) : Int := if m = -2 then 1 else m
def cv (x : Rx) (m n : Int) : Rx :=
 if n < 0 /\ bX m = 0 then .star x
 else if n = 0 then .eps
 else if n < 0 then .cat (cR x (bX m) (bX m - 1).toNat 1 (cC x (bX m) 0)) (.star x)
 else cR x (bX m) (n - 1).toNat 1 (cC x (bX m) 0)
def cO (a m n : Int) : Int :=
 if m = -2 then a + 1 + a + 1
 else if n < 0 /\ m = 0 then a + 1
 else if n < 0 then m * a + m - 1 + 1 + a + 1
 else if n = 0 then 1
 else if m = 0 then n * (a + 2) + n - 1
 else m * a + m - 1 + (n - m) * (a + 2 + 1)
def RT.expand : RT -> Rx
 | .eps => .eps
 | .cls S => .cls S
 | .cat a b => .cat a.expand b.expand
 | .alt a b => .alt a.expand b.expand
 | .and a b => .and a.expand b.expand
 | .minus a b => .minus a.expand b.expand
 | .rep a m n => cv a.expand m n
def RT.sz : RT -> Nat
 | .eps => 1
 | .cls S => 1
 | .cat a b => b7 (1 + a.sz + b.sz)
 | .alt a b => b7 (1 + a.sz + b.sz)
 | .and a b => b7 (1 + a.sz + b.sz)
 | .minus a b => b7 (1 + a.sz + b.sz)
 | .rep a m n => b7 (cO a.sz m n).toNat
def RT.val (t : RT) : RL := (t.sz, t.expand)
theorem iS (n : Nat) : b7 n <= 2001 := by unfold b7; omega
theorem F5 (a b : Nat) : b7 (1 + b7 a + b) = b7 (1 + a + b) := by unfold b7; omega
theorem GQ (a b : Nat) : b7 (1 + a + b7 b) = b7 (1 + a + b) := by unfold b7; omega
theorem Ak {n : Nat} (h : n <= 2001) : b7 n = n := by unfold b7; omega
theorem kA (y : RL) : ∀ (k : Nat) (s : Nat) (w : Rx), (bq (fun x => aQ .cat x y) k (b7 s, w)).1 = b7 (s + k * (1 + y.1))
 | 0, s, w => by simp [bq]
 | k + 1, s, w => by
  show (bq (fun x => aQ .cat x y) k (b7 (1 + b7 s + y.1), .cat w y.2)).1 = _
  rw [F5, kA y k, Nat.succ_mul]
  congr 1
  omega
theorem sU (x : Rx) (y : RL) (m : Int) (hy : y.2 = x) : ∀ (n : Nat) (k : Int) (s : Nat) (w : Rx), k + n <= m -> (bq (fun z => aQ .cat z y) n (s, w)).2 = cR x m n k w
 | 0, k, s, w, _ => rfl
 | n + 1, k, s, w, h => by
  have hpx : cC x m k = y.2 := by rw [cC, if_pos (by omega), hy]
  show (bq (fun z => aQ .cat z y) n (b7 (1 + s + y.1), .cat w y.2)).2 = cR x m n (k + 1) (.cat w (cC x m k))
  rw [hpx]
  exact sU x y m hy n (k + 1) _ _ (by omega)
theorem uT (x : Rx) (y : RL) (m : Int) (hy : y.2 = .alt x .eps) : ∀ (n : Nat) (k : Int) (s : Nat) (w : Rx), m <= k -> (bq (fun z => aQ .cat z y) n (s, w)).2 = cR x m n k w
 | 0, k, s, w, _ => rfl
 | n + 1, k, s, w, h => by
  have hpx : cC x m k = y.2 := by rw [cC, if_neg (by omega), hy]
  show (bq (fun z => aQ .cat z y) n (b7 (1 + s + y.1), .cat w y.2)).2 = cR x m n (k + 1) (.cat w (cC x m k))
  rw [hpx]
  exact uT x y m hy n (k + 1) _ _ (by omega)
theorem uq (x : Rx) (m : Int) : ∀ (a b : Nat) (k : Int) (w : Rx), cR x m (a + b) k w = cR x m b (k + a) (cR x m a k w)
 | 0, b, k, w => by simp [cR]
 | a + 1, b, k, w => by
  rw [Nat.succ_add]
  simp only [cR]
  rw [uq x m a b]
  congr 1
  omega
theorem sS (t : RT) : eo t.val = (RT.rep t 0 (-1)).val := by
 simp only [eo, RT.val, RT.sz, RT.expand, cv, bX, cO]
 simp
 congr 1
 omega
theorem uR (t : RT) : aQ .cat t.val (eo t.val) = (RT.rep t (-2) (-1)).val := by
 simp only [eo, aQ, RT.val, RT.sz, RT.expand, cv, bX, cO, cR, cC]
 simp [cR]
 rw [GQ]
 congr 1
 omega
theorem x6 (t : RT) : bw t.val = (RT.rep t 0 1).val := by
 simp only [bw, bK, eo, aQ, RT.val, RT.sz, RT.expand, cv, bX, cO, cR, cC]
 simp [cR]
 congr 1
 omega
theorem AX (p k s : Nat) : b7 (p + k * (1 + b7 s)) = b7 (p + k * (1 + s)) := by
 by_cases h : s <= 2001
 ·rw [Ak h]
 ·have e : b7 s = 2001 := by unfold b7; omega
  rw [e]
  cases k with
  | zero => simp
  | succ k =>
   have h1 := Nat.succ_mul k (1 + 2001)
   have h2 := Nat.succ_mul k (1 + s)
   unfold b7
   rw [h1, h2]
   omega
theorem z8 {α β : Type} {x : α × β} {a : α} {b : β} (h1 : x.1 = a) (h2 : x.2 = b) : x = (a, b) := by rw [<- h1, <- h2]
theorem qA (t : RT) (m n : Int) (h0 : 0 <= m) (h1 : n = -1 \/ (0 <= n /\ m <= n)) (ht : t.sz <= 2001) : cJ t.val m n = (RT.rep t m n).val := by
 have hp : bX m = m := by unfold bX; rw [if_neg (by omega)]
 have hm2 : ¬ m = -2 := by omega
 rcases h1 with rfl | ⟨hn, hmn⟩
 ·by_cases hm : m = 0
  ·subst hm
   rw [<- sS]
   rfl
  ·obtain ⟨a, rfl⟩ : ∃ a : Nat, m = (a : Int) + 1 := ⟨(m - 1).toNat, by omega⟩
   have e1 : ((a : Int) + 1 - 1).toNat = a := by omega
   have e2 : cJ t.val ((a : Int) + 1) (-1) = aQ .cat (bq (fun x => aQ .cat x t.val) a t.val) (eo t.val) := by
    unfold cJ
    rw [if_neg (by omega), if_neg (by omega), if_pos (by omega), e1, if_neg hm]
   rw [e2]
   apply z8
   ·show b7 (1 + (bq (fun x => aQ .cat x t.val) a t.val).1 + b7 (1 + t.sz)) = b7 (cO t.sz ((a : Int) + 1) (-1)).toNat
    have e3 : (bq (fun x => aQ .cat x t.val) a t.val).1 = b7 (t.sz + a * (1 + t.sz)) := by
     have := kA t.val a t.sz t.expand
     rw [Ak ht] at this
     exact this
    have e4 : cO t.sz ((a : Int) + 1) (-1) = ((1 + (t.sz + a * (1 + t.sz)) + (1 + t.sz) : Nat) : Int) := by
     unfold cO
     rw [if_neg hm2, if_neg (by omega), if_pos (by omega)]
     have g1 : ((a : Int) + 1) * (t.sz : Int) = (a : Int) * t.sz + t.sz := by rw [Int.add_mul]; omega
     have g2 : a * (1 + t.sz) = a + a * t.sz := by rw [Nat.mul_add]; omega
     rw [g1, g2]
     have g3 : ((a * t.sz : Nat) : Int) = (a : Int) * t.sz := by simp
     omega
    rw [e3, e4, F5, GQ, Int.toNat_natCast]
   ·show Rx.cat (bq (fun x => aQ .cat x t.val) a t.val).2 (.star t.expand) = cv t.expand ((a : Int) + 1) (-1)
    unfold cv
    rw [hp, if_neg (by omega), if_neg (by omega), if_pos (by omega), e1]
    have := sU t.expand t.val ((a : Int) + 1) rfl a 1 t.sz t.expand (by omega)
    rw [show cC t.expand ((a : Int) + 1) 0 = t.expand from by unfold cC; rw [if_pos (by omega)]]
    rw [<- this]
    rfl
 ·by_cases hm : m = 0
  ·subst hm
   by_cases hn0 : n = 0
   ·subst hn0; rfl
   ·obtain ⟨b, rfl⟩ : ∃ b : Nat, n = (b : Int) + 1 := ⟨(n - 1).toNat, by omega⟩
    have e1 : ((b : Int) + 1 - max 0 1).toNat = b := by omega
    have e2 : cJ t.val 0 ((b : Int) + 1) = bq (fun x => aQ .cat x (bw t.val)) b (bw t.val) := by
     unfold cJ
     rw [if_neg (by omega), if_neg (by omega), if_neg (by omega), e1, if_pos rfl]
     rfl
    rw [e2]
    apply z8
    ·have e3 : (bq (fun x => aQ .cat x (bw t.val)) b (bw t.val)).1 = b7 ((t.sz + 2) + b * (1 + (t.sz + 2))) := by
      have := kA (bw t.val) b (1 + t.sz + 1) (.alt t.expand .eps)
      rw [show (bw t.val).1 = b7 (t.sz + 2) from by show b7 (1 + t.sz + 1) = _; congr 1; omega, AX] at this
      rw [show 1 + t.sz + 1 = t.sz + 2 by omega] at this
      rw [<- this]
      show (bq _ b (b7 (1 + t.sz + 1), _)).1 = _
      rw [show 1 + t.sz + 1 = t.sz + 2 by omega]
      rfl
     have e4 : cO t.sz 0 ((b : Int) + 1) = (((t.sz + 2) + b * (1 + (t.sz + 2)) : Nat) : Int) := by
      unfold cO
      rw [if_neg (by omega), if_neg (by omega), if_neg (by omega), if_neg (by omega), if_pos rfl]
      have g1 : ((b : Int) + 1) * ((t.sz : Int) + 2) = (b : Int) * t.sz + 2 * b + t.sz + 2 := by rw [Int.add_mul, Int.mul_add]; omega
      have g2 : b * (1 + (t.sz + 2)) = b * t.sz + 3 * b := by rw [show 1 + (t.sz + 2) = t.sz + 3 by omega, Nat.mul_add]; omega
      rw [g1, g2]
      have g3 : ((b * t.sz : Nat) : Int) = (b : Int) * t.sz := by simp
      omega
     rw [e3]
     show _ = b7 (cO t.sz 0 ((b : Int) + 1)).toNat
     rw [e4, Int.toNat_natCast]
    ·show _ = cv t.expand 0 ((b : Int) + 1)
     unfold cv
     rw [hp, if_neg (by omega), if_neg (by omega), if_neg (by omega), show ((b : Int) + 1 - 1).toNat = b by omega]
     have := uT t.expand (bw t.val) 0 rfl b 1 (bw t.val).1 (.alt t.expand .eps) (by omega)
     rw [show cC t.expand 0 0 = .alt t.expand .eps from by unfold cC; rw [if_neg (by omega)]]
     rw [<- this]
     rfl
  ·obtain ⟨a, rfl⟩ : ∃ a : Nat, m = (a : Int) + 1 := ⟨(m - 1).toNat, by omega⟩
   obtain ⟨d, rfl⟩ : ∃ d : Nat, n = (a : Int) + 1 + d := ⟨(n - (a + 1)).toNat, by omega⟩
   have e1 : ((a : Int) + 1 - 1).toNat = a := by omega
   have e0 : ((a : Int) + 1 + d - max ((a : Int) + 1) 1).toNat = d := by omega
   have e2 : cJ t.val ((a : Int) + 1) ((a : Int) + 1 + d) = bq (fun x => aQ .cat x (bw t.val)) d (bq (fun x => aQ .cat x t.val) a t.val) := by
    unfold cJ
    rw [if_neg (by omega), if_neg (by omega), if_neg (by omega), e0, e1, if_neg hm]
   have e3 : (bq (fun x => aQ .cat x t.val) a t.val).1 = b7 (t.sz + a * (1 + t.sz)) := by
    have := kA t.val a t.sz t.expand
    rw [Ak ht] at this
    exact this
   have e5 : (bq (fun x => aQ .cat x t.val) a t.val).2 = cR t.expand ((a : Int) + 1) a 1 t.expand := sU t.expand t.val ((a : Int) + 1) rfl a 1 t.sz t.expand (by omega)
   have e6 : bq (fun x => aQ .cat x t.val) a t.val = (b7 (t.sz + a * (1 + t.sz)), cR t.expand ((a : Int) + 1) a 1 t.expand) := z8 e3 e5
   rw [e2, e6]
   apply z8
   ·have e4 : cO t.sz ((a : Int) + 1) ((a : Int) + 1 + d) = ((t.sz + a * (1 + t.sz) + d * (1 + (t.sz + 2)) : Nat) : Int) := by
     unfold cO
     rw [if_neg hm2, if_neg (by omega), if_neg (by omega), if_neg (by omega), if_neg hm]
     have g1 : ((a : Int) + 1) * (t.sz : Int) = (a : Int) * t.sz + t.sz := by rw [Int.add_mul]; omega
     have g2 : a * (1 + t.sz) = a + a * t.sz := by rw [Nat.mul_add]; omega
     have g4 : ((a : Int) + 1 + d - ((a : Int) + 1)) * ((t.sz : Int) + 2 + 1) = (d : Int) * t.sz + 3 * d := by
      rw [show (a : Int) + 1 + d - ((a : Int) + 1) = d by omega, show (t.sz : Int) + 2 + 1 = t.sz + 3 by omega, Int.mul_add]; omega
     have g5 : d * (1 + (t.sz + 2)) = d * t.sz + 3 * d := by rw [show 1 + (t.sz + 2) = t.sz + 3 by omega, Nat.mul_add]; omega
     rw [g1, g2, g4, g5]
     have g3 : ((a * t.sz : Nat) : Int) = (a : Int) * t.sz := by simp
     have g6 : ((d * t.sz : Nat) : Int) = (d : Int) * t.sz := by simp
     omega
    show _ = b7 (cO t.sz ((a : Int) + 1) ((a : Int) + 1 + d)).toNat
    rw [e4, Int.toNat_natCast, kA]
    rw [show (bw t.val).1 = b7 (t.sz + 2) from by show b7 (1 + t.sz + 1) = _; congr 1; omega, AX]
   ·show _ = cv t.expand ((a : Int) + 1) ((a : Int) + 1 + d)
    unfold cv
    rw [hp, if_neg (by omega), if_neg (by omega), if_neg (by omega), show ((a : Int) + 1 + d - 1).toNat = a + d by omega, uq]
    rw [show cC t.expand ((a : Int) + 1) 0 = t.expand from by unfold cC; rw [if_pos (by omega)]]
    exact uT t.expand (bw t.val) ((a : Int) + 1) rfl d (1 + a) _ _ (by omega)
theorem rr (t : RT) : t.sz <= 2001 := by
 cases t <;> simp only [RT.sz] <;> first | exact iS _ | omega
end
section
structure Lv where
 place : Int
 alt : Option RT
 meet : Option RT
 sgn : Int
 row : Option RT
 fac : Option RT
def eT (i : Int) : Lv := ⟨i, none, none, 0, none, none⟩
def WK : Option RT -> RT -> RT
 | none, p => p
 | some r, p => .cat r p
def rowOf (row fac : Option RT) : Option RT := match fac with
 | none => row
 | some p => some (WK row p)
def dI (f : Lv) : Lv := { f with row := rowOf f.row f.fac, fac := none }
def jB (meet : Option RT) (sgn : Int) (r : RT) : RT := match meet with
 | none => r
 | some m => if sgn = 38 then .and m r else .minus m r
def jZ (f : Lv) : Lv := { f with meet := some (jB f.meet f.sgn ((rowOf f.row f.fac).getD .eps)), row := none, fac := none }
def Qs (alt : Option RT) (m : RT) : RT := match alt with
 | none => m
 | some a => .alt a m
def dD (f : Lv) : RT := jB f.meet f.sgn ((rowOf f.row f.fac).getD .eps)
def gl (f : Lv) : RT := Qs f.alt (dD f)
def nZ (f : Lv) : Lv := { f with alt := some (gl f), meet := none, row := none, fac := none }
section
variable (c : Int -> Int) (N : Int) (rd : Int -> Except (Int × Int) (BitVec 256 × Int))
def lY (i : Int) (f : Lv) (p : RT) : Except (Int × Int) (Int × Lv) :=
 if c i = 42 then .ok (i + 1, { f with fac := some (.rep p 0 (-1)) })
 else if c i = 43 then .ok (i + 1, { f with fac := some (.rep p (-2) (-1)) })
 else if c i = 63 then .ok (i + 1, { f with fac := some (.rep p 0 1) })
 else match lE c N i with
  | .error e => .error e
  | .ok (m, n, j) => .ok (j, { f with fac := some (.rep p m n) })
def dE (i : Int) (f : Lv) (rest : List Lv) : Except (Int × Int) (Int × Lv × List Lv) :=
 if bf (c i) then
  match f.fac with
  | none => .error (20, i)
  | some p => match lY c N i f p with
   | .error e => .error e
   | .ok (j, g) => .ok (j, g, rest)
 else if c i = 124 then .ok (i + 1, nZ f, rest)
 else if c i = 38 \/ c i = 45 then .ok (i + 1, { jZ f with sgn := c i }, rest)
 else if c i = 41 then
  match rest with
  | [] => .error (20, i)
  | g :: r => .ok (i + 1, { g with fac := some (gl f) }, r)
 else if c i = 40 then
  if 1000 < rest.length + 1 then .error (23, i) else .ok (i + 1, eT i, dI f :: rest)
 else match rd i with
  | .error e => .error e
  | .ok (S, j) => .ok (j, { dI f with fac := some (.cls S) }, rest)
def runN : Nat -> Int -> Lv -> List Lv -> Except (Int × Int) (Lv × List Lv)
 | 0, _, f, rest => .ok (f, rest)
 | n + 1, i, f, rest =>
  if i < N then match dE c N rd i f rest with
   | .error e => .error e
   | .ok (j, g, r) => runN n j g r
  else .ok (f, rest)
def run (i : Int) (f : Lv) (rest : List Lv) : Except (Int × Int) (Lv × List Lv) := runN c N rd ((N - i).toNat + 1) i f rest
def mm : Except (Int × Int) (Lv × List Lv) -> Except (Int × Int) RT
 | .error e => .error e
 | .ok (f, rest) => if rest ≠ [] then .error (21, f.place) else if 2000 < (gl f).sz then .error (24, 0) else .ok (gl f)
def fY : Except (Int × Int) RT := if 1048576 < N then .error (1, 0) else mm (run c N rd 0 (eT (-1)) [])
variable {c N rd}
def qI (N : Int) (rd : Int -> Except (Int × Int) (BitVec 256 × Int)) : Prop := ∀ i S j, 0 <= i -> i < N -> rd i = .ok (S, j) -> i < j /\ j <= N
theorem H5 : ∀ (k : Nat) (n i : Int), i <= (hJ c N k n i).2 /\ ((hJ c N k n i).2 <= N \/ (hJ c N k n i).2 = i) := by
 intro k
 induction k with
 | zero => intro n i; exact ⟨Int.le_refl _, .inr rfl⟩
 | succ k ih =>
  intro n i
  simp only [hJ]
  split
  ·have := ih (10 * n + (c i - 48)) (i + 1)
   omega
  ·exact ⟨Int.le_refl _, .inr rfl⟩
theorem sv {i n j : Int} (h : fO c N i = .ok (n, j)) : i < j /\ j <= N := by
 have := H5 (c := c) (N := N) 3 0 i
 unfold fO at h
 split at h
 ·cases h
 ·simp only [Except.ok.injEq] at h
  rw [h] at this
  rename_i hne
  rw [h] at hne
  simp only at this hne
  omega
theorem tA {i m n j : Int} (h : lE c N i = .ok (m, n, j)) : i < j /\ j <= N := by
 unfold lE at h
 cases h1 : fO c N (i + 1) with
 | error e => rw [h1] at h; cases h
 | ok p =>
  obtain ⟨m', j'⟩ := p
  rw [h1] at h
  simp only at h
  have g1 := sv h1
  cases h2 : tB c N m' j' with
  | error e => rw [h2] at h; cases h
  | ok p =>
   obtain ⟨n', j2⟩ := p
   rw [h2] at h
   simp only at h
   have g2 : j' <= j2 /\ j2 <= N := by
    unfold tB at h2
    split at h2
    ·split at h2
     ·have := sv h2; omega
     ·simp only [Except.ok.injEq, Prod.mk.injEq] at h2; omega
    ·simp only [Except.ok.injEq, Prod.mk.injEq] at h2; omega
   unfold kD at h
   split at h
   ·cases h
   ·split at h
    ·cases h
    ·simp only [Except.ok.injEq, Prod.mk.injEq] at h; omega
theorem Pd {i m n j : Int} (h : lE c N i = .ok (m, n, j)) : 0 <= m /\ (n = -1 \/ (0 <= n /\ m <= n)) := by
 have nn : ∀ (k : Nat) (n i : Int), 0 <= n -> 0 <= (hJ c N k n i).1 := by
  intro k
  induction k with
  | zero => intro n i h; exact h
  | succ k ih =>
   intro n i h
   simp only [hJ]
   split
   ·exact ih _ _ (by omega)
   ·exact h
 have ne : ∀ {i n j : Int}, fO c N i = .ok (n, j) -> 0 <= n := fun {i n j} h => by
  unfold fO at h
  split at h
  ·cases h
  ·simp only [Except.ok.injEq] at h
   have := nn 3 0 i (by omega)
   rw [h] at this
   exact this
 unfold lE at h
 cases h1 : fO c N (i + 1) with
 | error e => rw [h1] at h; cases h
 | ok p =>
  obtain ⟨m', j'⟩ := p
  rw [h1] at h
  simp only at h
  have g1 := ne h1
  cases h2 : tB c N m' j' with
  | error e => rw [h2] at h; cases h
  | ok p =>
   obtain ⟨n', j2⟩ := p
   rw [h2] at h
   simp only at h
   have g2 : n' = -1 \/ 0 <= n' := by
    unfold tB at h2
    split at h2
    ·split at h2
     ·exact .inr (ne h2)
     ·simp only [Except.ok.injEq, Prod.mk.injEq] at h2; omega
    ·simp only [Except.ok.injEq, Prod.mk.injEq] at h2; omega
   unfold kD at h
   split at h
   ·cases h
   ·split at h
    ·cases h
    ·simp only [Except.ok.injEq, Prod.mk.injEq] at h
     obtain ⟨rfl, rfl, _⟩ := h
     omega
theorem CX (hrd : qI N rd) {i j : Int} {f g : Lv} {rest r : List Lv} (h0 : 0 <= i) (hi : i < N) (h : dE c N rd i f rest = .ok (j, g, r)) : i < j /\ j <= N := by
 unfold dE at h
 split at h
 ·cases hf : f.fac with
  | none => rw [hf] at h; cases h
  | some p =>
   rw [hf] at h
   simp only at h
   cases hp : lY c N i f p with
   | error e => rw [hp] at h; cases h
   | ok q =>
    obtain ⟨j', g'⟩ := q
    rw [hp] at h
    simp only [Except.ok.injEq, Prod.mk.injEq] at h
    obtain ⟨rfl, rfl, rfl⟩ := h
    unfold lY at hp
    split at hp
    ·simp only [Except.ok.injEq, Prod.mk.injEq] at hp; omega
    ·split at hp
     ·simp only [Except.ok.injEq, Prod.mk.injEq] at hp; omega
     ·split at hp
      ·simp only [Except.ok.injEq, Prod.mk.injEq] at hp; omega
      ·cases hb : lE c N i with
       | error e => rw [hb] at hp; cases hp
       | ok q =>
        obtain ⟨m, n, k⟩ := q
        rw [hb] at hp
        simp only [Except.ok.injEq, Prod.mk.injEq] at hp
        have := tA hb
        omega
 ·split at h
  ·simp only [Except.ok.injEq, Prod.mk.injEq] at h; omega
  ·split at h
   ·simp only [Except.ok.injEq, Prod.mk.injEq] at h; omega
   ·split at h
    ·cases rest with
     | nil => cases h
     | cons g r => simp only [Except.ok.injEq, Prod.mk.injEq] at h; omega
    ·split at h
     ·split at h
      ·cases h
      ·simp only [Except.ok.injEq, Prod.mk.injEq] at h; omega
     ·cases hS : rd i with
      | error e => rw [hS] at h; cases h
      | ok q =>
       obtain ⟨S, k⟩ := q
       rw [hS] at h
       simp only [Except.ok.injEq, Prod.mk.injEq] at h
       have := hrd i S k h0 hi hS
       omega
theorem LC (hrd : qI N rd) : ∀ (n m : Nat) (i : Int) (f : Lv) (rest : List Lv), 0 <= i -> N - i < n -> N - i < m -> runN c N rd n i f rest = runN c N rd m i f rest := by
 intro n
 induction n with
 | zero =>
  intro m i f rest h0 h1 h2
  cases m with
  | zero => rfl
  | succ m => simp only [runN]; rw [if_neg (by omega)]
 | succ n ih =>
  intro m i f rest h0 h1 h2
  cases m with
  | zero => simp only [runN]; rw [if_neg (by omega)]
  | succ m =>
   simp only [runN]
   by_cases hi : i < N
   ·rw [if_pos hi, if_pos hi]
    cases hs : dE c N rd i f rest with
    | error e => rfl
    | ok q =>
     obtain ⟨j, g, r⟩ := q
     have := CX hrd h0 hi hs
     exact ih m j g r (by omega) (by omega) (by omega)
   ·rw [if_neg hi, if_neg hi]
theorem Iw {i : Int} {f : Lv} {rest : List Lv} (hi : ¬ i < N) : run c N rd i f rest = .ok (f, rest) := by
 unfold run
 simp only [runN]
 rw [if_neg hi]
theorem fi (hrd : qI N rd) {i : Int} {f : Lv} {rest : List Lv} (h0 : 0 <= i) (hi : i < N) : run c N rd i f rest = match dE c N rd i f rest with
  | .error e => .error e
  | .ok (j, g, r) => run c N rd j g r := by
 unfold run
 rw [runN, if_pos hi]
 cases hs : dE c N rd i f rest with
 | error e => rfl
 | ok q =>
  obtain ⟨j, g, r⟩ := q
  have := CX hrd h0 hi hs
  exact LC hrd _ _ j g r (by omega) (by omega) (by omega)
theorem SH (hrd : qI N rd) : ∀ (n : Nat) (i : Int) (p : RT) (f : Lv) (rest : List Lv), 0 <= i -> i <= N -> N - i < n -> f.fac = some p ->
  match gB c N n p.val i with
  | .error e => mm (run c N rd i f rest) = .error e
  | .ok (r, j) => i <= j /\ j <= N /\ (j < N -> ¬ bf (c j)) /\ ∃ q, r = RT.val q /\ run c N rd i f rest = run c N rd j { f with fac := some q } rest := by
 intro n
 induction n with
 | zero => intro i p f rest _ _ h; omega
 | succ n ih =>
  intro i p f rest h0 hiN hn hf
  have same : f = { f with fac := some p } := by cases f; simp only at hf; subst hf; rfl
  have go : ∀ (q : RT) (j : Int), i < j -> j <= N -> dE c N rd i f rest = .ok (j, { f with fac := some q }, rest) -> ∀ res, gB c N (n + 1) p.val i = res -> gB c N n q.val j = res ->
    match res with
    | .error e => mm (run c N rd i f rest) = .error e
    | .ok (r, j) => i <= j /\ j <= N /\ (j < N -> ¬ bf (c j)) /\ ∃ q, r = RT.val q /\ run c N rd i f rest = run c N rd j { f with fac := some q } rest := by
   intro q j hij hjN hs res _ hr
   have := ih j q { f with fac := some q } rest (by omega) hjN (by omega) rfl
   rw [hr] at this
   have hi : i < N := by omega
   rw [fi hrd h0 hi, hs]
   cases res with
   | error e => exact this
   | ok x =>
    obtain ⟨r, k⟩ := x
    obtain ⟨g1, g2, g3, q', g4, g5⟩ := this
    exact ⟨by omega, g2, g3, q', g4, g5⟩
  by_cases hi : i < N
  ·have hP : ∀ x, bf (c i) -> lY c N i f p = x -> dE c N rd i f rest = match x with | .error e => .error e | .ok (j, g) => .ok (j, g, rest) := fun x hp hx => by
    unfold dE
    rw [if_pos hp, hf]
    simp only [hx]
   have hE : gB c N (n + 1) p.val i = if c i = 42 then gB c N n (eo p.val) (i + 1)
     else if c i = 43 then gB c N n (aQ .cat p.val (eo p.val)) (i + 1)
     else if c i = 63 then gB c N n (bw p.val) (i + 1)
     else if c i = 123 then
      match lE c N i with
      | .error e => .error e
      | .ok (m, n', j) => gB c N n (cJ p.val m n') j
     else .ok (p.val, i) := by
    rw [gB, if_neg (by omega)]
    all_goals rfl
   by_cases h42 : c i = 42
   ·rw [hE, if_pos h42, sS]
    exact go _ (i + 1) (by omega) (by omega) (by rw [hP _ (by unfold bf; omega) rfl]; unfold lY; rw [if_pos h42]) _ (by rw [hE, if_pos h42, sS]) rfl
   ·by_cases h43 : c i = 43
    ·rw [hE, if_neg h42, if_pos h43, uR]
     exact go _ (i + 1) (by omega) (by omega) (by rw [hP _ (by unfold bf; omega) rfl]; unfold lY; rw [if_neg h42, if_pos h43]) _ (by rw [hE, if_neg h42, if_pos h43, uR]) rfl
    ·by_cases h63 : c i = 63
     ·rw [hE, if_neg h42, if_neg h43, if_pos h63, x6]
      exact go _ (i + 1) (by omega) (by omega) (by rw [hP _ (by unfold bf; omega) rfl]; unfold lY; rw [if_neg h42, if_neg h43, if_pos h63]) _ (by rw [hE, if_neg h42, if_neg h43, if_pos h63, x6]) rfl
     ·by_cases h123 : c i = 123
      ·have hps : lY c N i f p = match lE c N i with
         | .error e => .error e
         | .ok (m, n, j) => .ok (j, { f with fac := some (.rep p m n) }) := by
        unfold lY; rw [if_neg h42, if_neg h43, if_neg h63]
       rw [hE, if_neg h42, if_neg h43, if_neg h63, if_pos h123]
       cases hb : lE c N i with
       | error e =>
        simp only
        rw [fi hrd h0 hi, hP _ (by unfold bf; omega) hps, hb]
        rfl
       | ok x =>
        obtain ⟨m, n', j⟩ := x
        have g1 := tA hb
        obtain ⟨g2, g3⟩ := Pd hb
        simp only
        rw [qA p m n' g2 g3 (rr p)]
        exact go _ j g1.1 g1.2 (by rw [hP _ (by unfold bf; omega) hps, hb]) _ (by rw [hE, if_neg h42, if_neg h43, if_neg h63, if_pos h123, hb]; simp only; rw [qA p m n' g2 g3 (rr p)]) rfl
      ·rw [hE, if_neg h42, if_neg h43, if_neg h63, if_neg h123]
       exact ⟨Int.le_refl _, by omega, fun _ hp => by unfold bf at hp; omega, p, rfl, by rw [<- same]⟩
  ·rw [gB, if_pos hi]
   exact ⟨Int.le_refl _, hiN, fun h => absurd h hi, p, rfl, by rw [<- same]⟩
def qa (c : Int -> Int) (N : Int) (rd : Int -> Except (Int × Int) (BitVec 256 × Int)) (n : Nat) : Prop := ∀ (i : Int) (f : Lv) (rest : List Lv), 0 <= i -> i < N -> ¬ eS (c i) -> ¬ bf (c i) -> rest.length + n = 1000 ->
  match bk c N rd n i with
  | .error e => mm (run c N rd i f rest) = .error e
  | .ok (r, j) => i < j /\ j <= N /\ ∃ t, r = RT.val t /\ run c N rd i f rest = run c N rd j { dI f with fac := some t } rest
theorem CD (o : Option RT) : qn (o.map RT.val) = (o.getD .eps).val := by cases o <;> rfl
theorem Pz (o : Option RT) (p : RT) : vn (o.map RT.val) p.val = (WK o p).val := by cases o <;> rfl
theorem yY (hrd : qI N rd) {n : Nat} (ha : qa c N rd n) : ∀ (k : Nat) (i : Int) (f : Lv) (rest : List Lv), 0 <= i -> i <= N -> N - i < k -> (f.fac ≠ none -> i < N -> ¬ bf (c i)) -> rest.length + n = 1000 ->
  match dP c N (bk c N rd n) k ((rowOf f.row f.fac).map RT.val) i with
  | .error e => mm (run c N rd i f rest) = .error e
  | .ok (r, j) => i <= j /\ j <= N /\ (j < N -> eS (c j)) /\ ∃ row fac, r = ((rowOf row fac).getD .eps).val /\ run c N rd i f rest = run c N rd j { f with row := row, fac := fac } rest := by
 intro k
 induction k with
 | zero => intro i f rest _ _ h; omega
 | succ k ih =>
  intro i f rest h0 hiN hk hp hd
  by_cases hi : i < N
  ·by_cases he : eS (c i)
   ·rw [dP, if_neg (by omega), if_pos he, CD]
    exact ⟨Int.le_refl _, hiN, fun _ => he, f.row, f.fac, rfl, rfl⟩
   ·by_cases hps : bf (c i)
    ·rw [dP, if_neg (by omega), if_neg he, if_pos hps]
     have hf : f.fac = none := by
      cases hf : f.fac with
      | none => rfl
      | some p => exact absurd hps (hp (by rw [hf]; simp) hi)
     simp only
     rw [fi hrd h0 hi]
     unfold dE
     rw [if_pos hps, hf]
     rfl
    ·rw [dP, if_neg (by omega), if_neg he, if_neg hps]
     have h1 := ha i f rest h0 hi he hps hd
     cases hA : bk c N rd n i with
     | error e => rw [hA] at h1; exact h1
     | ok x =>
      obtain ⟨a, j⟩ := x
      rw [hA] at h1
      obtain ⟨g1, g2, t, rfl, g3⟩ := h1
      have h2 := SH (c := c) hrd (N.toNat + 1) j t { dI f with fac := some t } rest (by omega) g2 (by omega) rfl
      simp only
      cases hR : gB c N (N.toNat + 1) t.val j with
      | error e => rw [hR] at h2; simp only at h2 ⊢; rw [g3, h2]
      | ok y =>
       obtain ⟨p, l⟩ := y
       rw [hR] at h2
       obtain ⟨g4, g5, g6, q, rfl, g7⟩ := h2
       simp only
       have h3 := ih l { dI f with fac := some q } rest (by omega) g5 (by omega) (fun _ => g6) hd
       have e1 : some (vn ((rowOf f.row f.fac).map RT.val) q.val) = (rowOf (dI f).row (some q)).map RT.val := by
        rw [Pz]; rfl
       rw [e1]
       simp only at h3
       revert h3
       cases dP c N (bk c N rd n) k ((rowOf (dI f).row (some q)).map RT.val) l with
       | error e => intro h3; simp only at h3 ⊢; rw [g3, g7, h3]
       | ok z =>
        obtain ⟨r, m⟩ := z
        rintro ⟨g8, g9, g10, row, fac, g11, g12⟩
        exact ⟨by omega, g9, g10, row, fac, g11, by rw [g3, g7, g12]; rfl⟩
  ·rw [dP, if_pos hi, CD]
   exact ⟨Int.le_refl _, hiN, fun h => absurd h hi, f.row, f.fac, rfl, rfl⟩
theorem Mc (hrd : qI N rd) {n : Nat} (ha : qa c N rd n) : ∀ (k : Nat) (i : Int) (f : Lv) (rest : List Lv), 0 <= i -> i <= N -> N - i < k -> (i < N -> eS (c i)) -> rest.length + n = 1000 ->
  match jD c N (dP c N (bk c N rd n) (N.toNat + 1) none) k (dD f).val i with
  | .error e => mm (run c N rd i f rest) = .error e
  | .ok (r, j) => i <= j /\ j <= N /\ (j < N -> c j = 124 \/ c j = 41) /\ ∃ g : Lv, g.place = f.place /\ g.alt = f.alt /\ r = (dD g).val /\ run c N rd i f rest = run c N rd j g rest := by
 intro k
 induction k with
 | zero => intro i f rest _ _ h; omega
 | succ k ih =>
  intro i f rest h0 hiN hk he hd
  by_cases hi : i < N
  ·have go : ∀ (mk : RT -> RT -> RT) (mkx : Rx -> Rx -> Rx), (∀ a b : RT, aQ mkx a.val b.val = (mk a b).val) -> (c i = 38 \/ c i = 45) -> (∀ (m : RT) (g : Lv), g.meet = some m -> g.sgn = c i -> dD g = mk m ((rowOf g.row g.fac).getD .eps)) ->
     match (match dP c N (bk c N rd n) (N.toNat + 1) none (i + 1) with
      | .error e => (.error e : Except (Int × Int) (RL × Int))
      | .ok (r, j) => jD c N (dP c N (bk c N rd n) (N.toNat + 1) none) k (aQ mkx (dD f).val r) j) with
     | .error e => mm (run c N rd i f rest) = .error e
     | .ok (r, j) => i <= j /\ j <= N /\ (j < N -> c j = 124 \/ c j = 41) /\ ∃ g : Lv, g.place = f.place /\ g.alt = f.alt /\ r = (dD g).val /\ run c N rd i f rest = run c N rd j g rest := by
    intro mk mkx hmk hc hmt
    have hs : dE c N rd i f rest = .ok (i + 1, { jZ f with sgn := c i }, rest) := by
     unfold dE
     rw [if_neg (by unfold bf; omega), if_neg (by omega), if_pos hc]
    have h1 := yY hrd ha (N.toNat + 1) (i + 1) { jZ f with sgn := c i } rest (by omega) (by omega) (by omega) (fun h => absurd rfl h) hd
    have hr : run c N rd i f rest = run c N rd (i + 1) { jZ f with sgn := c i } rest := by rw [fi hrd h0 hi, hs]
    have e0 : (rowOf ({ jZ f with sgn := c i } : Lv).row ({ jZ f with sgn := c i } : Lv).fac).map RT.val = none := rfl
    rw [e0] at h1
    revert h1
    cases dP c N (bk c N rd n) (N.toNat + 1) none (i + 1) with
    | error e => intro h1; simp only at h1 ⊢; rw [hr]; exact h1
    | ok z =>
     obtain ⟨r, j⟩ := z
     rintro ⟨g1, g2, g3, row, fac, rfl, g4⟩
     simp only
     rw [hmk]
     have hg : mk (dD f) ((rowOf row fac).getD .eps) = dD { jZ f with sgn := c i, row := row, fac := fac } := (hmt (dD f) { jZ f with sgn := c i, row := row, fac := fac } rfl rfl).symm
     rw [hg]
     have h2 := ih j { jZ f with sgn := c i, row := row, fac := fac } rest (by omega) g2 (by omega) g3 hd
     revert h2
     cases jD c N (dP c N (bk c N rd n) (N.toNat + 1) none) k (dD { jZ f with sgn := c i, row := row, fac := fac }).val j with
     | error e => intro h2; simp only at h2 ⊢; rw [hr]; exact (congrArg mm g4).trans h2
     | ok y =>
      obtain ⟨r2, j2⟩ := y
      rintro ⟨g5, g6, g7, g, g8, g9, g10, g11⟩
      exact ⟨by omega, g6, g7, g, g8, g9, g10, by rw [hr]; exact g4.trans g11⟩
   by_cases h38 : c i = 38
   ·rw [jD, if_neg (by omega), if_pos h38]
    exact go .and .and (fun a b => rfl) (.inl h38) fun m g h1 h2 => by unfold dD; rw [h1, h2, h38]; simp [jB]
   ·by_cases h45 : c i = 45
    ·rw [jD, if_neg (by omega), if_neg h38, if_pos h45]
     exact go .minus .minus (fun a b => rfl) (.inr h45) fun m g h1 h2 => by unfold dD; rw [h1, h2, h45]; simp [jB]
    ·rw [jD, if_neg (by omega), if_neg h38, if_neg h45]
     have := he hi
     exact ⟨Int.le_refl _, hiN, fun _ => by unfold eS at this; omega, f, rfl, rfl, rfl, rfl⟩
  ·rw [jD, if_pos hi]
   exact ⟨Int.le_refl _, hiN, fun h => absurd h hi, f, rfl, rfl, rfl, rfl⟩
theorem s6 (hrd : qI N rd) {n : Nat} (ha : qa c N rd n) (i : Int) (f : Lv) (rest : List Lv) (h0 : 0 <= i) (hiN : i <= N) (hd : rest.length + n = 1000) (h1 : f.meet = none) (h2 : f.row = none) (h3 : f.fac = none) :
  match jr c N (dP c N (bk c N rd n) (N.toNat + 1) none) i with
  | .error e => mm (run c N rd i f rest) = .error e
  | .ok (r, j) => i <= j /\ j <= N /\ (j < N -> c j = 124 \/ c j = 41) /\ ∃ g : Lv, g.place = f.place /\ g.alt = f.alt /\ r = (dD g).val /\ run c N rd i f rest = run c N rd j g rest := by
 have g := yY hrd ha (N.toNat + 1) i f rest h0 hiN (by omega) (fun h => absurd h3 h) hd
 have e0 : (rowOf f.row f.fac).map RT.val = none := by rw [h2, h3]; rfl
 rw [e0] at g
 unfold jr
 revert g
 cases dP c N (bk c N rd n) (N.toNat + 1) none i with
 | error e => exact fun g => g
 | ok z =>
  obtain ⟨r, j⟩ := z
  rintro ⟨g1, g2, g3, row, fac, rfl, g4⟩
  simp only
  have hm : (rowOf row fac).getD .eps = dD { f with row := row, fac := fac } := by unfold dD; rw [h1]; rfl
  rw [hm]
  have h5 := Mc hrd ha (N.toNat + 1) j { f with row := row, fac := fac } rest (by omega) g2 (by omega) g3 hd
  revert h5
  cases jD c N (dP c N (bk c N rd n) (N.toNat + 1) none) (N.toNat + 1) (dD { f with row := row, fac := fac }).val j with
  | error e => intro h5; exact (congrArg mm g4).trans h5
  | ok y =>
   obtain ⟨r2, j2⟩ := y
   rintro ⟨g5, g6, g7, g, g8, g9, g10, g11⟩
   exact ⟨by omega, g6, g7, g, g8, g9, g10, g4.trans g11⟩
theorem Ra (hrd : qI N rd) {n : Nat} (ha : qa c N rd n) : ∀ (k : Nat) (i : Int) (f : Lv) (rest : List Lv), 0 <= i -> i <= N -> N - i < k -> (i < N -> c i = 124 \/ c i = 41) -> rest.length + n = 1000 ->
  match sW c N (jr c N (dP c N (bk c N rd n) (N.toNat + 1) none)) k (gl f).val i with
  | .error e => mm (run c N rd i f rest) = .error e
  | .ok (r, j) => i <= j /\ j <= N /\ (j < N -> c j = 41) /\ ∃ g : Lv, g.place = f.place /\ r = (gl g).val /\ run c N rd i f rest = run c N rd j g rest := by
 intro k
 induction k with
 | zero => intro i f rest _ _ h; omega
 | succ k ih =>
  intro i f rest h0 hiN hk he hd
  by_cases hi : i < N /\ c i = 124
  ·rw [sW, if_pos hi]
   have hs : dE c N rd i f rest = .ok (i + 1, nZ f, rest) := by
    unfold dE
    rw [if_neg (by unfold bf; omega), if_pos hi.2]
   have hr : run c N rd i f rest = run c N rd (i + 1) (nZ f) rest := by rw [fi hrd h0 hi.1, hs]
   have h1 := s6 hrd ha (i + 1) (nZ f) rest (by omega) (by omega) hd rfl rfl rfl
   revert h1
   cases jr c N (dP c N (bk c N rd n) (N.toNat + 1) none) (i + 1) with
   | error e => intro h1; simp only at h1 ⊢; rw [hr]; exact h1
   | ok z =>
    obtain ⟨r, j⟩ := z
    rintro ⟨g1, g2, g3, g, g4, g5, rfl, g6⟩
    simp only
    have e1 : aQ .alt (gl f).val (dD g).val = (gl g).val := by
     have : gl g = .alt (gl f) (dD g) := by
      show Qs g.alt (dD g) = _
      rw [g5]; rfl
     rw [this]; rfl
    rw [e1]
    have h2 := ih j g rest (by omega) g2 (by omega) g3 hd
    revert h2
    cases sW c N (jr c N (dP c N (bk c N rd n) (N.toNat + 1) none)) k (gl g).val j with
    | error e => intro h2; simp only at h2 ⊢; rw [hr, g6, h2]
    | ok y =>
     obtain ⟨r2, j2⟩ := y
     rintro ⟨g7, g8, g9, g', g10, g11, g12⟩
     exact ⟨by omega, g8, g9, g', by rw [g10, g4]; rfl, g11, by rw [hr, g6, g12]⟩
  ·rw [sW, if_neg hi]
   exact ⟨Int.le_refl _, hiN, fun h => by have := he h; omega, f, rfl, rfl, rfl⟩
theorem yL (hrd : qI N rd) {n : Nat} (ha : qa c N rd n) (i p : Int) (rest : List Lv) (h0 : 0 <= i) (hiN : i <= N) (hd : rest.length + n = 1000) :
  match sf c N (bk c N rd n) i with
  | .error e => mm (run c N rd i (eT p) rest) = .error e
  | .ok (r, j) => i <= j /\ j <= N /\ (j < N -> c j = 41) /\ ∃ g : Lv, g.place = p /\ r = (gl g).val /\ run c N rd i (eT p) rest = run c N rd j g rest := by
 have h1 := s6 hrd ha i (eT p) rest h0 hiN hd rfl rfl rfl
 unfold sf Vp
 revert h1
 cases jr c N (dP c N (bk c N rd n) (N.toNat + 1) none) i with
 | error e => exact fun h => h
 | ok z =>
  obtain ⟨r, j⟩ := z
  rintro ⟨g1, g2, g3, g, g4, g5, rfl, g6⟩
  simp only
  have e1 : (dD g).val = (gl g).val := by
   have : gl g = dD g := by
    show Qs g.alt (dD g) = _
    rw [g5]; rfl
   rw [this]
  rw [e1]
  have h2 := Ra hrd ha (N.toNat + 1) j g rest (by omega) g2 (by omega) g3 hd
  revert h2
  cases sW c N (jr c N (dP c N (bk c N rd n) (N.toNat + 1) none)) (N.toNat + 1) (gl g).val j with
  | error e => intro h2; simp only at h2 ⊢; rw [g6, h2]
  | ok y =>
   obtain ⟨r2, j2⟩ := y
   rintro ⟨g7, g8, g9, g', g10, g11, g12⟩
   exact ⟨by omega, g8, g9, g', by rw [g10, g4]; rfl, g11, by rw [g6, g12]⟩
theorem BO (hrd : qI N rd) (i : Int) (f : Lv) (rest : List Lv) (h0 : 0 <= i) (hi : i < N) (he : ¬ eS (c i)) (hp : ¬ bf (c i)) (h40 : c i ≠ 40) :
  match pg rd i with
  | .error e => mm (run c N rd i f rest) = .error e
  | .ok (r, j) => i < j /\ j <= N /\ ∃ t, r = RT.val t /\ run c N rd i f rest = run c N rd j { dI f with fac := some t } rest := by
 have hs : dE c N rd i f rest = match rd i with
  | .error e => .error e
  | .ok (S, j) => .ok (j, { dI f with fac := some (.cls S) }, rest) := by
  unfold eS at he
  unfold dE
  rw [if_neg hp, if_neg (by omega), if_neg (by omega), if_neg (by omega), if_neg h40]
 unfold pg
 rw [fi hrd h0 hi, hs]
 cases hS : rd i with
 | error e => rfl
 | ok q =>
  obtain ⟨S, j⟩ := q
  have := hrd i S j h0 hi hS
  exact ⟨this.1, this.2, .cls S, rfl, rfl⟩
theorem pP (hrd : qI N rd) : ∀ n, qa c N rd n := by
 intro n
 induction n with
 | zero =>
  intro i f rest h0 hi he hp hd
  by_cases h40 : c i = 40
  ·rw [bk, if_pos h40]
   simp only
   rw [fi hrd h0 hi]
   unfold dE
   rw [if_neg hp, if_neg (by omega), if_neg (by omega), if_neg (by omega), if_pos h40, if_pos (by omega)]
   rfl
  ·rw [bk, if_neg h40]
   exact BO hrd i f rest h0 hi he hp h40
 | succ n ih =>
  intro i f rest h0 hi he hp hd
  by_cases h40 : c i = 40
  ·rw [bk, if_pos h40]
   have hs : dE c N rd i f rest = .ok (i + 1, eT i, dI f :: rest) := by
    unfold dE
    rw [if_neg hp, if_neg (by omega), if_neg (by omega), if_neg (by omega), if_pos h40, if_neg (by omega)]
   have hr : run c N rd i f rest = run c N rd (i + 1) (eT i) (dI f :: rest) := by rw [fi hrd h0 hi, hs]
   have h1 := yL hrd ih (i + 1) i (dI f :: rest) (by omega) (by omega) (by simp only [List.length_cons]; omega)
   revert h1
   cases sf c N (bk c N rd n) (i + 1) with
   | error e => intro h1; simp only [qP] at h1 ⊢; rw [hr, h1]
   | ok z =>
    obtain ⟨r, j⟩ := z
    rintro ⟨g1, g2, g3, g, g4, rfl, g5⟩
    simp only [qP]
    by_cases hj : j < N
    ·rw [if_neg (by omega)]
     have h41 := g3 hj
     have hs2 : dE c N rd j g (dI f :: rest) = .ok (j + 1, { dI f with fac := some (gl g) }, rest) := by
      unfold dE
      rw [if_neg (by unfold bf; omega), if_neg (by omega), if_neg (by omega), if_pos h41]
     refine ⟨by omega, by omega, gl g, rfl, ?_⟩
     rw [hr, g5, fi hrd (by omega) hj, hs2]
    ·rw [if_pos hj]
     simp only
     rw [hr, g5, Iw hj]
     simp [mm, g4]
  ·rw [bk, if_neg h40]
   exact BO hrd i f rest h0 hi he hp h40
def Wl : Except (Int × Int) RT -> Except (Int × Int) Rx
 | .error e => .error e
 | .ok t => .ok t.expand
theorem J7 (hrd : qI N rd) (hN : 0 <= N) : uX c N rd = Wl (fY c N rd) := by
 unfold uX fY
 by_cases hb : 1048576 < N
 ·rw [if_pos hb, if_pos hb]; rfl
 ·rw [if_neg hb, if_neg hb]
  have h1 := yL hrd (pP (c := c) hrd 1000) 0 (-1) [] (by omega) hN rfl
  unfold alts
  revert h1
  cases sf c N (bk c N rd 1000) 0 with
  | error e => intro h1; simp only at h1; rw [h1]; rfl
  | ok z =>
   obtain ⟨r, j⟩ := z
   rintro ⟨g1, g2, g3, g, g4, rfl, g5⟩
   rw [g5]
   by_cases hj : j < N
   ·have h41 := g3 hj
    have hs : dE c N rd j g [] = .error (20, j) := by
     unfold dE
     rw [if_neg (by unfold bf; omega), if_neg (by omega), if_neg (by omega), if_pos h41]
    rw [fi hrd (by omega) hj, hs]
    simp only [LA]
    rw [if_pos hj]
    rfl
   ·rw [Iw hj]
    simp only [LA, mm]
    rw [if_neg hj, if_neg (show ¬ ([] : List Lv) ≠ [] by simp)]
    show (if 2000 < (gl g).sz then _ else _) = _
    by_cases hs : 2000 < (gl g).sz
    ·rw [if_pos hs, if_pos hs]; rfl
    ·rw [if_neg hs, if_neg hs]; rfl
end
end
section
open Go.RowKit Go.LE
abbrev CS := BitVec 256
def wd (S : CS) (j : Nat) : Int := ((S.extractLsb' (64 * j) 64).toNat : Int)
def jN (S : CS) : List Value := [.int .u64 (wd S 0), .int .u64 (wd S 1), .int .u64 (wd S 2), .int .u64 (wd S 3)]
theorem pO (x : BitVec 64) : IntKind.u64.wrap ((x.toNat : Nat) : Int) = ((x.toNat : Nat) : Int) := by
 have := x.isLt
 simp only [IntKind.wrap, IntKind.bits, IntKind.signed, Bool.false_and, Bool.false_eq_true, if_false, decide_false, show (2 : Int) ^ 64 = 18446744073709551616 from rfl]
 omega
theorem gx (x : BitVec 64) : BitVec.ofInt 64 ((x.toNat : Nat) : Int) = x := by simp
theorem WO (x y : BitVec 64) : bU .or .u64 (x.toNat : Nat) (y.toNat : Nat) = ((x ||| y).toNat : Nat) := by
 show IntKind.u64.wrap (((BitVec.ofInt 64 ((x.toNat : Nat) : Int) ||| BitVec.ofInt 64 ((y.toNat : Nat) : Int) : BitVec 64).toNat : Nat) : Int) = _
 rw [gx, gx, pO]
theorem QA (x y : BitVec 64) : bU .and .u64 (x.toNat : Nat) (y.toNat : Nat) = ((x &&& y).toNat : Nat) := by
 show IntKind.u64.wrap (((BitVec.ofInt 64 ((x.toNat : Nat) : Int) &&& BitVec.ofInt 64 ((y.toNat : Nat) : Int) : BitVec 64).toNat : Nat) : Int) = _
 rw [gx, gx, pO]
theorem Wv (x y : BitVec 64) : bU .xor .u64 (x.toNat : Nat) (y.toNat : Nat) = ((x ^^^ y).toNat : Nat) := by
 show IntKind.u64.wrap (((BitVec.ofInt 64 ((x.toNat : Nat) : Int) ^^^ BitVec.ofInt 64 ((y.toNat : Nat) : Int) : BitVec 64).toNat : Nat) : Int) = _
 rw [gx, gx, pO]
theorem Xb (S T : CS) (j : Nat) : bU .or .u64 (wd S j) (wd T j) = wd (S ||| T) j := by
 rw [wd, wd, WO, wd, BitVec.extractLsb'_or]
theorem Vc (S T : CS) (j : Nat) : bU .and .u64 (wd S j) (wd T j) = wd (S &&& T) j := by
 rw [wd, wd, QA, wd, BitVec.extractLsb'_and]
theorem zO (S : CS) (j : Nat) (hj : j < 4) : bU .xor .u64 (if IntKind.u64.signed = true then -1 else IntKind.u64.max) (wd S j) = wd (~~~S) j := by
 have e : (if IntKind.u64.signed = true then -1 else IntKind.u64.max) = (((BitVec.allOnes 64).toNat : Nat) : Int) := by decide
 rw [e, wd, Wv, wd]
 congr 2
 apply BitVec.eq_of_getLsbD_eq
 intro i hi
 have h2 : 64 * j + i < 256 := by omega
 rw [BitVec.getLsbD_xor, BitVec.getLsbD_allOnes, BitVec.getLsbD_extractLsb', BitVec.getLsbD_extractLsb', BitVec.getLsbD_not]
 simp [hi, h2]
def pS (S : CS) (b : Nat) : CS := S ||| (1#256 <<< b)
theorem pL (S : CS) (b i : Nat) (hb : b < 256) : (pS S b).getLsbD i = (S.getLsbD i || decide (i = b)) := by
 simp only [pS, BitVec.getLsbD_or, BitVec.getLsbD_shiftLeft, BitVec.getLsbD_one]
 by_cases hi : i = b
 ·subst hi; simp [hb]
 ·have h : ¬(i < 256 /\ b <= i /\ i - b = 0) := by omega
  by_cases h1 : i < 256 <;> by_cases h2 : i < b <;> simp [h1, h2, hi] <;> omega
theorem Xo (b : Nat) (hb : b < 64) : IntKind.u64.wrap (1 * 2 ^ (min b 64)) = (((1#64 <<< b).toNat : Nat) : Int) := by
 rw [Nat.min_eq_left (by omega)]
 have h : (1#64 <<< b).toNat = 2 ^ b := by
  rw [BitVec.toNat_shiftLeft, Nat.shiftLeft_eq]
  have : 2 ^ b < 2 ^ 64 := Nat.pow_lt_pow_right (by omega) hb
  simp
  omega
 rw [<- pO, h]
 simp
theorem qK (S : CS) (b : Nat) (hb : b < 256) : bU .or .u64 (wd S (b / 64)) (IntKind.u64.wrap (1 * 2 ^ (min (b % 64) 64))) = wd (pS S b) (b / 64) := by
 rw [Xo _ (Nat.mod_lt _ (by omega)), wd, WO, wd]
 congr 2
 apply BitVec.eq_of_getLsbD_eq
 intro i hi
 have hdm := Nat.div_add_mod b 64
 rw [BitVec.getLsbD_or, BitVec.getLsbD_extractLsb', BitVec.getLsbD_extractLsb', pL _ _ _ hb, BitVec.getLsbD_shiftLeft, BitVec.getLsbD_one]
 have e : decide (64 * (b / 64) + i = b) = decide (i = b % 64) := by rw [decide_eq_decide]; omega
 rw [e]
 by_cases h1 : i = b % 64
 ·subst h1; simp [hi]
 ·by_cases h2 : i < b % 64 <;> simp [hi, h1, h2] <;> omega
theorem I9 (S : CS) (b j : Nat) (hb : b < 256) (hj : j ≠ b / 64) : wd (pS S b) j = wd S j := by
 rw [wd, wd]
 congr 2
 apply BitVec.eq_of_getLsbD_eq
 intro i hi
 rw [BitVec.getLsbD_extractLsb', BitVec.getLsbD_extractLsb', pL _ _ _ hb]
 have : decide (64 * j + i = b) = false := by rw [decide_eq_false_iff_not]; omega
 rw [this, Bool.or_false]
theorem RK (S : CS) (b : Nat) (hb : b < 256) : (jN S).take (b / 64) ++ .int .u64 (wd (pS S b) (b / 64)) :: (jN S).drop (b / 64 + 1) = jN (pS S b) := by
 have hq : b / 64 < 4 := by omega
 have ne : ∀ j, j ≠ b / 64 -> wd S j = wd (pS S b) j := fun j hj => (I9 S b j hb hj).symm
 generalize hqe : b / 64 = q at *
 match q, hq with
 | 0, _ => simp [jN, ne 1, ne 2, ne 3]
 | 1, _ => simp [jN, ne 0, ne 2, ne 3]
 | 2, _ => simp [jN, ne 0, ne 1, ne 3]
 | 3, _ => simp [jN, ne 0, ne 1, ne 2]
theorem VH (S : CS) (b : Nat) (hb : b < 256) : decide (bU .and .u64 ((wd S (b / 64)).fdiv (2 ^ (min (b % 64) 64))) 1 = 1) = S.getLsbD b := by
 have hm : b % 64 < 64 := Nat.mod_lt _ (by omega)
 rw [Nat.min_eq_left (by omega)]
 have e1 : (wd S (b / 64)).fdiv (2 ^ (b % 64)) = (((S.extractLsb' (64 * (b / 64)) 64) >>> (b % 64)).toNat : Nat) := by
  rw [wd, BitVec.toNat_ushiftRight, Nat.shiftRight_eq_div_pow]
  have : (2 : Int) ^ (b % 64) = ((2 ^ (b % 64) : Nat) : Int) := by simp
  rw [this, Int.fdiv_eq_ediv_of_nonneg _ (Int.natCast_nonneg _)]
  rfl
 rw [e1, show (1 : Int) = (((1#64).toNat : Nat) : Int) from rfl, QA]
 rw [Bool.eq_iff_iff, decide_eq_true_eq]
 have hdm := Nat.div_add_mod b 64
 constructor
 ·intro h
  have h' : (S.extractLsb' (64 * (b / 64)) 64 >>> (b % 64)) &&& 1#64 = 1#64 := BitVec.eq_of_toNat_eq (by exact_mod_cast h)
  have := congrArg (fun x => x.getLsbD 0) h'
  simp only [BitVec.getLsbD_and, BitVec.getLsbD_ushiftRight, BitVec.getLsbD_extractLsb', BitVec.getLsbD_one] at this
  simpa [hm, hdm] using this
 ·intro h
  have h' : (S.extractLsb' (64 * (b / 64)) 64 >>> (b % 64)) &&& 1#64 = 1#64 := by
   apply BitVec.eq_of_getLsbD_eq
   intro i hi
   simp only [BitVec.getLsbD_and, BitVec.getLsbD_ushiftRight, BitVec.getLsbD_extractLsb', BitVec.getLsbD_one]
   by_cases h0 : i = 0
   ·subst h0; simp [hm, hdm, h]
   ·simp [h0]
  rw [h']
theorem n7 (b : Nat) : ((b : Int)).fdiv 64 = ((b / 64 : Nat) : Int) := by
 rw [Int.fdiv_eq_ediv_of_nonneg _ (by omega)]
 omega
theorem Cu (b : Nat) (hb : b < 256) : bU .and .u8 (b : Int) 63 = ((b % 64 : Nat) : Int) := by
 have : ∀ b : Fin 256, bU .and .u8 ((b.val : Nat) : Int) 63 = ((b.val % 64 : Nat) : Int) := by decide +kernel
 exact this ⟨b, hb⟩
theorem Mi (b : Nat) (hb : b < 256) : bU .and .i64 (b : Int) 63 = ((b % 64 : Nat) : Int) := by
 have : ∀ b : Fin 256, bU .and .i64 ((b.val : Nat) : Int) 63 = ((b.val % 64 : Nat) : Int) := by decide +kernel
 exact this ⟨b, hb⟩
theorem fJ (S : CS) (j : Nat) (hj : j < 4) : (List.map SV.v (jN S)).getD j (.v undef) = .v (.int .u64 (wd S j)) := by
 match j, hj with
 | 0, _ => rfl
 | 1, _ => rfl
 | 2, _ => rfl
 | 3, _ => rfl
theorem iW (S : CS) (b : Nat) (hb : b < 256) : List.take (b / 64) (List.map SV.v (jN S)) ++ [SV.v (.int .u64 (wd (pS S b) (b / 64)))] ++ List.drop (b / 64 + 1) (List.map SV.v (jN S)) = List.map SV.v (jN (pS S b)) := by
 rw [<- RK S b hb]
 simp
theorem zX (S : CS) : (List.map SV.v (jN S)).length = 4 := rfl
end
section
open Go.RowKit Go.LE
set_option maxRecDepth 10000
def Γ0 : Env Tryz.prog := ⟨fun _ => none, fun _ => none, fun _ _ => none⟩
def bY (S : CS) : Value := .agg (jN S).toArray
theorem de (S : CS) : Value.agg (jN S).toArray = bY S := rfl
theorem jw (S : CS) : (jN S).length = 4 := rfl
theorem kU (S : CS) : List.take 4 ((jN S).map SV.v) = (jN S).map SV.v := rfl
theorem kR (S : CS) : List.drop 4 ((jN S).map SV.v) = [] := rfl
theorem iZ (S : CS) : cE ((jN S).map SV.v) = some (jN S) := rfl
theorem nh (S : CS) : ((jN S).map SV.v).all cq = true := rfl
theorem zY (E : Nat -> Value) (S : CS) : den E (.agg ((jN S).map SV.v)) = bY S := rfl
theorem gJ (S : CS) : ((jN S).map SV.v).length = 4 := rfl
theorem dJ (S : CS) : partsOf (.v (bY S)) = (jN S).map SV.v := rfl
theorem O5 (S : CS) (j i : Nat) (hi : i < 64) : (BitVec.ofInt 64 (wd S j)).getLsbD i = S.getLsbD (64 * j + i) := by
 rw [wd, gx, BitVec.getLsbD_extractLsb']
 simp [hi]
theorem cg (S T : CS) (h : bY S = bY T) : S = T := by
 have h : (jN S) = jN T := congrArg (fun v => match v with | Value.agg a => a.toList | _ => []) h
 simp only [jN, List.cons.injEq, Value.int.injEq, true_and, and_true] at h
 have e0 := h.1
 have e1 := h.2.1
 have e2 := h.2.2.1
 have e3 := h.2.2.2
 apply BitVec.eq_of_getLsbD_eq
 intro i hi
 have key : ∀ j, wd S j = wd T j -> i / 64 = j -> S.getLsbD i = T.getLsbD i := fun j e hj => by
  have h1 := O5 S j (i % 64) (by omega)
  have h2 := O5 T j (i % 64) (by omega)
  rw [e] at h1
  have : 64 * j + i % 64 = i := by omega
  rw [this] at h1 h2
  rw [<- h1, <- h2]
 have : i / 64 = 0 \/ i / 64 = 1 \/ i / 64 = 2 \/ i / 64 = 3 := by omega
 rcases this with h | h | h | h
 ·exact key 0 e0 h
 ·exact key 1 e1 h
 ·exact key 2 e2 h
 ·exact key 3 e3 h
def Aa := (aq @List.replicate_succ.{0} @List.replicate_zero.{0} @aw @ah jS jP jn (aq cQ cV cX cS da c9 c8 (aq db iv ie ig ir iw eW (aq eV eX eZ e8 e9 rv ri (aq q7 rD ry rI qW qY @bY.eq_1 (ab @Xb @Vc))))))
set_option maxHeartbeats 1000000 in
theorem LS (S T : CS) (w : World) : Calls Tryz.prog 274 #[bY S, bY T] w fun e w' => e = .returned (bY (S ||| T)) /\ ai w [] w' := by
 refine al (nt := 26) [.cell 4 309] Tryz.func274 rfl rfl rfl ?_
 refine vR Γ0 (ab Aa @jN.eq_1) ?_
 refine vR Γ0 (ab Aa @jN.eq_1) ?_
 refine wZ Aa ?_
 exact fun E => rfl
set_option maxHeartbeats 1000000 in
theorem TD (S : CS) (w : World) : Calls Tryz.prog 224 #[bY S] w fun e w' => e = .returned (bY (~~~S)) /\ ai w [] w' := by
 have h0 := zO S 0 (by omega)
 have h1 := zO S 1 (by omega)
 have h2 := zO S 2 (by omega)
 have h3 := zO S 3 (by omega)
 refine al (nt := 16) [.cell 2 309] Tryz.func224 rfl rfl rfl ?_
 refine vR Γ0 (ab Aa @jN.eq_1) ?_
 refine vR Γ0 (nC Aa @jN.eq_1 h0 h1 h2 h3) ?_
 refine wZ Aa ?_
 exact fun E => rfl
set_option maxHeartbeats 1000000 in
theorem RM (S : CS) (b : Nat) (hb : b < 256) (w : World) : Calls Tryz.prog 225 #[bY S, .int .u8 b] w fun e w' => e = .returned (.bool (S.getLsbD b)) /\ ai w [] w' := by
 have hq : b / 64 < 4 := by omega
 refine al (nt := 14) [.tmp 4] Tryz.func225 rfl rfl rfl ?_
 refine vR Γ0 Aa ?_
 refine Wp.ny Γ0 bP (by simp only [dM, Op.operands, Value.cells, σ0, σB, Nat.reduceEqDiff, Nat.reduceAdd, Nat.reduceMul, Nat.reduceLT, Nat.reduceLeDiff, Nat.reduceBEq, ae, Int.reduceToNat, Int.reduceLT, Int.reduceLE, Nat.reduceDiv, Nat.reduceMod, Nat.reduceSub, Int.reducePow, Nat.reducePow, σP, σB3, Aa, n7, Cu b hb, fJ S _ hq, VH S b hb, zX]; exact rfl) rfl ?_ ?_
 ·exact oo
 refine wZ Aa ?_
 exact fun E => rfl
end
section
open Go.RowKit Go.LE
set_option maxRecDepth 10000
def mv (lo : Nat) : Nat -> CS
 | 0 => 0
 | n + 1 => pS (mv lo n) (lo + n)
def span (lo hi : Nat) : CS := mv lo (hi + 1 - lo)
theorem xv (lo : Nat) : ∀ (n i : Nat), lo + n <= 256 -> (mv lo n).getLsbD i = decide (lo <= i /\ i < lo + n)
 | 0, i, _ => by simp [mv]
 | n + 1, i, h => by
  rw [mv, pL _ _ _ (by omega), xv lo n i (by omega), <- Bool.decide_or, decide_eq_decide]
  omega
theorem BZ (lo hi i : Nat) (h : hi < 256) : (span lo hi).getLsbD i = decide (lo <= i /\ i <= hi) := by
 by_cases hl : lo <= hi
 ·rw [span, xv _ _ _ (by omega), decide_eq_decide]; omega
 ·rw [span, show hi + 1 - lo = 0 by omega, mv]
  simp; omega
theorem vf : (jN 0).map SV.v = [SV.v (.int .u64 0), SV.v (.int .u64 0), SV.v (.int .u64 0), SV.v (.int .u64 0)] := by
 simp [jN, wd]
def iu := (aq @List.replicate_succ.{0} @List.replicate_zero.{0} @aw @ah jS jP jn (aq cQ cV cX cS da c9 c8 (aq db iv ie ig ir iw eW (aq eV eX eZ e8 e9 rv ri (Ci q7 rD ry rI qW qY @bY.eq_1)))))
set_option maxHeartbeats 2000000 in
theorem PS (lo hi : Nat) (hl : lo < 256) (hh : hi < 256) (w : World) : Calls Tryz.prog 271 #[.int .u8 lo, .int .u8 hi] w fun e w' => e = .returned (bY (span lo hi)) /\ ai w [] w' := by
 have w0 : IntKind.i64.wrap (lo : Int) = lo := aa (by omega) (by omega)
 have w1 : IntKind.i64.wrap (hi : Int) = hi := aa (by omega) (by omega)
 refine al (nt := 25) [.cell 4 309] Tryz.func271 rfl rfl rfl ?_
 refine vR Γ0 iu ?_
 refine vR Γ0 iu ?_
 refine Wp.seq (Wp.seq ?_)
 refine vr Γ0 (ab iu w0) ?_
 refine Wp.block ?_
 refine Wp.loop (fun j : Nat => ⟨2, bV [(1, .is (.v (.int .u8 hi))), (4, .is (.own 0 0)), (5, .is (.own 8 0)), (6, .is (.v (.int .i64 ((lo + j : Nat) : Int))))], cd [(0, .cells 309 [.v (.int .u64 0), .v (.int .u64 0), .v (.int .u64 0), .v (.int .u64 0)]), (8, .cells 309 ((jN (mv lo j)).map .v))]⟩)
  (fun j => j <= hi + 1 - lo) (fun j => hi + 1 - lo - j) 0 ?_ (Nat.zero_le _) ?_
 ·exact wM (fun k => .key k) (fj iu @mv.eq_1 @mv.eq_2 @vf)
 rintro j h1
 have hr2 : IntKind.i64.wrap ((lo + j : Nat) : Int) = ((lo + j : Nat) : Int) := aa (by omega) (by omega)
 refine Wp.seq ?_
 refine vR Γ0 (ab iu w1) ?_
 refine wC iu (fun hc => ?_) (fun hc => ?_)
 ·simp only [decide_eq_true_eq] at hc
  have hb : lo + j < 256 := by omega
  have hq : (lo + j) / 64 < 4 := by omega
  have wn : IntKind.i64.wrap (((lo + j : Nat) : Int) + 1) = ((lo + (j + 1) : Nat) : Int) := by rw [aa (by omega) (by omega)]; omega
  refine wK ?_
  refine Wp.seq (Wp.block ?_)
  refine Wp.T8 Γ0 bP (by simp only [dM, Op.operands, Value.cells, σ0, σB, Nat.reduceEqDiff, Nat.reduceAdd, Nat.reduceMul, Nat.reduceLT, Nat.reduceLeDiff, Nat.reduceBEq, ae, Int.reduceToNat, Int.reduceLT, Int.reduceLE, Nat.reduceDiv, Nat.reduceMod, Nat.reduceSub, Int.reducePow, Nat.reducePow, σP, σB3, iu, n7, Mi _ hb, fJ _ _ hq, qK _ _ hb, iW _ _ hb, zX]; exact rfl) rfl (by kernel_rfl) ?_ ?_
  ·exact oo
  refine qq ?_
  refine vr Γ0 (ab iu wn) ?_
  refine ⟨j + 1, by omega, by omega, ?_⟩
  exact Le.mk (fun k => .key k) ⟨by simp [FV.keys, SV.keys, ax], by simp [bm.keys, ax, SV.keys, aN, aR]⟩ (by simp only [dM, Op.operands, Value.cells, σ0, σB, Nat.reduceEqDiff, Nat.reduceAdd, Nat.reduceMul, Nat.reduceLT, Nat.reduceLeDiff, Nat.reduceBEq, ae, Int.reduceToNat, Int.reduceLT, Int.reduceLE, Nat.reduceDiv, Nat.reduceMod, Nat.reduceSub, Int.reducePow, Nat.reducePow, σP, σB3, iu, mv, n7, fJ _ _ hq, qK _ _ hb, iW _ _ hb, E4, D4, wD, jL] <;> trivial) (by simp only [dM, Op.operands, Value.cells, σ0, σB, Nat.reduceEqDiff, Nat.reduceAdd, Nat.reduceMul, Nat.reduceLT, Nat.reduceLeDiff, Nat.reduceBEq, ae, Int.reduceToNat, Int.reduceLT, Int.reduceLE, Nat.reduceDiv, Nat.reduceMod, Nat.reduceSub, Int.reducePow, Nat.reducePow, σP, σB3, iu, mv, n7, fJ _ _ hq, qK _ _ hb, iW _ _ hb, F9, re, Cd, og, lT, wD] <;> trivial) (by simp [gO]) (by simp)
 ·simp only [decide_eq_false_iff_not] at hc
  have hj : j = hi + 1 - lo := by omega
  refine wE ?_
  refine vR Γ0 (ab iu @jN.eq_1) ?_
  refine wZ iu ?_
  subst hj
  exact fun E => rfl
def DB (s : ByteArray) : Nat -> CS
 | 0 => 0
 | n + 1 => pS (DB s n) (bt s n).toNat
theorem dN (s : ByteArray) (i : Int) : 0 <= bt s i /\ bt s i < 256 := by
 unfold bt
 have := (s.data[i.toNat]?.getD 0).toNat_lt
 omega
set_option maxHeartbeats 2000000 in
theorem U4 (s : ByteArray) (hs : s.size <= 140737488351232) (w : World) : Calls Tryz.prog 245 #[.string s] w fun e w' => e = .returned (bY (DB s s.size)) /\ ai w [] w' := by
 refine al (nt := 25) [.cell 2 309] Tryz.func245 rfl rfl rfl ?_
 refine vR Γ0 iu ?_
 refine vR Γ0 iu ?_
 refine Wp.seq ?_
 refine vR Γ0 iu ?_
 refine Wp.block ?_
 refine Wp.loop (fun j : Nat => ⟨2, bV [(0, .is (.v (.string s))), (2, .is (.own 0 0)), (3, .is (.own 8 0)), (6, .is (.v (.int .i64 s.size))), (7, .is (.v (.int .i64 j)))], cd [(0, .cells 309 [.v (.int .u64 0), .v (.int .u64 0), .v (.int .u64 0), .v (.int .u64 0)]), (8, .cells 309 ((jN (DB s j)).map .v))]⟩)
  (fun j => j <= s.size) (fun j => s.size - j) 0 ?_ (Nat.zero_le _) ?_
 ·exact wM (fun k => .key k) (fj iu @DB.eq_1 @DB.eq_2 @vf)
 rintro j h1
 refine vR Γ0 iu ?_
 refine Wp.seq ?_
 refine wC iu (fun hc => ?_) (fun hc => ?_)
 ·simp only [decide_eq_true_eq] at hc
  have hj : j < s.size := by omega
  obtain ⟨b0, b1⟩ := dN s j
  obtain ⟨b, hbe⟩ := Int.eq_ofNat_of_zero_le b0
  have hb : b < 256 := by omega
  have hq : b / 64 < 4 := by omega
  have hof : DB s (j + 1) = pS (DB s j) b := by rw [DB, hbe]; rfl
  have wn : IntKind.i64.wrap ((j : Int) + 1) = ((j + 1 : Nat) : Int) := by rw [aa (by omega) (by omega)]; omega
  refine wK ?_
  refine Wp.seq (Wp.block ?_)
  refine vR Γ0 iu ?_
  refine Wp.T8 Γ0 bP (by simp only [dM, Op.operands, Value.cells, σ0, σB, Nat.reduceEqDiff, Nat.reduceAdd, Nat.reduceMul, Nat.reduceLT, Nat.reduceLeDiff, Nat.reduceBEq, ae, Int.reduceToNat, Int.reduceLT, Int.reduceLE, Nat.reduceDiv, Nat.reduceMod, Nat.reduceSub, Int.reducePow, Nat.reducePow, σP, σB3, iu, hbe, n7, Cu _ hb, fJ _ _ hq, qK _ _ hb, iW _ _ hb, zX]; exact rfl) rfl (by kernel_rfl) ?_ ?_
  ·exact oo
  refine qq ?_
  refine vr Γ0 (ab iu wn) ?_
  refine ⟨j + 1, by omega, by omega, ?_⟩
  exact Le.mk (fun k => .key k) ⟨by simp [FV.keys, SV.keys, ax], by simp [bm.keys, ax, SV.keys, aN, aR]⟩ (by simp only [dM, Op.operands, Value.cells, σ0, σB, Nat.reduceEqDiff, Nat.reduceAdd, Nat.reduceMul, Nat.reduceLT, Nat.reduceLeDiff, Nat.reduceBEq, ae, Int.reduceToNat, Int.reduceLT, Int.reduceLE, Nat.reduceDiv, Nat.reduceMod, Nat.reduceSub, Int.reducePow, Nat.reducePow, σP, σB3, iu, hof, hbe, n7, fJ _ _ hq, qK _ _ hb, iW _ _ hb, E4, D4, wD, jL] <;> trivial) (by simp only [dM, Op.operands, Value.cells, σ0, σB, Nat.reduceEqDiff, Nat.reduceAdd, Nat.reduceMul, Nat.reduceLT, Nat.reduceLeDiff, Nat.reduceBEq, ae, Int.reduceToNat, Int.reduceLT, Int.reduceLE, Nat.reduceDiv, Nat.reduceMod, Nat.reduceSub, Int.reducePow, Nat.reducePow, σP, σB3, iu, hof, hbe, n7, fJ _ _ hq, qK _ _ hb, iW _ _ hb, F9, re, Cd, og, lT, wD] <;> trivial) (by simp [gO]) (by simp)
 ·simp only [decide_eq_false_iff_not] at hc
  have hj : j = s.size := by omega
  refine wE ?_
  refine vR Γ0 (ab iu @jN.eq_1) ?_
  refine wZ iu ?_
  subst hj
  exact fun E => rfl
end
section
open Go.RowKit Go.LE
set_option maxRecDepth 10000
def ib (s : ByteArray) (c : Int) : Int := Lib.indexByte s.data.toList c.toNat.toUInt8
def Uj : Is Tryz.prog 231 where
 pre := fun _ _ => fun | [.val (.string _), .val (.int .u8 _)] => True | _ => False
 res := fun _ => fun | [.val (.string s), .val (.int .u8 c)] => .int .i64 (ib s c) | _ => undef
 ok := by
  intro W w bs us as_ hk hu hp
  split at hp
  ·rename_i s c
   match us, hu with
   | [u, v], hu =>
    obtain ⟨rfl, rfl, _⟩ := hu
    rw [run_callFunc_extern Tryz.func231 (by kernel_rfl) (by kernel_rfl) (by kernel_rfl) (e := Extern.BytealgIndexByte.indexByte) (by kernel_rfl), Lib.run_indexByteString]
    rfl
  ·exact hp.elim
theorem Tl (W : World) (s : ByteArray) (c : Int) : Uj.res W [.val (.string s), .val (.int .u8 c)] = .int .i64 (ib s c) := rfl
theorem SO (W : World) (bs : List Nat) (s : ByteArray) (c : Int) : Uj.pre W bs [.val (.string s), .val (.int .u8 c)] = True := rfl
noncomputable def Γ10 : Env Tryz.prog := ⟨fun | 231 => some Uj.spec | _ => none, fun | _ => none, fun _ _ => none⟩
theorem Gt10c231 : Γ10.sp 231 = some Uj.spec := rfl
def T7 := (aq @List.replicate_succ.{0} @List.replicate_zero.{0} @aw @ah jS jP jn (aq cQ cV cX cS da c9 c8 (aq db iv ie ig ir iw eW (aq eV eX eZ e8 e9 PY Qc (aq Nt PC vY vC vZ vD vX (aq vH wG vQ vW vS Hi Ix (aq HX I2 It Hj Iq Hu Hw (aq Hl HF Ik Hq @aO @au @aB (fj @aC @Tl @SO Gt10c231)))))))))
theorem La (s : ByteArray) (c : Int) (w : World) : Calls Tryz.prog 189 #[.string s, .int .u8 c] w fun e w' => e = .returned (.int .i64 (ib s c)) /\ ai w [] w' := by
 refine al (nt := 8) [.tmp 4] Tryz.func189 rfl rfl rfl ?_
 refine vR Γ10 T7 ?_
 refine vR Γ10 T7 ?_
 refine wZ T7 ?_
 exact fun E => rfl
def IW : a7 Tryz.prog 189 where
 pre := fun W bs => fun | [.val (.string s), .val (.int .u8 c)] => True | _ => False
 res := fun W => fun | [.val (.string s), .val (.int .u8 c)] => .int .i64 (ib s c) | _ => undef
 enters := Tryz.call189
 ok := by
  intro W w bs us as_ hk hu hp
  split at hp
  ·rename_i s c
   match us, hu with
   | [u0, u1], hu =>
    obtain ⟨rfl, rfl, _⟩ := hu
    exact La s c w
  ·exact hp.elim
theorem JZ (W : World) (s : ByteArray) (c : Int) : IW.res W [.val (.string s), .val (.int .u8 c)] = .int .i64 (ib s c) := rfl
theorem JX (W : World) (bs : List Nat) (s : ByteArray) (c : Int) : IW.pre W bs [.val (.string s), .val (.int .u8 c)] = (True) := rfl
noncomputable def Γ11 : Env Tryz.prog := ⟨fun | 189 => some IW.spec | _ => none, fun | _ => none, fun _ _ => none⟩
theorem Gt11c189 : Γ11.sp 189 = some IW.spec := rfl
def Tr := (fj T7 JZ JX Gt11c189)
theorem VM (s : ByteArray) (c : Int) (w : World) : Calls Tryz.prog 138 #[.string s, .int .u8 c] w fun e w' => e = .returned (.int .i64 (ib s c)) /\ ai w [] w' := by
 refine al (nt := 8) [.tmp 4] Tryz.func138 rfl rfl rfl ?_
 refine vR Γ11 Tr ?_
 refine vR Γ11 Tr ?_
 refine wZ Tr ?_
 exact fun E => rfl
def Rm : a7 Tryz.prog 138 where
 pre := fun W bs => fun | [.val (.string s), .val (.int .u8 c)] => True | _ => False
 res := fun W => fun | [.val (.string s), .val (.int .u8 c)] => .int .i64 (ib s c) | _ => undef
 enters := Tryz.call138
 ok := by
  intro W w bs us as_ hk hu hp
  split at hp
  ·rename_i s c
   match us, hu with
   | [u0, u1], hu =>
    obtain ⟨rfl, rfl, _⟩ := hu
    exact VM s c w
  ·exact hp.elim
theorem yv (W : World) (s : ByteArray) (c : Int) : Rm.res W [.val (.string s), .val (.int .u8 c)] = .int .i64 (ib s c) := rfl
theorem yZ (W : World) (bs : List Nat) (s : ByteArray) (c : Int) : Rm.pre W bs [.val (.string s), .val (.int .u8 c)] = (True) := rfl
def yq (s : ByteArray) (i : Int) : List AV := [.val (.string s), .val (.int .i64 i)]
def gN (i : Int) : List PanicEntry := [{ v := .iface 39 (.agg #[.int .i64 10, .int .i64 i, .string ⟨#[]⟩]), recovered := false }]
def CH := (dk Tr @yv @yZ)
set_option maxHeartbeats 1000000 in
theorem MP (s : ByteArray) (i : Int) (u : Value) (fp : List Nat) (w : World) (h0 : 0 <= i) (ho : bz w u fp 375 (yq s i)) (hlt : ∀ b ∈ fp, b < w.heap.size) :
  Calls Tryz.prog 272 (#[u] ++ #[]) w fun e w' => fu w u fp 375 e w' (.ret (.tuple #[.int .u8 (bt s i), .bool (decide (i < s.size))]) (yq s i)) := by
 refine bL (nt := 23) #[] [.tmp 2, .tmp 3] (by show 2 <= 7; omega) ho hlt Tryz.func272 rfl rfl rfl ?_
 refine vR Γ11 (ab CH @yq.eq_1) ?_
 refine Wp.seq ?_
 refine TS Γ11 CH ?_
 refine wC CH (fun hc => ?_) (fun hc => ?_)
 ·simp only [decide_eq_true_eq] at hc
  refine TS Γ11 CH ?_
  refine wZ CH ?_
  exact ⟨_, _, rfl, fun E => by rw [decide_eq_true hc]; rfl, _, _, rfl, rfl, by decide⟩
 ·simp only [decide_eq_false_iff_not] at hc
  have hb : bt s i = 0 := by
   unfold bt
   rw [Array.getElem?_eq_none (by have : s.data.size = s.size := rfl; omega)]
   rfl
  refine wK ?_
  refine vR Γ11 CH ?_
  refine wZ CH ?_
  exact ⟨_, _, rfl, fun E => by rw [decide_eq_false hc, hb]; rfl, _, _, rfl, rfl, by decide⟩
def mr : dv Tryz.prog 272 where
 T := 375
 pre := fun W bs fs as_ => match fs, as_ with | [.val (.string s), .val (.int .i64 i)], [] => 0 <= i | _, _ => False
 out := fun W fs as_ => match fs, as_ with | [.val (.string s), .val (.int .i64 i)], [] => .ret (.tuple #[.int .u8 (bt s i), .bool (decide (i < s.size))]) (yq s i) | _, _ => .pan [] undef
 enters := Tryz.call272
 ok := by
  intro W w bs u fp us fs as_ hk ho hlt hmine hu hp
  split at hp
  ·rename_i s i
   match us, hu with
   | [], _ =>
    exact MP s i u fp w hp ho hlt
  ·exact hp.elim
theorem qj (W : World) (s : ByteArray) (i : Int) : mr.out W [.val (.string s), .val (.int .i64 i)] [] = .ret (.tuple #[.int .u8 (bt s i), .bool (decide (i < s.size))]) (yq s i) := rfl
theorem qb (W : World) (bs : List Nat) (s : ByteArray) (i : Int) : mr.pre W bs [.val (.string s), .val (.int .i64 i)] [] = (0 <= i) := rfl
theorem zL : mr.T = 375 := rfl
def XR := (fj CH @qj @qb @zL)
set_option maxHeartbeats 1000000 in
theorem NU (s : ByteArray) (i j : Int) (u : Value) (fp : List Nat) (w : World) (ho : bz w u fp 375 (yq s i)) (hlt : ∀ b ∈ fp, b < w.heap.size) :
  Calls Tryz.prog 273 (#[u] ++ #[.int .i64 j]) w fun e w' => fu w u fp 375 e w' (.pan (gN j) (.tuple #[])) := by
 refine bL (nt := 7) #[.int .i64 j] [] (by show 2 <= 7; omega) ho hlt Tryz.func273 rfl rfl rfl ?_
 refine Wp.nA Γ11 bP (ev (ab XR @yq.eq_1)) ?_ ?_
 ·exact oo
 refine qq ?_
 exact ⟨_, rfl⟩
def mJ : dv Tryz.prog 273 where
 T := 375
 pre := fun W bs fs as_ => match fs, as_ with | [.val (.string s), .val (.int .i64 i)], [.val (.int .i64 j)] => True | _, _ => False
 out := fun W fs as_ => match fs, as_ with | [.val (.string s), .val (.int .i64 i)], [.val (.int .i64 j)] => .pan (gN j) (.tuple #[]) | _, _ => .pan [] undef
 enters := Tryz.call273
 ok := by
  intro W w bs u fp us fs as_ hk ho hlt hmine hu hp
  split at hp
  ·rename_i s i j
   match us, hu with
   | [u0], hu =>
    obtain ⟨rfl, _⟩ := hu
    exact NU s i j u fp w ho hlt
  ·exact hp.elim
theorem xy (W : World) (s : ByteArray) (i : Int) (j : Int) : mJ.out W [.val (.string s), .val (.int .i64 i)] [.val (.int .i64 j)] = .pan (gN j) (.tuple #[]) := rfl
theorem xS (W : World) (bs : List Nat) (s : ByteArray) (i : Int) (j : Int) : mJ.pre W bs [.val (.string s), .val (.int .i64 i)] [.val (.int .i64 j)] = (True) := rfl
theorem Hb : mJ.T = 375 := rfl
end
section
open Go.RowKit Go.LE
set_option maxRecDepth 10000
noncomputable def Γ12 : Env Tryz.prog := ⟨fun | 138 => some Rm.spec | 272 => some mr.spec | 273 => some mJ.spec | _ => none, fun | _ => none, fun _ _ => none⟩
theorem Gt12c138 : Γ12.sp 138 = some Rm.spec := rfl
theorem Gt12c272 : Γ12.sp 272 = some mr.spec := rfl
theorem Gt12c273 : Γ12.sp 273 = some mJ.spec := rfl
def dQ : ByteArray := ⟨#[48, 49, 50, 51, 52, 53, 54, 55, 56, 57, 97, 98, 99, 100, 101, 102]⟩
def vc (s : ByteArray) : Except Int (Int × Int) -> BOut
 | .ok (b, j) => .ret (.int .u8 b) (yq s j)
 | .error j => .pan (gN j) (.int .u8 0)
def fQ (s : ByteArray) (i : Int) : Except Int (Int × Int) := if i < s.size /\ 0 <= ib dQ (bt s i) then .ok (ib dQ (bt s i), i + 1) else .error i
theorem sE (c : Int) (h0 : 0 <= c) (h1 : c < 256) : -1 <= ib dQ c /\ ib dQ c < 16 := by
 obtain ⟨n, rfl⟩ := Int.eq_ofNat_of_zero_le h0
 have : ∀ b : Fin 256, -1 <= ib dQ ((b.val : Nat) : Int) /\ ib dQ ((b.val : Nat) : Int) < 16 := by decide +kernel
 exact this ⟨n, by omega⟩
theorem gn {n : Int} (h0 : 0 <= n) (h1 : n < 256) : IntKind.u8.wrap n = n := by
 simp only [IntKind.wrap, IntKind.bits, IntKind.signed, Bool.false_and, Bool.false_eq_true, if_false, decide_false, show (2 : Int) ^ 8 = 256 from rfl]
 omega
theorem IA (s : ByteArray) (b j : Int) : vc s (.ok (b, j)) = .ret (.int .u8 b) (yq s j) := rfl
theorem uB (s : ByteArray) (j : Int) : vc s (.error j) = .pan (gN j) (.int .u8 0) := rfl
def nN := (aq @List.replicate_succ.{0} @List.replicate_zero.{0} @aw @ah jS jP jn (aq cQ cV cX cS da c9 c8 (aq db iv ie ig ir iw eW (aq eV eX eZ e8 e9 Hi Ix (aq UE Uq UD UN Uh UH Uz (aq UB Ud Uo HX I2 It Hj (aq Iq Hu Hw Hl HF Ik Hq (aq @aO @au @aB @aC @yv @yZ @qj (aq @qb @zL @xy @xS @Hb @yq.eq_1 @gN.eq_1 (dk Gt12c138 Gt12c272 Gt12c273))))))))))
set_option maxHeartbeats 1000000 in
theorem TK (s : ByteArray) (i : Int) (u : Value) (fp : List Nat) (w : World) (h0 : 0 <= i) (hs : s.size <= 140737488351232) (ho : bz w u fp 375 (yq s i)) (hlt : ∀ b ∈ fp, b < w.heap.size) :
  Calls Tryz.prog 276 (#[u] ++ #[]) w fun e w' => fu w u fp 375 e w' (vc s (fQ s i)) := by
 obtain ⟨b0, b1⟩ := dN s i
 obtain ⟨x0, x1⟩ := sE _ b0 b1
 refine bL (nt := 34) #[] [.tmp 2] (by show 2 <= 7; omega) ho hlt Tryz.func276 rfl rfl rfl ?_
 refine vR Γ12 nN ?_
 refine wR Γ12 nN ?_ ?_
 ·simp [h0]
 refine vR Γ12 nN ?_
 refine Wp.seq ?_
 refine vR Γ12 nN ?_
 refine wC nN (fun hc => ?_) (fun hc => ?_)
 ·have he : fQ s i = .error i := by
   rw [fQ, if_neg]
   simp [dQ] at hc ⊢
   omega
  rw [he]
  refine Wp.nA Γ12 bP (ev nN) ?_ ?_
  ·simp
  refine qq ?_
  exact ⟨_, rfl⟩
 ·have hi : i < s.size /\ 0 <= ib dQ (bt s i) := by
   simp [dQ] at hc ⊢
   omega
  have he : fQ s i = .ok (ib dQ (bt s i), i + 1) := by rw [fQ, if_pos hi]
  have w1 : IntKind.i64.wrap (i + 1) = i + 1 := aa (by omega) (by omega)
  have w2 : IntKind.u8.wrap (ib dQ (bt s i)) = ib dQ (bt s i) := gn hi.2 (by omega)
  rw [he]
  refine wK ?_
  refine vR Γ12 (ab nN w1) ?_
  refine vR Γ12 (ab nN w2) ?_
  refine wZ nN ?_
  exact ⟨_, _, rfl, fun E => by simp only [den]; rw [show ib dQ (bt s i) = ib ⟨#[48, 49, 50, 51, 52, 53, 54, 55, 56, 57, 97, 98, 99, 100, 101, 102]⟩ (bt s i) from rfl] at w2; exact congrArg _ w2, _, _, rfl, rfl, by decide⟩
def MW : dv Tryz.prog 276 where
 T := 375
 pre := fun W bs fs as_ => match fs, as_ with | [.val (.string s), .val (.int .i64 i)], [] => 0 <= i /\ s.size <= 140737488351232 | _, _ => False
 out := fun W fs as_ => match fs, as_ with | [.val (.string s), .val (.int .i64 i)], [] => vc s (fQ s i) | _, _ => .pan [] undef
 enters := Tryz.call276
 ok := by
  intro W w bs u fp us fs as_ hk ho hlt hmine hu hp
  split at hp
  ·rename_i s i
   match us, hu with
   | [], _ =>
    exact TK s i u fp w hp.1 hp.2 ho hlt
  ·exact hp.elim
theorem ON (W : World) (s : ByteArray) (i : Int) : MW.out W [.val (.string s), .val (.int .i64 i)] [] = vc s (fQ s i) := rfl
theorem NG (W : World) (bs : List Nat) (s : ByteArray) (i : Int) : MW.pre W bs [.val (.string s), .val (.int .i64 i)] [] = (0 <= i /\ s.size <= 140737488351232) := rfl
theorem Vu : MW.T = 375 := rfl
noncomputable def Γ13 : Env Tryz.prog := ⟨fun | 138 => some Rm.spec | 272 => some mr.spec | 273 => some mJ.spec | 276 => some MW.spec | _ => none, fun | _ => none, fun _ _ => none⟩
theorem Gt13c138 : Γ13.sp 138 = some Rm.spec := rfl
theorem Gt13c272 : Γ13.sp 272 = some mr.spec := rfl
theorem Gt13c273 : Γ13.sp 273 = some mJ.spec := rfl
theorem Gt13c276 : Γ13.sp 276 = some MW.spec := rfl
def bc (W : World) (S : Nat -> Prop) : Prop := S 4 /\ W.cell? ⟨4, 0, none⟩ = some (.int .u8 110) /\ W.cell? ⟨4, 0 + 1, none⟩ = some (.int .u8 10) /\ W.cell? ⟨4, 0 + 1 + 1, none⟩ = some (.int .u8 114) /\ W.cell? ⟨4, 0 + 1 + 1 + 1, none⟩ = some (.int .u8 13) /\
 W.cell? ⟨4, 0 + 1 + 1 + 1 + 1, none⟩ = some (.int .u8 116) /\ W.cell? ⟨4, 0 + 1 + 1 + 1 + 1 + 1, none⟩ = some (.int .u8 9)
theorem bc.mono {W W' : World} {S S' : Nat -> Prop} (h : bc W S) (hs : cr W S W' S') : bc W' S' := by
 obtain ⟨h0, h1, h2, h3, h4, h5, h6⟩ := h
 have g : ∀ o v, W.cell? ⟨4, o, none⟩ = some v -> W'.cell? ⟨4, o, none⟩ = some v /\ S' 4 := fun o v hv => by
  have := XC.mono (b := 4) (o := o) (v := v) ⟨h0, hv⟩ hs
  exact ⟨this.2, this.1⟩
 exact ⟨(g _ _ h1).2, (g _ _ h1).1, (g _ _ h2).1, (g _ _ h3).1, (g _ _ h4).1, (g _ _ h5).1, (g _ _ h6).1⟩
theorem bc.fD {W w : World} {bs fp : List Nat} (h : bc W (Out bs)) (hk : ai W bs w) (hm : ∀ b ∈ fp, W.heap.size <= b \/ b ∈ bs) : bc w (Out fp) :=
 h.mono fun b hb hs => ⟨hk.block b hb hs, fun hb' => (hm b hb').elim (fun g => absurd g (Nat.not_le.2 hb)) hs⟩
def dw (s : ByteArray) (i : Int) : Except Int (Int × Int) :=
 if ¬ i < s.size then .error i
 else if bt s i = 110 then .ok (10, i + 1)
 else if bt s i = 114 then .ok (13, i + 1)
 else if bt s i = 116 then .ok (9, i + 1)
 else if bt s i = 120 then
  match fQ s (i + 1) with
  | .error j => .error j
  | .ok (h, j) => match fQ s j with
   | .error k => .error k
   | .ok (l, k) => .ok (16 * h + l, k)
 else if (((bt s i < 32 \/ 126 < bt s i) \/ 48 <= bt s i /\ bt s i <= 57) \/ 97 <= bt s i /\ bt s i <= 122) \/ 65 <= bt s i /\ bt s i <= 90 then .error i
 else .ok (bt s i, i + 1)
theorem o6 {s : ByteArray} {i h j : Int} (he : fQ s i = .ok (h, j)) (h0 : 0 <= i) : 0 <= h /\ h < 16 /\ j = i + 1 /\ i < s.size := by
 rw [fQ] at he
 split at he
 ·rename_i hc
  simp only [Except.ok.injEq, Prod.mk.injEq] at he
  obtain ⟨rfl, rfl⟩ := he
  obtain ⟨b0, b1⟩ := dN s i
  have := sE _ b0 b1
  exact ⟨hc.2, this.2, rfl, hc.1⟩
 ·cases he
theorem VG (h l : Int) (h0 : 0 <= h) (h1 : h < 16) (l0 : 0 <= l) (l1 : l < 16) : bU .or .u8 (IntKind.u8.wrap (h * 16)) l = 16 * h + l := by
 obtain ⟨n, rfl⟩ := Int.eq_ofNat_of_zero_le h0
 obtain ⟨m, rfl⟩ := Int.eq_ofNat_of_zero_le l0
 have : ∀ a b : Fin 16, bU .or .u8 (IntKind.u8.wrap (((a.val : Nat) : Int) * 16)) ((b.val : Nat) : Int) = 16 * ((a.val : Nat) : Int) + ((b.val : Nat) : Int) := by decide +kernel
 exact this ⟨n, by omega⟩ ⟨m, by omega⟩
def bD := (aq nN ON NG Vu @IA @uB Gt13c138 (dk Gt13c272 Gt13c273 Gt13c276))
set_option maxHeartbeats 4000000 in
theorem RD (s : ByteArray) (i : Int) (u : Value) (fp : List Nat) (w : World) (h0 : 0 <= i) (hs : s.size <= 140737488351232) (hg : bc w (Out fp)) (ho : bz w u fp 375 (yq s i)) (hlt : ∀ b ∈ fp, b < w.heap.size) :
  Calls Tryz.prog 275 (#[u] ++ #[]) w fun e w' => fu w u fp 375 e w' (vc s (dw s i)) := by
 obtain ⟨b0, b1⟩ := dN s i
 obtain ⟨g0, g1, g2, g3, g4, g5, g6⟩ := hg
 have g0' : ¬ 4 ∈ fp := g0
 refine bL (nt := 99) #[] [.tmp 2] (by show 2 <= 7; omega) ho hlt Tryz.func275 rfl rfl rfl ?_
 refine vR Γ13 bD ?_
 refine wR Γ13 bD ?_ ?_
 ·simp [h0]
 refine Wp.seq ?_
 refine vR Γ13 bD ?_
 refine wC bD (fun hc => ?_) (fun hc => ?_)
 ·simp at hc
  have he : dw s i = .error i := by rw [dw, if_pos (by omega)]
  rw [he]
  refine Wp.nA Γ13 bP (ev bD) ?_ ?_
  ·simp
  refine qq ?_
  exact ⟨_, rfl⟩
 ·simp at hc
  have hi : i < s.size := by omega
  have w1 : IntKind.i64.wrap (i + 1) = i + 1 := aa (by omega) (by omega)
  refine wK ?_
  refine Wp.seq ?_
  refine wR Γ13 (Ci bD g1 g2 g3 g4 g5 g6) ?_ ?_
  ·simp [Out, g0', ax, SV.keys]
  refine Wp.block ?_
  refine Wp.loop (fun k : Nat => ⟨40, bV [(0, .is (.own 0 0)), (3, .is (.v (.int .u8 (bt s i)))), (21, .is (.agg [.v (.int .u8 110), .v (.int .u8 10), .v (.int .u8 114), .v (.int .u8 13), .v (.int .u8 116), .v (.int .u8 9)])), (22, .is (.v (.int .i64 k)))], cd [(0, .cells 375 [.v (.string s), .v (.int .i64 i)])]⟩)
   (fun k => k <= 3 /\ (0 < k -> bt s i ≠ 110) /\ (1 < k -> bt s i ≠ 114) /\ (2 < k -> bt s i ≠ 116)) (fun k => 3 - k) 0 ?_ ⟨by omega, by omega, by omega, by omega⟩ ?_
  ·exact wM (fun k => .key k) bD
  rintro k ⟨k0, k1, k2, k3⟩
  refine vR Γ13 bD ?_
  refine Wp.seq ?_
  refine wC bD (fun hc => ?_) (fun hc => ?_)
  ·simp at hc
   refine wK ?_
   have hk3 : k < 3 := by omega
   have hcase : k = 0 \/ k = 1 \/ k = 2 := by omega
   refine Wp.seq (Wp.block ?_)
   rcases hcase with rfl | rfl | rfl
   ·skip
    refine vR Γ13 bD ?_
    refine vR Γ13 bD ?_
    refine wC bD (fun hc => ?_) (fun hc => ?_)
    ·simp at hc
     have he : dw s i = .ok (10, i + 1) := by rw [dw, if_neg (by omega), if_pos (by omega)]
     rw [he]
     refine vR Γ13 (ab bD w1) ?_
     refine vR Γ13 bD ?_
     refine wZ bD ?_
     exact ⟨_, _, rfl, fun E => rfl, _, _, rfl, rfl, by decide⟩
    ·simp at hc
     refine wK ?_
     refine vr Γ13 bD ?_
     refine ⟨1, ⟨by omega, by omega, by omega, by omega⟩, by omega, ?_⟩
     exact wM (fun k => .key k) bD
   ·skip
    refine vR Γ13 bD ?_
    refine vR Γ13 bD ?_
    refine wC bD (fun hc => ?_) (fun hc => ?_)
    ·simp at hc
     have he : dw s i = .ok (13, i + 1) := by rw [dw, if_neg (by omega), if_neg (k1 (by omega)), if_pos (by omega)]
     rw [he]
     refine vR Γ13 (ab bD w1) ?_
     refine vR Γ13 bD ?_
     refine wZ bD ?_
     exact ⟨_, _, rfl, fun E => rfl, _, _, rfl, rfl, by decide⟩
    ·simp at hc
     refine wK ?_
     refine vr Γ13 bD ?_
     refine ⟨2, ⟨by omega, by omega, by omega, by omega⟩, by omega, ?_⟩
     exact wM (fun k => .key k) bD
   ·skip
    refine vR Γ13 bD ?_
    refine vR Γ13 bD ?_
    refine wC bD (fun hc => ?_) (fun hc => ?_)
    ·simp at hc
     have he : dw s i = .ok (9, i + 1) := by rw [dw, if_neg (by omega), if_neg (k1 (by omega)), if_neg (k2 (by omega)), if_pos (by omega)]
     rw [he]
     refine vR Γ13 (ab bD w1) ?_
     refine vR Γ13 bD ?_
     refine wZ bD ?_
     exact ⟨_, _, rfl, fun E => rfl, _, _, rfl, rfl, by decide⟩
    ·simp at hc
     refine wK ?_
     refine vr Γ13 bD ?_
     refine ⟨3, ⟨by omega, by omega, by omega, by omega⟩, by omega, ?_⟩
     exact wM (fun k => .key k) bD
  ·simp at hc
   have k33 : k = 3 := by omega
   subst k33
   refine wE ?_
   refine Wp.seq ?_
   refine vR Γ13 bD ?_
   refine wC bD (fun hc => ?_) (fun hc => ?_)
   ·simp at hc
    have he : dw s i = match fQ s (i + 1) with
      | .error j => .error j
      | .ok (h, j) => match fQ s j with
       | .error k => .error k
       | .ok (l, k) => .ok (16 * h + l, k) := by rw [dw, if_neg (by omega), if_neg (by omega), if_neg (by omega), if_neg (by omega), if_pos hc]
    refine vR Γ13 (ab bD w1) ?_
    cases h1 : fQ s (i + 1) with
    | error j =>
     rw [he, h1]
     refine Wp.iA Γ13 bP (ev (ab bD h1)) ?_ ?_
     ·simp [w1]; omega
     refine qq ?_
     exact ⟨_, rfl⟩
    | ok p =>
     obtain ⟨h, j⟩ := p
     obtain ⟨q0, q1, rfl, q3⟩ := o6 h1 (by omega)
     refine wR Γ13 (ab bD h1) ?_ ?_
     ·simp [w1]; omega
     cases h2 : fQ s (i + 1 + 1) with
     | error j =>
      rw [he, h1]
      simp only [h2]
      refine Wp.iA Γ13 bP (ev (ab bD h2)) ?_ ?_
      ·simp [w1]; omega
      refine qq ?_
      exact ⟨_, rfl⟩
     | ok p =>
      obtain ⟨l, j⟩ := p
      obtain ⟨r0, r1, rfl, r3⟩ := o6 h2 (by omega)
      rw [he, h1]
      simp only [h2]
      refine wR Γ13 (ab bD h2) ?_ ?_
      ·simp [w1]; omega
      refine wZ bD ?_
      exact ⟨_, _, rfl, fun E => by simp only [den]; rw [VG h l q0 q1 r0 r1], _, _, rfl, rfl, by decide⟩
   ·simp at hc
    refine wK ?_
    refine Wp.seq ?_
    refine vR Γ13 bD ?_
    refine wC bD (fun hc => ?_) (fun hc => ?_)
    ·simp at hc
     have he : dw s i = .error i := by rw [dw, if_neg (by omega), if_neg (by omega), if_neg (by omega), if_neg (by omega), if_neg (by assumption), if_pos hc]
     rw [he]
     refine Wp.nA Γ13 bP (ev bD) ?_ ?_
     ·exact oo
     refine qq ?_
     exact ⟨_, rfl⟩
    ·have hn : ¬ ((((bt s i < 32 \/ 126 < bt s i) \/ 48 <= bt s i /\ bt s i <= 57) \/ 97 <= bt s i /\ bt s i <= 122) \/ 65 <= bt s i /\ bt s i <= 90) := by
      intro h
      apply Bool.eq_false_iff.1 hc
      simp
      exact h
     have he : dw s i = .ok (bt s i, i + 1) := by rw [dw, if_neg (by omega), if_neg (by omega), if_neg (by omega), if_neg (by omega), if_neg (by assumption), if_neg hn]
     rw [he]
     refine wK ?_
     refine vR Γ13 (ab bD w1) ?_
     refine vR Γ13 bD ?_
     refine wZ bD ?_
     exact ⟨_, _, rfl, fun E => rfl, _, _, rfl, rfl, by decide⟩
def Q5 : dv Tryz.prog 275 where
 T := 375
 pre := fun W bs fs as_ => match fs, as_ with | [.val (.string s), .val (.int .i64 i)], [] => 0 <= i /\ s.size <= 140737488351232 /\ bc W (Out bs) | _, _ => False
 out := fun W fs as_ => match fs, as_ with | [.val (.string s), .val (.int .i64 i)], [] => vc s (dw s i) | _, _ => .pan [] undef
 enters := Tryz.call275
 ok := by
  intro W w bs u fp us fs as_ hk ho hlt hmine hu hp
  split at hp
  ·rename_i s i
   match us, hu with
   | [], _ =>
    exact RD s i u fp w hp.1 hp.2.1 (hp.2.2.fD hk hmine) ho hlt
  ·exact hp.elim
theorem OX (W : World) (s : ByteArray) (i : Int) : Q5.out W [.val (.string s), .val (.int .i64 i)] [] = vc s (dw s i) := rfl
theorem M7 (W : World) (bs : List Nat) (s : ByteArray) (i : Int) : Q5.pre W bs [.val (.string s), .val (.int .i64 i)] [] = (0 <= i /\ s.size <= 140737488351232 /\ bc W (Out bs)) := rfl
theorem VO : Q5.T = 375 := rfl
noncomputable def Γ14 : Env Tryz.prog := ⟨fun | 138 => some Rm.spec | 272 => some mr.spec | 273 => some mJ.spec | 275 => some Q5.spec | _ => none, fun | _ => none, fun _ _ => none⟩
theorem Gt14c138 : Γ14.sp 138 = some Rm.spec := rfl
theorem Gt14c272 : Γ14.sp 272 = some mr.spec := rfl
theorem Gt14c273 : Γ14.sp 273 = some mJ.spec := rfl
theorem Gt14c275 : Γ14.sp 275 = some Q5.spec := rfl
def dt (s : ByteArray) (i : Int) (q : ByteArray) : Except Int (Int × Int) :=
 if i < s.size /\ bt s i = 92 then dw s (i + 1)
 else if ((¬ i < s.size \/ bt s i < 32) \/ 126 < bt s i) \/ 0 <= ib q (bt s i) then .error i
 else .ok (bt s i, i + 1)
def jW := (aq bD OX M7 VO Gt14c138 Gt14c272 Gt14c273 Gt14c275)
set_option maxHeartbeats 4000000 in
theorem To (s : ByteArray) (i : Int) (q : ByteArray) (u : Value) (fp : List Nat) (w : World) (h0 : 0 <= i) (hs : s.size <= 140737488351232) (hg : bc w (Out fp)) (ho : bz w u fp 375 (yq s i)) (hlt : ∀ b ∈ fp, b < w.heap.size) :
  Calls Tryz.prog 270 (#[u] ++ #[.string q]) w fun e w' => fu w u fp 375 e w' (vc s (dt s i q)) := by
 obtain ⟨b0, b1⟩ := dN s i
 refine bL (nt := 56) #[.string q] [.tmp 4] (by show 2 <= 7; omega) ho hlt Tryz.func270 rfl rfl rfl ?_
 refine vR Γ14 jW ?_
 refine wR Γ14 jW ?_ ?_
 ·simp [h0]
 refine Wp.seq ?_
 refine vR Γ14 jW ?_
 refine wC jW (fun hc => ?_) (fun hc => ?_)
 ·simp at hc
  have w1 : IntKind.i64.wrap (i + 1) = i + 1 := aa (by omega) (by omega)
  have he : dt s i q = dw s (i + 1) := by rw [dt, if_pos hc]
  rw [he]
  refine vR Γ14 (ab jW w1) ?_
  cases h1 : dw s (i + 1) with
  | error j =>
   refine Wp.iA Γ14 bP (ev (ab jW h1)) ?_ ?_
   ·simp [w1, hs]; exact ⟨by omega, hg⟩
   refine qq ?_
   exact ⟨_, rfl⟩
  | ok p =>
   obtain ⟨b, j⟩ := p
   refine wR Γ14 (ab jW h1) ?_ ?_
   ·simp [w1, hs]; exact ⟨by omega, hg⟩
   refine wZ jW ?_
   exact ⟨_, _, rfl, fun E => rfl, _, _, rfl, rfl, by decide⟩
 ·have hn : ¬ (i < s.size /\ bt s i = 92) := fun h => by
   apply Bool.eq_false_iff.1 hc
   simp
   exact h
  refine wK ?_
  refine Wp.seq ?_
  refine vR Γ14 jW ?_
  refine wC jW (fun hc => ?_) (fun hc => ?_)
  ·simp at hc
   have he : dt s i q = .error i := by
    rw [dt, if_neg hn, if_pos]
    omega
   rw [he]
   refine Wp.nA Γ14 bP (ev jW) ?_ ?_
   ·simp
   refine qq ?_
   exact ⟨_, rfl⟩
  ·have hn' : ¬ (((¬ i < s.size \/ bt s i < 32) \/ 126 < bt s i) \/ 0 <= ib q (bt s i)) := fun h => by
    apply Bool.eq_false_iff.1 hc
    simp
    omega
   have he : dt s i q = .ok (bt s i, i + 1) := by rw [dt, if_neg hn, if_neg hn']
   have w1 : IntKind.i64.wrap (i + 1) = i + 1 := aa (by omega) (by omega)
   rw [he]
   refine wK ?_
   refine vR Γ14 (ab jW w1) ?_
   refine vR Γ14 jW ?_
   refine wZ jW ?_
   exact ⟨_, _, rfl, fun E => rfl, _, _, rfl, rfl, by decide⟩
def FT : dv Tryz.prog 270 where
 T := 375
 pre := fun W bs fs as_ => match fs, as_ with | [.val (.string s), .val (.int .i64 i)], [.val (.string q)] => 0 <= i /\ s.size <= 140737488351232 /\ bc W (Out bs) | _, _ => False
 out := fun W fs as_ => match fs, as_ with | [.val (.string s), .val (.int .i64 i)], [.val (.string q)] => vc s (dt s i q) | _, _ => .pan [] undef
 enters := Tryz.call270
 ok := by
  intro W w bs u fp us fs as_ hk ho hlt hmine hu hp
  split at hp
  ·rename_i s i q
   match us, hu with
   | [u0], hu =>
    obtain ⟨rfl, _⟩ := hu
    exact To s i q u fp w hp.1 hp.2.1 (hp.2.2.fD hk hmine) ho hlt
  ·exact hp.elim
theorem Qv (W : World) (s : ByteArray) (i : Int) (q : ByteArray) : FT.out W [.val (.string s), .val (.int .i64 i)] [.val (.string q)] = vc s (dt s i q) := rfl
theorem NR (W : World) (bs : List Nat) (s : ByteArray) (i : Int) (q : ByteArray) : FT.pre W bs [.val (.string s), .val (.int .i64 i)] [.val (.string q)] = (0 <= i /\ s.size <= 140737488351232 /\ bc W (Out bs)) := rfl
theorem Vr : FT.T = 375 := rfl
end
section
open Go.RowKit Go.LE
set_option maxRecDepth 10000
theorem SW {s : ByteArray} {i b j : Int} (he : dw s i = .ok (b, j)) (h0 : 0 <= i) : 0 <= b /\ b < 256 /\ i < j /\ j <= s.size := by
 obtain ⟨b0, b1⟩ := dN s i
 rw [dw] at he
 split at he
 ·cases he
 ·rename_i h1
  split at he
  ·simp only [Except.ok.injEq, Prod.mk.injEq] at he; omega
  ·split at he
   ·simp only [Except.ok.injEq, Prod.mk.injEq] at he; omega
   ·split at he
    ·simp only [Except.ok.injEq, Prod.mk.injEq] at he; omega
    ·split at he
     ·cases h2 : fQ s (i + 1) with
      | error k => rw [h2] at he; cases he
      | ok p =>
       obtain ⟨h, k⟩ := p
       rw [h2] at he
       obtain ⟨q0, q1, q2, q3⟩ := o6 h2 (by omega)
       simp only at he
       cases h3 : fQ s k with
       | error k' => rw [h3] at he; cases he
       | ok p =>
        obtain ⟨l, k'⟩ := p
        rw [h3] at he
        obtain ⟨r0, r1, r2, r3⟩ := o6 h3 (by omega)
        simp only [Except.ok.injEq, Prod.mk.injEq] at he
        omega
     ·split at he
      ·cases he
      ·simp only [Except.ok.injEq, Prod.mk.injEq] at he; omega
theorem iI {s : ByteArray} {i b j : Int} {q : ByteArray} (he : dt s i q = .ok (b, j)) (h0 : 0 <= i) : 0 <= b /\ b < 256 /\ i < j /\ j <= s.size := by
 obtain ⟨b0, b1⟩ := dN s i
 rw [dt] at he
 split at he
 ·have := SW he (by omega); omega
 ·split at he
  ·cases he
  ·simp only [Except.ok.injEq, Prod.mk.injEq] at he; omega
noncomputable def v7 : a7 Tryz.prog 224 where
 pre := fun W bs => fun | [.val y0] => (match dec bY y0 with | some S => True | _ => False) | _ => False
 res := fun W => fun | [.val y0] => (match dec bY y0 with | some S => bY (~~~S) | _ => undef) | _ => undef
 enters := Tryz.call224
 ok := by
  intro W w bs us as_ hk hu hp
  split at hp
  ·rename_i y0
   split at hp
   ·rename_i S h0
    match us, hu with
    | [u0], hu =>
     obtain ⟨rfl, _⟩ := hu
     obtain rfl := fq h0
     try dsimp only
     try simp only [b9 cg]
     exact TD S w
   ·exact hp.elim
  ·exact hp.elim
theorem CL (W : World) (S : CS) : v7.res W [.val (bY S)] = bY (~~~S) := by simp only [v7, b9 cg]
theorem CT (W : World) (bs : List Nat) (S : CS) : v7.pre W bs [.val (bY S)] = (True) := by simp only [v7, b9 cg]
noncomputable def p5 : a7 Tryz.prog 274 where
 pre := fun W bs => fun | [.val y0, .val y1] => (match dec bY y0, dec bY y1 with | some S, some T => True | _, _ => False) | _ => False
 res := fun W => fun | [.val y0, .val y1] => (match dec bY y0, dec bY y1 with | some S, some T => bY (S ||| T) | _, _ => undef) | _ => undef
 enters := Tryz.call274
 ok := by
  intro W w bs us as_ hk hu hp
  split at hp
  ·rename_i y0 y1
   split at hp
   ·rename_i S T h0 h1
    match us, hu with
    | [u0, u1], hu =>
     obtain ⟨rfl, rfl, _⟩ := hu
     obtain rfl := fq h0; obtain rfl := fq h1
     try dsimp only
     try simp only [b9 cg]
     exact LS S T w
   ·exact hp.elim
  ·exact hp.elim
theorem Ft (W : World) (S : CS) (T : CS) : p5.res W [.val (bY S), .val (bY T)] = bY (S ||| T) := by simp only [p5, b9 cg]
theorem GA (W : World) (bs : List Nat) (S : CS) (T : CS) : p5.pre W bs [.val (bY S), .val (bY T)] = (True) := by simp only [p5, b9 cg]
def j1 (lo hi : Int) : CS := span lo.toNat hi.toNat
def xK : a7 Tryz.prog 271 where
 pre := fun W bs => fun | [.val (.int .u8 lo), .val (.int .u8 hi)] => 0 <= lo /\ lo < 256 /\ 0 <= hi /\ hi < 256 | _ => False
 res := fun W => fun | [.val (.int .u8 lo), .val (.int .u8 hi)] => bY (j1 lo hi) | _ => undef
 enters := Tryz.call271
 ok := by
  intro W w bs us as_ hk hu hp
  split at hp
  ·rename_i lo hi
   match us, hu with
   | [u0, u1], hu =>
    obtain ⟨rfl, rfl, _⟩ := hu
    obtain ⟨p0, p1, p2, p3⟩ := hp; have := PS lo.toNat hi.toNat (by omega) (by omega) w; rwa [Int.toNat_of_nonneg p0, Int.toNat_of_nonneg p2] at this
  ·exact hp.elim
theorem Kp (W : World) (lo : Int) (hi : Int) : xK.res W [.val (.int .u8 lo), .val (.int .u8 hi)] = bY (j1 lo hi) := rfl
theorem LF (W : World) (bs : List Nat) (lo : Int) (hi : Int) : xK.pre W bs [.val (.int .u8 lo), .val (.int .u8 hi)] = (0 <= lo /\ lo < 256 /\ 0 <= hi /\ hi < 256) := rfl
def V2 : a7 Tryz.prog 245 where
 pre := fun W bs => fun | [.val (.string s)] => s.size <= 140737488351232 | _ => False
 res := fun W => fun | [.val (.string s)] => bY (DB s s.size) | _ => undef
 enters := Tryz.call245
 ok := by
  intro W w bs us as_ hk hu hp
  split at hp
  ·rename_i s
   match us, hu with
   | [u0], hu =>
    obtain ⟨rfl, _⟩ := hu
    exact U4 s hp w
  ·exact hp.elim
theorem RZ (W : World) (s : ByteArray) : V2.res W [.val (.string s)] = bY (DB s s.size) := rfl
theorem T9 (W : World) (bs : List Nat) (s : ByteArray) : V2.pre W bs [.val (.string s)] = (s.size <= 140737488351232) := rfl
noncomputable def Γ15 : Env Tryz.prog := ⟨fun | 272 => some mr.spec | 273 => some mJ.spec | 270 => some FT.spec | 224 => some v7.spec | 274 => some p5.spec | 271 => some xK.spec | 245 => some V2.spec | _ => none, fun | _ => none, fun _ _ => none⟩
theorem Gt15c272 : Γ15.sp 272 = some mr.spec := rfl
theorem Gt15c273 : Γ15.sp 273 = some mJ.spec := rfl
theorem Gt15c270 : Γ15.sp 270 = some FT.spec := rfl
theorem Gt15c224 : Γ15.sp 224 = some v7.spec := rfl
theorem Gt15c274 : Γ15.sp 274 = some p5.spec := rfl
theorem Gt15c271 : Γ15.sp 271 = some xK.spec := rfl
theorem Gt15c245 : Γ15.sp 245 = some V2.spec := rfl
def ki : ByteArray := ⟨#[92, 93, 91, 45, 94, 47]⟩
def qH (s : ByteArray) : Nat -> Int -> CS -> Except Int (CS × Int)
 | 0, i, _ => .error i
 | n + 1, i, a =>
  if i < s.size /\ bt s i = 93 then .ok (a, i + 1) else
  match dt s i ki with
  | .error j => .error j
  | .ok (lo, j) =>
   if j < s.size /\ bt s j = 45 then
    match dt s (j + 1) ki with
    | .error k => .error k
    | .ok (hi, k) => if hi < lo then .error (j + 1) else qH s n k (a ||| j1 lo hi)
   else qH s n j (a ||| j1 lo lo)
def HJ (b : Bool) (a : CS) : CS := if b then ~~~a else a
def gr (s : ByteArray) (i : Int) : Bool := decide (i < s.size) && decide (bt s i = 94)
def pX (b : Bool) : Except Int (CS × Int) -> Except Int (CS × Int)
 | .error j => .error j
 | .ok (a, j) => .ok (HJ b a, j)
def dR (s : ByteArray) (i : Int) : Except Int (CS × Int) := pX (gr s i) (qH s (s.size + 1) (if gr s i then i + 1 else i) 0)
def A4 (s : ByteArray) : Except Int (CS × Int) -> BOut
 | .ok (a, j) => .ret (bY a) (yq s j)
 | .error j => .pan (gN j) (bY 0)
theorem oZ (s : ByteArray) (a : CS) (j : Int) : A4 s (.ok (a, j)) = .ret (bY a) (yq s j) := rfl
theorem jh (s : ByteArray) (j : Int) : A4 s (.error j) = .pan (gN j) (bY 0) := rfl
def cl := (aq @List.replicate_succ.{0} @List.replicate_zero.{0} @aw @ah jS jP jn (aq cQ cV cX cS da c9 c8 (aq db iv ie ig ir iw eW (aq eV eX eZ e8 e9 rv ri (aq q7 rD ry rI qW qY Hi (aq Ix HX I2 It Hj Iq Hu (aq Hw Hl HF Ik Hq @aO @au (aq @aB @aC @qj @qb @zL @xy @xS (aq @Hb @Qv @NR @Vr @yq.eq_1 @gN.eq_1 @IA (aq @uB @de @jw @kU @kR @iZ @nh (aq @dJ @zY @gJ @List.drop_nil.{0} @CL @CT Ft (aq GA Kp LF RZ T9 Gt15c272 Gt15c273 (p8 Gt15c270 Gt15c224 Gt15c274 Gt15c271 Gt15c245)))))))))))))
set_option maxHeartbeats 4000000 in
theorem AY (s : ByteArray) (i : Int) (u : Value) (fp : List Nat) (w : World) (h0 : 0 <= i) (hs : s.size <= 140737488351232) (hg : bc w (Out fp)) (ho : bz w u fp 375 (yq s i)) (hlt : ∀ b ∈ fp, b < w.heap.size) :
  Calls Tryz.prog 269 (#[u] ++ #[]) w fun e w' => fu w u fp 375 e w' (A4 s (dR s i)) := by
 obtain ⟨b0, b1⟩ := dN s i
 refine bL (nt := 90) #[] [.cell 2 309] (by show 2 <= 7; omega) ho hlt Tryz.func269 rfl rfl rfl ?_
 refine vR Γ15 cl ?_
 refine vR Γ15 cl ?_
 refine wR Γ15 cl ?_ ?_
 ·simp [h0]
 refine vR Γ15 cl ?_
 generalize hi0 : (if gr s i then i + 1 else i) = i0
 have hj0 : 0 <= i0 /\ i0 <= i + 1 := by rw [<- hi0]; split <;> omega
 generalize hR : qH s (s.size + 1) i0 0 = R
 have hm : dR s i = pX (gr s i) R := by rw [dR, hi0, hR]
 refine bx ⟨40, bV [(0, .is (.own 0 0)), (2, .is (.own 8 0)), (3, .is (.own 16 0)), (6, .is (.v (.bool (gr s i))))], cd [(0, .cells 375 [.v (.string s), .v (.int .i64 i0)]), (8, .cells 309 [.v (.int .u64 0), .v (.int .u64 0), .v (.int .u64 0), .v (.int .u64 0)]), (16, .cells 309 [.v (.int .u64 0), .v (.int .u64 0), .v (.int .u64 0), .v (.int .u64 0)])]⟩ ?_ ?_
 ·skip
  refine vR Γ15 cl ?_
  refine wC cl (fun hc => ?_) (fun hc => ?_)
  ·have hcar : gr s i = true := hc
   rw [hcar] at hi0
   simp only [if_true] at hi0
   simp at hc
   have w1 : IntKind.i64.wrap (i + 1) = i + 1 := aa (by omega) (by omega)
   refine vr Γ15 (ab cl w1) ?_
   subst hi0
   exact wM (fun k => .key k) (ab cl @gr.eq_1)
  ·have hcar : gr s i = false := hc
   rw [hcar] at hi0
   simp only [Bool.false_eq_true, if_false] at hi0
   refine wK ?_
   subst hi0
   exact wM (fun k => .key k) (ab cl @gr.eq_1)
 refine Wp.seq ?_
 refine Wp.block ?_
 refine Wp.loop (fun p : Nat × Int × CS => ⟨40, bV [(0, .is (.own 0 0)), (2, .is (.own 8 0)), (3, .is (.own 16 0)), (6, .is (.v (.bool (gr s i))))], cd [(0, .cells 375 [.v (.string s), .v (.int .i64 p.2.1)]), (8, .cells 309 [.v (.int .u64 0), .v (.int .u64 0), .v (.int .u64 0), .v (.int .u64 0)]), (16, .cells 309 ((jN p.2.2).map .v))]⟩)
  (fun p => 0 <= p.2.1 /\ (s.size - p.2.1 < p.1 /\ 1 <= p.1) /\ qH s p.1 p.2.1 p.2.2 = R) (fun p => p.1) (s.size + 1, i0, 0) ?_ ⟨hj0.1, by simp only; omega, hR⟩ ?_
 ·exact wM (fun k => .key k) (ab cl @vf)
 rintro ⟨n, i', a⟩ ⟨k0, ⟨k1, k3⟩, k2⟩
 simp only at k0 k1 k2
 obtain ⟨n, rfl⟩ : ∃ m, n = m + 1 := ⟨n - 1, by simp only at k3; omega⟩
 rw [qH] at k2
 refine Wp.block ?_
 refine Wp.seq ?_
 refine wR Γ15 cl ?_ ?_
 ·simp [k0]
 refine vR Γ15 cl ?_
 refine wC cl (fun hc => ?_) (fun hc => ?_)
 ·simp at hc
  have hR' : R = .ok (a, i' + 1) := by rw [<- k2, if_pos hc]
  have w1 : IntKind.i64.wrap (i' + 1) = i' + 1 := aa (by omega) (by omega)
  refine vR Γ15 (ab cl w1) ?_
  refine wE ?_
  refine Wp.seq ?_
  refine vR Γ15 cl ?_
  refine wC cl (fun hc => ?_) (fun hc => ?_)
  ·have hcar : gr s i = true := hc
   rw [hm, hR', hcar, pX, oZ]
   refine wR Γ15 cl ?_ ?_
   ·simp [jw]
   refine wZ cl ?_
   exact ⟨_, _, rfl, rfl, _, _, rfl, rfl, by decide⟩
  ·have hcar : gr s i = false := hc
   rw [hm, hR', hcar, pX, oZ]
   refine wK ?_
   refine wR Γ15 cl ?_ ?_
   ·simp [jw]
   refine wZ cl ?_
   exact ⟨_, _, rfl, rfl, _, _, rfl, rfl, by decide⟩
 ·have hn : ¬ (i' < s.size /\ bt s i' = 93) := fun h => by
   apply Bool.eq_false_iff.1 hc
   simp
   exact h
  rw [if_neg hn] at k2
  refine wK ?_
  cases h1 : dt s i' ki with
  | error j =>
   rw [h1] at k2
   simp only at k2
   rw [ki] at h1
   rw [hm, <- k2, pX, jh]
   refine Wp.iA Γ15 bP (ev (ab cl h1)) ?_ ?_
   ·simp [hs, hg]; omega
   refine qq ?_
   exact ⟨_, rfl⟩
  | ok p =>
   obtain ⟨lo, j⟩ := p
   obtain ⟨o0, o1, o2, o3⟩ := iI h1 k0
   rw [h1] at k2
   simp only at k2
   rw [ki] at h1
   refine wR Γ15 (ab cl h1) ?_ ?_
   ·simp [hs, hg]; omega
   refine vR Γ15 cl ?_
   refine Wp.seq ?_
   refine wR Γ15 cl ?_ ?_
   ·simp; omega
   refine vR Γ15 cl ?_
   refine wC cl (fun hc => ?_) (fun hc => ?_)
   ·simp at hc
    rw [if_pos hc] at k2
    have w1 : IntKind.i64.wrap (j + 1) = j + 1 := aa (by omega) (by omega)
    refine vR Γ15 (ab cl w1) ?_
    refine vR Γ15 cl ?_
    cases h2 : dt s (j + 1) ki with
    | error l =>
     rw [h2] at k2
     simp only at k2
     rw [ki] at h2
     rw [hm, <- k2, pX, jh]
     refine Wp.iA Γ15 bP (ev (ab cl h2)) ?_ ?_
     ·simp [hs, hg]; omega
     refine qq ?_
     exact ⟨_, rfl⟩
    | ok p =>
     obtain ⟨hi, l⟩ := p
     obtain ⟨r0, r1, r2, r3⟩ := iI h2 (by omega)
     rw [h2] at k2
     simp only at k2
     rw [ki] at h2
     refine wR Γ15 (ab cl h2) ?_ ?_
     ·simp [hs, hg]; omega
     refine vR Γ15 cl ?_
     refine wC cl (fun hc => ?_) (fun hc => ?_)
     ·simp at hc
      rw [if_pos hc] at k2
      rw [hm, <- k2, pX, jh]
      refine Wp.nA Γ15 bP (ev cl) ?_ ?_
      ·exact oo
      refine qq ?_
      exact ⟨_, rfl⟩
     ·simp at hc
      rw [if_neg (by omega)] at k2
      refine wK ?_
      refine rX Γ15 cl ?_ ?_
      ·omega
      refine ⟨(n, l, a ||| j1 lo hi), ⟨by simp only; omega, by simp only; omega, k2⟩, by simp only; omega, ?_⟩
      exact wM (fun k => .key k) cl
   ·have hn' : ¬ (j < s.size /\ bt s j = 45) := fun h => by
     apply Bool.eq_false_iff.1 hc
     simp
     exact h
    rw [if_neg hn'] at k2
    refine wK ?_
    refine rX Γ15 cl ?_ ?_
    ·omega
    refine ⟨(n, j, a ||| j1 lo lo), ⟨by simp only; omega, by simp only; omega, k2⟩, by simp only; omega, ?_⟩
    exact wM (fun k => .key k) cl
def mq : dv Tryz.prog 269 where
 T := 375
 pre := fun W bs fs as_ => match fs, as_ with | [.val (.string s), .val (.int .i64 i)], [] => 0 <= i /\ s.size <= 140737488351232 /\ bc W (Out bs) | _, _ => False
 out := fun W fs as_ => match fs, as_ with | [.val (.string s), .val (.int .i64 i)], [] => A4 s (dR s i) | _, _ => .pan [] undef
 enters := Tryz.call269
 ok := by
  intro W w bs u fp us fs as_ hk ho hlt hmine hu hp
  split at hp
  ·rename_i s i
   match us, hu with
   | [], _ =>
    exact AY s i u fp w hp.1 hp.2.1 (hp.2.2.fD hk hmine) ho hlt
  ·exact hp.elim
theorem yF (W : World) (s : ByteArray) (i : Int) : mq.out W [.val (.string s), .val (.int .i64 i)] [] = A4 s (dR s i) := rfl
theorem yJ (W : World) (bs : List Nat) (s : ByteArray) (i : Int) : mq.pre W bs [.val (.string s), .val (.int .i64 i)] [] = (0 <= i /\ s.size <= 140737488351232 /\ bc W (Out bs)) := rfl
theorem Et : mq.T = 375 := rfl
noncomputable def Γ16 : Env Tryz.prog := ⟨fun | 270 => some FT.spec | 224 => some v7.spec | 271 => some xK.spec | 245 => some V2.spec | 269 => some mq.spec | _ => none, fun | _ => none, fun _ _ => none⟩
theorem Gt16c270 : Γ16.sp 270 = some FT.spec := rfl
theorem Gt16c224 : Γ16.sp 224 = some v7.spec := rfl
theorem Gt16c271 : Γ16.sp 271 = some xK.spec := rfl
theorem Gt16c245 : Γ16.sp 245 = some V2.spec := rfl
theorem Gt16c269 : Γ16.sp 269 = some mq.spec := rfl
def vB : ByteArray := ⟨#[40, 41, 91, 93, 123, 125, 124, 38, 45, 42, 43, 63, 46, 92, 47, 94]⟩
def Sl : Except Int (Int × Int) -> Except Int (CS × Int)
 | .error j => .error j
 | .ok (b, j) => .ok (j1 b b, j)
def df (s : ByteArray) (i : Int) : Except Int (CS × Int) :=
 if bt s i = 46 then .ok (~~~(DB ⟨#[10]⟩ 1), i + 1)
 else if bt s i = 91 then dR s (i + 1)
 else Sl (dt s i vB)
def gv := (aq cl yF yJ Et @oZ @jh Gt16c270 (fj Gt16c224 Gt16c271 Gt16c245 Gt16c269))
set_option maxHeartbeats 4000000 in
theorem OQ (s : ByteArray) (i : Int) (u : Value) (fp : List Nat) (w : World) (h0 : 0 <= i) (h1 : i < s.size) (hs : s.size <= 140737488351232) (hg : bc w (Out fp)) (ho : bz w u fp 375 (yq s i)) (hlt : ∀ b ∈ fp, b < w.heap.size) :
  Calls Tryz.prog 268 (#[u] ++ #[]) w fun e w' => fu w u fp 375 e w' (A4 s (df s i)) := by
 obtain ⟨b0, b1⟩ := dN s i
 have w1 : IntKind.i64.wrap (i + 1) = i + 1 := aa (by omega) (by omega)
 refine bL (nt := 42) #[] [.cell 2 309] (by show 2 <= 7; omega) ho hlt Tryz.func268 rfl rfl rfl ?_
 refine vR Γ16 gv ?_
 refine Wp.seq ?_
 refine TS Γ16 gv ?_
 refine vR Γ16 gv ?_
 refine Wp.block ?_
 refine vR Γ16 gv ?_
 refine wC gv (fun hc => ?_) (fun hc => ?_)
 ·simp at hc
  have he : df s i = .ok (~~~(DB ⟨#[10]⟩ 1), i + 1) := by rw [df, if_pos hc]
  rw [he, oZ]
  refine vR Γ16 (ab gv w1) ?_
  refine wR Γ16 gv ?_ ?_
  ·decide
  refine wZ gv ?_
  exact ⟨_, _, rfl, rfl, _, _, rfl, rfl, by decide⟩
 ·simp at hc
  have hc0 := hc
  refine vR Γ16 gv ?_
  refine wC gv (fun hc => ?_) (fun hc => ?_)
  ·simp at hc
   have he : df s i = dR s (i + 1) := by rw [df, if_neg hc0, if_pos hc]
   rw [he]
   refine vR Γ16 (ab gv w1) ?_
   cases h2 : dR s (i + 1) with
   | error j =>
    refine Wp.iA Γ16 bP (ev (ab gv h2)) ?_ ?_
    ·simp [hs, hg]; omega
    refine qq ?_
    exact ⟨_, rfl⟩
   | ok p =>
    obtain ⟨a, j⟩ := p
    refine wR Γ16 (ab gv h2) ?_ ?_
    ·simp [hs, hg]; omega
    refine wZ gv ?_
    exact ⟨_, _, rfl, rfl, _, _, rfl, rfl, by decide⟩
  ·simp at hc
   have he : df s i = Sl (dt s i vB) := by rw [df, if_neg hc0, if_neg hc]
   rw [he]
   refine wK ?_
   cases h2 : dt s i vB with
   | error j =>
    rw [vB] at h2
    refine Wp.iA Γ16 bP (ev (ab gv h2)) ?_ ?_
    ·simp [hs, hg]; omega
    refine qq ?_
    exact ⟨_, rfl⟩
   | ok p =>
    obtain ⟨b, j⟩ := p
    obtain ⟨o0, o1, o2, o3⟩ := iI h2 h0
    rw [vB] at h2
    refine wR Γ16 (ab gv h2) ?_ ?_
    ·simp [hs, hg]; omega
    refine wR Γ16 gv ?_ ?_
    ·omega
    refine wZ gv ?_
    exact ⟨_, _, rfl, rfl, _, _, rfl, rfl, by decide⟩
def B4 : dv Tryz.prog 268 where
 T := 375
 pre := fun W bs fs as_ => match fs, as_ with | [.val (.string s), .val (.int .i64 i)], [] => 0 <= i /\ i < s.size /\ s.size <= 140737488351232 /\ bc W (Out bs) | _, _ => False
 out := fun W fs as_ => match fs, as_ with | [.val (.string s), .val (.int .i64 i)], [] => A4 s (df s i) | _, _ => .pan [] undef
 enters := Tryz.call268
 ok := by
  intro W w bs u fp us fs as_ hk ho hlt hmine hu hp
  split at hp
  ·rename_i s i
   match us, hu with
   | [], _ =>
    exact OQ s i u fp w hp.1 hp.2.1 hp.2.2.1 (hp.2.2.2.fD hk hmine) ho hlt
  ·exact hp.elim
theorem Jc (W : World) (s : ByteArray) (i : Int) : B4.out W [.val (.string s), .val (.int .i64 i)] [] = A4 s (df s i) := rfl
theorem LZ (W : World) (bs : List Nat) (s : ByteArray) (i : Int) : B4.pre W bs [.val (.string s), .val (.int .i64 i)] [] = (0 <= i /\ i < s.size /\ s.size <= 140737488351232 /\ bc W (Out bs)) := rfl
theorem S2 : B4.T = 375 := rfl
end
section
open Go.RowKit Go.LE
set_option maxRecDepth 10000
noncomputable def Γ20 : Env Tryz.prog := ⟨fun | 268 => some B4.spec | _ => none, fun | _ => none, fun _ _ => none⟩
theorem Gt20c268 : Γ20.sp 268 = some B4.spec := rfl
def sF (c i : Int) (t : ByteArray) : Value := .agg #[.int .i64 c, .int .i64 i, .string t]
def eB := (aq @List.replicate_succ.{0} @List.replicate_zero.{0} @aw @ah jS jP Mv (aq Mq Mr jn cQ cV cX cS (aq da c9 c8 db eW eV eX (aq eZ e8 e9 PY Qc Nt PC (aq vY vC vZ vD vX vH wG (aq vQ vW vS rv ri q7 rD (aq ry rI qW qY HX I2 It (aq Hj Iq Hu Hw Hl HF Ik (aq Hq @aO @au @aB @aC @σR.eq_1 @σL.eq_1 (aq @mo.eq_1 @mo.eq_2 @tW.eq_1 @tW.eq_2 @yq.eq_1 @Jc @LZ (aq @S2 @oZ @jh @gN.eq_1 @de @jw @kU (aq @kR @iZ @nh @dJ @zY @gJ @List.drop_nil.{0} Gt20c268))))))))))))
noncomputable def N7 : CatchC Tryz.prog 267 where
 Ts := [309, 3, 39]
 enters := Tryz.call267
 pre := fun vss pv => (∃ a b c d e f g h, vss = [[a, b, c, d], [e], [f, g, h]]) /\ ∃ c i t, pv = .iface 39 (sF c i t)
 out := fun vss pv => [[.int .u64 0, .int .u64 0, .int .u64 0, .int .u64 0], [.int .i64 0], match pv with | .iface _ (.agg x) => x.toList | _ => []]
 bh := fun vss pv => [bY 0, .int .i64 0, match pv with | .iface _ x => x | _ => undef]
 vals_ok := by
  rintro vss pv ⟨_, c, i, t, rfl⟩
  refine ⟨.inl ⟨by simp only [dM, Op.operands, Value.cells, σ0, σB, Nat.reduceEqDiff, Nat.reduceAdd, Nat.reduceMul, Nat.reduceLT, Nat.reduceLeDiff, Nat.reduceBEq, ae, Int.reduceToNat, Int.reduceLT, Int.reduceLE, Nat.reduceDiv, Nat.reduceMod, Nat.reduceSub, Int.reducePow, Nat.reducePow, σP, σB3, eB] <;> rfl, by simp only [dM, Op.operands, Value.cells, σ0, σB, Nat.reduceEqDiff, Nat.reduceAdd, Nat.reduceMul, Nat.reduceLT, Nat.reduceLeDiff, Nat.reduceBEq, ae, Int.reduceToNat, Int.reduceLT, Int.reduceLE, Nat.reduceDiv, Nat.reduceMod, Nat.reduceSub, Int.reducePow, Nat.reducePow, σP, σB3, eB], ?_⟩, .inr ⟨by simp only [dM, Op.operands, Value.cells, σ0, σB, Nat.reduceEqDiff, Nat.reduceAdd, Nat.reduceMul, Nat.reduceLT, Nat.reduceLeDiff, Nat.reduceBEq, ae, Int.reduceToNat, Int.reduceLT, Int.reduceLE, Nat.reduceDiv, Nat.reduceMod, Nat.reduceSub, Int.reducePow, Nat.reducePow, σP, σB3, eB], rfl⟩, .inl ⟨by simp only [dM, Op.operands, Value.cells, σ0, σB, Nat.reduceEqDiff, Nat.reduceAdd, Nat.reduceMul, Nat.reduceLT, Nat.reduceLeDiff, Nat.reduceBEq, ae, Int.reduceToNat, Int.reduceLT, Int.reduceLE, Nat.reduceDiv, Nat.reduceMod, Nat.reduceSub, Int.reducePow, Nat.reducePow, σP, σB3, eB] <;> rfl, by simp only [dM, Op.operands, Value.cells, σ0, σB, Nat.reduceEqDiff, Nat.reduceAdd, Nat.reduceMul, Nat.reduceLT, Nat.reduceLeDiff, Nat.reduceBEq, ae, Int.reduceToNat, Int.reduceLT, Int.reduceLE, Nat.reduceDiv, Nat.reduceMod, Nat.reduceSub, Int.reducePow, Nat.reducePow, σP, σB3, eB], rfl⟩, trivial⟩
  rfl
 quiet := fun w us hl => by
  match us, hl with
  | [u0, u1, u2], _ =>
   refine pH (nt := 10) w _ Tryz.func267 rfl rfl (by omega) (by omega) rfl ?_
   refine vR Γ20 eB ?_
   refine wC eB (fun hc => ?_) (fun hc => ?_)
   ·simp at hc
   ·refine wK ?_
    simp only [dM, Op.operands, Value.cells, σ0, σB, Nat.reduceEqDiff, Nat.reduceAdd, Nat.reduceMul, Nat.reduceLT, Nat.reduceLeDiff, Nat.reduceBEq, ae, Int.reduceToNat, Int.reduceLT, Int.reduceLE, Nat.reduceDiv, Nat.reduceMod, Nat.reduceSub, Int.reducePow, Nat.reducePow, σP, σB3, mP, gL, kF, jo, eB]
    done
 caught := fun w us bl vss pv hl hn hlt hp => by
  obtain ⟨⟨a, b, c, d, e, f, g, h, rfl⟩, k, i, t, rfl⟩ := hp
  have h3 := hl.len.1
  refine nP (nt := 10) Tryz.func267 rfl rfl (by omega) (by omega) ?_ hl hn hlt ?_ ?_
  ·rw [h3]; rfl
  ·rw [h3]; decide
  intro us _
  refine vR Γ20 eB ?_
  refine wC eB (fun hc => ?_) (fun hc => ?_)
  ·skip
   refine Yu Γ20 (ab eB @sF.eq_1) ?_
   refine wS eB ?_
   exact ⟨rfl, rfl, rfl, trivial⟩
  ·cases hc
def nL (c : Int) (a : CS) (j k : Int) : Value := .tuple #[bY a, .int .i64 j, sF c k ⟨#[]⟩]
def oY (s : ByteArray) (i : Int) : Value :=
 if i < 0 \/ s.size <= i then nL 2 0 0 0
 else match df s i with
  | .error j => nL 10 0 0 j
  | .ok (a, j) => nL 0 a j 0
set_option maxHeartbeats 4000000 in
theorem OU (s : ByteArray) (i : Int) (w : World) (hs : s.size <= 140737488351232) (hg : bc w (Out [])) :
  Calls Tryz.prog 263 #[.string s, .int .i64 i] w fun e w' => e = .returned (oY s i) /\ ai w [] w' := by
 refine rn (nt := 31) Tryz.func263 rfl rfl ?_
 refine jO.seq' (rs := [.cell 4 309, .cell 5 3, .cell 6 39]) rfl ?_
 refine vr Γ20 eB ?_
 refine jO.seq' (rs := [.cell 4 309, .cell 5 3, .cell 6 39]) rfl ?_
 refine vR Γ20 eB ?_
 refine wC eB (fun hc => ?_) (fun hc => ?_)
 ·have hb : i < 0 \/ s.size <= i := by simpa using hc
  have he : oY s i = nL 2 0 0 0 := by rw [oY, if_pos hb]
  rw [he]
  refine vR Γ20 eB ?_
  refine wZ eB ?_
  exact fun E => rfl
 ·have hb : ¬ (i < 0 \/ s.size <= i) := fun h => by
   apply Bool.eq_false_iff.1 hc
   simpa using h
  have he : oY s i = match df s i with
    | .error j => nL 10 0 0 j
    | .ok (a, j) => nL 0 a j 0 := by rw [oY, if_neg hb]
  refine wK ?_
  refine jO.Oy (rs := [.cell 4 309, .cell 5 3, .cell 6 39]) rfl N7 [4, 5, 6] [0, 8, 16] rfl (by decide) rfl (by decide) rfl rfl ?_ ?_ fun us hus => ?_
  ·rintro p hp
   simp only [List.zip_cons_cons, List.zip_nil_right, List.mem_cons, List.not_mem_nil, or_false] at hp
   rcases hp with rfl | rfl | rfl <;> rfl
  ·rintro k hk
   simp only [List.mem_cons, List.not_mem_nil, or_false] at hk
   rcases hk with rfl | rfl | rfl <;> exact ⟨_, _, rfl⟩
  have hi : 0 <= i /\ i < s.size := by omega
  refine vR Γ20 eB ?_
  cases h2 : df s i with
  | error j =>
   rw [he, h2]
   refine Wp.iA Γ20 bP (ev (ab eB h2)) ?_ ?_
   ·simp [hs, hg]; omega
   refine qq ?_
   refine wS eB ?_
   refine ⟨.iface 39 (sF 10 j ⟨#[]⟩), [[.int .u64 0, .int .u64 0, .int .u64 0, .int .u64 0], [.int .i64 0], [.int .i64 0, .int .i64 0, .string ⟨#[]⟩]], rfl, ⟨?_, ?_, ?_, ?_, ?_, ?_, trivial⟩, ⟨⟨_, _, _, _, _, _, _, _, rfl⟩, 10, j, ⟨#[]⟩, rfl⟩, fun E => rfl⟩
   all_goals rfl
  | ok p =>
   obtain ⟨a, j⟩ := p
   rw [he, h2]
   refine wR Γ20 (ab eB h2) ?_ ?_
   ·simp [hs, hg]; omega
   refine TS Γ20 eB ?_
   refine wZ eB ?_
   exact fun E => rfl
end
section
open Go.RowKit Go.LE
set_option maxRecDepth 10000
def aF : Rx -> Value
 | .eps => .iface 283 (.agg #[])
 | .cls S => .iface 311 (bY S)
 | .cat a b => .iface 281 (.agg #[aF a, aF b])
 | .alt a b => .iface 284 (.agg #[aF a, aF b])
 | .star a => .iface 279 (.agg #[aF a])
 | .and a b => .iface 285 (.agg #[aF a, aF b])
 | .minus a b => .iface 286 (.agg #[aF a, aF b])
theorem bM (t : Rx) : (aF t).oneCell' = true := by cases t <;> rfl
theorem cj : ∀ a b : Rx, aF a = aF b -> a = b
 | .eps, b, h => by cases b <;> simp_all [aF]
 | .cls S, b, h => by
  cases b <;> simp [aF] at h
  rw [cg _ _ h]
 | .cat x y, b, h => by
  cases b <;> simp [aF] at h
  rw [cj x _ h.1, cj y _ h.2]
 | .alt x y, b, h => by
  cases b <;> simp [aF] at h
  rw [cj x _ h.1, cj y _ h.2]
 | .star x, b, h => by
  cases b <;> simp [aF] at h
  rw [cj x _ h]
 | .and x y, b, h => by
  cases b <;> simp [aF] at h
  rw [cj x _ h.1, cj y _ h.2]
 | .minus x y, b, h => by
  cases b <;> simp [aF] at h
  rw [cj x _ h.1, cj y _ h.2]
inductive Jn where
 | cat | alt | and | minus
def Jn.f : Jn -> FuncId
 | .cat => 252
 | .alt => 181
 | .and => 217
 | .minus => 218
def Jn.mk : Jn -> Rx -> Rx -> Rx
 | .cat => .cat
 | .alt => .alt
 | .and => .and
 | .minus => .minus
def Jn.T : Jn -> TypeId
 | .cat => 281
 | .alt => 284
 | .and => 285
 | .minus => 286
def Jn.v (g : Jn) : Value := .func (.func g.f) #[] #[]
def lj (b : Nat) : Value := .pointer (some ⟨b, 0, none⟩)
inductive bu (W : World) (S : Nat -> Prop) : Value -> Rx -> Prop where
 | leaf (b : Nat) (t : Rx) : XC W S b 0 (aF t) -> bu W S (.func (.func 259) #[] #[lj b]) t
 | join (g : Jn) (b5 b3 b4 : Nat) (fa fb : Value) (ta tb : Rx) : XC W S b5 0 g.v -> XC W S b3 1 fa -> XC W S b4 1 fb -> bu W S fa ta -> bu W S fb tb ->
   bu W S (.func (.func 220) #[] #[lj b5, lj b3, lj b4]) (g.mk ta tb)
 | star (b : Nat) (fa : Value) (ta : Rx) : XC W S b 1 fa -> bu W S fa ta -> bu W S (.func (.func 264) #[] #[lj b]) (.star ta)
theorem bu.mono {W W' : World} {S S' : Nat -> Prop} {v : Value} {t : Rx} (h : bu W S v t) (hs : cr W S W' S') : bu W' S' v t := by
 induction h with
 | leaf b t h => exact .leaf b t (h.mono hs)
 | join g b5 b3 b4 fa fb ta tb h1 h2 h3 _ _ ih1 ih2 => exact .join g b5 b3 b4 fa fb ta tb (h1.mono hs) (h2.mono hs) (h3.mono hs) ih1 ih2
 | star b fa ta h _ ih => exact .star b fa ta (h.mono hs) ih
theorem bu.one {W : World} {S : Nat -> Prop} {v : Value} {t : Rx} (h : bu W S v t) : v.oneCell' = true := by cases h <;> rfl
theorem Br {W : World} {S S' : Nat -> Prop} {b o : Nat} {u v : Value} (h : XC W S b o u) (h' : XC W S' b o v) : u = v := Option.some.inj (h.2.symm.trans h'.2)
theorem bu.fn {W : World} {S S' : Nat -> Prop} {v : Value} {t t' : Rx} (h : bu W S v t) (h' : bu W S' v t') : t = t' := by
 induction h generalizing t' with
 | leaf b t h =>
  cases h' with
  | leaf _ t' h2 => exact cj _ _ (Br h h2)
 | join g b5 b3 b4 fa fb ta tb h1 h2 h3 _ _ ih1 ih2 =>
  cases h' with
  | join g' _ _ _ fa' fb' ta' tb' k1 k2 k3 k4 k5 =>
   obtain rfl := Br h2 k2
   obtain rfl := Br h3 k3
   have hg := Br h1 k1
   rw [ih1 k4, ih2 k5]
   have : g = g' := by cases g <;> cases g' <;> simp [Jn.v, Jn.f] at hg <;> rfl
   rw [this]
 | star b fa ta h _ ih =>
  cases h' with
  | star _ fa' ta' k1 k2 =>
   obtain rfl := Br h k1
   rw [ih k2]
def dc (r : RL) : FK := ⟨fun cs W S => ∃ fv, cs = [.int .i64 (r.1 : Nat), fv] /\ bu W S fv r.2, fun hs ⟨fv, h1, h2⟩ => ⟨fv, h1, h2.mono hs⟩⟩
def gk (r : RL) (fv : Value) : Value := .agg #[.int .i64 (r.1 : Nat), fv]
theorem pf (r : RL) (fv : Value) (h : fv.oneCell' = true) : Sh.two.val [.int .i64 (r.1 : Nat), fv] = gk r fv := by
 show Value.agg #[hv (.int .i64 (r.1 : Nat)), hv fv] = _
 rw [ix h]; rfl
theorem jH {W : World} {S : Nat -> Prop} {r : RL} {u : Value} (h : ∃ cs, u = Sh.two.val cs /\ (dc r).Φ cs W S) : ∃ fv, u = gk r fv /\ bu W S fv r.2 := by
 obtain ⟨cs, rfl, fv, rfl, h⟩ := h
 exact ⟨fv, pf r fv h.one, h⟩
theorem bT {W : World} {S : Nat -> Prop} {r : RL} {fv : Value} (h : bu W S fv r.2) : ∃ cs, gk r fv = Sh.two.val cs /\ (dc r).Φ cs W S :=
 ⟨_, (pf r fv h.one).symm, fv, rfl, h⟩
theorem kq {r : RL} {W1 : World} {bs1 : List Nat} {w : World} {S : Nat -> Prop} {fv : Value} (hg : bu W1 (eY (cF w S) bs1) fv r.2) : N2 w S W1 bs1 (.agg [.v (.int .i64 (r.1 : Nat)), .v fv]) (.fact Sh.two (dc r)) :=
 ⟨[.int .i64 (r.1 : Nat), fv], fun E => (pf r fv hg.one).symm, fv, rfl, hg⟩
theorem ca {W : World} {S : Nat -> Prop} {r : RL} {cs : List Value} (h : (dc r).Φ cs W S) : ∃ fv, cs = [.int .i64 (r.1 : Nat), fv] /\ bu W S fv r.2 /\ hv fv = fv := by
 obtain ⟨fv, h1, h2⟩ := h
 exact ⟨fv, h1, h2, ix h2.one⟩
theorem gD (t : Rx) : partsOf (.v (aF t)) = [.v (aF t)] := by cases t <;> rfl
def BS := (aq @List.replicate_succ.{0} @List.replicate_zero.{0} @aw @ah jS jP jn (aq cQ cV cX cS rz rh rm (aq rj IC I0 Ie oU pD oR (aq oE px pI PZ Ph OW QY (aq Ps Od ML P3 QT N6 Ni (aq NF PW QS M6 OZ MO G1 (aq G2 H7 Ht H6 Hr Hs QQ (aq Qo MX Om QG Qm NY NT (aq QJ Pt M5 QI Pc Pu PT (aq NV MJ NI Of OH NA PQ (aq P5 Mw MH Qz Q4 yj xO (aq w6 @aO @au @aB @aC @gD (fun t => ix (bM t)) @bM))))))))))))
set_option maxHeartbeats 1000000 in
theorem NS (t : Rx) (w : World) (S : Nat -> Prop) : Calls Tryz.prog 249 #[aF t] w fun e w' => l4 w S e w' (.fact Sh.two (dc (bK t))) := by
 refine eD (nt := 5) S [.cell 2 254] Tryz.func249 rfl rfl rfl ?_
 refine vR Γ0 BS ?_
 refine vR Γ0 BS ?_
 refine Wp.lI 0 (ev BS) (fun E => by simp only [an, den]; exact rfl) fun W1 bs1 b hx hb hn hc => ?_
 refine wZ BS ?_
 exact ⟨[_, _], fun E => rfl, _, rfl, .leaf b t ⟨⟨cF.up w S b hn, hb⟩, cell_of hc 0 (by simp)⟩⟩
def lO (t : Rx) : j8 Tryz.prog 249 where
 kinds := [none]
 pre := fun as_ _ _ => as_ = [.val (aF t)]
 premono := fun _ _ _ _ _ _ h => h
 out := fun _ => .fact Sh.two (dc (bK t))
 enters := Tryz.call249
 ok := by
  intro w S us as_ hu hp
  subst hp
  match us, hu with
  | [u], hu =>
   obtain ⟨rfl, _⟩ := hu
   exact NS t w S
set_option maxHeartbeats 1000000 in
theorem EY (n : Int) (w : World) : Calls Tryz.prog 219 #[.int .i64 n] w fun e w' => e = .returned (.int .i64 (min n 2001)) /\ ai w [] w' := by
 refine al (nt := 5) [.tmp 2] Tryz.func219 rfl rfl rfl ?_
 refine vR Γ0 BS ?_
 refine vR Γ0 BS ?_
 refine wZ BS ?_
 exact fun E => by simp only [den]; congr 1; split <;> omega
def su : a7 Tryz.prog 219 where
 pre := fun W bs => fun | [.val (.int .i64 n)] => True | _ => False
 res := fun W => fun | [.val (.int .i64 n)] => .int .i64 (min n 2001) | _ => undef
 enters := Tryz.call219
 ok := by
  intro W w bs us as_ hk hu hp
  split at hp
  ·rename_i n
   match us, hu with
   | [u0], hu =>
    obtain ⟨rfl, _⟩ := hu
    exact EY n w
  ·exact hp.elim
theorem q8 (W : World) (n : Int) : su.res W [.val (.int .i64 n)] = .int .i64 (min n 2001) := rfl
theorem rJ (W : World) (bs : List Nat) (n : Int) : su.pre W bs [.val (.int .i64 n)] = (True) := rfl
noncomputable def Γ40 : Env Tryz.prog := ⟨fun | 219 => some su.spec | _ => none, fun | _ => none, fun _ _ => none⟩
theorem Gt40c219 : Γ40.sp 219 = some su.spec := rfl
theorem Ib {a b : Nat} (ha : a <= 2001) (hb : b <= 2001) : IntKind.i64.wrap (IntKind.i64.wrap (1 + (a : Int)) + (b : Int)) = ((1 + a + b : Nat) : Int) := by
 rw [aa (n := 1 + (a : Int)) (by omega) (by omega), aa (by omega) (by omega)]; omega
theorem iU (n : Nat) : min ((n : Nat) : Int) 2001 = ((b7 n : Nat) : Int) := by unfold b7; omega
def sT := (fj BS @q8 @rJ @Gt40c219)
set_option maxHeartbeats 2000000 in
theorem OC (g : Jn) (a b : RL) (fa fb : Value) (ha : a.1 <= 2001) (hb : b.1 <= 2001) (w : World) (S : Nat -> Prop) (h1 : bu w S fa a.2) (h2 : bu w S fb b.2) :
  Calls Tryz.prog 180 #[gk a fa, gk b fb, g.v] w fun e w' => l4 w S e w' (.fact Sh.two (dc (aQ g.mk a b))) := by
 have ga : partsOf (.v (gk a fa)) = [.v (.int .i64 (a.1 : Nat)), .v fa] := rfl
 have gb : partsOf (.v (gk b fb)) = [.v (.int .i64 (b.1 : Nat)), .v fb] := rfl
 have gg : partsOf (.v g.v) = [.v g.v] := rfl
 have w1 := Ib ha hb
 refine eD (nt := 16) S [.cell 6 254] Tryz.func180 rfl rfl rfl ?_
 refine vR Γ40 (fj sT ga gb gg) ?_
 refine vR Γ40 (nC sT ga gb gg w1 @iU) ?_
 refine Wp.lI 0 (ev (fj sT ga gb gg)) (fun E => by simp only [an, den, ga, gb, gg]; exact rfl) fun W1 bs1 b3 hx1 hb3 hn3 hc3 => ?_
 refine Wp.lI 8 (ev (fj sT ga gb gg)) (fun E => by simp only [an, den, ga, gb, gg]; exact rfl) fun W2 bs2 b4 hx2 hb4 hn4 hc4 => ?_
 refine Wp.lI 16 (ev (fj sT ga gb gg)) (fun E => by simp only [an, den, ga, gb, gg]; exact rfl) fun W3 bs3 b5 hx3 hb5 hn5 hc5 => ?_
 refine wZ (nC sT ga gb gg w1 @iU) ?_
 have hx := (hx1.trans hx2).trans hx3
 have u0 := cF.up w S
 have u1 := u0.ext hx1
 have u2 := u1.ext hx2
 have s0 : cr w S W3 (eY (cF w S) bs3) := (cF.gT w S).trans (hx.At) (Nat.le_refl _)
 refine ⟨[_, _], fun E => rfl, _, rfl, .join g b5 b3 b4 fa fb a.2 b.2 ⟨⟨u2 b5 hn5, hb5⟩, cell_of hc5 0 (by simp)⟩ ?_ ?_ (h1.mono s0) (h2.mono s0)⟩
 ·exact XC.mono (XC.mono ⟨⟨u0 b3 hn3, hb3⟩, cell_of hc3 1 (by simp)⟩ hx2.At) hx3.At
 ·exact XC.mono ⟨⟨u1 b4 hn4, hb4⟩, cell_of hc4 1 (by simp)⟩ hx3.At
def gj (g : Jn) (a b : RL) : j8 Tryz.prog 180 where
 kinds := [some (Sh.two, dc a), some (Sh.two, dc b), none]
 pre := fun as_ _ _ => (a.1 <= 2001 /\ b.1 <= 2001) /\ ∃ x y, as_ = [x, y, .val g.v]
 premono := fun _ _ _ _ _ _ h => h
 out := fun _ => .fact Sh.two (dc (aQ g.mk a b))
 enters := Tryz.call180
 ok := by
  intro w S us as_ hu hp
  obtain ⟨⟨ha, hb⟩, x, y, rfl⟩ := hp
  match us, hu with
  | [u1, u2, u3], hu =>
   obtain ⟨h1, h2, rfl, _⟩ := hu
   obtain ⟨fa, rfl, h1'⟩ := jH h1
   obtain ⟨fb, rfl, h2'⟩ := jH h2
   exact OC g a b fa fb ha hb w S h1' h2'
set_option maxHeartbeats 2000000 in
theorem Nv (a : RL) (fa : Value) (ha : a.1 <= 2001) (w : World) (S : Nat -> Prop) (h1 : bu w S fa a.2) :
  Calls Tryz.prog 260 #[gk a fa] w fun e w' => l4 w S e w' (.fact Sh.two (dc (eo a))) := by
 have ga : partsOf (.v (gk a fa)) = [.v (.int .i64 (a.1 : Nat)), .v fa] := rfl
 have w1 : IntKind.i64.wrap (1 + (a.1 : Int)) = ((1 + a.1 : Nat) : Int) := by rw [aa (by omega) (by omega)]; omega
 refine eD (nt := 9) S [.cell 2 254] Tryz.func260 rfl rfl rfl ?_
 refine vR Γ40 (ab sT ga) ?_
 refine vR Γ40 (fj sT ga w1 @iU) ?_
 refine Wp.lI 0 (ev (ab sT ga)) (fun E => by simp only [an, den, ga]; exact rfl) fun W1 bs1 b3 hx1 hb3 hn3 hc3 => ?_
 refine wZ (fj sT ga w1 @iU) ?_
 have s0 : cr w S W1 (eY (cF w S) bs1) := (cF.gT w S).trans (hx1.At) (Nat.le_refl _)
 exact ⟨[_, _], fun E => rfl, _, rfl, .star b3 fa a.2 ⟨⟨cF.up w S b3 hn3, hb3⟩, cell_of hc3 1 (by simp)⟩ (h1.mono s0)⟩
def s9 (a : RL) : j8 Tryz.prog 260 where
 kinds := [some (Sh.two, dc a)]
 pre := fun as_ _ _ => a.1 <= 2001 /\ ∃ x, as_ = [x]
 premono := fun _ _ _ _ _ _ h => h
 out := fun _ => .fact Sh.two (dc (eo a))
 enters := Tryz.call260
 ok := by
  intro w S us as_ hu hp
  obtain ⟨hp, x, rfl⟩ := hp
  match us, hu with
  | [u1], hu =>
   obtain ⟨h1, _⟩ := hu
   obtain ⟨fa, rfl, h1'⟩ := jH h1
   exact Nv a fa hp w S h1'
noncomputable def Γ41 (G : Nat -> Prop) (a : RL) : Env Tryz.prog := ⟨fun | 249 => some ((lO .eps).spec G) | 180 => some ((gj .alt a (bK .eps)).spec G) | _ => none, fun _ => none, fun _ _ => none⟩
theorem Gt41c249 (G : Nat -> Prop) (a : RL) : (Γ41 G a).sp 249 = some ((lO .eps).spec G) := rfl
theorem Gt41c180 (G : Nat -> Prop) (a : RL) : (Γ41 G a).sp 180 = some ((gj .alt a (bK .eps)).spec G) := rfl
def T6 := (Ci sT @fe @lO.eq_1 @gj.eq_1 @s9.eq_1 @Gt41c249 @Gt41c180)
set_option maxHeartbeats 2000000 in
theorem JA (a : RL) (fa : Value) (ha : a.1 <= 2001) (w : World) (S : Nat -> Prop) (h1 : bu w S fa a.2) :
  Calls Tryz.prog 261 #[gk a fa] w fun e w' => l4 w S e w' (.fact Sh.two (dc (bw a))) := by
 have ga : partsOf (.v (gk a fa)) = [.v (.int .i64 (a.1 : Nat)), .v fa] := rfl
 refine eD (nt := 8) S [.cell 2 254] Tryz.func261 rfl rfl rfl ?_
 refine vR Γ40 (ab T6 ga) ?_
 refine kY (Γ41 (cF w S) a) (ab T6 ga) ?_ ?_
 ·have u0 := cF.up w S
  exact ⟨⟨rfl, u0⟩, ⟨bT (h1.mono (cF.gT w S)), ⟨ha, by decide⟩, _, _, rfl⟩, u0⟩
 refine Wp.gF 48 (ev (ab T6 ga)) (cr.refl _ _) fun W1 bs1 cs hx1 hΦ => ?_
 obtain ⟨fv, rfl, hg, hv1⟩ := ca hΦ
 refine wZ (dk T6 ga hv1) ?_
 exact kq hg
def qd (a : RL) : j8 Tryz.prog 261 where
 kinds := [some (Sh.two, dc a)]
 pre := fun as_ _ _ => a.1 <= 2001 /\ ∃ x, as_ = [x]
 premono := fun _ _ _ _ _ _ h => h
 out := fun _ => .fact Sh.two (dc (bw a))
 enters := Tryz.call261
 ok := by
  intro w S us as_ hu hp
  obtain ⟨hp, x, rfl⟩ := hp
  match us, hu with
  | [u1], hu =>
   obtain ⟨h1, _⟩ := hu
   obtain ⟨fa, rfl, h1'⟩ := jH h1
   exact JA a fa hp w S h1'
theorem oa (f : RL -> RL) : ∀ (n : Nat) (x : RL), bq f (n + 1) x = f (bq f n x)
 | 0, x => rfl
 | n + 1, x => by rw [bq, oa f n, <- bq]
theorem ez (mk : Rx -> Rx -> Rx) (a b : RL) : (aQ mk a b).1 <= 2001 := iS _
theorem mI (f : RL -> RL) (hf : ∀ x, (f x).1 <= 2001) : ∀ (n : Nat) (x : RL), x.1 <= 2001 -> (bq f n x).1 <= 2001
 | 0, x, h => h
 | n + 1, x, h => mI f hf n (f x) (hf x)
end
section
open Go.RowKit Go.LE
set_option maxRecDepth 10000
noncomputable def Γ42 (G : Nat -> Prop) (x y a : RL) : Env Tryz.prog := ⟨fun | 249 => some ((lO .eps).spec G) | 180 => some ((gj .cat x y).spec G) | 260 => some ((s9 a).spec G) | 261 => some ((qd a).spec G) | _ => none, fun _ => none, fun _ _ => none⟩
theorem Gt42c249 (G : Nat -> Prop) (x y a : RL) : (Γ42 G x y a).sp 249 = some ((lO .eps).spec G) := rfl
theorem Gt42c180 (G : Nat -> Prop) (x y a : RL) : (Γ42 G x y a).sp 180 = some ((gj .cat x y).spec G) := rfl
theorem Gt42c260 (G : Nat -> Prop) (x y a : RL) : (Γ42 G x y a).sp 260 = some ((s9 a).spec G) := rfl
theorem Gt42c261 (G : Nat -> Prop) (x y a : RL) : (Γ42 G x y a).sp 261 = some ((qd a).spec G) := rfl
theorem mi (a : RL) : (eo a).1 <= 2001 := iS _
theorem kP (a : RL) : (bw a).1 <= 2001 := iS _
structure TI where
 W : World
 bs : List Nat
 fo : Value
 j : Nat
def bZ := (aq @List.replicate_succ.{0} @List.replicate_zero.{0} @aw @ah jS jP jn (aq cQ cV cX cS da c9 c8 (aq db rz rh rm rj oU pD (aq oR oE px pI G1 G2 H7 (aq Ht H6 Hr Hs yj xO w6 (aq @aO @au @aB @aC @fe @lO.eq_1 @gj.eq_1 (nC @s9.eq_1 @qd.eq_1 @Gt42c249 @Gt42c180 @Gt42c260 @Gt42c261)))))))
set_option maxHeartbeats 1000000 in
theorem J2 (a : RL) (m n : Int) (fa : Value) (ha : a.1 <= 2001) (hm0 : 0 <= m) (hm1 : m <= 255) (hn0 : -1 <= n) (hn1 : n <= 255) (w : World) (S : Nat -> Prop) (h1 : bu w S fa a.2) :
  Calls Tryz.prog 266 #[gk a fa, .int .i64 m, .int .i64 n] w fun e w' => l4 w S e w' (.fact Sh.two (dc (cJ a m n))) := by
 have ga : partsOf (.v (gk a fa)) = [.v (.int .i64 (a.1 : Nat)), .v fa] := rfl
 have u0 := cF.up w S
 have g0 := h1.mono (cF.gT w S)
 refine eD (nt := 55) S [.cell 6 254] Tryz.func266 rfl rfl rfl ?_
 refine vR Γ0 (ab bZ ga) ?_
 refine Wp.seq ?_
 refine vR Γ0 bZ ?_
 refine wC bZ (fun hc => ?_) (fun hc => ?_)
 ·have hc' : m = 0 /\ n < 0 := by simpa using hc
  have hR : cJ a m n = eo a := by rw [cJ, if_pos hc']
  rw [hR]
  refine wR (Γ42 (cF w S) a a a) (ab bZ ga) ?_ ?_
  ·exact ⟨⟨bT g0, ha, _, rfl⟩, u0⟩
  refine Wp.gF 72 (ev (ab bZ ga)) (cr.refl _ _) fun W1 bs1 cs hx1 hΦ => ?_
  obtain ⟨fv, rfl, hg, hv1⟩ := ca hΦ
  refine wZ (dk bZ ga hv1) ?_
  exact kq hg
 ·have hc1 : ¬ (m = 0 /\ n < 0) := by simpa using hc
  refine wK ?_
  refine Wp.seq ?_
  refine vR Γ0 bZ ?_
  refine wC bZ (fun hc => ?_) (fun hc => ?_)
  ·have hc' : m = 0 /\ n = 0 := by simpa using hc
   have hR : cJ a m n = bK .eps := by rw [cJ, if_neg hc1, if_pos hc']
   rw [hR]
   refine wR (Γ42 (cF w S) a a a) (ab bZ ga) ?_ ?_
   ·exact ⟨rfl, u0⟩
   refine Wp.gF 128 (ev (ab bZ ga)) (cr.refl _ _) fun W1 bs1 cs hx1 hΦ => ?_
   obtain ⟨fv, rfl, hg, hv1⟩ := ca hΦ
   refine wZ (dk bZ ga hv1) ?_
   exact kq hg
  ·have hc2 : ¬ (m = 0 /\ n = 0) := by simpa using hc
   refine wK ?_
   refine wR Γ0 (ab bZ ga) ?_ ?_
   ·exact h1.one
   refine vR Γ0 bZ ?_
   generalize hr0 : (if m = 0 then bw a else a) = r0
   have hr0' : r0.1 <= 2001 := by rw [<- hr0]; split; exact kP a; exact ha
   refine iK (fun p : TI => ⟨20, bV [(1, .is (.v (.int .i64 m))), (2, .is (.v (.int .i64 n))), (3, .is (.own 0 0)), (6, .is (.own 8 0)), (7, .is (.own 120 0)), (8, .is (.v (.int .i64 1)))], cd [(0, .cells 254 [.v (.int .i64 (a.1 : Nat)), .v fa]), (8, .cells 254 [.v (.int .i64 0), .v .nilFunc]), (120, .cells 254 [.v (.int .i64 (r0.1 : Nat)), .v p.fo])]⟩) TI.W TI.bs
    (fun p => bu p.W (eY (cF w S) p.bs) p.fo r0.2) ?_ ?_
   ·skip
    refine vR Γ0 bZ ?_
    refine wC bZ (fun hc => ?_) (fun hc => ?_)
    ·have hm : m = 0 := by simpa using hc
     rw [if_pos hm] at hr0
     subst hr0
     refine Wp.more ?_
     refine wr (Γ42 (cF w S) a a a) (ab bZ ga) ?_ ?_
     ·exact ⟨⟨bT g0, ha, _, rfl⟩, u0⟩
     refine dV ?_
     refine Pw.gF 168 (ev (ab bZ ga)) (cr.refl _ _) fun W1 bs1 cs hx1 hΦ => ?_
     obtain ⟨fv, rfl, hg, hv1⟩ := ca hΦ
     refine Pw.here ?_
     refine qq ?_
     refine ⟨⟨W1, bs1, fv, 0⟩, hg, rfl, rfl, ?_⟩
     exact wM (fun k => .key k) (dk bZ ga hv1)
    ·have hm : ¬ m = 0 := by simpa using hc
     rw [if_neg hm] at hr0
     subst hr0
     refine wK ?_
     refine ⟨⟨w, [], fa, 0⟩, g0, rfl, rfl, ?_⟩
     exact wM (fun k => .key k) (ab bZ ga)
   rintro ⟨W0, bs0, fo, j0⟩ hfo hx0
   simp only at hfo hx0
   dsimp only
   have hR1 : cJ a m n = if n < 0 then aQ .cat (bq (fun x => aQ .cat x a) (m - 1).toNat r0) (eo a) else bq (fun x => aQ .cat x (bw a)) (n - max m 1).toNat (bq (fun x => aQ .cat x a) (m - 1).toNat r0) := by
    rw [cJ, if_neg hc1, if_neg hc2, hr0]
   have hi1 : ∀ k, (bq (fun x => aQ .cat x a) k r0).1 <= 2001 := fun k => mI _ (fun x => ez _ _ _) k r0 hr0'
   refine Wp.seq (Wp.block ?_)
   refine Wp.xR (fun p : TI => ⟨23, bV [(1, .is (.v (.int .i64 m))), (2, .is (.v (.int .i64 n))), (3, .is (.own 0 0)), (6, .is (.own 8 0)), (7, .is (.own 120 0)), (8, .is (.v (.int .i64 ((p.j : Nat) + 1))))], cd [(0, .cells 254 [.v (.int .i64 (a.1 : Nat)), .v fa]), (8, .cells 254 [.v (.int .i64 0), .v .nilFunc]), (120, .cells 254 [.v (.int .i64 ((bq (fun x => aQ .cat x a) p.j r0).1 : Nat)), .v p.fo])]⟩)
    TI.W TI.bs (fun p => p.j <= (m - 1).toNat /\ bu p.W (eY (cF w S) p.bs) p.fo (bq (fun x => aQ .cat x a) p.j r0).2) (fun p => (m - 1).toNat - p.j) ⟨W0, bs0, fo, 0⟩ rfl rfl ?_ ⟨Nat.zero_le _, hfo⟩ ?_
   ·exact wM (fun k => .key k) (p8 bZ @bq.eq_1 @bq.eq_2 @Int.natCast_zero @Int.zero_add)
   rintro ⟨W1, bs1, fo1, j⟩ ⟨hj, hfo1⟩ hx1
   simp only at hj hfo1 hx1
   dsimp only
   have hx01 := hx0.trans hx1
   have u1 := u0.ext hx01
   have g1 := g0.mono hx01.At
   refine Wp.seq ?_
   refine vR Γ0 bZ ?_
   refine wC bZ (fun hc => ?_) (fun hc => ?_)
   ·have hjm : (j : Int) + 1 < m := by simpa using hc
    refine wK ?_
    refine Wp.seq (Wp.block ?_)
    refine Wp.more ?_
    refine wr (Γ42 (cF w S) (bq (fun x => aQ .cat x a) j r0) a a) (ab bZ ga) ?_ ?_
    ·exact ⟨⟨⟨bT hfo1, bT g1⟩, ⟨hi1 j, ha⟩, _, _, rfl⟩, u1⟩
    refine dV ?_
    refine Pw.gF 224 (ev (ab bZ ga)) (cr.refl _ _) fun W2 bs2 cs hx2 hΦ => ?_
    obtain ⟨fv, rfl, hg, hv1⟩ := ca hΦ
    refine Pw.here ?_
    refine qq ?_
    have wn : IntKind.i64.wrap ((j : Int) + 1 + 1) = ((j + 1 : Nat) : Int) + 1 := by rw [aa (by omega) (by omega)]; omega
    have e : bq (fun x => aQ .cat x a) (j + 1) r0 = aQ Jn.cat.mk (bq (fun x => aQ .cat x a) j r0) a := oa _ _ _
    refine vr Γ0 (ab bZ wn) ?_
    refine ⟨⟨W2, bs2, fv, j + 1⟩, ⟨by simp only; omega, by simp only; rw [e]; exact hg⟩, by simp only; omega, rfl, rfl, ?_⟩
    exact wM (fun k => .key k) (fj bZ ga hv1 e)
   ·have hjm : ¬ (j : Int) + 1 < m := by simpa using hc
    have hj' : j = (m - 1).toNat := by omega
    generalize hr1 : bq (fun x => aQ .cat x a) (m - 1).toNat r0 = r1 at hR1
    have hr1' : r1.1 <= 2001 := by rw [<- hr1]; exact hi1 _
    rw [hj', hr1] at hfo1
    rw [hj', hr1]
    refine wE ?_
    refine Wp.seq ?_
    refine vR Γ0 bZ ?_
    refine wC bZ (fun hc => ?_) (fun hc => ?_)
    ·have hn : n < 0 := by simpa using hc
     rw [hR1, if_pos hn]
     refine kY (Γ42 (cF w S) r1 (eo a) a) (ab bZ ga) ?_ ?_
     ·exact ⟨⟨⟨bT g1, ha, _, rfl⟩, u1⟩, ⟨bT hfo1, ⟨hr1', mi a⟩, _, _, rfl⟩, u1⟩
     refine Wp.gF 248 (ev (ab bZ ga)) (cr.refl _ _) fun W2 bs2 cs hx2 hΦ => ?_
     obtain ⟨fv, rfl, hg, hv1⟩ := ca hΦ
     refine wZ (dk bZ ga hv1) ?_
     exact kq hg
    ·have hn : ¬ n < 0 := by simpa using hc
     rw [hR1, if_neg hn]
     have hk0 : ((j : Nat) : Int) + 1 = max m 1 := by omega
     have hi2 : ∀ k, (bq (fun x => aQ .cat x (bw a)) k r1).1 <= 2001 := fun k => mI _ (fun x => ez _ _ _) k r1 hr1'
     refine wK ?_
     rw [<- hj'] at *
     refine Wp.seq (Wp.block ?_)
     refine Wp.xR (fun p : TI => ⟨28, bV [(2, .is (.v (.int .i64 n))), (3, .is (.own 0 0)), (6, .is (.own 8 0)), (7, .is (.own 120 0)), (8, .is (.v (.int .i64 (((j : Nat) : Int) + 1 + (p.j : Nat)))))], cd [(0, .cells 254 [.v (.int .i64 (a.1 : Nat)), .v fa]), (8, .cells 254 [.v (.int .i64 0), .v .nilFunc]), (120, .cells 254 [.v (.int .i64 ((bq (fun x => aQ .cat x (bw a)) p.j r1).1 : Nat)), .v p.fo])]⟩)
      TI.W TI.bs (fun p => p.j <= (n - max m 1).toNat /\ bu p.W (eY (cF w S) p.bs) p.fo (bq (fun x => aQ .cat x (bw a)) p.j r1).2) (fun p => (n - max m 1).toNat - p.j) ⟨W1, bs1, fo1, 0⟩ rfl rfl ?_ ⟨Nat.zero_le _, hfo1⟩ ?_
     ·exact wM (fun k => .key k) (p8 bZ @bq.eq_1 @bq.eq_2 @Int.natCast_zero @Int.add_zero)
     rintro ⟨W3, bs3, fo3, i⟩ ⟨hi, hfo3⟩ hx3
     simp only at hi hfo3 hx3
     dsimp only
     have u3 := u1.ext hx3
     have g3 := g1.mono hx3.At
     refine Wp.seq ?_
     refine vR Γ0 bZ ?_
     refine wC bZ (fun hc => ?_) (fun hc => ?_)
     ·have hin : (j : Int) + 1 + i < n := by simpa using hc
      refine wK ?_
      refine Wp.seq (Wp.block ?_)
      refine Wp.more ?_
      refine rX (Γ42 (cF w S) (bq (fun x => aQ .cat x (bw a)) i r1) (bw a) a) (ab bZ ga) ?_ ?_
      ·exact ⟨⟨⟨bT g3, ha, _, rfl⟩, u3⟩, ⟨bT hfo3, ⟨hi2 i, kP a⟩, _, _, rfl⟩, u3⟩
      refine dV ?_
      refine Pw.gF 272 (ev (ab bZ ga)) (cr.refl _ _) fun W4 bs4 cs hx4 hΦ => ?_
      obtain ⟨fv, rfl, hg, hv1⟩ := ca hΦ
      refine Pw.here ?_
      refine qq ?_
      have wn : IntKind.i64.wrap ((j : Int) + 1 + i + 1) = (j : Int) + 1 + ((i + 1 : Nat) : Int) := by rw [aa (by omega) (by omega)]; omega
      have e : bq (fun x => aQ .cat x (bw a)) (i + 1) r1 = aQ Jn.cat.mk (bq (fun x => aQ .cat x (bw a)) i r1) (bw a) := oa _ _ _
      refine vr Γ0 (ab bZ wn) ?_
      refine ⟨⟨W4, bs4, fv, i + 1⟩, ⟨by simp only; omega, by simp only; rw [e]; exact hg⟩, by simp only; omega, rfl, rfl, ?_⟩
      exact wM (fun k => .key k) (fj bZ ga hv1 e)
     ·have hin : ¬ (j : Int) + 1 + i < n := by simpa using hc
      have hi' : i = (n - max m 1).toNat := by omega
      refine wE ?_
      refine wR Γ0 bZ ?_ ?_
      ·exact hfo3.one
      refine wZ bZ ?_
      rw [<- hi']
      exact kq hfo3
def tT (a : RL) : j8 Tryz.prog 266 where
 kinds := [some (Sh.two, dc a), none, none]
 pre := fun as_ _ _ => a.1 <= 2001 /\ ∃ x m n, as_ = [x, .val (.int .i64 m), .val (.int .i64 n)] /\ 0 <= m /\ m <= 255 /\ -1 <= n /\ n <= 255
 premono := fun _ _ _ _ _ _ h => h
 out := fun
  | [_, .val (.int .i64 m), .val (.int .i64 n)] => .fact Sh.two (dc (cJ a m n))
  | _ => .val undef
 enters := Tryz.call266
 ok := by
  intro w S us as_ hu hp
  obtain ⟨ha, x, m, n, rfl, hp⟩ := hp
  match us, hu with
  | [u1, u2, u3], hu =>
   obtain ⟨h1, rfl, rfl, _⟩ := hu
   obtain ⟨fa, rfl, h1'⟩ := jH h1
   exact J2 a m n fa ha hp.1 hp.2.1 hp.2.2.1 hp.2.2.2 w S h1'
end
section
open Go.RowKit Go.LE
set_option maxRecDepth 10000
def two (g : Jn) (x y : Value) : Value := .iface g.T (.agg #[x, y])
theorem Pq (g : Jn) (a b : Rx) : two g (aF a) (aF b) = aF (g.mk a b) := by cases g <;> rfl
def kN := (aq @List.replicate_succ.{0} @List.replicate_zero.{0} @aw @ah jS jP rz (aq rh rm rj IC I0 Ie oU (aq pD oR oE px pI PZ Ph (aq OW QY Ps Od ML P3 QT (aq N6 Ni NF PW QS M6 OZ (aq MO QQ Qo MX Om QG Qm (aq NY NT QJ Pt M5 QI Pc (aq Pu PT NV MJ NI Of OH (aq NA PQ P5 Mw MH Qz Q4 (aq yj xO w6 @aO @au @aB @aC (dk @gD (fun t => ix (bM t)) @bM)))))))))))
set_option maxHeartbeats 1000000 in
theorem Vf (a b : Rx) (w : World) : Calls Tryz.prog 252 #[aF a, aF b] w fun e w' => e = .returned (two .cat (aF a) (aF b)) /\ ai w [] w' := by
 refine al (nt := 9) [.tmp 4] Tryz.func252 rfl rfl rfl ?_
 refine vR Γ0 kN ?_
 refine vR Γ0 kN ?_
 refine wZ kN ?_
 exact fun E => rfl
set_option maxHeartbeats 1000000 in
theorem U2 (a b : Rx) (w : World) : Calls Tryz.prog 181 #[aF a, aF b] w fun e w' => e = .returned (two .alt (aF a) (aF b)) /\ ai w [] w' := by
 refine al (nt := 9) [.tmp 4] Tryz.func181 rfl rfl rfl ?_
 refine vR Γ0 kN ?_
 refine vR Γ0 kN ?_
 refine wZ kN ?_
 exact fun E => rfl
set_option maxHeartbeats 1000000 in
theorem VJ (a b : Rx) (w : World) : Calls Tryz.prog 217 #[aF a, aF b] w fun e w' => e = .returned (two .and (aF a) (aF b)) /\ ai w [] w' := by
 refine al (nt := 9) [.tmp 4] Tryz.func217 rfl rfl rfl ?_
 refine vR Γ0 kN ?_
 refine vR Γ0 kN ?_
 refine wZ kN ?_
 exact fun E => rfl
set_option maxHeartbeats 1000000 in
theorem Nh (a b : Rx) (w : World) : Calls Tryz.prog 218 #[aF a, aF b] w fun e w' => e = .returned (two .minus (aF a) (aF b)) /\ ai w [] w' := by
 refine al (nt := 9) [.tmp 4] Tryz.func218 rfl rfl rfl ?_
 refine vR Γ0 kN ?_
 refine vR Γ0 kN ?_
 refine wZ kN ?_
 exact fun E => rfl
theorem VE : ∀ (g : Jn) (a b : Rx) (w : World), Calls Tryz.prog g.f #[aF a, aF b] w fun e w' => e = .returned (two g (aF a) (aF b)) /\ ai w [] w'
 | .cat, a, b, w => Vf a b w
 | .alt, a, b, w => U2 a b w
 | .and, a, b, w => VJ a b w
 | .minus, a, b, w => Nh a b w
theorem JE : ∀ (g : Jn) args w, (callFunc g.f args).run Tryz.prog w = .ok (.enter g.f args) w
 | .cat => Tryz.call252
 | .alt => Tryz.call181
 | .and => Tryz.call217
 | .minus => Tryz.call218
def VV (g : Jn) : a7 Tryz.prog g.f where
 pre := fun W bs as_ => ∃ a b, as_ = [.val (aF a), .val (aF b)]
 res := fun W => fun | [.val x, .val y] => two g x y | _ => undef
 enters := JE g
 ok := by
  rintro W w bs us _ hk hu ⟨a, b, rfl⟩
  match us, hu with
  | [u, v], hu =>
   obtain ⟨rfl, rfl, _⟩ := hu
   exact VE g a b w
theorem Tm (g : Jn) (W : World) (x y : Value) : (VV g).res W [.val x, .val y] = two g x y := rfl
theorem S5 (g : Jn) (W : World) (bs : List Nat) (as_ : List AV) : (VV g).pre W bs as_ = ∃ a b, as_ = [.val (aF a), .val (aF b)] := rfl
def dp : Rx -> Nat
 | .eps => 0
 | .cls _ => 0
 | .cat a b => dp a + dp b + 1
 | .alt a b => dp a + dp b + 1
 | .star a => dp a + 1
 | .and a b => dp a + dp b + 1
 | .minus a b => dp a + dp b + 1
theorem Wy (g : Jn) (a b : Rx) : dp (g.mk a b) = dp a + dp b + 1 := by cases g <;> rfl
def hD (f : FuncId) : Prop := f = 259 \/ f = 220 \/ f = 264
theorem bu.shape {W : World} {S : Nat -> Prop} {v : Value} {t : Rx} (h : bu W S v t) : ∃ f cap, v = .func (.func f) #[] cap /\ hD f := by
 cases h with
 | leaf => exact ⟨_, _, rfl, .inl rfl⟩
 | join => exact ⟨_, _, rfl, .inr (.inl rfl)⟩
 | star => exact ⟨_, _, rfl, .inr (.inr rfl)⟩
theorem B9 {f : FuncId} (h : hD f) : ∀ args w, (callFunc f args).run Tryz.prog w = .ok (.enter f args) w := by
 rcases h with rfl | rfl | rfl
 ·exact Tryz.call259
 ·exact Tryz.call220
 ·exact Tryz.call264
def fV (n : Nat) : Prop := ∀ f cap w S t, bu w S (.func (.func f) #[] cap) t -> dp t < n -> Calls Tryz.prog f cap w fun e w' => e = .returned (aF t) /\ ai w [] w'
open Classical in
noncomputable def sD (W : World) (f : FuncId) (as_ : List AV) : Value :=
 if h : ∃ (cap : List Value) (t : Rx), as_ = cap.map .val /\ bu W (fun _ => True) (.func (.func f) #[] cap.toArray) t then aF h.choose_spec.choose else undef
theorem Az {l m : List Value} (h : l.map AV.val = m.map .val) : l = m := by
 have := congrArg (List.map fun | AV.val v => v | _ => undef) h
 simpa [Function.comp_def] using this
theorem jG {W : World} {S : Nat -> Prop} {f : FuncId} {cap : List Value} {t : Rx} (h : bu W S (.func (.func f) #[] cap.toArray) t) : sD W f (cap.map .val) = aF t := by
 have h1 := h.mono (S' := fun _ => True) (W' := W) fun b _ _ => ⟨rfl, trivial⟩
 have hex : ∃ (c : List Value) (t : Rx), cap.map AV.val = c.map .val /\ bu W (fun _ => True) (.func (.func f) #[] c.toArray) t := ⟨cap, t, rfl, h1⟩
 rw [sD, dif_pos hex]
 obtain ⟨g1, g2⟩ := hex.choose_spec.choose_spec
 have key : ∀ (c : List Value) (t' : Rx), cap = c -> bu W (fun _ => True) (.func (.func f) #[] c.toArray) t' -> t' = t := by
  rintro _ t' rfl hg
  exact (h1.fn hg).symm
 rw [key _ _ (Az g1) g2]
theorem rq {w : World} : ∀ {us cap : List Value}, ey w us (cap.map .val) -> us = cap
 | [], [], _ => rfl
 | u :: us, c :: cap, h => by rw [h.1, rq h.2]
 | [], _ :: _, h => h.elim
 | _ :: _, [], h => h.elim
noncomputable def Co (n : Nat) (ih : fV n) (f : FuncId) (hf : hD f) : a7 Tryz.prog f where
 pre := fun W bs as_ => ∃ (cap : List Value) (t : Rx), as_ = cap.map .val /\ bu W (Out bs) (.func (.func f) #[] cap.toArray) t /\ dp t < n
 res := fun W as_ => sD W f as_
 enters := B9 hf
 ok := by
  rintro W w bs us _ hk hu ⟨cap, t, rfl, hg, hd⟩
  rw [jG hg, rq hu]
  exact ih f _ w (Out bs) t (hg.mono hk.gT) hd
open Classical in
noncomputable def EO (n : Nat) (ih : fV n) (f : FuncId) : Option (Go.LE.Spec Tryz.prog f) := if hf : hD f then some (Co n ih f hf).spec else none
theorem Ko (n : Nat) (ih : fV n) (f : FuncId) (hf : hD f) : EO n ih f = some (Co n ih f hf).spec := dif_pos hf
noncomputable def Γ43 (n : Nat) (ih : fV n) : Env Tryz.prog := ⟨fun | 252 => some (VV .cat).spec | 181 => some (VV .alt).spec | 217 => some (VV .and).spec | 218 => some (VV .minus).spec | f => EO n ih f, fun _ => none, fun _ _ => none⟩
theorem Gt43cmk (n : Nat) (ih : fV n) (g : Jn) : (Γ43 n ih).sp g.f = some (VV g).spec := by cases g <;> rfl
theorem Gt43cgrow (n : Nat) (ih : fV n) (f : FuncId) (hf : hD f) : (Γ43 n ih).sp f = some (Co n ih f hf).spec := by
 rw [<- Ko]
 rcases hf with rfl | rfl | rfl <;> rfl
theorem xI (n : Nat) (ih : fV n) (f : FuncId) (hf : hD f) (W : World) (as_ : List AV) : (Co n ih f hf).res W as_ = sD W f as_ := rfl
theorem wQ (n : Nat) (ih : fV n) (f : FuncId) (hf : hD f) (W : World) (bs : List Nat) (as_ : List AV) : (Co n ih f hf).pre W bs as_ = ∃ (cap : List Value) (t : Rx), as_ = cap.map .val /\ bu W (Out bs) (.func (.func f) #[] cap.toArray) t /\ dp t < n := rfl
theorem lh (h : Hp) : ∀ l : List Value, ay h (l.map .v) = some (l.map .val, [])
 | [] => rfl
 | x :: r => by rw [List.map_cons, uj, lh h r]; rfl
theorem yA {W : World} {S : Nat -> Prop} {v : Value} {t : Rx} (h : bu W S v t) : bu W (Out []) v t := h.mono fun b _ _ => ⟨rfl, by simp [Out]⟩
def oB := (nC kN @Tm @S5 @xI @wQ @Gt43cmk)
set_option maxHeartbeats 1000000 in
theorem J5 (b : Nat) (t : Rx) (w : World) (S : Nat -> Prop) (h : XC w S b 0 (aF t)) : Calls Tryz.prog 259 #[lj b] w fun e w' => e = .returned (aF t) /\ ai w [] w' := by
 have h1 : w.cell? ⟨b, 0, none⟩ = some (aF t) := h.2
 refine al (nt := 3) [.tmp 1] Tryz.func259 rfl rfl rfl ?_
 refine vR Γ0 (ab oB @lj.eq_1) ?_
 refine vR Γ0 (dk oB @lj.eq_1 h1) ?_
 refine wZ oB ?_
 exact fun E => rfl
set_option maxHeartbeats 1000000 in
theorem J6 (n : Nat) (ih : fV n) (b : Nat) (fa : Value) (ta : Rx) (w : World) (S : Nat -> Prop) (h : XC w S b 1 fa) (hg : bu w S fa ta) (hd : dp ta < n) :
  Calls Tryz.prog 264 #[lj b] w fun e w' => e = .returned (aF (.star ta)) /\ ai w [] w' := by
 have h1 : w.cell? ⟨b, 0 + 1, none⟩ = some fa := by rw [Nat.zero_add]; exact h.2
 obtain ⟨f, cap, rfl, hf⟩ := hg.shape
 obtain ⟨cap, rfl⟩ : ∃ l : List Value, cap = l.toArray := ⟨cap.toList, by simp⟩
 have hr := jG hg
 have hs := Gt43cgrow n ih f hf
 refine al (nt := 7) [.tmp 1] Tryz.func264 rfl rfl rfl ?_
 refine vR Γ0 (ab oB @lj.eq_1) ?_
 refine wR (Γ43 n ih) (nC oB @lj.eq_1 h1 hs hr @lh) ?_ ?_
 ·exact ⟨cap, ta, rfl, yA hg, hd⟩
 refine wZ oB ?_
 exact fun E => rfl
set_option maxHeartbeats 1000000 in
theorem LI (n : Nat) (ih : fV n) (g : Jn) (b5 b3 b4 : Nat) (fa fb : Value) (ta tb : Rx) (w : World) (S : Nat -> Prop) (h5 : XC w S b5 0 g.v) (h3 : XC w S b3 1 fa) (h4 : XC w S b4 1 fb)
  (hga : bu w S fa ta) (hgb : bu w S fb tb) (hda : dp ta < n) (hdb : dp tb < n) :
  Calls Tryz.prog 220 #[lj b5, lj b3, lj b4] w fun e w' => e = .returned (aF (g.mk ta tb)) /\ ai w [] w' := by
 have g5 : w.cell? ⟨b5, 0, none⟩ = some (.func (.func g.f) #[] #[]) := h5.2
 have g3 : w.cell? ⟨b3, 0 + 1, none⟩ = some fa := by rw [Nat.zero_add]; exact h3.2
 have g4 : w.cell? ⟨b4, 0 + 1, none⟩ = some fb := by rw [Nat.zero_add]; exact h4.2
 obtain ⟨f, cap, rfl, hf⟩ := hga.shape
 obtain ⟨cap, rfl⟩ : ∃ l : List Value, cap = l.toArray := ⟨cap.toList, by simp⟩
 obtain ⟨f', cap', rfl, hf'⟩ := hgb.shape
 obtain ⟨cap', rfl⟩ : ∃ l : List Value, cap' = l.toArray := ⟨cap'.toList, by simp⟩
 have hr := jG hga
 have hs := Gt43cgrow n ih f hf
 have hr' := jG hgb
 have hs' := Gt43cgrow n ih f' hf'
 refine al (nt := 12) [.tmp 3] Tryz.func220 rfl rfl rfl ?_
 refine vR Γ0 (ab oB @lj.eq_1) ?_
 refine kY (Γ43 n ih) (aq oB @lj.eq_1 g5 g3 g4 hs hs' (dk hr hr' @lh)) ?_ ?_
 ·exact ⟨⟨cap, ta, rfl, yA hga, hda⟩, ⟨cap', tb, rfl, yA hgb, hdb⟩, ta, tb, rfl⟩
 refine wZ oB ?_
 exact fun E => Pq g ta tb
theorem sA : ∀ n, fV n
 | 0 => fun _ _ _ _ _ _ h => by omega
 | n + 1 => by
  have ih := sA n
  intro f cap w S t h hd
  cases h with
  | leaf b t h => exact J5 b t w S h
  | join g b5 b3 b4 fa fb ta tb h5 h3 h4 ha hb =>
   rw [Wy] at hd
   exact LI n ih g b5 b3 b4 fa fb ta tb w S h5 h3 h4 ha hb (by omega) (by omega)
  | star b fa ta h ha =>
   have : dp ta + 1 < n + 1 := hd
   exact J6 n ih b fa ta w S h ha (by omega)
end
end Go.Proofs.YtnemkecffmdlnaaGreatDoor
