/-
 Part 3 of the proof (packed).
-/
import Derived.Test.YtnemkecffmdlnaaGreatDoorB2
import Derived.Lib.Bytealg
set_option linter.unusedSimpArgs false
set_option linter.unusedVariables false
set_option linter.defProp false
namespace Go.LE
section
open Go.RowKit
structure Sh where
 tm : Nat -> SV
 g : ∀ E k, den E (tm k) = den (fun _ => E k) (tm 0)
 k : ∀ k, ∀ j ∈ (tm k).keys, j = k
def Sh.val (s : Sh) (cs : List Value) : Value := den (fun _ => dv cs) (s.tm 0)
def Sh.one : Sh := ⟨fun k => .part k 0, fun _ _ => rfl, fun k j hj => by simpa [SV.keys] using hj⟩
def Sh.two : Sh := ⟨fun k => .agg [.part k 0, .part k 1], fun _ _ => rfl, fun k j hj => by simpa [SV.keys, ax] using hj⟩
abbrev Kd := Option (Sh × FK)
def rR : Option Value -> Option (List Value) -> Option (List Value)
 | some v, some vs => some (v :: vs)
 | _, _ => none
def func2 (f : Fn) : Option (List Value) -> Option (List Value) -> Option Value
 | some a, some c => some (.func f a.toArray c.toArray)
 | _, _ => none
mutual
def cC : SV -> Option Value
 | .v x => some x
 | .agg l => (fi l).map fun vs => .agg vs.toArray
 | .ifc t x => (cC x).map (.iface t)
 | .fn f a c => func2 f (fi a) (fi c)
 | _ => none
def fi : List SV -> Option (List Value)
 | [] => some []
 | x :: r => rR (cC x) (fi r)
end
mutual
theorem oN {E : Nat -> Value} : ∀ {x : SV} {v : Value}, cC x = some v -> den E x = v
 | .v x, v, h => by simp only [cC, Option.some.injEq] at h; exact h
 | .own _ _, v, h => by simp [cC] at h
 | .hd _, v, h => by simp [cC] at h
 | .part _ _, v, h => by simp [cC] at h
 | .tup _, v, h => by simp [cC] at h
 | .agg l, v, h => by
  simp only [cC, Option.map_eq_some_iff] at h
  obtain ⟨vs, h1, rfl⟩ := h
  simp only [den, lH h1]
 | .ifc t x, v, h => by
  simp only [cC, Option.map_eq_some_iff] at h
  obtain ⟨y, h1, rfl⟩ := h
  simp only [den, oN h1]
 | .fn f a c, v, h => by
  simp only [cC] at h
  cases h1 : fi a with
  | none => rw [h1] at h; simp [func2] at h
  | some a' =>
   cases h2 : fi c with
   | none => rw [h1, h2] at h; simp [func2] at h
   | some c' =>
    rw [h1, h2] at h
    simp only [func2, Option.some.injEq] at h
    subst h
    simp only [den, lH h1, lH h2]
theorem lH {E : Nat -> Value} : ∀ {l : List SV} {vs : List Value}, fi l = some vs -> an E l = vs
 | [], vs, h => by simp only [fi, Option.some.injEq] at h; subst h; rfl
 | x :: r, vs, h => by
  simp only [fi] at h
  cases h1 : cC x with
  | none => rw [h1] at h; simp [rR] at h
  | some v' =>
   cases h2 : fi r with
   | none => rw [h1, h2] at h; simp [rR] at h
   | some vs' =>
    rw [h1, h2] at h
    simp only [rR, Option.some.injEq] at h
    subst h
    simp only [an, oN h1, lH h2]
end
def jt : SV -> Option Nat
 | .part k _ => some k
 | .agg (.part k _ :: _) => some k
 | _ => none
structure GV1 where
 p : Prop
 a : AV
 rs : List Nat
 cs : List Nat
structure GVL where
 p : Prop
 as_ : List AV
 rs : List Nat
 cs : List Nat
def VT : Option (AV × List Nat) -> GV1
 | some (a, r) => ⟨True, a, r, []⟩
 | none => ⟨False, .val undef, [], []⟩
def WO (G : Nat -> Prop) (W : World) (bs : List Nat) (sh : Sh) (Φ : FK) (x : SV) (k : Nat) : Option bm -> GV1
 | some (.obj d R) => ⟨x = sh.tm k /\ d = [] /\ R = iF G W bs Φ, .val undef, [k], [k]⟩
 | _ => ⟨False, .val undef, [], []⟩
def V2 (G : Nat -> Prop) (W : World) (bs : List Nat) (h : Hp) (sh : Sh) (Φ : FK) (x : SV) : Option Value -> Option Nat -> GV1
 | some v, _ => ⟨∃ cs, v = sh.val cs /\ Φ.Φ cs W (fg G bs), .val undef, [], []⟩
 | none, some k => WO G W bs sh Φ x k (h k)
 | none, none => ⟨False, .val undef, [], []⟩
def wq (G : Nat -> Prop) (W : World) (bs : List Nat) (h : Hp) : Kd -> SV -> GV1
 | none, x => VT (cg h x)
 | some (sh, Φ), x => V2 G W bs h sh Φ x (cC x) (jt x)
def XS (a : GV1) (l : GVL) : GVL := ⟨a.p /\ l.p, a.a :: l.as_, a.rs ++ l.rs, a.cs ++ l.cs⟩
def lA (G : Nat -> Prop) (W : World) (bs : List Nat) (h : Hp) : List Kd -> List SV -> GVL
 | [], [] => ⟨True, [], [], []⟩
 | kd :: ks, x :: r => XS (wq G W bs h kd x) (lA G W bs h ks r)
 | _, _ => ⟨False, [], [], []⟩
def xq (w : World) (S : Nat -> Prop) : List Kd -> List Value -> List AV -> Prop
 | [], [], [] => True
 | none :: ks, u :: us, a :: as_ => tJ w u a /\ xq w S ks us as_
 | some (sh, Φ) :: ks, u :: us, _ :: as_ => (∃ cs, u = sh.val cs /\ Φ.Φ cs w S) /\ xq w S ks us as_
 | _, _, _ => False
section
variable {P : Program} {W : World} {bs : List Nat} {κ : Nat} {E : Nat -> Value} {F : Nat -> List Nat} {h : Nat -> Option bm} {w : World} {K : Nat -> Prop} {G : Nat -> Prop}
def HF (w : World) (S : Nat -> Prop) (u : Value) (a : AV) : Kd -> Prop
 | none => tJ w u a
 | some (sh, Φ) => ∃ cs, u = sh.val cs /\ Φ.Φ cs w S
theorem Uu (hs : al W bs E F h w) {S : Nat -> Prop} (hS : ∀ b, b < W.heap.size -> fg G bs b -> S b) {kd : Kd} {x : SV} (hp : (wq G W bs h kd x).p) (hc : ∀ k ∈ (wq G W bs h kd x).cs, ∀ b ∈ F k, S b) :
  HF w S (den E x) (wq G W bs h kd x).a kd := by
 match kd with
 | none =>
  simp only [wq, HF] at hp ⊢
  cases hv : cg h x with
  | none => rw [hv] at hp; exact hp.elim
  | some q => obtain ⟨a, r⟩ := q; exact xO hs hv
 | some (sh, Φ) =>
  simp only [wq, HF] at hp hc ⊢
  cases hv : cC x with
  | some v =>
   rw [hv] at hp
   obtain ⟨cs, h1, h2⟩ := hp
   exact ⟨cs, by rw [oN hv, h1], Φ.mono (fun b hb hr => ⟨hs.keeps.block b hb hr.2, hS b hb hr⟩) h2⟩
  | none =>
   rw [hv] at hp hc
   cases hk : jt x with
   | none => rw [hk] at hp; exact hp.elim
   | some k =>
    rw [hk] at hp hc
    simp only [V2] at hp hc
    cases hkk : h k with
    | none => rw [hkk] at hp; exact hp.elim
    | some e =>
     rw [hkk] at hp hc
     cases e with
     | cells T vs => exact hp.elim
     | row T s n vs => exact hp.elim
     | obj d R =>
      obtain ⟨hx, rfl, rfl⟩ := hp
      obtain ⟨⟨⟨hG, cs, h1, h2⟩, _⟩, _⟩ := hs.ent k _ hkk
      refine ⟨cs, ?_, h2 w S (fun b hb hr => ⟨hs.keeps.block b hb hr.2, hS b hb hr⟩) fun b hb => ⟨rfl, hc k (by simp [WO]) b hb⟩⟩
      rw [hx, sh.g E k, h1]; rfl
theorem Ao (hs : al W bs E F h w) {S : Nat -> Prop} (hS : ∀ b, b < W.heap.size -> fg G bs b -> S b) : ∀ {kds : List Kd} {l : List SV}, (lA G W bs h kds l).p -> (∀ k ∈ (lA G W bs h kds l).cs, ∀ b ∈ F k, S b) ->
  xq w S kds (an E l) (lA G W bs h kds l).as_
 | [], [], _, _ => trivial
 | [], _ :: _, hp, _ => hp.elim
 | _ :: _, [], hp, _ => hp.elim
 | kd :: ks, x :: r, hp, hc => by
  have h1 := Uu hs hS (kd := kd) (x := x) hp.1 (fun k hk => hc k (List.mem_append_left _ hk))
  have h2 := Ao hs hS (kds := ks) (l := r) hp.2 (fun k hk => hc k (List.mem_append_right _ hk))
  revert h1
  cases kd with
  | none => exact fun h1 => ⟨h1, h2⟩
  | some q => exact fun h1 => ⟨h1, h2⟩
theorem Tk {h' : Hp} {kd : Kd} {x : SV} (hp : (wq G W bs h kd x).p) (hr : ∀ k ∈ (wq G W bs h kd x).rs, h' k = h k) : wq G W bs h' kd x = wq G W bs h kd x := by
 match kd with
 | none =>
  simp only [wq] at hp hr ⊢
  cases hv : cg h x with
  | none => rw [hv] at hp; exact hp.elim
  | some q =>
   obtain ⟨a, r⟩ := q
   rw [hv] at hr
   rw [xF hv hr]
 | some (sh, Φ) =>
  simp only [wq] at hp hr ⊢
  cases hv : cC x with
  | some v => rfl
  | none =>
   rw [hv] at hp hr
   cases hk : jt x with
   | none => rfl
   | some k =>
    rw [hk] at hp hr
    simp only [V2] at hp hr ⊢
    cases hkk : h k with
    | none => rw [hkk] at hp; exact hp.elim
    | some e =>
     rw [hkk] at hp hr
     cases e with
     | cells T vs => exact hp.elim
     | row T s n vs => exact hp.elim
     | obj d R => rw [hr k (by simp [WO]), hkk]
theorem zk {h' : Hp} : ∀ {kds : List Kd} {l : List SV}, (lA G W bs h kds l).p -> (∀ k ∈ (lA G W bs h kds l).rs, h' k = h k) -> lA G W bs h' kds l = lA G W bs h kds l
 | [], [], _, _ => rfl
 | [], _ :: _, hp, _ => hp.elim
 | _ :: _, [], hp, _ => hp.elim
 | kd :: ks, x :: r, hp, hr => by
  have hp' : (wq G W bs h kd x).p /\ (lA G W bs h ks r).p := hp
  show XS (wq G W bs h' kd x) (lA G W bs h' ks r) = XS (wq G W bs h kd x) (lA G W bs h ks r)
  rw [Tk hp'.1 fun k hk => hr k (List.mem_append_left _ hk), zk hp'.2 fun k hk => hr k (List.mem_append_right _ hk)]
theorem UL {kd : Kd} {x : SV} (hp : (wq G W bs h kd x).p) : ∀ k ∈ (wq G W bs h kd x).cs, ∃ Φ, h k = some (.obj [] (iF G W bs Φ)) := by
 match kd with
 | none =>
  simp only [wq] at hp ⊢
  cases hv : cg h x with
  | none => rw [hv] at hp; exact hp.elim
  | some q => intro k hk; cases hk
 | some (sh, Φ) =>
  simp only [wq] at hp ⊢
  cases hv : cC x with
  | some v => intro k hk; cases hk
  | none =>
   rw [hv] at hp
   cases hk : jt x with
   | none => rw [hk] at hp; exact hp.elim
   | some k =>
    rw [hk] at hp
    simp only [V2] at hp ⊢
    cases hkk : h k with
    | none => rw [hkk] at hp; exact hp.elim
    | some e =>
     rw [hkk] at hp
     cases e with
     | cells T vs => exact hp.elim
     | row T s n vs => exact hp.elim
     | obj d R =>
      obtain ⟨hx, rfl, rfl⟩ := hp
      intro j hj
      simp only [WO, List.mem_singleton] at hj
      subst hj
      exact ⟨Φ, hkk⟩
theorem o8 : ∀ {kds : List Kd} {l : List SV}, (lA G W bs h kds l).p -> ∀ k ∈ (lA G W bs h kds l).cs, ∃ Φ, h k = some (.obj [] (iF G W bs Φ))
 | [], [], _, k, hk => by cases hk
 | [], _ :: _, hp, _, _ => hp.elim
 | _ :: _, [], hp, _, _ => hp.elim
 | kd :: ks, x :: r, hp, k, hk => by
  rcases List.mem_append.1 hk with hk | hk
  ·exact UL hp.1 k hk
  ·exact o8 hp.2 k hk
end
inductive FOut where
 | val (v : Value)
 | fact (sh : Sh) (Φ : FK)
 | pan (c : List PanicEntry) (v : Value)
def mw (w : World) (S : Nat -> Prop) (e : Ending) (w' : World) : FOut -> Prop
 | .val v => e = .returned v /\ ai w [] w'
 | .fact sh Φ => ∃ cs, e = .returned (sh.val cs) /\ Φ.Φ cs w' (fun b => b < w.heap.size -> S b) /\ ai w [] w'
 | .pan c _ => e = .panicked c /\ ai w [] w'
structure lg (P : Program) (f : FuncId) where
 kinds : List Kd
 pre : List AV -> World -> (Nat -> Prop) -> Prop
 premono : ∀ as_ W S W' S', cv W S W' S' -> pre as_ W S -> pre as_ W' S'
 out : List AV -> FOut
 enters : ∀ args w, (callFunc f args).run P w = .ok (.enter f args) w
 ok : ∀ (w : World) (S : Nat -> Prop) (us : List Value) (as_ : List AV), xq w S kinds us as_ -> pre as_ w S -> Calls P f us.toArray w fun e w' => mw w S e w' (out as_)
def pr (G : Nat -> Prop) (κ : Nat) (W : World) (bs : List Nat) (q : Prop) (rs cs : List Nat) : FOut -> R
 | .val v => ⟨q, .v v, [], none, [], rs⟩
 | .fact sh Φ => ⟨q /\ Up G W bs, sh.tm (8 * κ), dI cs ++ [(8 * κ, some (.obj [] (iF G W bs Φ)))], none, [], rs⟩
 | .pan c v => ⟨q, .v v, [], some c, [], rs⟩
def u4 (G : Nat -> Prop) (κ : Nat) (W : World) (bs : List Nat) (pre : List AV -> World -> (Nat -> Prop) -> Prop) (out : List AV -> FOut) (g : GVL) : R :=
 pr G κ W bs (g.p /\ pre g.as_ W (fg G bs)) g.rs g.cs (out g.as_)
theorem Nq {W w : World} {bs : List Nat} {G : Nat -> Prop} {S : Nat -> Prop} (hk : ai W bs w) (hS : ∀ b, b < W.heap.size -> fg G bs b -> S b) : cv W (fg G bs) w S := fun b hb hr => ⟨hk.block b hb hr.2, hS b hb hr⟩
theorem yx {W w w' : World} {bs fp0 fp : List Nat} {G S Sn : Nat -> Prop} {Φ : FK} {cs : List Value} (hk : ai W bs w) (hkeep : ai w fp0 w')
  (hΦ : Φ.Φ cs w' Sn) (hS : ∀ b, S b -> (b < W.heap.size /\ fg G bs b) \/ b ∈ fp) (hS0 : ∀ b, b < W.heap.size -> fg G bs b -> b ∉ fp0)
  (hn : ∀ b, b < w'.heap.size -> Sn b -> (b < w.heap.size /\ S b) \/ b ∈ fp) (hG : ∀ b ∈ fp, G b) :
  ∀ w3 : World, (∀ b ∈ fp, w3.heap[b]? = w'.heap[b]?) -> iF G W bs Φ [] (dv cs) fp w3 := by
 intro w3 h3
 refine ⟨hG, cs, rfl, fun W₂ S₂ hold hnew => Φ.mono (fun b hb hg => ?_) hΦ⟩
 have inFp : b ∈ fp -> W₂.heap[b]? = w'.heap[b]? /\ S₂ b := fun hb' => by
  obtain ⟨g3, g4⟩ := hnew b hb'
  exact ⟨by rw [g3, h3 b hb'], g4⟩
 rcases hn b hb hg with ⟨hb1, hb2⟩ | hb'
 ·rcases hS b hb2 with ⟨g1, g2⟩ | hb'
  ·obtain ⟨g3, g4⟩ := hold b g1 g2
   exact ⟨by rw [g3, hkeep.block b hb1 (hS0 b g1 g2), hk.block b g1 g2.2], g4⟩
  ·exact inFp hb'
 ·exact inFp hb'
theorem mo {w w' : World} (hs : w.heap.size <= w'.heap.size) (b : Nat) : b ∈ List.range' w.heap.size (w'.heap.size - w.heap.size) ↔ w.heap.size <= b /\ b < w'.heap.size := by
 rw [List.mem_range'_1]
 omega
def lg.spec {P : Program} {f : FuncId} (p : lg P f) (G : Nat -> Prop) : Spec P f where
 ev := fun W bs κ h args => u4 G κ W bs p.pre p.out (lA G W bs h p.kinds args)
 good := fun W bs κ E F h w K args hs hK hk hx hside => by
  rw [p.enters]
  have hS : ∀ b, b < W.heap.size -> fg G bs b -> (b < W.heap.size /\ fg G bs b) \/ ∃ k ∈ (lA G W bs h p.kinds args).cs, b ∈ F k := fun b h1 h2 => .inl ⟨h1, h2⟩
  have call : (lA G W bs h p.kinds args).p -> p.pre (lA G W bs h p.kinds args).as_ W (fg G bs) -> Calls P f (an E args).toArray w fun e w' => mw w (fun b => (b < W.heap.size /\ fg G bs b) \/ ∃ k ∈ (lA G W bs h p.kinds args).cs, b ∈ F k) e w' (p.out (lA G W bs h p.kinds args).as_) := fun h1 h2 =>
   p.ok w _ _ _ (Ao hs hS h1 fun k hk b hb => .inr ⟨k, hk, hb⟩) (p.premono _ _ _ _ _ (Nq hs.keeps hS) h2)
  revert hside
  unfold u4
  cases hout : p.out (lA G W bs h p.kinds args).as_ with
  | val v =>
   rintro ⟨h1, h2⟩
   have hc := call h1 h2
   rw [hout] at hc
   exact qC hs hc rfl rfl rfl
  | pan c v =>
   rintro ⟨h1, h2⟩
   have hc := call h1 h2
   rw [hout] at hc
   refine hc.mono fun e w' he => ?_
   obtain ⟨rfl, hkeep⟩ := he
   exact ⟨rfl, F, (hs.grow hkeep).drop fun k e he => by simpa [pr, dropKeys] using he⟩
  | fact sh Φ =>
   rintro ⟨⟨h1, h2⟩, hup⟩
   have hc := call h1 h2
   rw [hout] at hc
   refine hc.mono fun e w' he => ?_
   obtain ⟨cs, rfl, hΦ, hkeep⟩ := he
   have hobj := o8 h1
   have hK8 : ¬ K (8 * κ) := hk _ (by omega)
   have hR := yx (G := G) (S := fun b => (b < W.heap.size /\ fg G bs b) \/ ∃ k ∈ (lA G W bs h p.kinds args).cs, b ∈ F k) (fp := List.range' w.heap.size (w'.heap.size - w.heap.size) ++ (lA G W bs h p.kinds args).cs.flatMap F) hs.keeps hkeep hΦ
    (fun b hb => hb.elim .inl fun ⟨k, hk, hbk⟩ => .inr (List.mem_append_right _ (List.mem_flatMap.2 ⟨k, hk, hbk⟩))) (fun _ _ _ => by simp)
    (fun b hb hn => by
     by_cases hbw : b < w.heap.size
     ·exact .inl ⟨hbw, hn hbw⟩
     ·exact .inr (List.mem_append_left _ ((mo hkeep.size b).2 ⟨by omega, hb⟩)))
    (fun b hb => by
     rcases List.mem_append.1 hb with hb | hb
     ·exact hup b (.inl (Nat.le_trans hs.keeps.size ((mo hkeep.size b).1 hb).1))
     ·obtain ⟨k, hk, hbk⟩ := List.mem_flatMap.1 hb
      obtain ⟨Φ', hk'⟩ := hobj k hk
      exact (hs.ent k _ hk').1.1.1 b hbk)
   refine ⟨rfl, bg E (8 * κ) (dv cs), bg F (8 * κ) (List.range' w.heap.size (w'.heap.size - w.heap.size) ++ (lA G W bs h p.kinds args).cs.flatMap F), fun k hk' => ak _ _ fun e => hk' (by subst e; omega), ?_, ?_⟩
   ·simp only [pr]
    rw [sh.g, ah]; rfl
   ·simp only [pr]
    have hne : ∀ j x, h j = some x -> j ≠ 8 * κ := fun j x hj e => hK8 (e ▸ (hK j x hj).1)
    refine hs.mK hK (lA G W bs h p.kinds args).cs (bg (fun _ => none) (8 * κ) (some (.obj [] (iF G W bs Φ)))) (fun j hj => ?_) (fun j hj => ak _ _ fun e => hK8 (e ▸ hj)) (fun j e he => ?_) (fun i j e e' hij hi hj b hb => ?_) (fun j x hx hj => ak _ _ (hne j x hx)) (fun j => ?_) (hkeep.mono fun b hb => by cases hb)
    ·obtain ⟨Φ', hj'⟩ := hobj j hj; exact ⟨_, hj'⟩
    ·by_cases hj : j = 8 * κ
     ·subst hj
      simp only [ah, Option.some.injEq] at he
      subst he
      rw [ah, ah]
      refine ⟨⟨⟨hR w' fun _ _ => rfl, rfl⟩, hR⟩, fun b hb => ?_, fun b hb => ?_⟩
      ·rcases List.mem_append.1 hb with hb | hb
       ·exact .inr ((mo hkeep.size b).1 hb).1
       ·obtain ⟨k, hk, hbk⟩ := List.mem_flatMap.1 hb; exact .inl ⟨k, hk, hbk⟩
      ·rcases List.mem_append.1 hb with hb | hb
       ·exact ((mo hkeep.size b).1 hb).2
       ·obtain ⟨k, hk, hbk⟩ := List.mem_flatMap.1 hb
        obtain ⟨Φ', hk'⟩ := hobj k hk
        exact Nat.lt_of_lt_of_le (hs.lt k _ hk' b hbk) hkeep.size
     ·rw [ak _ _ hj] at he; cases he
    ·by_cases hi' : i = 8 * κ
     ·by_cases hj' : j = 8 * κ
      ·exact absurd (hi'.trans hj'.symm) hij
      ·rw [ak _ _ hj'] at hj; cases hj
     ·rw [ak _ _ hi'] at hi; cases hi
    ·rw [cp]
     simp only [aZ]
     by_cases hj : j = 8 * κ
     ·subst hj; simp [ah]
     ·rw [ak _ _ hj, ak _ _ hj, kI]
 keys := fun W bs κ h K args hK hx hside => by
  revert hside
  unfold u4
  cases hout : p.out (lA G W bs h p.kinds args).as_ with
  | val v => exact fun _ => aH.plain (fun k hk => by cases hk) rfl
  | pan c v => exact fun _ => aH.plain (fun k hk => by cases hk) rfl
  | fact sh Φ =>
   rintro ⟨⟨h1, h2⟩, hup⟩
   refine ⟨fun k hk => .inr (by rw [sh.k _ k hk]; omega), fun q hq => ?_⟩
   simp only [pr, List.mem_append, List.mem_singleton, dI, List.mem_map] at hq
   rcases hq with ⟨j, hj, rfl⟩ | rfl
   ·obtain ⟨Φ', hj'⟩ := o8 h1 j hj
    exact ⟨.inl (hK j _ hj').1, fun e he => by cases he⟩
   ·refine ⟨.inr (by simp only; omega), fun e he k hk => ?_⟩
    simp only [Option.some.injEq] at he
    subst he
    cases hk
 loc := fun W bs κ h h' args hside hr => by
  have hp : (lA G W bs h p.kinds args).p := by
   revert hside
   unfold u4
   cases p.out (lA G W bs h p.kinds args).as_ with
   | val v => exact fun h => h.1
   | pan c v => exact fun h => h.1
   | fact sh Φ => exact fun h => h.1.1
  have hr' : ∀ k ∈ (lA G W bs h p.kinds args).rs, h' k = h k := by
   revert hr
   unfold u4
   cases p.out (lA G W bs h p.kinds args).as_ <;> exact fun h => h
  rw [zk hp hr']
theorem fz {P : Program} {f : FuncId} (p : lg P f) (G : Nat -> Prop) (W : World) (bs : List Nat) (κ : Nat) (h : Hp) (l : List SV) : (p.spec G).ev W bs κ h l = u4 G κ W bs p.pre p.out (lA G W bs h p.kinds l) := rfl
end
section
open Go.RowKit
inductive GOut where
 | ret (v : Value) (fs : List AV)
 | fact (sh : Sh) (Φ : FK) (fs : List AV)
 | pan (c : List PanicEntry) (v : Value)
def xZ (w : World) (S : Nat -> Prop) (u : Value) (fp : List Nat) (T : TypeId) (e : Ending) (w' : World) : GOut -> Prop
 | .ret v fs => e = .returned v /\ (∃ fp', bz w' u fp' T fs /\ (∀ b ∈ fp', b ∈ fp \/ w.heap.size <= b) /\ ∀ b ∈ fp', b < w'.heap.size) /\ ai w fp w'
 | .fact sh Φ fs => ∃ cs, e = .returned (sh.val cs) /\ (∃ fp', bz w' u fp' T fs /\ (∀ b ∈ fp', b ∈ fp \/ w.heap.size <= b) /\ (∀ b ∈ fp', b < w'.heap.size) /\ Φ.Φ cs w' (fun b => (b < w.heap.size -> S b \/ b ∈ fp) /\ b ∉ fp')) /\ ai w fp w'
 | .pan c _ => e = .panicked c /\ ai w fp w'
structure yh (P : Program) (f : FuncId) where
 T : TypeId
 kinds : List Kd
 pre : List AV -> List AV -> World -> (Nat -> Prop) -> Prop
 premono : ∀ fs as_ W S W' S', cv W S W' S' -> pre fs as_ W S -> pre fs as_ W' S'
 out : List AV -> List AV -> GOut
 enters : ∀ args w, (callFunc f args).run P w = .ok (.enter f args) w
 ok : ∀ (w : World) (S : Nat -> Prop) (u : Value) (fp : List Nat) (us : List Value) (fs as_ : List AV), bz w u fp T fs -> (∀ b ∈ fp, b < w.heap.size) -> (∀ b ∈ fp, ¬ S b) -> xq w S kinds us as_ -> pre fs as_ w S ->
  Calls P f (u :: us).toArray w fun e w' => xZ w S u fp T e w' (out fs as_)
def mE (G : Nat -> Prop) (κ k : Nat) (T : TypeId) (W : World) (bs : List Nat) (q : Prop) (rs rs' cs : List Nat) : GOut -> R
 | .ret v fs => ⟨q /\ (k :: rs).Nodup /\ (∀ j ∈ rs', j ∉ k :: rs) /\ fs.length <= 7, .v v, dI rs ++ (cm (aS (8 * κ) fs) ++ [(k, some (.cells T (aI (8 * κ) fs)))]), none, [], k :: (rs ++ rs')⟩
 | .fact sh Φ fs => ⟨q /\ (k :: rs).Nodup /\ (∀ j ∈ rs', j ∉ k :: rs) /\ fs.length <= 7 /\ Up G W bs, sh.tm (8 * κ + 7),
   dI (rs ++ cs) ++ (cm (aS (8 * κ) fs) ++ [(k, some (.cells T (aI (8 * κ) fs))), (8 * κ + 7, some (.obj [] (iF G W bs Φ)))]), none, [], k :: (rs ++ rs')⟩
 | .pan c v => ⟨q /\ (k :: rs).Nodup /\ (∀ j ∈ rs', j ∉ k :: rs), .v v, [], some c, k :: rs, k :: (rs ++ rs')⟩
def tM (G : Nat -> Prop) (κ k : Nat) (T T' : TypeId) (W : World) (bs : List Nat) (pre : List AV -> List AV -> World -> (Nat -> Prop) -> Prop) (out : List AV -> List AV -> GOut) (g : GVL) : Option (List AV × List Nat) -> R
 | some (fs, rs) => mE G κ k T W bs (T' = T /\ g.p /\ pre fs g.as_ W (fg G bs)) rs g.rs g.cs (out fs g.as_)
 | none => .bad
def vK (G : Nat -> Prop) (h : Hp) (κ k : Nat) (T : TypeId) (W : World) (bs : List Nat) (pre : List AV -> List AV -> World -> (Nat -> Prop) -> Prop) (out : List AV -> List AV -> GOut) (g : GVL) : Option bm -> R
 | some (.cells T' vs) => tM G κ k T T' W bs pre out g (ay h vs)
 | _ => .bad
def yO (G : Nat -> Prop) (h : Hp) (κ : Nat) (T : TypeId) (W : World) (bs : List Nat) (kinds : List Kd) (pre : List AV -> List AV -> World -> (Nat -> Prop) -> Prop) (out : List AV -> List AV -> GOut) : List SV -> R
 | .own k 0 :: rest => vK G h κ k T W bs pre out (lA G W bs h kinds rest) (h k)
 | _ => .bad
section
variable {P : Program} {W : World} {bs : List Nat} {κ : Nat} {E : Nat -> Value} {F : Nat -> List Nat} {h : Nat -> Option bm} {w : World} {K : Nat -> Prop} {G : Nat -> Prop}
theorem Lw {w' : World} {k : Nat} {T : TypeId} {vs : List SV} {fs fs' : List AV} {rs fp' ks' fpn : List Nat} {cs : List Value} {R : List Value -> Value -> List Nat -> World -> Prop} (hs : al W bs E F h w) (hK : bI K h) (hk : ∀ k, k / 8 = κ -> ¬ K k)
  (hkk : h k = some (.cells T vs)) (hv : ay h vs = some (fs, rs)) (hlen : fs'.length <= 7) (hn : (k :: rs).Nodup) (hks : ∀ j ∈ ks', ∃ d R, h j = some (.obj d R))
  (ho : bz w' (E k) fp' T fs') (h1 : ∀ b ∈ fp', b ∈ (k :: rs).flatMap F \/ w.heap.size <= b) (h2 : ∀ b ∈ fp', b < w'.heap.size)
  (hfn : ∀ b ∈ fpn, b ∉ fp' /\ b < w'.heap.size /\ ((∃ j ∈ k :: (rs ++ ks'), b ∈ F j) \/ w.heap.size <= b)) (hR : ∀ w3 : World, (∀ b ∈ fpn, w3.heap[b]? = w'.heap[b]?) -> R [] (dv cs) fpn w3)
  (hkeep : ai w ((k :: rs).flatMap F) w') :
  ∃ E' F', (∀ j, j / 8 ≠ κ -> E' j = E j) /\ E' (8 * κ + 7) = dv cs /\ al W bs E' F' (aZ h (dI (rs ++ ks') ++ (cm (aS (8 * κ) fs') ++ [(k, some (.cells T (aI (8 * κ) fs'))), (8 * κ + 7, some (.obj [] R))]))) w' := by
 obtain ⟨b, us, hu, hb, hus, rfl, hnd⟩ := ho
 have hl := fJ hus
 have hKk : K k := (hK k _ hkk).1
 have hfr : ∀ j, 8 * κ <= j -> j < 8 * κ + 8 -> ¬ K j := fun j g1 g2 => hk j (by omega)
 have hk7 : k ≠ 8 * κ + 7 := fun e => hfr k (by omega) (by omega) hKk
 have hkf : k < 8 * κ \/ 8 * κ + 8 <= k := by
  by_cases g1 : k < 8 * κ
  ·exact .inl g1
  ·by_cases g2 : 8 * κ + 8 <= k
   ·exact .inr g2
   ·exact absurd hKk (hfr k (by omega) (by omega))
 have hE : ∀ j, j / 8 ≠ κ -> bg (fW (8 * κ) us E) (8 * κ + 7) (dv cs) j = E j := fun j hj => by
  rw [ak _ _ (by omega)]
  exact ib (by omega)
 have hsome : ∀ p ∈ cm (aS (8 * κ) fs') ++ [(k, some (.cells T (aI (8 * κ) fs'))), (8 * κ + 7, some (.obj [] R))], ∃ e, p.2 = some e := fun p hp => by
  rcases List.mem_append.1 hp with hp | hp
  ·obtain ⟨e, he, _⟩ := ej.1 hp; exact ⟨e, by rw [he]⟩
  ·simp at hp
   rcases hp with rfl | rfl
   ·exact ⟨_, rfl⟩
   ·exact ⟨_, rfl⟩
 have hrow7 : ∀ j e, (j, e) ∈ aS (8 * κ) fs' -> j ≠ 8 * κ + 7 := fun j e hm => by
  have := dw _ hm
  simp only at this
  omega
 have hNm : ∀ j e, aZ (fun _ => none) (cm (aS (8 * κ) fs') ++ [(k, some (.cells T (aI (8 * κ) fs'))), (8 * κ + 7, some (.obj [] R))]) j = some e ->
   (j = k /\ e = .cells T (aI (8 * κ) fs')) \/ (j = 8 * κ + 7 /\ e = .obj [] R) \/ (j ≠ k /\ j ≠ 8 * κ + 7 /\ (j, e) ∈ aS (8 * κ) fs') := fun j e he => by
  rw [cp] at he
  simp only [aZ] at he
  by_cases hj7 : j = 8 * κ + 7
  ·subst hj7; rw [ah] at he; cases he; exact .inr (.inl ⟨rfl, rfl⟩)
  ·rw [ak _ _ hj7] at he
   by_cases hj : j = k
   ·subst hj; rw [ah] at he; cases he; exact .inl ⟨rfl, rfl⟩
   ·rw [ak _ _ hj] at he
    rcases kM (fun _ => (none : Option bm)) (k := j) (u := cm (aS (8 * κ) fs')) with ⟨x, hx, hx'⟩ | ⟨_, hx'⟩
    ·rw [hx'] at he
     subst he
     obtain ⟨e', h3, h4⟩ := ej.1 hx
     simp only [Prod.mk.injEq, true_and, Option.some.injEq] at h3
     subst h3
     exact .inr (.inr ⟨hj, hj7, h4⟩)
    ·rw [hx'] at he; cases he
 have hNk : aZ (fun _ => none) (cm (aS (8 * κ) fs') ++ [(k, some (.cells T (aI (8 * κ) fs'))), (8 * κ + 7, some (.obj [] R))]) k = some (.cells T (aI (8 * κ) fs')) := by
  rw [cp]; simp only [aZ]; rw [ak _ _ hk7, ah]
 have hN7 : aZ (fun _ => none) (cm (aS (8 * κ) fs') ++ [(k, some (.cells T (aI (8 * κ) fs'))), (8 * κ + 7, some (.obj [] R))]) (8 * κ + 7) = some (.obj [] R) := by
  rw [cp]; simp [aZ, ah]
 have hb' : b ∉ rO us fs' := (List.nodup_cons.1 hnd).1
 have hnd' : (rO us fs').Nodup := (List.nodup_cons.1 hnd).2
 have own : ∀ j ∈ k :: (rs ++ ks'), ∃ e, h j = some e := fun j hj => by
  rcases List.mem_cons.1 hj with rfl | hj
  ·exact ⟨_, hkk⟩
  ·rcases List.mem_append.1 hj with hj | hj
   ·exact (bO hs hv).2 j hj
   ·obtain ⟨d, R', h'⟩ := hks j hj; exact ⟨_, h'⟩
 refine ⟨bg (fW (8 * κ) us E) (8 * κ + 7) (dv cs), bg (bg (fR (8 * κ) us fs' F) k [b]) (8 * κ + 7) fpn, hE, by rw [ah], ?_⟩
 refine hs.mK hK (k :: (rs ++ ks')) (aZ (fun _ => none) (cm (aS (8 * κ) fs') ++ [(k, some (.cells T (aI (8 * κ) fs'))), (8 * κ + 7, some (.obj [] R))])) own (fun j hj => hE j fun e => hk j e hj) (fun j e he => ?_) (fun i j e e' hij hi hj c hc => ?_) (fun j x hx hj => ?_) (fun j => ?_) ?_
 ·rcases hNm j e he with ⟨rfl, rfl⟩ | ⟨rfl, rfl⟩ | ⟨hjk, hj7, hm⟩
  ·rw [ak _ _ hk7, ak _ _ hk7, ah, ib (by omega)]
   refine ⟨⟨b, hu, rfl, ?_⟩, fun c hc => ?_, fun c hc => h2 c (by simp at hc; simp [hc])⟩
   ·rw [bG (E' := fW (8 * κ) us E) _ fun i hi => ak _ _ (by have := cq i hi; omega), eL hus]; exact hb
   ·simp only [List.mem_singleton] at hc
    subst hc
    rcases h1 c (by simp) with g | g
    ·obtain ⟨i, hi, hci⟩ := List.mem_flatMap.1 g
     exact .inl ⟨i, by rcases List.mem_cons.1 hi with hi | hi
                       ·exact List.mem_cons.2 (.inl hi)
                       ·exact List.mem_cons.2 (.inr (List.mem_append_left _ hi)), hci⟩
    ·exact .inr g
  ·rw [ah, ah]
   refine ⟨⟨⟨hR w' fun _ _ => rfl, rfl⟩, hR⟩, fun c hc => (hfn c hc).2.2, fun c hc => (hfn c hc).2.1⟩
  ·rw [ak _ _ hj7, ak _ _ hj7, ak _ _ hjk]
   obtain ⟨g1, g2⟩ := fQ (E := E) (F := F) hus hm (fW (8 * κ) us E)
   refine ⟨iO (fun i hi => ?_) g1, fun c hc => ?_, fun c hc => h2 c (List.mem_cons_of_mem _ (g2 c hc))⟩
   ·rw [(dw _ hm).2.2] at hi; cases hi
   ·rcases h1 c (List.mem_cons_of_mem _ (g2 c hc)) with g | g
    ·obtain ⟨i, hi, hci⟩ := List.mem_flatMap.1 g
     exact .inl ⟨i, by rcases List.mem_cons.1 hi with hi | hi
                       ·exact List.mem_cons.2 (.inl hi)
                       ·exact List.mem_cons.2 (.inr (List.mem_append_left _ hi)), hci⟩
    ·exact .inr g
 ·have hrowfp : ∀ i e, i ≠ k -> i ≠ 8 * κ + 7 -> (i, e) ∈ aS (8 * κ) fs' -> ∀ c ∈ bg (bg (fR (8 * κ) us fs' F) k [b]) (8 * κ + 7) fpn i, c ∈ rO us fs' := fun i e g1 g2 hm c hc => by
   rw [ak _ _ g2, ak _ _ g1] at hc
   exact bD hl hm c hc
  rcases hNm i e hi with ⟨rfl, rfl⟩ | ⟨rfl, rfl⟩ | ⟨hik, hi7, hmi⟩
  ·rw [ak _ _ hk7, ah] at hc
   simp only [List.mem_singleton] at hc
   subst hc
   rcases hNm j e' hj with ⟨rfl, rfl⟩ | ⟨rfl, rfl⟩ | ⟨hjk, hj7, hmj⟩
   ·exact absurd rfl hij
   ·rw [ah]
    exact fun hc' => (hfn c hc').1 (by simp)
   ·exact fun hc' => hb' (hrowfp j e' hjk hj7 hmj c hc')
  ·rw [ah] at hc
   have hc1 := (hfn c hc).1
   rcases hNm j e' hj with ⟨rfl, rfl⟩ | ⟨rfl, rfl⟩ | ⟨hjk, hj7, hmj⟩
   ·rw [ak _ _ hk7, ah]
    exact fun hc' => hc1 (by simp at hc'; simp [hc'])
   ·exact absurd rfl hij
   ·exact fun hc' => hc1 (List.mem_cons_of_mem _ (hrowfp j e' hjk hj7 hmj c hc'))
  ·rcases hNm j e' hj with ⟨rfl, rfl⟩ | ⟨rfl, rfl⟩ | ⟨hjk, hj7, hmj⟩
   ·have := hrowfp i e hik hi7 hmi c hc
    rw [ak _ _ hk7, ah]
    intro hc'
    simp only [List.mem_singleton] at hc'
    subst hc'
    exact hb' this
   ·have := hrowfp i e hik hi7 hmi c hc
    rw [ah]
    exact fun hc' => (hfn c hc').1 (List.mem_cons_of_mem _ this)
   ·rw [ak _ _ hi7, ak _ _ hik] at hc
    rw [ak _ _ hj7, ak _ _ hjk]
    exact eG hnd' hmi hmj hl hij c hc
 ·have hjk : j ≠ k := fun e => by rw [e, hNk] at hj; cases hj
  have hj7 : j ≠ 8 * κ + 7 := fun e => by rw [e, hN7] at hj; cases hj
  rw [ak _ _ hj7, ak _ _ hjk]
  have hKj := (hK j x hx).1
  by_cases g1 : j < 8 * κ
  ·exact gF (.inl g1)
  ·by_cases g2 : 8 * κ + 8 <= j
   ·exact gF (.inr (by omega))
   ·exact absurd hKj (hfr j (by omega) (by omega))
 ·rw [cp, jq _ _ _ hsome, kI]
  cases hN : aZ (fun _ => none) (cm (aS (8 * κ) fs') ++ [(k, some (.cells T (aI (8 * κ) fs'))), (8 * κ + 7, some (.obj [] R))]) j with
  | some e => rfl
  | none =>
   have hjk : j ≠ k := fun e => by rw [e, hNk] at hN; cases hN
   simp [hjk]
 ·refine hkeep.mono fun c hc => ?_
  obtain ⟨i, hi, hci⟩ := List.mem_flatMap.1 hc
  refine List.mem_flatMap.2 ⟨i, ?_, hci⟩
  rcases List.mem_cons.1 hi with hi | hi
  ·exact List.mem_cons.2 (.inl hi)
  ·exact List.mem_cons.2 (.inr (List.mem_append_left _ hi))
end
def yh.spec {P : Program} {f : FuncId} (p : yh P f) (G : Nat -> Prop) : Spec P f where
 ev := fun W bs κ h args => yO G h κ p.T W bs p.kinds p.pre p.out args
 good := fun W bs κ E F h w K args hs hK hk hx hside => by
  rw [p.enters]
  revert hside
  unfold yO
  split
  ·rename_i k rest
   generalize hg : lA G W bs h p.kinds rest = g
   cases hkk : h k with
   | none => exact fun hf => hf.elim
   | some e =>
    cases e with
    | row T s n vs => exact fun hf => hf.elim
    | obj d R => exact fun hf => hf.elim
    | cells T' vs =>
     simp only [vK]
     cases hv : ay h vs with
     | none => exact fun hf => hf.elim
     | some q =>
      obtain ⟨fs, rs⟩ := q
      simp only [tM]
      have hent := hs.ent k _ hkk
      obtain ⟨b, hu, _, _⟩ := hent
      have hden : den E (.own k 0) = E k := by simp [den, hu, base, cD]
      have hobj : g.p -> ∀ j ∈ g.cs, ∃ Φ, h j = some (.obj [] (iF G W bs Φ)) := fun hp => by rw [<- hg] at hp ⊢; exact o8 hp
      have hown : ∀ j ∈ k :: rs, ∃ e, h j = some e /\ ∀ d R, e ≠ .obj d R := fun j hj => by
       rcases List.mem_cons.1 hj with rfl | hj
       ·exact ⟨_, hkk, fun _ _ e => by cases e⟩
       ·obtain ⟨T, s, n, us, h1⟩ := js hv j hj
        exact ⟨_, h1, fun _ _ e => by cases e⟩
      have fM : ∀ c ∈ (k :: rs).flatMap F, (∃ j ∈ k :: rs, c ∈ F j) /\ c < w.heap.size /\ (W.heap.size <= c \/ c ∈ bs) := fun c hc => by
       obtain ⟨j, hj, hcj⟩ := List.mem_flatMap.1 hc
       obtain ⟨e, he, _⟩ := hown j hj
       exact ⟨⟨j, hj, hcj⟩, hs.lt j e he c hcj, hs.mine j e he c hcj⟩
      have hS0 : ∀ b, b < W.heap.size -> fg G bs b -> b ∉ (k :: rs).flatMap F := fun b h1 h2 hb => (fM b hb).2.2.elim (fun g => absurd g (Nat.not_le.2 h1)) h2.2
      have hS : ∀ b, b < W.heap.size -> fg G bs b -> (b < W.heap.size /\ fg G bs b) \/ ∃ j ∈ g.cs, b ∈ F j := fun b h1 h2 => .inl ⟨h1, h2⟩
      have hSf : g.p -> ∀ b ∈ (k :: rs).flatMap F, ¬ ((b < W.heap.size /\ fg G bs b) \/ ∃ j ∈ g.cs, b ∈ F j) := fun hp b hb hS => by
       rcases hS with ⟨h1, h2⟩ | ⟨j, hj, hbj⟩
       ·exact hS0 b h1 h2 hb
       ·obtain ⟨Φ, hj'⟩ := hobj hp j hj
        obtain ⟨i, hi, hbi⟩ := (fM b hb).1
        obtain ⟨e, he, hne⟩ := hown i hi
        refine hs.apart i j e _ (fun hij => ?_) he hj' b hbi hbj
        rw [hij, hj'] at he
        exact hne _ _ (Option.some.inj he).symm
      have call : ∀ hn : (k :: rs).Nodup, T' = p.T -> g.p -> p.pre fs g.as_ W (fg G bs) -> Calls P f (an E (.own k 0 :: rest)).toArray w fun e w' => xZ w (fun b => (b < W.heap.size /\ fg G bs b) \/ ∃ j ∈ g.cs, b ∈ F j) (E k) ((k :: rs).flatMap F) p.T e w' (p.out fs g.as_) := fun hn hT hp hpre => by
       subst hT
       have ho := eE hs hkk hv hn
       have hgs := Ao hs hS (kds := p.kinds) (l := rest) (by rw [hg]; exact hp) (by rw [hg]; exact fun j hj b hb => .inr ⟨j, hj, hb⟩)
       rw [hg] at hgs
       have := p.ok w _ (E k) _ (an E rest) fs g.as_ ho (fun c hc => (fM c hc).2.1) (hSf hp) hgs (p.premono _ _ _ _ _ _ (Nq hs.keeps hS) hpre)
       simpa only [an, hden] using this
      cases hout : p.out fs g.as_ with
      | ret v fs' =>
       simp only [mE]
       rintro ⟨⟨hT, hp, hpre⟩, hn, hd, hlen⟩
       have hc := call hn hT hp hpre
       rw [hout] at hc
       subst hT
       refine hc.mono fun e w' he => ?_
       obtain ⟨rfl, ⟨fp', ho, h1, h2⟩, hkeep⟩ := he
       obtain ⟨E', F', hE', hs'⟩ := mL hs hK hk hkk hv (by omega) hn ho h1 h2 hkeep
       exact ⟨rfl, E', F', hE', rfl, hs'⟩
      | fact sh Φ fs' =>
       simp only [mE]
       rintro ⟨⟨hT, hp, hpre⟩, hn, hd, hlen, hup⟩
       have hc := call hn hT hp hpre
       rw [hout] at hc
       subst hT
       refine hc.mono fun e w' he => ?_
       obtain ⟨cs, rfl, ⟨fp', ho, h1, h2, hΦ⟩, hkeep⟩ := he
       have hfn : ∀ b, b ∈ (List.range' w.heap.size (w'.heap.size - w.heap.size) ++ (k :: (rs ++ g.cs)).flatMap F).filter (· ∉ fp') ↔ ((w.heap.size <= b /\ b < w'.heap.size) \/ ∃ j ∈ k :: (rs ++ g.cs), b ∈ F j) /\ b ∉ fp' := fun b => by
        simp only [List.mem_filter, List.mem_append, mo hkeep.size b, List.mem_flatMap, decide_eq_true_eq]
       have hown' : ∀ j ∈ k :: (rs ++ g.cs), ∃ e, h j = some e := fun j hj => by
        rcases List.mem_cons.1 hj with rfl | hj
        ·exact ⟨_, hkk⟩
        ·rcases List.mem_append.1 hj with hj | hj
         ·obtain ⟨e, he, _⟩ := hown j (List.mem_cons_of_mem _ hj); exact ⟨e, he⟩
         ·obtain ⟨Φ', h'⟩ := hobj hp j hj; exact ⟨_, h'⟩
       have hsub : ∀ j ∈ k :: rs, j ∈ k :: (rs ++ g.cs) := fun j hj => by
        rcases List.mem_cons.1 hj with hj | hj
        ·exact List.mem_cons.2 (.inl hj)
        ·exact List.mem_cons.2 (.inr (List.mem_append_left _ hj))
       have hR := yx (G := G) (fp := (List.range' w.heap.size (w'.heap.size - w.heap.size) ++ (k :: (rs ++ g.cs)).flatMap F).filter (· ∉ fp')) (S := fun b => ((b < W.heap.size /\ fg G bs b) \/ ∃ j ∈ g.cs, b ∈ F j) /\ b ∉ fp') hs.keeps hkeep hΦ
        (fun b hb => hb.1.elim .inl fun ⟨j, hj, hbj⟩ => .inr ((hfn b).2 ⟨.inr ⟨j, List.mem_cons.2 (.inr (List.mem_append_right _ hj)), hbj⟩, hb.2⟩)) hS0
        (fun b hb hn => by
         by_cases hbw : b < w.heap.size
         ·rcases hn.1 hbw with h3 | h3
          ·exact .inl ⟨hbw, h3, hn.2⟩
          ·obtain ⟨j, hj, hbj⟩ := (fM b h3).1
           exact .inr ((hfn b).2 ⟨.inr ⟨j, hsub j hj, hbj⟩, hn.2⟩)
         ·exact .inr ((hfn b).2 ⟨.inl ⟨by omega, hb⟩, hn.2⟩))
        (fun b hb => by
         rcases ((hfn b).1 hb).1 with h3 | ⟨j, hj, hbj⟩
         ·exact hup b (.inl (Nat.le_trans hs.keeps.size h3.1))
         ·obtain ⟨e, he⟩ := hown' j hj
          exact hup b (hs.mine j e he b hbj))
       obtain ⟨E', F', hE', hE7, hs'⟩ := Lw (ks' := g.cs) (R := iF G W bs Φ) (cs := cs) hs hK hk hkk hv hlen hn (fun j hj => by obtain ⟨Φ', h'⟩ := hobj hp j hj; exact ⟨_, _, h'⟩) ho h1 h2
        (fun b hb => by
         obtain ⟨h3, h4⟩ := (hfn b).1 hb
         refine ⟨h4, ?_, h3.elim (fun h => .inr h.1) .inl⟩
         rcases h3 with h3 | ⟨j, hj, hbj⟩
         ·exact h3.2
         ·obtain ⟨e, he⟩ := hown' j hj
          exact Nat.lt_of_lt_of_le (hs.lt j e he b hbj) hkeep.size) hR hkeep
       refine ⟨rfl, E', F', hE', ?_, hs'⟩
       rw [sh.g, hE7]; rfl
      | pan c _ =>
       simp only [mE]
       rintro ⟨⟨hT, hp, hpre⟩, hn, hd⟩
       have hc := call hn hT hp hpre
       rw [hout] at hc
       refine hc.mono fun e w' he => ?_
       obtain ⟨rfl, hkeep⟩ := he
       refine ⟨rfl, F, ?_⟩
       refine hs.mK hK (k :: rs) (fun _ => none) (fun j hj => ?_) (fun _ _ => rfl) (fun j e he => by cases he) (fun i j e e' _ he => by cases he) (fun _ _ _ _ => rfl) (fun j => ?_) hkeep
       ·obtain ⟨e, he, _⟩ := hown j hj; exact ⟨e, he⟩
       ·simp only [dropKeys]
  ·exact fun hf => hf.elim
 keys := fun W bs κ h K args hK hx hside => by
  revert hside
  unfold yO
  split
  ·rename_i k rest
   generalize hg : lA G W bs h p.kinds rest = g
   cases hkk : h k with
   | none => exact fun hf => hf.elim
   | some e =>
    cases e with
    | row T s n vs => exact fun hf => hf.elim
    | obj d R => exact fun hf => hf.elim
    | cells T' vs =>
     simp only [vK]
     cases hv : ay h vs with
     | none => exact fun hf => hf.elim
     | some q =>
      obtain ⟨fs, rs⟩ := q
      simp only [tM]
      have hobj : g.p -> ∀ j ∈ g.cs, ∃ Φ, h j = some (.obj [] (iF G W bs Φ)) := fun hp => by rw [<- hg] at hp ⊢; exact o8 hp
      have row : ∀ fs' : List AV, fs'.length <= 7 -> ∀ q ∈ cm (aS (8 * κ) fs'), (K q.1 \/ q.1 / 8 = κ) /\ ∀ e, q.2 = some e -> ∀ j ∈ e.keys, K j \/ j / 8 = κ := fun fs' hlen q hq => by
       obtain ⟨e, h1, h2⟩ := ej.1 hq
       obtain ⟨h3, h4⟩ := s5 (by omega) h2
       refine ⟨.inr h3, fun e' he' j hj => ?_⟩
       rw [h1] at he'
       simp only [Option.some.injEq] at he'
       subst he'
       rw [h4] at hj
       cases hj
      have cel : ∀ fs' : List AV, fs'.length <= 7 -> (K k \/ k / 8 = κ) /\ ∀ e, some (bm.cells p.T (aI (8 * κ) fs')) = some e -> ∀ j ∈ e.keys, K j \/ j / 8 = κ := fun fs' hlen => by
       refine ⟨.inl (hK k _ hkk).1, fun e' he' j hj => .inr ?_⟩
       simp only [Option.some.injEq] at he'
       subst he'
       have := cq j hj
       omega
      cases hout : p.out fs g.as_ with
      | ret v fs' =>
       simp only [mE]
       rintro ⟨_, hn, hd, hlen⟩
       refine ⟨fun j hj => (by cases hj), fun q hq => ?_⟩
       simp only [List.mem_append, List.mem_singleton] at hq
       rcases hq with hq | hq | rfl
       ·simp only [dI, List.mem_map] at hq
        obtain ⟨j, hj, rfl⟩ := hq
        exact ⟨.inl (pn hK hv j hj), fun e he => by cases he⟩
       ·exact row fs' hlen q hq
       ·exact cel fs' hlen
      | fact sh Φ fs' =>
       simp only [mE]
       rintro ⟨⟨_, hp, _⟩, hn, hd, hlen, hup⟩
       refine ⟨fun j hj => .inr (by rw [sh.k _ j hj]; omega), fun q hq => ?_⟩
       simp only [List.mem_append, List.mem_cons, List.not_mem_nil, or_false] at hq
       rcases hq with hq | hq | rfl | rfl
       ·simp only [dI, List.mem_map, List.mem_append] at hq
        obtain ⟨j, hj, rfl⟩ := hq
        rcases hj with hj | hj
        ·exact ⟨.inl (pn hK hv j hj), fun e he => by cases he⟩
        ·obtain ⟨Φ', h'⟩ := hobj hp j hj
         exact ⟨.inl (hK j _ h').1, fun e he => by cases he⟩
       ·exact row fs' hlen q hq
       ·exact cel fs' hlen
       ·refine ⟨.inr (by simp only; omega), fun e he k hk => ?_⟩
        simp only [Option.some.injEq] at he
        subst he
        cases hk
      | pan c _ =>
       simp only [mE]
       rintro _
       exact ⟨fun j hj => (by cases hj), fun q hq => by cases hq⟩
  ·exact fun hf => hf.elim
 loc := fun W bs κ h h' args hside hr => by
  revert hside hr
  unfold yO
  split
  ·rename_i k rest
   generalize hg : lA G W bs h p.kinds rest = g
   cases hkk : h k with
   | none => exact fun hf => hf.elim
   | some e =>
    cases e with
    | row T s n vs => exact fun hf => hf.elim
    | obj d R => exact fun hf => hf.elim
    | cells T' vs =>
     simp only [vK]
     cases hv : ay h vs with
     | none => exact fun hf => hf.elim
     | some q =>
      obtain ⟨fs, rs⟩ := q
      simp only [tM]
      intro hside hr
      have hp : g.p := by
       revert hside
       cases p.out fs g.as_ <;> exact fun h => h.1.2.1
      have hr' : ∀ j ∈ k :: (rs ++ g.rs), h' j = h j := by
       revert hr
       cases p.out fs g.as_ <;> exact fun h => h
      have e1 : h' k = some (.cells T' vs) := by rw [hr' k (by simp), hkk]
      have e2 : lA G W bs h' p.kinds rest = g := by
       rw [<- hg]
       exact zk (by rw [hg]; exact hp) (by rw [hg]; exact fun j hj => hr' j (by simp [hj]))
      have e3 : ay h' vs = some (fs, rs) := cF hv fun j hj => hr' j (by simp [hj])
      rw [e1, e2]
      simp only [vK, e3, tM]
  ·exact fun hf => hf.elim
theorem jH {P : Program} {f : FuncId} (p : yh P f) (G : Nat -> Prop) (W : World) (bs : List Nat) (κ : Nat) (h : Hp) (l : List SV) : (p.spec G).ev W bs κ h l = yO G h κ p.T W bs p.kinds p.pre p.out l := rfl
end
section
open Go.RowKit
def cG (w : World) (S : Nat -> Prop) : Nat -> Prop := fun b => b < w.heap.size -> S b
def aL (w : World) (S : Nat -> Prop) (fp : List Nat) : Nat -> Prop := fun b => b < w.heap.size -> S b \/ b ∈ fp
theorem cG.up (w : World) (S : Nat -> Prop) : Up (cG w S) w [] := fun b hb hlt => by
 rcases hb with hb | hb
 ·omega
 ·cases hb
theorem aL.up (w : World) (S : Nat -> Prop) (fp : List Nat) : Up (aL w S fp) w fp := fun b hb hlt => by
 rcases hb with hb | hb
 ·omega
 ·exact .inr hb
theorem cG.h9 (w : World) (S : Nat -> Prop) : cv w S w (fg (cG w S) []) := fun b hb hS => ⟨rfl, fun _ => hS, by simp⟩
theorem aL.h9 (w : World) (S : Nat -> Prop) (fp : List Nat) (h : ∀ b ∈ fp, ¬ S b) : cv w S w (fg (aL w S fp) fp) := fun b hb hS => ⟨rfl, fun _ => .inl hS, fun hf => h b hf hS⟩
def OE (w : World) (S : Nat -> Prop) (W' : World) (bs' : List Nat) (x : SV) : FOut -> Prop
 | .val v => ∀ E, den E x = v
 | .fact sh Φ => ∃ cs, (∀ E, den E x = sh.val cs) /\ Φ.Φ cs W' (fg (cG w S) bs')
 | .pan _ _ => False
theorem eI {P : Program} {f : FuncId} {fn : Func} {c : Code} {args : Array Value} {w : World} {nt : Nat} {out : FOut} (S : Nat -> Prop) (rs : List ResultVar)
  (hf : P.funcs[f]? = some fn) (hb : fn.body = some c) (hrs : fn.results.toList = rs) (hnt : args.size + (fn.ntmps - args.size) = nt)
  (h : Wp P w [] nt ⟨[], []⟩ c (Fin P rs (fun W' bs' x _ => OE w S W' bs' x out) (fun c _ => ∃ v, out = .pan c v)) (σ0 args.toList)) :
  Calls P f args w fun e w' => mw w S e w' out := by
 subst hrs
 refine (jB hf hb (nB args hnt) h).mono fun e w' he => ?_
 cases e with
 | returned u =>
  obtain ⟨W', bs', E, F, x, h, hx, hok, rfl, hs, _⟩ := he
  cases out with
  | val v => exact ⟨by rw [hok E], hx.Dx hs.keeps⟩
  | fact sh Φ =>
   obtain ⟨cs, hd, hΦ⟩ := hok
   exact ⟨cs, by rw [hd E], Φ.mono (fun b hb hr => ⟨hs.keeps.block b hb hr.2, hr.1⟩) hΦ, hx.Dx hs.keeps⟩
  | pan c v => exact hok.elim
 | panicked c =>
  obtain ⟨W', bs', E, F, h', hx, ⟨v, rfl⟩, hs, _⟩ := he
  exact ⟨rfl, hx.Dx hs.keeps⟩
 | outgrown => exact he.elim
def Oo (w : World) (S : Nat -> Prop) (fp : List Nat) (T : TypeId) (W' : World) (bs' : List Nat) (x : SV) (h : Hp) : GOut -> Prop
 | .ret v fs' => (∀ E, den E x = v) /\ ∃ vs ks, h 0 = some (.cells T vs) /\ ay h vs = some (fs', ks) /\ (0 :: ks).Nodup
 | .fact sh Φ fs' => (∃ cs, (∀ E, den E x = sh.val cs) /\ Φ.Φ cs W' (fg (aL w S fp) bs')) /\ ∃ vs ks, h 0 = some (.cells T vs) /\ ay h vs = some (fs', ks) /\ (0 :: ks).Nodup
 | .pan _ _ => False
theorem gO {P : Program} {f : FuncId} {fn : Func} {c : Code} {w : World} {nt : Nat} {T : TypeId} {u : Value} {fp : List Nat} {fs : List AV} {out : GOut} (S : Nat -> Prop) (us : Array Value) (rs : List ResultVar)
  (hlen : fs.length <= 7) (ho : bz w u fp T fs) (hlt : ∀ b ∈ fp, b < w.heap.size)
  (hf : P.funcs[f]? = some fn) (hb : fn.body = some c) (hrs : fn.results.toList = rs) (hnt : us.size + 1 + (fn.ntmps - (us.size + 1)) = nt)
  (h : Wp P w fp nt ⟨[], [(0, u)]⟩ c (Fin P rs (fun W' bs' x h => Oo w S fp T W' bs' x h out) (fun c _ => ∃ v, out = .pan c v)) (σB T fs us.toList)) :
  Calls P f (#[u] ++ us) w fun e w' => xZ w S u fp T e w' out := by
 subst hrs
 have hsat := vW (nt := nt) (m := fn.ntmps - (us.size + 1)) us hlen ho hlt hnt
 have hsz : (#[u] ++ us).size = us.size + 1 := by simp; omega
 refine (jB hf hb (by rw [hsz]; exact hsat) h).mono fun e w' he => ?_
 cases e with
 | returned v' =>
  obtain ⟨W', bs', E, F, x, h', hx, hok, rfl, hs, hp⟩ := he
  have hs' := hs.back hx
  have hE : E 0 = u := hp (0, u) (by simp)
  have back : ∀ {vs ks fs'}, h' 0 = some (.cells T vs) -> ay h' vs = some (fs', ks) -> (0 :: ks).Nodup -> bz w' u ((0 :: ks).flatMap F) T fs' /\ (∀ b ∈ (0 :: ks).flatMap F, b ∈ fp \/ w.heap.size <= b) /\ (∀ b ∈ (0 :: ks).flatMap F, b < w'.heap.size) /\ ∀ b ∈ (0 :: ks).flatMap F, W'.heap.size <= b \/ b ∈ bs' := fun {vs ks fs'} h0 hv hn => by
   have ho' := eE hs' h0 hv hn
   rw [hE] at ho'
   have own : ∀ b ∈ (0 :: ks).flatMap F, ∃ j e, h' j = some e /\ b ∈ F j := fun b hb => by
    obtain ⟨j, hj, hbj⟩ := List.mem_flatMap.1 hb
    rcases List.mem_cons.1 hj with rfl | hj
    ·exact ⟨_, _, h0, hbj⟩
    ·obtain ⟨e, he⟩ := (bO hs' hv).2 j hj
     exact ⟨_, e, he, hbj⟩
   refine ⟨ho', fun b hb => ?_, fun b hb => ?_, fun b hb => ?_⟩
   ·obtain ⟨j, e, he, hbj⟩ := own b hb; exact (hs'.mine j e he b hbj).symm
   ·obtain ⟨j, e, he, hbj⟩ := own b hb; exact hs'.lt j e he b hbj
   ·obtain ⟨j, e, he, hbj⟩ := own b hb; exact hs.mine j e he b hbj
  cases out with
  | ret v fs' =>
   obtain ⟨hd, vs, ks, h0, hv, hn⟩ := hok
   obtain ⟨g1, g2, g3, _⟩ := back h0 hv hn
   exact ⟨by rw [hd E], ⟨_, g1, g2, g3⟩, hs'.keeps⟩
  | fact sh Φ fs' =>
   obtain ⟨⟨cs, hd, hΦ⟩, vs, ks, h0, hv, hn⟩ := hok
   obtain ⟨g1, g2, g3, g4⟩ := back h0 hv hn
   exact ⟨cs, by rw [hd E], ⟨_, g1, g2, g3, Φ.mono (fun b hb hr => ⟨hs.keeps.block b hb hr.2, hr.1, fun hf => (g4 b hf).elim (fun g => absurd g (Nat.not_le.2 hb)) hr.2⟩) hΦ⟩, hs'.keeps⟩
  | pan c v => exact hok.elim
 | panicked c =>
  obtain ⟨W', bs', E, F, h', hx, ⟨_, rfl⟩, hs, hp⟩ := he
  exact ⟨rfl, (hs.back hx).keeps⟩
 | outgrown => exact he.elim
section
variable (G : Nat -> Prop) (W : World) (bs : List Nat) (h : Hp) (κ k : Nat) (T T' : TypeId)
theorem Qu (x : Value) : cC (.v x) = some x := rfl
theorem FM (k o : Nat) : cC (.own k o) = none := rfl
theorem K9 (k : Nat) : cC (.hd k) = none := rfl
theorem CN (k i : Nat) : cC (.part k i) = none := rfl
theorem FY (l : List SV) : cC (.agg l) = (fi l).map fun vs => .agg vs.toArray := rfl
theorem Ep (t : TypeId) (x : SV) : cC (.ifc t x) = (cC x).map (.iface t) := rfl
theorem JX (f : Fn) (a c : List SV) : cC (.fn f a c) = func2 f (fi a) (fi c) := rfl
theorem FB : fi [] = some [] := rfl
theorem Di (x : SV) (r : List SV) : fi (x :: r) = rR (cC x) (fi r) := rfl
theorem F5 (v : Value) (vs : List Value) : rR (some v) (some vs) = some (v :: vs) := rfl
theorem E4 (o : Option (List Value)) : rR none o = none := rfl
theorem CQ (v : Value) : rR (some v) none = none := rfl
theorem Fx (f : Fn) (a c : List Value) : func2 f (some a) (some c) = some (.func f a.toArray c.toArray) := rfl
theorem wX (k i : Nat) : jt (.part k i) = some k := rfl
theorem zU (k i : Nat) (r : List SV) : jt (.agg (.part k i :: r)) = some k := rfl
theorem Tz : lA G W bs h [] [] = ⟨True, [], [], []⟩ := rfl
theorem Nu (kd : Kd) (ks : List Kd) (x : SV) (r : List SV) : lA G W bs h (kd :: ks) (x :: r) = XS (wq G W bs h kd x) (lA G W bs h ks r) := rfl
theorem QP (x : SV) : wq G W bs h none x = VT (cg h x) := rfl
theorem NV (sh : Sh) (Φ : FK) (x : SV) : wq G W bs h (some (sh, Φ)) x = V2 G W bs h sh Φ x (cC x) (jt x) := rfl
theorem LD (a : AV) (r : List Nat) : VT (some (a, r)) = ⟨True, a, r, []⟩ := rfl
theorem X7 (sh : Sh) (Φ : FK) (x : SV) (v : Value) (o : Option Nat) : V2 G W bs h sh Φ x (some v) o = ⟨∃ cs, v = sh.val cs /\ Φ.Φ cs W (fg G bs), .val undef, [], []⟩ := rfl
theorem XX (sh : Sh) (Φ : FK) (x : SV) (k : Nat) : V2 G W bs h sh Φ x none (some k) = WO G W bs sh Φ x k (h k) := rfl
theorem Uq (sh : Sh) (Φ : FK) (x : SV) (k : Nat) (d : List Value) (R : List Value -> Value -> List Nat -> World -> Prop) : WO G W bs sh Φ x k (some (.obj d R)) = ⟨x = sh.tm k /\ d = [] /\ R = iF G W bs Φ, .val undef, [k], [k]⟩ := rfl
theorem Wn (p q : Prop) (a : AV) (as_ : List AV) (r rs c cs : List Nat) : XS ⟨p, a, r, c⟩ ⟨q, as_, rs, cs⟩ = ⟨p /\ q, a :: as_, r ++ rs, c ++ cs⟩ := rfl
theorem NA (pre : List AV -> World -> (Nat -> Prop) -> Prop) (out : List AV -> FOut) (p : Prop) (as_ : List AV) (rs cs : List Nat) : u4 G κ W bs pre out ⟨p, as_, rs, cs⟩ = pr G κ W bs (p /\ pre as_ W (fg G bs)) rs cs (out as_) := rfl
theorem Mv (q : Prop) (rs cs : List Nat) (v : Value) : pr G κ W bs q rs cs (.val v) = ⟨q, .v v, [], none, [], rs⟩ := rfl
theorem Ho (q : Prop) (rs cs : List Nat) (sh : Sh) (Φ : FK) : pr G κ W bs q rs cs (.fact sh Φ) = ⟨q /\ Up G W bs, sh.tm (8 * κ), dI cs ++ [(8 * κ, some (.obj [] (iF G W bs Φ)))], none, [], rs⟩ := rfl
theorem Lz (q : Prop) (rs cs : List Nat) (c : List PanicEntry) (v : Value) : pr G κ W bs q rs cs (.pan c v) = ⟨q, .v v, [], some c, [], rs⟩ := rfl
theorem LH (kinds : List Kd) (pre : List AV -> List AV -> World -> (Nat -> Prop) -> Prop) (out : List AV -> List AV -> GOut) (rest : List SV) : yO G h κ T W bs kinds pre out (.own k 0 :: rest) = vK G h κ k T W bs pre out (lA G W bs h kinds rest) (h k) := rfl
theorem CF (pre : List AV -> List AV -> World -> (Nat -> Prop) -> Prop) (out : List AV -> List AV -> GOut) (g : GVL) (vs : List SV) : vK G h κ k T W bs pre out g (some (.cells T' vs)) = tM G κ k T T' W bs pre out g (ay h vs) := rfl
theorem NH (pre : List AV -> List AV -> World -> (Nat -> Prop) -> Prop) (out : List AV -> List AV -> GOut) (p : Prop) (as_ fs : List AV) (rs cs rs0 : List Nat) : tM G κ k T T' W bs pre out ⟨p, as_, rs, cs⟩ (some (fs, rs0)) = mE G κ k T W bs (T' = T /\ p /\ pre fs as_ W (fg G bs)) rs0 rs cs (out fs as_) := rfl
theorem LL (q : Prop) (rs rs' cs : List Nat) (v : Value) (fs : List AV) : mE G κ k T W bs q rs rs' cs (.ret v fs) = ⟨q /\ (k :: rs).Nodup /\ (∀ j ∈ rs', j ∉ k :: rs) /\ fs.length <= 7, .v v, dI rs ++ (cm (aS (8 * κ) fs) ++ [(k, some (.cells T (aI (8 * κ) fs)))]), none, [], k :: (rs ++ rs')⟩ := rfl
theorem HA (q : Prop) (rs rs' cs : List Nat) (sh : Sh) (Φ : FK) (fs : List AV) : mE G κ k T W bs q rs rs' cs (.fact sh Φ fs) = ⟨q /\ (k :: rs).Nodup /\ (∀ j ∈ rs', j ∉ k :: rs) /\ fs.length <= 7 /\ Up G W bs, sh.tm (8 * κ + 7), dI (rs ++ cs) ++ (cm (aS (8 * κ) fs) ++ [(k, some (.cells T (aI (8 * κ) fs))), (8 * κ + 7, some (.obj [] (iF G W bs Φ)))]), none, [], k :: (rs ++ rs')⟩ := rfl
theorem L6 (q : Prop) (rs rs' cs : List Nat) (c : List PanicEntry) (v : Value) : mE G κ k T W bs q rs rs' cs (.pan c v) = ⟨q /\ (k :: rs).Nodup /\ (∀ j ∈ rs', j ∉ k :: rs), .v v, [], some c, k :: rs, k :: (rs ++ rs')⟩ := rfl
theorem Wj (k : Nat) : Sh.one.tm k = .part k 0 := rfl
theorem We (k : Nat) : Sh.two.tm k = .agg [.part k 0, .part k 1] := rfl
end
def YI := ab @Qu <| ab @FM <| ab @K9 <| ab @CN <| ab @FY <| ab @Ep <| ab @JX <| ab @FB <| ab @Di <| ab @F5 <| ab @E4 <| ab @CQ <| ab @Fx <| ab @wX <| ab @zU <| ab @Tz <| ab @Nu <| ab @QP <| ab @NV <| ab @LD <| ab @X7 <| ab @XX <| ab @Uq <| ab @Wn <| ab @NA <| ab @Mv <| ab @Ho <| ab @Lz <| ab @LH <| ab @CF <| ab @NH <| ab @LL <| ab @HA <| ab @L6 <| ab @Wj <| ab @We <| ab @fz @jH
end
section
open Go.RowKit
theorem iR {P : Program} {W : World} {bs : List Nat} {nt : Nat} {ds : Aux} {Q : jX} {σ : St} {x y : Code} {ι : Type} (I : ι -> St) (V : ι -> World) (B : ι -> List Nat) (ok : ι -> Prop)
  (h1 : Wp P W bs nt ds x (Th (fun W' bs' σ1 => ∃ p, ok p /\ V p = W' /\ B p = bs' /\ Le W' bs' nt ds σ1 (I p)) Q) σ)
  (h2 : ∀ p, ok p -> Ext W bs (V p) (B p) -> Wp P (V p) (B p) nt ds y Q (I p)) : Wp P W bs nt ds (.seq x y) Q σ := fun a w hs =>
 wp_seq (wp_mono (h1 a w hs) fun e a' w' ⟨W', bs', σ1, he, hq, hs'⟩ => by
  cases e with
  | normal =>
   obtain ⟨p, hp, rfl, rfl, hle⟩ := hq
   exact wp_mono (h2 p hp he a' w' (hle a' w' hs')) fun e' a'' w'' hh => nC he hh
  | _ => exact ⟨W', bs', σ1, he, hq, hs'⟩)
end
section
open Go.RowKit
structure Df (P : Program) (f : FuncId) where
 T : TypeId
 pre : World -> List Nat -> List AV -> List AV -> Prop
 res : World -> List AV -> List AV -> Value
 enters : ∀ args w, (callFunc f args).run P w = .ok (.enter f args) w
 ok : ∀ (W w : World) (bs : List Nat) (u : Value) (fp : List Nat) (us : List Value) (fs as_ : List AV), ai W bs w -> bz w u fp T fs -> eD w us as_ -> pre W bs fs as_ ->
  Calls P f (u :: us).toArray w fun e w' => e = .returned (res W fs as_) /\ ai w [] w'
def vN (k : Nat) (T T' : TypeId) (pre : List AV -> List AV -> Prop) (res : List AV -> List AV -> Value) (as_ : List AV) (rs' : List Nat) : Option (List AV × List Nat) -> R
 | some (fs, rs) => ⟨(T' = T /\ (k :: rs).Nodup) /\ pre fs as_, .v (res fs as_), [], none, [], k :: (rs ++ rs')⟩
 | none => .bad
def vg (h : Hp) (k : Nat) (T : TypeId) (pre : List AV -> List AV -> Prop) (res : List AV -> List AV -> Value) : Option bm -> Option (List AV × List Nat) -> R
 | some (.cells T' vs), some (as_, rs') => vN k T T' pre res as_ rs' (ay h vs)
 | _, _ => .bad
def xr (h : Hp) (T : TypeId) (pre : List AV -> List AV -> Prop) (res : List AV -> List AV -> Value) : List SV -> R
 | .own k 0 :: rest => vg h k T pre res (h k) (ay h rest)
 | _ => .bad
def Df.spec {P : Program} {f : FuncId} (p : Df P f) : Spec P f where
 ev := fun W bs κ h args => xr h p.T (p.pre W bs) (p.res W) args
 good := fun W bs κ E F h w K args hs hK hk hx hside => by
  rw [p.enters]
  revert hside
  unfold xr
  split
  ·rename_i k rest
   cases hkk : h k with
   | none => exact fun hf => hf.elim
   | some e =>
    cases e with
    | row T s n vs => exact fun hf => hf.elim
    | obj d R => exact fun hf => hf.elim
    | cells T' vs =>
     cases hr : ay h rest with
     | none => exact fun hf => hf.elim
     | some q =>
      obtain ⟨as_, rs'⟩ := q
      simp only [vg]
      cases hv : ay h vs with
      | none => exact fun hf => hf.elim
      | some q =>
       obtain ⟨fs, rs⟩ := q
       simp only [vN]
       rintro ⟨⟨rfl, hn⟩, hp⟩
       have hent := hs.ent k _ hkk
       obtain ⟨b, hu, _, _⟩ := hent
       have hden : den E (.own k 0) = E k := by simp [den, hu, base, cD]
       have ho := eE hs hkk hv hn
       have := p.ok W w bs (E k) _ (an E rest) fs as_ hs.keeps ho (dE hs hr) hp
       have e : an E (.own k 0 :: rest) = E k :: an E rest := by simp only [an, hden]
       rw [e]
       exact qC hs this rfl rfl rfl
  ·exact fun hf => hf.elim
 keys := fun W bs κ h K args hK hx hside => by
  revert hside
  unfold xr
  split
  ·rename_i k rest
   cases hkk : h k with
   | none => exact fun hf => hf.elim
   | some e =>
    cases e with
    | row T s n vs => exact fun hf => hf.elim
    | obj d R => exact fun hf => hf.elim
    | cells T' vs =>
     cases hr : ay h rest with
     | none => exact fun hf => hf.elim
     | some q =>
      obtain ⟨as_, rs'⟩ := q
      simp only [vg]
      cases hv : ay h vs with
      | none => exact fun hf => hf.elim
      | some q =>
       obtain ⟨fs, rs⟩ := q
       simp only [vN]
       exact fun _ => aH.plain (fun k hk => by cases hk) rfl
  ·exact fun hf => hf.elim
 loc := fun W bs κ h h' args hside hr => by
  revert hside hr
  unfold xr
  split
  ·rename_i k rest
   cases hkk : h k with
   | none => exact fun hf => hf.elim
   | some e =>
    cases e with
    | row T s n vs => exact fun hf => hf.elim
    | obj d R => exact fun hf => hf.elim
    | cells T' vs =>
     cases hrr : ay h rest with
     | none => exact fun hf => hf.elim
     | some q =>
      obtain ⟨as_, rs'⟩ := q
      simp only [vg]
      cases hv : ay h vs with
      | none => exact fun hf => hf.elim
      | some q =>
       obtain ⟨fs, rs⟩ := q
       simp only [vN]
       intro _ hr
       have e1 : h' k = some (.cells T' vs) := by rw [hr k (by simp), hkk]
       have e2 : ay h' rest = some (as_, rs') := cF hrr fun j hj => hr j (by simp [hj])
       have e3 : ay h' vs = some (fs, rs) := cF hv fun j hj => hr j (by simp [hj])
       rw [e1, e2]
       simp only [vg, e3, vN]
  ·exact fun hf => hf.elim
section
variable (h : Hp) (k : Nat) (T T' : TypeId) (pre : List AV -> List AV -> Prop) (res : List AV -> List AV -> Value)
theorem RV {P : Program} {f : FuncId} (p : Df P f) (W : World) (bs : List Nat) (κ : Nat) (h : Hp) (l : List SV) : p.spec.ev W bs κ h l = xr h p.T (p.pre W bs) (p.res W) l := rfl
theorem Kx (rest : List SV) : xr h T pre res (.own k 0 :: rest) = vg h k T pre res (h k) (ay h rest) := rfl
theorem BB (vs : List SV) (as_ : List AV) (rs' : List Nat) : vg h k T pre res (some (.cells T' vs)) (some (as_, rs')) = vN k T T' pre res as_ rs' (ay h vs) := rfl
theorem HC (as_ fs : List AV) (rs' rs : List Nat) : vN k T T' pre res as_ rs' (some (fs, rs)) = ⟨(T' = T /\ (k :: rs).Nodup) /\ pre fs as_, .v (res fs as_), [], none, [], k :: (rs ++ rs')⟩ := rfl
end
section
variable {P : Program} (κ : Nat) (h : Hp) (T : TypeId)
theorem zo (k : Nat) (ik : IntKind) (b : Int) : dZ P κ h T false true false [.hd k, .v (.int ik b)] = yd P κ k b (P.underlying T) (h k) := rfl
theorem GC (k : Nat) (b : Int) (e e' : TypeId) (s n : Nat) (vs : List SV) : yd P κ k b (some (.slice e)) (some (.row e' s n vs)) = rn κ k b e' s n vs (ts P e) := rfl
theorem By (k : Nat) (b : Int) (e s n s' : Nat) (vs : List SV) : rn κ k b e s n vs (some s') = ⟨s' = s /\ 0 <= b /\ b.toNat <= n, .hd (8 * κ), [(k, none), (8 * κ, some (.row e s b.toNat (vs.take (b.toNat * s))))], none, [], [k]⟩ := rfl
end
def Yz := ab @zo <| ab @GC @By
def YF := ab @RV <| ab @Kx <| ab @BB @HC
theorem Kv {w : World} {u : Value} {fp : List Nat} {T : TypeId} {fs : List AV} (h : bz w u fp T fs) : ∃ b us, u = .pointer (some ⟨b, 0, none⟩) /\ eD w us fs /\ ∀ j (hj : j < us.length), w.cell? ⟨b, j, none⟩ = some us[j] := by
 obtain ⟨b, us, h1, h2, h3, _⟩ := h
 exact ⟨b, us, h1, h3, fun j hj => cell_of h2 j hj⟩
end
section
open Go.RowKit
def lQ (w : World) (u : Value) (fp : List Nat) (T : TypeId) (fs : List AV) (xs : List Value) : Prop :=
 ∃ b us, u = .pointer (some ⟨b, 0, none⟩) /\ w.heap[b]? = some (.cells (us ++ xs).toArray T (0, 0)) /\ eD w us fs /\ fp = b :: rO us fs /\ (b :: rO us fs).Nodup
def I8 (w : World) (u : Value) (fp : List Nat) (T : TypeId) (xs : List Value) (e : Ending) (w' : World) : BOut -> Prop
 | .ret v fs => e = .returned v /\ (∃ fp', lQ w' u fp' T fs xs /\ (∀ b ∈ fp', b ∈ fp \/ w.heap.size <= b) /\ ∀ b ∈ fp', b < w'.heap.size) /\ ai w fp w'
 | .pan c _ => e = .panicked c /\ ai w fp w'
structure Jw (P : Program) (f : FuncId) where
 T : TypeId
 m : Nat
 pre : World -> List Nat -> List AV -> List AV -> Prop
 out : World -> List AV -> List AV -> BOut
 enters : ∀ args w, (callFunc f args).run P w = .ok (.enter f args) w
 ok : ∀ (W w : World) (bs : List Nat) (u : Value) (fp : List Nat) (us : List Value) (fs as_ : List AV) (xs : List Value), ai W bs w -> lQ w u fp T fs xs -> (∀ b ∈ fp, b < w.heap.size) -> (∀ b ∈ fp, W.heap.size <= b \/ b ∈ bs) -> eD w us as_ -> pre W bs fs as_ ->
  Calls P f (u :: us).toArray w fun e w' => I8 w u fp T xs e w' (out W fs as_)
def uX (κ k : Nat) (T : TypeId) (ys : List SV) (pre : Prop) (rs rs' : List Nat) : BOut -> R
 | .ret v fs => ⟨pre /\ (k :: rs).Nodup /\ (∀ j ∈ rs', j ∉ k :: rs) /\ fs.length <= 8, .v v, dI rs ++ (cm (aS (8 * κ) fs) ++ [(k, some (.cells T (aI (8 * κ) fs ++ ys)))]), none, [], k :: (rs ++ rs')⟩
 | .pan c v => ⟨pre /\ (k :: rs).Nodup /\ (∀ j ∈ rs', j ∉ k :: rs), .v v, [], some c, k :: rs, k :: (rs ++ rs')⟩
def tk (κ k : Nat) (T T' : TypeId) (ys : List SV) (pre : List AV -> List AV -> Prop) (out : List AV -> List AV -> BOut) (as_ : List AV) (rs' : List Nat) : Option (List AV × List Nat) -> R
 | some (fs, rs) => uX κ k T ys (T' = T /\ pre fs as_) rs rs' (out fs as_)
 | none => .bad
def uS (h : Hp) (κ k : Nat) (T : TypeId) (m : Nat) (pre : List AV -> List AV -> Prop) (out : List AV -> List AV -> BOut) : Option bm -> Option (List AV × List Nat) -> R
 | some (.cells T' vs), some (as_, rs') => tk κ k T T' (vs.drop m) pre out as_ rs' (ay h (vs.take m))
 | _, _ => .bad
def xW (h : Hp) (κ : Nat) (T : TypeId) (m : Nat) (pre : List AV -> List AV -> Prop) (out : List AV -> List AV -> BOut) : List SV -> R
 | .own k 0 :: rest => uS h κ k T m pre out (h k) (ay h rest)
 | _ => .bad
section
variable {P : Program} {W : World} {bs : List Nat} {κ : Nat} {E : Nat -> Value} {F : Nat -> List Nat} {h : Nat -> Option bm} {w : World} {K : Nat -> Prop}
theorem qh (hs : al W bs E F h w) {k : Nat} {T : TypeId} {vs ys : List SV} {fs : List AV} {rs : List Nat} (hk : h k = some (.cells T (vs ++ ys))) (hv : ay h vs = some (fs, rs)) (hn : (k :: rs).Nodup) :
  lQ w (E k) ((k :: rs).flatMap F) T fs (an E ys) := by
 obtain ⟨b, h1, h2, h3⟩ := hs.ent k _ hk
 obtain ⟨g1, g2⟩ := bO hs hv
 have hnd := ov hs (ks := k :: rs) hn fun j hj => by
  rcases List.mem_cons.1 hj with rfl | hj
  ·exact ⟨_, hk, fun _ _ e => by cases e⟩
  ·obtain ⟨T', s, n, us, h4⟩ := js hv j hj
   exact ⟨_, h4, fun _ _ e => by cases e⟩
 have hfp : (k :: rs).flatMap F = b :: rO (an E vs) fs := by
  rw [List.flatMap_cons, h2, g1]; rfl
 refine ⟨b, an E vs, h1, by rw [h3, dq], dE hs hv, hfp, by rw [<- hfp]; exact hnd⟩
theorem Ke {w' : World} {k : Nat} {T : TypeId} {vs ys : List SV} {fs fs' : List AV} {rs fp' : List Nat} (hs : al W bs E F h w) (hK : bI K h) (hk : ∀ k, k / 8 = κ -> ¬ K k)
  (hkk : h k = some (.cells T (vs ++ ys))) (hv : ay h vs = some (fs, rs)) (hlen : fs'.length <= 8) (hn : (k :: rs).Nodup)
  (ho : lQ w' (E k) fp' T fs' (an E ys)) (h1 : ∀ b ∈ fp', b ∈ (k :: rs).flatMap F \/ w.heap.size <= b) (h2 : ∀ b ∈ fp', b < w'.heap.size) (hkeep : ai w ((k :: rs).flatMap F) w') :
  ∃ E' F', (∀ j, j / 8 ≠ κ -> E' j = E j) /\ al W bs E' F' (aZ h (dI rs ++ (cm (aS (8 * κ) fs') ++ [(k, some (.cells T (aI (8 * κ) fs' ++ ys)))]))) w' := by
 obtain ⟨b, us, hu, hb, hus, rfl, hnd⟩ := ho
 have hl := fJ hus
 have hKk : K k := (hK k _ hkk).1
 have hfr : ∀ j, 8 * κ <= j -> j < 8 * κ + 8 -> ¬ K j := fun j g1 g2 => hk j (by omega)
 have hkf : k < 8 * κ \/ 8 * κ + 8 <= k := by
  by_cases g1 : k < 8 * κ
  ·exact .inl g1
  ·by_cases g2 : 8 * κ + 8 <= k
   ·exact .inr g2
   ·exact absurd hKk (hfr k (by omega) (by omega))
 have hE : ∀ j, j / 8 ≠ κ -> fW (8 * κ) us E j = E j := fun j hj => ib (by omega)
 have hsome : ∀ p ∈ cm (aS (8 * κ) fs') ++ [(k, some (.cells T (aI (8 * κ) fs' ++ ys)))], ∃ e, p.2 = some e := fun p hp => by
  rcases List.mem_append.1 hp with hp | hp
  ·obtain ⟨e, he, _⟩ := ej.1 hp; exact ⟨e, by rw [he]⟩
  ·simp at hp; exact ⟨_, by rw [hp]⟩
 have hNm : ∀ j e, aZ (fun _ => none) (cm (aS (8 * κ) fs') ++ [(k, some (.cells T (aI (8 * κ) fs' ++ ys)))]) j = some e -> (j = k /\ e = .cells T (aI (8 * κ) fs' ++ ys)) \/ (j ≠ k /\ (j, e) ∈ aS (8 * κ) fs') := fun j e he => by
  rw [cp] at he
  simp only [aZ] at he
  by_cases hj : j = k
  ·subst hj; rw [ah] at he; cases he; exact .inl ⟨rfl, rfl⟩
  ·rw [ak _ _ hj] at he
   rcases kM (fun _ => (none : Option bm)) (k := j) (u := cm (aS (8 * κ) fs')) with ⟨x, hx, hx'⟩ | ⟨_, hx'⟩
   ·rw [hx'] at he
    subst he
    obtain ⟨e', h3, h4⟩ := ej.1 hx
    simp only [Prod.mk.injEq, true_and, Option.some.injEq] at h3
    subst h3
    exact .inr ⟨hj, h4⟩
   ·rw [hx'] at he; cases he
 have hNk : aZ (fun _ => none) (cm (aS (8 * κ) fs') ++ [(k, some (.cells T (aI (8 * κ) fs' ++ ys)))]) k = some (.cells T (aI (8 * κ) fs' ++ ys)) := by
  rw [cp]; simp [aZ, ah]
 have hb' : b ∉ rO us fs' := (List.nodup_cons.1 hnd).1
 have hnd' : (rO us fs').Nodup := (List.nodup_cons.1 hnd).2
 refine ⟨fW (8 * κ) us E, bg (fR (8 * κ) us fs' F) k [b], hE, ?_⟩
 refine hs.mK hK (k :: rs) (aZ (fun _ => none) (cm (aS (8 * κ) fs') ++ [(k, some (.cells T (aI (8 * κ) fs' ++ ys)))])) (fun j hj => ?_) (fun j hj => hE j fun e => hk j e hj) (fun j e he => ?_) (fun i j e e' hij hi hj c hc => ?_) (fun j x hx hj => ?_) (fun j => ?_) hkeep
 ·rcases List.mem_cons.1 hj with rfl | hj
  ·exact ⟨_, hkk⟩
  ·exact (bO hs hv).2 j hj
 ·rcases hNm j e he with ⟨rfl, rfl⟩ | ⟨hjk, hm⟩
  ·rw [ah, hE j fun e => hk j e hKk]
   refine ⟨⟨b, hu, rfl, by rw [dq, eL hus, bG (E' := E) ys fun i hi => hE i fun e => hk i e ((hK _ _ hkk).2 i (by simp only [bm.keys, aR]; exact List.mem_append_right _ hi))]; exact hb⟩, fun c hc => ?_, fun c hc => h2 c (by simp at hc; simp [hc])⟩
   simp only [List.mem_singleton] at hc
   subst hc
   rcases h1 c (by simp) with g | g
   ·obtain ⟨i, hi, hci⟩ := List.mem_flatMap.1 g; exact .inl ⟨i, hi, hci⟩
   ·exact .inr g
  ·rw [ak _ _ hjk]
   obtain ⟨g1, g2⟩ := fQ (E := E) (F := F) hus hm (fW (8 * κ) us E)
   refine ⟨g1, fun c hc => ?_, fun c hc => h2 c (List.mem_cons_of_mem _ (g2 c hc))⟩
   rcases h1 c (List.mem_cons_of_mem _ (g2 c hc)) with g | g
   ·obtain ⟨i, hi, hci⟩ := List.mem_flatMap.1 g; exact .inl ⟨i, hi, hci⟩
   ·exact .inr g
 ·rcases hNm i e hi with ⟨rfl, rfl⟩ | ⟨hik, hmi⟩
  ·rcases hNm j e' hj with ⟨rfl, rfl⟩ | ⟨hjk, hmj⟩
   ·exact absurd rfl hij
   ·rw [ah] at hc
    rw [ak _ _ hjk]
    simp only [List.mem_singleton] at hc
    subst hc
    exact fun hc' => hb' (bD hl hmj c hc')
  ·rw [ak _ _ hik] at hc
   rcases hNm j e' hj with ⟨rfl, rfl⟩ | ⟨hjk, hmj⟩
   ·rw [ah]
    intro hc'
    simp only [List.mem_singleton] at hc'
    subst hc'
    exact hb' (bD hl hmi c hc)
   ·rw [ak _ _ hjk]
    exact eG hnd' hmi hmj hl hij c hc
 ·have hjk : j ≠ k := fun e => by rw [e, hNk] at hj; cases hj
  rw [ak _ _ hjk]
  have hKj := (hK j x hx).1
  by_cases g1 : j < 8 * κ
  ·exact gF (.inl g1)
  ·by_cases g2 : 8 * κ + 8 <= j
   ·exact gF (.inr (by omega))
   ·exact absurd hKj (hfr j (by omega) (by omega))
 ·rw [cp, jq _ _ _ hsome, kI]
  cases hN : aZ (fun _ => none) (cm (aS (8 * κ) fs') ++ [(k, some (.cells T (aI (8 * κ) fs' ++ ys)))]) j with
  | some e => rfl
  | none =>
   have hjk : j ≠ k := fun e => by rw [e, hNk] at hN; cases hN
   simp [hjk]
end
def Jw.spec {P : Program} {f : FuncId} (p : Jw P f) : Spec P f where
 ev := fun W bs κ h args => xW h κ p.T p.m (p.pre W bs) (p.out W) args
 good := fun W bs κ E F h w K args hs hK hk hx hside => by
  rw [p.enters]
  revert hside
  unfold xW
  split
  ·rename_i k rest
   cases hkk : h k with
   | none => exact fun hf => hf.elim
   | some e =>
    cases e with
    | row T s n vs => exact fun hf => hf.elim
    | obj d R => exact fun hf => hf.elim
    | cells T' vs =>
     cases hr : ay h rest with
     | none => exact fun hf => hf.elim
     | some q =>
      obtain ⟨as_, rs'⟩ := q
      simp only [uS]
      have hsplit : vs = vs.take p.m ++ vs.drop p.m := (List.take_append_drop _ _).symm
      cases hv : ay h (vs.take p.m) with
      | none => exact fun hf => hf.elim
      | some q =>
       obtain ⟨fs, rs⟩ := q
       simp only [tk]
       have hent := hs.ent k _ hkk
       obtain ⟨b, hu, _, _⟩ := hent
       have hden : den E (.own k 0) = E k := by simp [den, hu, base, cD]
       have call : ∀ hn : (k :: rs).Nodup, T' = p.T -> p.pre W bs fs as_ -> Calls P f (an E (.own k 0 :: rest)).toArray w fun e w' => I8 w (E k) ((k :: rs).flatMap F) p.T (an E (vs.drop p.m)) e w' (p.out W fs as_) := fun hn hT hp => by
        subst hT
        have ho := qh hs (hsplit ▸ hkk) hv hn
        have := p.ok W w bs (E k) _ (an E rest) fs as_ _ hs.keeps ho (fun c hc => ?_) (fun c hc => ?_) (dE hs hr) hp
        ·simpa only [an, hden] using this
        ·obtain ⟨j, hj, hcj⟩ := List.mem_flatMap.1 hc
         rcases List.mem_cons.1 hj with rfl | hj
         ·exact hs.lt _ _ hkk c hcj
         ·obtain ⟨e, he⟩ := (bO hs hv).2 j hj
          exact hs.lt j e he c hcj
        ·obtain ⟨j, hj, hcj⟩ := List.mem_flatMap.1 hc
         rcases List.mem_cons.1 hj with rfl | hj
         ·exact hs.mine _ _ hkk c hcj
         ·obtain ⟨e, he⟩ := (bO hs hv).2 j hj
          exact hs.mine j e he c hcj
       cases hout : p.out W fs as_ with
       | ret v fs' =>
        simp only [uX]
        rintro ⟨⟨hT, hp⟩, hn, hd, hlen⟩
        have hc := call hn hT hp
        rw [hout] at hc
        subst hT
        refine hc.mono fun e w' he => ?_
        obtain ⟨rfl, ⟨fp', ho, h1, h2⟩, hkeep⟩ := he
        obtain ⟨E', F', hE', hs'⟩ := Ke hs hK hk (hsplit ▸ hkk) hv hlen hn ho h1 h2 hkeep
        exact ⟨rfl, E', F', hE', rfl, hs'⟩
       | pan c _ =>
        simp only [uX]
        rintro ⟨⟨hT, hp⟩, hn, hd⟩
        have hc := call hn hT hp
        rw [hout] at hc
        refine hc.mono fun e w' he => ?_
        obtain ⟨rfl, hkeep⟩ := he
        refine ⟨rfl, F, ?_⟩
        refine hs.mK hK (k :: rs) (fun _ => none) (fun j hj => ?_) (fun _ _ => rfl) (fun j e he => by cases he) (fun i j e e' _ he => by cases he) (fun _ _ _ _ => rfl) (fun j => ?_) hkeep
        ·rcases List.mem_cons.1 hj with rfl | hj
         ·exact ⟨_, hkk⟩
         ·exact (bO hs hv).2 j hj
        ·simp only [dropKeys]
  ·exact fun hf => hf.elim
 keys := fun W bs κ h K args hK hx hside => by
  revert hside
  unfold xW
  split
  ·rename_i k rest
   cases hkk : h k with
   | none => exact fun hf => hf.elim
   | some e =>
    cases e with
    | row T s n vs => exact fun hf => hf.elim
    | obj d R => exact fun hf => hf.elim
    | cells T' vs =>
     cases hr : ay h rest with
     | none => exact fun hf => hf.elim
     | some q =>
      obtain ⟨as_, rs'⟩ := q
      simp only [uS]
      have hsplit : vs = vs.take p.m ++ vs.drop p.m := (List.take_append_drop _ _).symm
      cases hv : ay h (vs.take p.m) with
      | none => exact fun hf => hf.elim
      | some q =>
       obtain ⟨fs, rs⟩ := q
       simp only [tk]
       cases hout : p.out W fs as_ with
       | ret v fs' =>
        simp only [uX]
        rintro ⟨_, hn, hd, hlen⟩
        refine ⟨fun j hj => (by cases hj), fun q hq => ?_⟩
        simp only [List.mem_append, List.mem_singleton] at hq
        rcases hq with hq | hq | rfl
        ·simp only [dI, List.mem_map] at hq
         obtain ⟨j, hj, rfl⟩ := hq
         exact ⟨.inl (pn hK hv j hj), fun e he => by cases he⟩
        ·obtain ⟨e, h1, h2⟩ := ej.1 hq
         obtain ⟨h3, h4⟩ := s5 hlen h2
         refine ⟨.inr h3, fun e' he' j hj => ?_⟩
         rw [h1] at he'
         simp only [Option.some.injEq] at he'
         subst he'
         rw [h4] at hj
         cases hj
        ·refine ⟨.inl (hK k _ hkk).1, fun e' he' j hj => ?_⟩
         simp only [Option.some.injEq] at he'
         subst he'
         simp only [bm.keys, aR, List.mem_append] at hj
         rcases hj with hj | hj
         ·have := cq j hj
          exact .inr (by omega)
         ·refine .inl ((hK k _ hkk).2 j ?_)
          simp only [bm.keys]
          rw [hsplit, aR]
          exact List.mem_append_right _ hj
       | pan c _ =>
        simp only [uX]
        rintro _
        exact ⟨fun j hj => (by cases hj), fun q hq => by cases hq⟩
  ·exact fun hf => hf.elim
 loc := fun W bs κ h h' args hside hr => by
  revert hside hr
  unfold xW
  split
  ·rename_i k rest
   cases hkk : h k with
   | none => exact fun hf => hf.elim
   | some e =>
    cases e with
    | row T s n vs => exact fun hf => hf.elim
    | obj d R => exact fun hf => hf.elim
    | cells T' vs =>
     cases hrr : ay h rest with
     | none => exact fun hf => hf.elim
     | some q =>
      obtain ⟨as_, rs'⟩ := q
      simp only [uS]
      have hsplit : vs = vs.take p.m ++ vs.drop p.m := (List.take_append_drop _ _).symm
      cases hv : ay h (vs.take p.m) with
      | none => exact fun hf => hf.elim
      | some q =>
       obtain ⟨fs, rs⟩ := q
       simp only [tk]
       have key : ∀ r : R, (∀ j ∈ r.reads, h' j = h j) -> r.reads = k :: (rs ++ rs') -> h' k = some (.cells T' vs) /\ ay h' rest = some (as_, rs') /\ ay h' (vs.take p.m) = some (fs, rs) := fun r hr he => by
        rw [he] at hr
        exact ⟨by rw [hr k (by simp), hkk], cF hrr fun j hj => hr j (by simp [hj]), cF hv fun j hj => hr j (by simp [hj])⟩
       intro _ hr
       obtain ⟨g1, g2, g3⟩ := key _ hr (by cases p.out W fs as_ <;> rfl)
       rw [g1, g2]
       simp only [uS, g3, tk]
  ·exact fun hf => hf.elim
section
variable (h : Hp) (κ k : Nat) (T T' : TypeId) (m : Nat) (pre : List AV -> List AV -> Prop) (out : List AV -> List AV -> BOut)
theorem Ol {P : Program} {f : FuncId} (p : Jw P f) (W : World) (bs : List Nat) (κ : Nat) (h : Hp) (l : List SV) : p.spec.ev W bs κ h l = xW h κ p.T p.m (p.pre W bs) (p.out W) l := rfl
theorem Mu (rest : List SV) : xW h κ T m pre out (.own k 0 :: rest) = uS h κ k T m pre out (h k) (ay h rest) := rfl
theorem Dn (vs : List SV) (as_ : List AV) (rs' : List Nat) : uS h κ k T m pre out (some (.cells T' vs)) (some (as_, rs')) = tk κ k T T' (vs.drop m) pre out as_ rs' (ay h (vs.take m)) := rfl
theorem Ff (ys : List SV) (as_ : List AV) (rs' : List Nat) (fs : List AV) (rs : List Nat) : tk κ k T T' ys pre out as_ rs' (some (fs, rs)) = uX κ k T ys (T' = T /\ pre fs as_) rs rs' (out fs as_) := rfl
theorem Ka (ys : List SV) (q : Prop) (rs rs' : List Nat) (v : Value) (fs : List AV) : uX κ k T ys q rs rs' (.ret v fs) = ⟨q /\ (k :: rs).Nodup /\ (∀ j ∈ rs', j ∉ k :: rs) /\ fs.length <= 8, .v v, dI rs ++ (cm (aS (8 * κ) fs) ++ [(k, some (.cells T (aI (8 * κ) fs ++ ys)))]), none, [], k :: (rs ++ rs')⟩ := rfl
end
def YN := ab @Ol <| ab @Mu <| ab @Dn <| ab @Ff @Ka
def σP (T : TypeId) (fs : List AV) (xs args : List Value) : St := ⟨1, bQ ((0, .is (.own 0 0)) :: oU args 1), bY ((0, .cells T (aI 1 fs ++ xs.map .v)) :: aS 1 fs)⟩
theorem OH {w : World} {nt m : Nat} {T : TypeId} {fs : List AV} {xs : List Value} {u : Value} {fp : List Nat} (us : Array Value) (hlen : fs.length <= 7) (ho : lQ w u fp T fs xs) (hlt : ∀ b ∈ fp, b < w.heap.size) (hnt : us.size + 1 + m = nt) :
  Sat w fp nt ⟨[], [(0, u)]⟩ (σP T fs xs us.toList) { tmps := (#[u] ++ us) ++ Array.replicate m undef, defers := [] } w := by
 obtain ⟨b, vs, rfl, hb, hvs, rfl, hnd⟩ := ho
 have hl := fJ hvs
 have hb' : b ∉ rO vs fs := (List.nodup_cons.1 hnd).1
 have hnd' : (rO vs fs).Nodup := (List.nodup_cons.1 hnd).2
 have at' : ∀ j e, bY ((0, .cells T (aI 1 fs ++ xs.map .v)) :: aS 1 fs) j = some e -> (j = 0 /\ e = .cells T (aI 1 fs ++ xs.map .v)) \/ (j ≠ 0 /\ (j, e) ∈ aS 1 fs) := fun j e he => by
  simp only [bY] at he
  by_cases hj : j = 0
  ·subst hj; rw [ah] at he; cases he; exact .inl ⟨rfl, rfl⟩
  ·rw [ak _ _ hj] at he; exact .inr ⟨hj, vt he⟩
 have e0 : fW 1 vs (fun _ => .pointer (some ⟨b, 0, none⟩)) 0 = .pointer (some ⟨b, 0, none⟩) := ib (.inl (by omega))
 refine ⟨⟨fW 1 vs (fun _ => .pointer (some ⟨b, 0, none⟩)), bg (fR 1 vs fs (fun _ => [])) 0 [b], fun t => ?_, ⟨fun j e he => ?_, fun j e he c hc => ?_, fun j e he c hc => ?_, fun i j e e' hij hi hj c hc => ?_, ai.refl w _⟩, fun p hp => ?_⟩, ?_, rfl, fun p hp => ?_, fun t k hk => ?_, fun j e he => ?_⟩
 ·show fits _ (bQ ((0, .is (.own 0 0)) :: oU us.toList 1) t) _
  simp only [bQ, bg]
  split
  ·rename_i ht
   subst ht
   simp only [fits, den, e0, base, cD]
   rw [Array.getD_eq_getD_getElem?, Array.getElem?_append_left (by simp; omega), Array.getElem?_append_left (by simp)]
   rfl
  ·refine kQ _ us.toList 1 t (fun t => ((#[Value.pointer (some ⟨b, 0, none⟩)] ++ us) ++ Array.replicate m undef).getD t undef) fun j hj => ?_
   have hj' : j < us.size := by simpa using hj
   rw [Array.getD_eq_getD_getElem?, Array.getElem?_append_left (by simp; omega), Array.getElem?_append_right (by simp)]
   simp [Array.getElem?_eq_getElem hj']
 ·rcases at' j e he with ⟨rfl, rfl⟩ | ⟨hj, hm⟩
  ·exact ⟨b, e0, by rw [ah], by rw [dq, eL hvs, aB]; exact hb⟩
  ·rw [ak _ _ hj]
   exact (fQ hvs hm _).1
 ·rcases at' j e he with ⟨rfl, rfl⟩ | ⟨hj, hm⟩
  ·rw [ah] at hc; exact hlt c (by simp at hc; simp [hc])
  ·rw [ak _ _ hj] at hc; exact hlt c (List.mem_cons_of_mem _ (bD hl hm c hc))
 ·right
  rcases at' j e he with ⟨rfl, rfl⟩ | ⟨hj, hm⟩
  ·rw [ah] at hc; simp at hc; simp [hc]
  ·rw [ak _ _ hj] at hc; exact List.mem_cons_of_mem _ (bD hl hm c hc)
 ·rcases at' i e hi with ⟨rfl, rfl⟩ | ⟨hi0, hmi⟩
  ·rcases at' j e' hj with ⟨rfl, rfl⟩ | ⟨hj0, hmj⟩
   ·exact absurd rfl hij
   ·rw [ah] at hc
    rw [ak _ _ hj0]
    simp only [List.mem_singleton] at hc
    subst hc
    exact fun hc' => hb' (bD hl hmj c hc')
  ·rw [ak _ _ hi0] at hc
   rcases at' j e' hj with ⟨rfl, rfl⟩ | ⟨hj0, hmj⟩
   ·rw [ah]
    intro hc'
    simp only [List.mem_singleton] at hc'
    subst hc'
    exact hb' (bD hl hmi c hc)
   ·rw [ak _ _ hj0]
    exact eG hnd' hmi hmj hl hij c hc
 ·simp only [List.mem_singleton] at hp
  subst hp
  exact e0
 ·simp; omega
 ·simp only [List.mem_singleton] at hp
  subst hp
  show 0 / 8 < 1
  omega
 ·simp only [σP, bQ, bg] at hk
  split at hk
  ·simp [FV.keys, SV.keys] at hk; subst hk; show 0 / 8 < 1; omega
  ·rw [kN] at hk; cases hk
 ·rcases at' j e he with ⟨rfl, rfl⟩ | ⟨hj, hm⟩
  ·refine ⟨by show 0 / 8 < 1; omega, fun i hi => ?_⟩
   simp only [bm.keys, aR, aO, List.append_nil] at hi
   have := cq i hi
   show i / 8 < 1
   omega
  ·have := dw _ hm
   refine ⟨by show j / 8 < 1; simp only at this; omega, fun i hi => ?_⟩
   rw [this.2.2] at hi
   cases hi
theorem HH {P : Program} {f : FuncId} {fn : Func} {c : Code} {w : World} {nt : Nat} {T : TypeId} {u : Value} {fp : List Nat} {fs : List AV} {xs : List Value} {out : BOut} (us : Array Value) (rs : List ResultVar)
  (hlen : fs.length <= 7) (ho : lQ w u fp T fs xs) (hlt : ∀ b ∈ fp, b < w.heap.size)
  (hf : P.funcs[f]? = some fn) (hb : fn.body = some c) (hrs : fn.results.toList = rs) (hnt : us.size + 1 + (fn.ntmps - (us.size + 1)) = nt)
  (h : Wp P w fp nt ⟨[], [(0, u)]⟩ c (Fin P rs (fun _ _ x h => ∃ v fs', out = .ret v fs' /\ (∀ E, den E x = v) /\ ∃ vs ks, h 0 = some (.cells T (vs ++ xs.map .v)) /\ ay h vs = some (fs', ks) /\ (0 :: ks).Nodup) (fun c _ => ∃ v, out = .pan c v)) (σP T fs xs us.toList)) :
  Calls P f (#[u] ++ us) w fun e w' => I8 w u fp T xs e w' out := by
 subst hrs
 have hsat := OH (nt := nt) (m := fn.ntmps - (us.size + 1)) us hlen ho hlt hnt
 have hsz : (#[u] ++ us).size = us.size + 1 := by simp; omega
 refine (jB hf hb (by rw [hsz]; exact hsat) h).mono fun e w' he => ?_
 cases e with
 | returned v' =>
  obtain ⟨W', bs', E, F, x, h', hx, ⟨v, fs', rfl, hd, vs, ks, h0, hv, hn⟩, rfl, hs, hp⟩ := he
  have hs' := hs.back hx
  have hE : E 0 = u := hp (0, u) (by simp)
  have ho' := qh hs' h0 hv hn
  rw [hE, aB] at ho'
  refine ⟨by rw [hd E], ⟨_, ho', fun b hb => ?_, fun b hb => ?_⟩, hs'.keeps⟩
  ·obtain ⟨j, hj, hbj⟩ := List.mem_flatMap.1 hb
   have : ∃ e, h' j = some e := by
    rcases List.mem_cons.1 hj with rfl | hj
    ·exact ⟨_, h0⟩
    ·exact (bO hs' hv).2 j hj
   obtain ⟨e, he⟩ := this
   exact (hs'.mine j e he b hbj).symm
  ·obtain ⟨j, hj, hbj⟩ := List.mem_flatMap.1 hb
   have : ∃ e, h' j = some e := by
    rcases List.mem_cons.1 hj with rfl | hj
    ·exact ⟨_, h0⟩
    ·exact (bO hs' hv).2 j hj
   obtain ⟨e, he⟩ := this
   exact hs'.lt j e he b hbj
 | panicked c =>
  obtain ⟨W', bs', E, F, h', hx, ⟨_, rfl⟩, hs, hp⟩ := he
  exact ⟨rfl, (hs.back hx).keeps⟩
 | outgrown => exact he.elim
end
section
open Go.RowKit
structure s9 (P : Program) (f : FuncId) where
 T : TypeId
 pre : World -> List Nat -> List AV -> List AV -> Prop
 out : World -> List AV -> List AV -> BOut
 enters : ∀ args w, (callFunc f args).run P w = .ok (.enter f args) w
 ok : ∀ (W w : World) (bs : List Nat) (u : Value) (fp : List Nat) (us : List Value) (fs as_ : List AV), ai W bs w -> bz w u fp T fs -> (∀ b ∈ fp, b < w.heap.size) -> (∀ b ∈ fp, W.heap.size <= b \/ b ∈ bs) -> eD w us as_ -> pre W bs fs as_ ->
  Calls P f (us ++ [u]).toArray w fun e w' => fu w u fp T e w' (out W fs as_)
def ln (h : Hp) (κ : Nat) (T : TypeId) (pre : List AV -> List AV -> Prop) (out : List AV -> List AV -> BOut) : List SV -> R
 | [x, y, .own k 0] => e9 h κ k T pre out (h k) (ay h [x, y])
 | _ => .bad
theorem zG (h : Hp) (κ k : Nat) (T : TypeId) (pre : List AV -> List AV -> Prop) (out : List AV -> List AV -> BOut) (x y : SV) : ln h κ T pre out [x, y, .own k 0] = e9 h κ k T pre out (h k) (ay h [x, y]) := by
 cases x <;> rfl
def s9.spec {P : Program} {f : FuncId} (p : s9 P f) : Spec P f where
 ev := fun W bs κ h args => ln h κ p.T (p.pre W bs) (p.out W) args
 good := fun W bs κ E F h w K args hs hK hk hx hside => by
  rw [p.enters]
  revert hside
  unfold ln
  split
  ·rename_i x y k
   cases hkk : h k with
   | none => exact fun hf => hf.elim
   | some e =>
    cases e with
    | row T s n vs => exact fun hf => hf.elim
    | obj d R => exact fun hf => hf.elim
    | cells T' vs =>
     cases hr : ay h [x, y] with
     | none => exact fun hf => hf.elim
     | some q =>
      obtain ⟨as_, rs'⟩ := q
      simp only [e9]
      cases hv : ay h vs with
      | none => exact fun hf => hf.elim
      | some q =>
       obtain ⟨fs, rs⟩ := q
       simp only [gy]
       have hent := hs.ent k _ hkk
       obtain ⟨b, hu, _, _⟩ := hent
       have hden : den E (.own k 0) = E k := by simp [den, hu, base, cD]
       have call : ∀ hn : (k :: rs).Nodup, T' = p.T -> p.pre W bs fs as_ -> Calls P f (an E [x, y, .own k 0]).toArray w fun e w' => fu w (E k) ((k :: rs).flatMap F) p.T e w' (p.out W fs as_) := fun hn hT hp => by
        subst hT
        have ho := eE hs hkk hv hn
        have := p.ok W w bs (E k) _ [den E x, den E y] fs as_ hs.keeps ho (fun c hc => ?_) (fun c hc => ?_) (dE hs hr) hp
        ·simp only [an, hden]
         exact this
        ·obtain ⟨j, hj, hcj⟩ := List.mem_flatMap.1 hc
         rcases List.mem_cons.1 hj with rfl | hj
         ·exact hs.lt _ _ hkk c hcj
         ·obtain ⟨e, he⟩ := (bO hs hv).2 j hj
          exact hs.lt j e he c hcj
        ·obtain ⟨j, hj, hcj⟩ := List.mem_flatMap.1 hc
         rcases List.mem_cons.1 hj with rfl | hj
         ·exact hs.mine _ _ hkk c hcj
         ·obtain ⟨e, he⟩ := (bO hs hv).2 j hj
          exact hs.mine j e he c hcj
       cases hout : p.out W fs as_ with
       | ret v fs' =>
        simp only [fG]
        rintro ⟨⟨hT, hp⟩, hn, hd, hlen⟩
        have hc := call hn hT hp
        rw [hout] at hc
        subst hT
        refine hc.mono fun e w' he => ?_
        obtain ⟨rfl, ⟨fp', ho, h1, h2⟩, hkeep⟩ := he
        obtain ⟨E', F', hE', hs'⟩ := mL hs hK hk hkk hv hlen hn ho h1 h2 hkeep
        exact ⟨rfl, E', F', hE', rfl, hs'⟩
       | pan c _ =>
        simp only [fG]
        rintro ⟨⟨hT, hp⟩, hn, hd⟩
        have hc := call hn hT hp
        rw [hout] at hc
        refine hc.mono fun e w' he => ?_
        obtain ⟨rfl, hkeep⟩ := he
        refine ⟨rfl, F, ?_⟩
        refine hs.mK hK (k :: rs) (fun _ => none) (fun j hj => ?_) (fun _ _ => rfl) (fun j e he => by cases he) (fun i j e e' _ he => by cases he) (fun _ _ _ _ => rfl) (fun j => ?_) hkeep
        ·rcases List.mem_cons.1 hj with rfl | hj
         ·exact ⟨_, hkk⟩
         ·exact (bO hs hv).2 j hj
        ·simp only [dropKeys]
  ·exact fun hf => hf.elim
 keys := fun W bs κ h K args hK hx hside => by
  revert hside
  unfold ln
  split
  ·rename_i x y k
   cases hkk : h k with
   | none => exact fun hf => hf.elim
   | some e =>
    cases e with
    | row T s n vs => exact fun hf => hf.elim
    | obj d R => exact fun hf => hf.elim
    | cells T' vs =>
     cases hr : ay h [x, y] with
     | none => exact fun hf => hf.elim
     | some q =>
      obtain ⟨as_, rs'⟩ := q
      simp only [e9]
      cases hv : ay h vs with
      | none => exact fun hf => hf.elim
      | some q =>
       obtain ⟨fs, rs⟩ := q
       simp only [gy]
       cases hout : p.out W fs as_ with
       | ret v fs' =>
        simp only [fG]
        rintro ⟨_, hn, hd, hlen⟩
        refine ⟨fun j hj => (by cases hj), fun q hq => ?_⟩
        simp only [List.mem_append, List.mem_singleton] at hq
        rcases hq with hq | hq | rfl
        ·simp only [dI, List.mem_map] at hq
         obtain ⟨j, hj, rfl⟩ := hq
         exact ⟨.inl (pn hK hv j hj), fun e he => by cases he⟩
        ·obtain ⟨e, h1, h2⟩ := ej.1 hq
         obtain ⟨h3, h4⟩ := s5 hlen h2
         refine ⟨.inr h3, fun e' he' j hj => ?_⟩
         rw [h1] at he'
         simp only [Option.some.injEq] at he'
         subst he'
         rw [h4] at hj
         cases hj
        ·refine ⟨.inl (hK k _ hkk).1, fun e' he' j hj => .inr ?_⟩
         simp only [Option.some.injEq] at he'
         subst he'
         have := cq j hj
         omega
       | pan c _ =>
        simp only [fG]
        rintro _
        exact ⟨fun j hj => (by cases hj), fun q hq => by cases hq⟩
  ·exact fun hf => hf.elim
 loc := fun W bs κ h h' args hside hr => by
  revert hside hr
  unfold ln
  split
  ·rename_i x y k
   cases hkk : h k with
   | none => exact fun hf => hf.elim
   | some e =>
    cases e with
    | row T s n vs => exact fun hf => hf.elim
    | obj d R => exact fun hf => hf.elim
    | cells T' vs =>
     cases hrr : ay h [x, y] with
     | none => exact fun hf => hf.elim
     | some q =>
      obtain ⟨as_, rs'⟩ := q
      simp only [e9]
      cases hv : ay h vs with
      | none => exact fun hf => hf.elim
      | some q =>
       obtain ⟨fs, rs⟩ := q
       simp only [gy]
       have key : ∀ r : R, (∀ j ∈ r.reads, h' j = h j) -> r.reads = k :: (rs ++ rs') -> h' k = some (.cells T' vs) /\ ay h' [x, y] = some (as_, rs') /\ ay h' vs = some (fs, rs) := fun r hr he => by
        rw [he] at hr
        exact ⟨by rw [hr k (by simp), hkk], cF hrr fun j hj => hr j (by simp [hj]), cF hv fun j hj => hr j (by simp [hj])⟩
       intro _ hr
       obtain ⟨g1, g2, g3⟩ := key _ hr (by cases p.out W fs as_ <;> rfl)
       rw [g1, g2]
       simp only [e9, g3, gy]
  ·exact fun hf => hf.elim
theorem Hh {P : Program} {f : FuncId} (p : s9 P f) (W : World) (bs : List Nat) (κ : Nat) (h : Hp) (l : List SV) : p.spec.ev W bs κ h l = ln h κ p.T (p.pre W bs) (p.out W) l := rfl
def YK := ab @Hh @zG
def σB3 (T : TypeId) (fs : List AV) (x y : Value) : St := ⟨1, bQ ((2, .is (.own 0 0)) :: oU [x, y] 0), bY ((0, .cells T (aI 1 fs)) :: aS 1 fs)⟩
theorem Dp {w : World} {nt m : Nat} {T : TypeId} {fs : List AV} {u : Value} {fp : List Nat} (x y : Value) (hlen : fs.length <= 7) (ho : bz w u fp T fs) (hlt : ∀ b ∈ fp, b < w.heap.size) (hnt : 3 + m = nt) :
  Sat w fp nt ⟨[], [(0, u)]⟩ (σB3 T fs x y) { tmps := #[x, y, u] ++ Array.replicate m undef, defers := [] } w := by
 obtain ⟨b, vs, rfl, hb, hvs, rfl, hnd⟩ := ho
 have hl := fJ hvs
 have hb' : b ∉ rO vs fs := (List.nodup_cons.1 hnd).1
 have hnd' : (rO vs fs).Nodup := (List.nodup_cons.1 hnd).2
 have at' : ∀ j e, bY ((0, .cells T (aI 1 fs)) :: aS 1 fs) j = some e -> (j = 0 /\ e = .cells T (aI 1 fs)) \/ (j ≠ 0 /\ (j, e) ∈ aS 1 fs) := fun j e he => by
  simp only [bY] at he
  by_cases hj : j = 0
  ·subst hj; rw [ah] at he; cases he; exact .inl ⟨rfl, rfl⟩
  ·rw [ak _ _ hj] at he; exact .inr ⟨hj, vt he⟩
 have e0 : fW 1 vs (fun _ => .pointer (some ⟨b, 0, none⟩)) 0 = .pointer (some ⟨b, 0, none⟩) := ib (.inl (by omega))
 refine ⟨⟨fW 1 vs (fun _ => .pointer (some ⟨b, 0, none⟩)), bg (fR 1 vs fs (fun _ => [])) 0 [b], fun t => ?_, ⟨fun j e he => ?_, fun j e he c hc => ?_, fun j e he c hc => ?_, fun i j e e' hij hi hj c hc => ?_, ai.refl w _⟩, fun p hp => ?_⟩, ?_, rfl, fun p hp => ?_, fun t k hk => ?_, fun j e he => ?_⟩
 ·show fits _ (bQ ((2, .is (.own 0 0)) :: oU [x, y] 0) t) _
  simp only [bQ, bg]
  split
  ·rename_i ht
   subst ht
   simp only [fits, den, e0, base, cD]
   rw [Array.getD_eq_getD_getElem?, Array.getElem?_append_left (by simp)]
   rfl
  ·refine kQ _ [x, y] 0 t (fun t => ((#[x, y, Value.pointer (some ⟨b, 0, none⟩)]) ++ Array.replicate m undef).getD t undef) fun j hj => ?_
   have hj' : j < 2 := by simpa using hj
   rw [Array.getD_eq_getD_getElem?, Array.getElem?_append_left (by simp; omega)]
   match j, hj' with
   | 0, _ => rfl
   | 1, _ => rfl
 ·rcases at' j e he with ⟨rfl, rfl⟩ | ⟨hj, hm⟩
  ·exact ⟨b, e0, by rw [ah], by rw [eL hvs]; exact hb⟩
  ·rw [ak _ _ hj]
   exact (fQ hvs hm _).1
 ·rcases at' j e he with ⟨rfl, rfl⟩ | ⟨hj, hm⟩
  ·rw [ah] at hc; exact hlt c (by simp at hc; simp [hc])
  ·rw [ak _ _ hj] at hc; exact hlt c (List.mem_cons_of_mem _ (bD hl hm c hc))
 ·right
  rcases at' j e he with ⟨rfl, rfl⟩ | ⟨hj, hm⟩
  ·rw [ah] at hc; simp at hc; simp [hc]
  ·rw [ak _ _ hj] at hc; exact List.mem_cons_of_mem _ (bD hl hm c hc)
 ·rcases at' i e hi with ⟨rfl, rfl⟩ | ⟨hi0, hmi⟩
  ·rcases at' j e' hj with ⟨rfl, rfl⟩ | ⟨hj0, hmj⟩
   ·exact absurd rfl hij
   ·rw [ah] at hc
    rw [ak _ _ hj0]
    simp only [List.mem_singleton] at hc
    subst hc
    exact fun hc' => hb' (bD hl hmj c hc')
  ·rw [ak _ _ hi0] at hc
   rcases at' j e' hj with ⟨rfl, rfl⟩ | ⟨hj0, hmj⟩
   ·rw [ah]
    intro hc'
    simp only [List.mem_singleton] at hc'
    subst hc'
    exact hb' (bD hl hmi c hc)
   ·rw [ak _ _ hj0]
    exact eG hnd' hmi hmj hl hij c hc
 ·simp only [List.mem_singleton] at hp
  subst hp
  exact e0
 ·simp; omega
 ·simp only [List.mem_singleton] at hp
  subst hp
  show 0 / 8 < 1
  omega
 ·simp only [σB3, bQ, bg] at hk
  split at hk
  ·simp [FV.keys, SV.keys] at hk; subst hk; show 0 / 8 < 1; omega
  ·rw [kN] at hk; cases hk
 ·rcases at' j e he with ⟨rfl, rfl⟩ | ⟨hj, hm⟩
  ·refine ⟨by show 0 / 8 < 1; omega, fun i hi => ?_⟩
   have := cq i hi
   show i / 8 < 1
   omega
  ·have := dw _ hm
   refine ⟨by show j / 8 < 1; simp only at this; omega, fun i hi => ?_⟩
   rw [this.2.2] at hi
   cases hi
theorem kr {P : Program} {f : FuncId} {fn : Func} {c : Code} {w : World} {nt : Nat} {T : TypeId} {u : Value} {fp : List Nat} {fs : List AV} {out : BOut} (x y : Value) (rs : List ResultVar)
  (hlen : fs.length <= 7) (ho : bz w u fp T fs) (hlt : ∀ b ∈ fp, b < w.heap.size)
  (hf : P.funcs[f]? = some fn) (hb : fn.body = some c) (hrs : fn.results.toList = rs) (hnt : 3 + (fn.ntmps - 3) = nt)
  (h : Wp P w fp nt ⟨[], [(0, u)]⟩ c (Fin P rs (fun _ _ x h => ∃ v fs', out = .ret v fs' /\ (∀ E, den E x = v) /\ ∃ vs ks, h 0 = some (.cells T vs) /\ ay h vs = some (fs', ks) /\ (0 :: ks).Nodup) (fun c _ => ∃ v, out = .pan c v)) (σB3 T fs x y)) :
  Calls P f #[x, y, u] w fun e w' => fu w u fp T e w' out := by
 subst hrs
 have hsat := Dp (nt := nt) (m := fn.ntmps - 3) x y hlen ho hlt hnt
 refine (jB hf hb hsat h).mono fun e w' he => ?_
 cases e with
 | returned v' =>
  obtain ⟨W', bs', E, F, x', h', hx, ⟨v, fs', rfl, hd, vs, ks, h0, hv, hn⟩, rfl, hs, hp⟩ := he
  have hs' := hs.back hx
  have hE : E 0 = u := hp (0, u) (by simp)
  have ho' := eE hs' h0 hv hn
  rw [hE] at ho'
  refine ⟨by rw [hd E], ⟨_, ho', fun b hb => ?_, fun b hb => ?_⟩, hs'.keeps⟩
  ·obtain ⟨j, hj, hbj⟩ := List.mem_flatMap.1 hb
   have : ∃ e, h' j = some e := by
    rcases List.mem_cons.1 hj with rfl | hj
    ·exact ⟨_, h0⟩
    ·exact (bO hs' hv).2 j hj
   obtain ⟨e, he⟩ := this
   exact (hs'.mine j e he b hbj).symm
  ·obtain ⟨j, hj, hbj⟩ := List.mem_flatMap.1 hb
   have : ∃ e, h' j = some e := by
    rcases List.mem_cons.1 hj with rfl | hj
    ·exact ⟨_, h0⟩
    ·exact (bO hs' hv).2 j hj
   obtain ⟨e, he⟩ := this
   exact hs'.lt j e he b hbj
 | panicked c =>
  obtain ⟨W', bs', E, F, h', hx, ⟨_, rfl⟩, hs, hp⟩ := he
  exact ⟨rfl, (hs.back hx).keeps⟩
 | outgrown => exact he.elim
end
end Go.LE
namespace Go.Proofs.YtnemkecffmdlnaaGreatDoor
section
open Go.RowKit Go.LE
def dS := (aq (lX (ab @if_true.{1} @if_false.{1}) (ab @List.toList_toArray.{0} @Option.isNone_none.{0}) (ab @Option.isNone_some.{0} @Option.isSome_none.{0}) (ab @Option.isSome_some.{0} @and_true) (ab @true_and @and_self) (ab @true_imp_iff @forall_const.{1})) (lX (ab @forall_const.{0} @List.append_nil.{0}) (ab @List.nil_append.{0} @List.cons_append.{0}) (ab @cond_true.{1} @cond_false.{1}) (ab @List.map_cons.{0,0} @List.map_nil.{0,0}) (ab @Bool.true_and @Bool.and_true) (ab @beq_false @beq_true)) (lX (ab @imp_self @implies_true.{1}) (ab @implies_true.{0} @Bool.cond_self.{1}) (ab @Option.bind_some.{0,0} @List.getElem?_toArray.{0}) (ab @List.getElem?_cons_zero.{0} @List.getElem?_cons_succ.{0}) (ab @List.length_cons.{0} @List.length_nil.{0}) (ab @List.getD_cons_zero.{0} @List.getD_cons_succ.{0})) (lX (ab @List.take_succ_cons.{0} @List.take_zero.{0}) (ab @List.drop_succ_cons.{0} @List.drop_zero.{0}) (ab @List.zip_cons_cons.{0,0} @List.zip_nil_right.{0,0}) (ab @Option.getD_some.{0} @List.all_cons.{0}) (ab @List.all_nil.{0} @Bool.cond_true_left) (ab @Bool.cond_false_right @Bool.cond_true_right)) (lX (ab @Bool.cond_false_left Zs) (ab Zz Zg) (ab ZB Zx) (ab Zm Zj) (ab Zn Zo) (ab @Option.map_some.{0,0} @List.not_mem_nil.{0})) (lX (ab @Int.toNat_natCast @Option.toArray_none.{0}) (ab @Option.toArray_some.{0} @List.append_toArray.{0}) (ab @Nat.add_zero @Nat.zero_add) (ab @decide_true @decide_false) (ab @Bool.not_true @Bool.not_false) (ab @List.flatten_cons.{0} @List.flatten_nil.{0})) (lX (ab @List.isEmpty_nil.{0} @ne_eq.{1}) (ab @not_true_eq_false @not_false_eq_true) (ab @Nat.mul_one @Nat.one_mul) (ab @Nat.zero_mul @Nat.sub_zero) (ab @yz @Array.getD_eq_getD_getElem?.{0}) (ab @List.size_toArray.{0} @Xh)) (aq @YH YZ YI @Option.map_none.{0,0} YF Yz YN YK))
theorem ev {e p : Prop} (he : e) (h : e -> p := by intro he; simp only [dS, Op.operands, Value.cells, σ0, σB, Nat.reduceEqDiff, Nat.reduceAdd, Nat.reduceMul, Nat.reduceLT, Nat.reduceLeDiff, Nat.reduceBEq, ae, Int.reduceToNat, Int.reduceLT, Int.reduceLE, Nat.reduceDiv, Nat.reduceMod, Nat.reduceSub, Int.reducePow, Nat.reducePow, σP, σB3, he]; exact rfl) : p := h he
section
variable {W : World} {bs : List Nat} {nt : Nat} {ds : Aux} {Q : jX} {σ : St} {e q : Prop} {id : Nat} {ops : Array Oper} {y : Code} {side : Prop} {n : Nat} {φ : Fr} {h : Hp} {pans : List (Option (List PanicEntry))} {lost : List Nat} {fx : List (List Nat × List Nat)}
theorem wR (Γ : Env Tryz.prog) (he : e) (hs : side) (hQ : Wp Tryz.prog W bs nt ds y Q ⟨n, φ, h⟩) (hg : e -> mi Γ W bs nt ops ops.toList σ.n σ.φ σ.h = ⟨side, n, φ, h, pans, lost, fx⟩ := by intro he; simp only [dS, Op.operands, Value.cells, σ0, σB, Nat.reduceEqDiff, Nat.reduceAdd, Nat.reduceMul, Nat.reduceLT, Nat.reduceLeDiff, Nat.reduceBEq, ae, Int.reduceToNat, Int.reduceLT, Int.reduceLE, Nat.reduceDiv, Nat.reduceMod, Nat.reduceSub, Int.reducePow, Nat.reducePow, σP, σB3, he]; exact rfl) (hp : pans.all Option.isNone = true := by rfl) : Wp Tryz.prog W bs nt ds (.seq (.region id ops false) y) Q σ := Wp.nZ Γ bR (hg he) hp hs hQ
theorem vR (Γ : Env Tryz.prog) (he : e) (hQ : Wp Tryz.prog W bs nt ds y Q ⟨n, φ, h⟩) (hg : e -> mi Γ W bs nt ops ops.toList σ.n σ.φ σ.h = ⟨side, n, φ, h, pans, lost, fx⟩ := by intro he; simp only [dS, Op.operands, Value.cells, σ0, σB, Nat.reduceEqDiff, Nat.reduceAdd, Nat.reduceMul, Nat.reduceLT, Nat.reduceLeDiff, Nat.reduceBEq, ae, Int.reduceToNat, Int.reduceLT, Int.reduceLE, Nat.reduceDiv, Nat.reduceMod, Nat.reduceSub, Int.reducePow, Nat.reducePow, σP, σB3, he]; exact rfl) (hp : pans.all Option.isNone = true := by rfl) (hs : side := by first | trivial | omega | exact ⟨_, rfl⟩ | (simp; done) | (unfold maxLen; omega) | (simp <;> omega) | (simp <;> unfold maxLen <;> omega)) : Wp Tryz.prog W bs nt ds (.seq (.region id ops false) y) Q σ := Wp.nZ Γ bR (hg he) hp hs hQ
theorem wr (Γ : Env Tryz.prog) (he : e) (hs : side) (hQ : q) (hg : e -> mi Γ W bs nt ops ops.toList σ.n σ.φ σ.h = ⟨side, n, φ, h, pans, lost, fx⟩ := by intro he; simp only [dS, Op.operands, Value.cells, σ0, σB, Nat.reduceEqDiff, Nat.reduceAdd, Nat.reduceMul, Nat.reduceLT, Nat.reduceLeDiff, Nat.reduceBEq, ae, Int.reduceToNat, Int.reduceLT, Int.reduceLE, Nat.reduceDiv, Nat.reduceMod, Nat.reduceSub, Int.reducePow, Nat.reducePow, σP, σB3, he]; exact rfl) (hp : pans.all Option.isNone = true := by rfl) (t : q -> Q .normal W bs ⟨n, φ, h⟩ := by intro hq; (with_reducible repeat (first | refine eU ?_ | refine fc ?_ | refine iT ?_ | refine iW ?_ | refine dP (by decide) ?_ | refine lv ?_ | refine lR ?_ | refine gx ?_ | refine gl ?_)); exact hq) : Wp Tryz.prog W bs nt ds (.region id ops false) Q σ := Wp.Bf Γ bR (hg he) hp hs (t hQ)
theorem vr (Γ : Env Tryz.prog) (he : e) (hQ : q) (hg : e -> mi Γ W bs nt ops ops.toList σ.n σ.φ σ.h = ⟨side, n, φ, h, pans, lost, fx⟩ := by intro he; simp only [dS, Op.operands, Value.cells, σ0, σB, Nat.reduceEqDiff, Nat.reduceAdd, Nat.reduceMul, Nat.reduceLT, Nat.reduceLeDiff, Nat.reduceBEq, ae, Int.reduceToNat, Int.reduceLT, Int.reduceLE, Nat.reduceDiv, Nat.reduceMod, Nat.reduceSub, Int.reducePow, Nat.reducePow, σP, σB3, he]; exact rfl) (hp : pans.all Option.isNone = true := by rfl) (hs : side := by first | trivial | omega | exact ⟨_, rfl⟩ | (simp; done) | (unfold maxLen; omega) | (simp <;> omega) | (simp <;> unfold maxLen <;> omega)) (t : q -> Q .normal W bs ⟨n, φ, h⟩ := by intro hq; (with_reducible repeat (first | refine eU ?_ | refine fc ?_ | refine iT ?_ | refine iW ?_ | refine dP (by decide) ?_ | refine lv ?_ | refine lR ?_ | refine gx ?_ | refine gl ?_)); exact hq) : Wp Tryz.prog W bs nt ds (.region id ops false) Q σ := Wp.Bf Γ bR (hg he) hp hs (t hQ)
theorem l9 (Γ : Env Tryz.prog) (he : e) (hs : side) (hQ : Wp Tryz.prog W bs nt ds y Q ⟨n, φ, h⟩) (hg : e -> mi Γ W bs nt ops ops.toList σ.n σ.φ σ.h = ⟨side, n, φ, h, pans, lost, fx⟩ := by intro he; simp only [dS, Op.operands, Value.cells, σ0, σB, Nat.reduceEqDiff, Nat.reduceAdd, Nat.reduceMul, Nat.reduceLT, Nat.reduceLeDiff, Nat.reduceBEq, ae, Int.reduceToNat, Int.reduceLT, Int.reduceLE, Nat.reduceDiv, Nat.reduceMod, Nat.reduceSub, Int.reducePow, Nat.reducePow, σP, σB3, he]; exact rfl) (hp : pans.all Option.isNone = true := by rfl) (hd : (ma ops && l8 ops fx) = true := by kernel_rfl) : Wp Tryz.prog W bs nt ds (.seq (.region id ops true) y) Q σ := Wp.U1 Γ bR (hg he) hp hd hs hQ
theorem R0 (Γ : Env Tryz.prog) (he : e) (hQ : Wp Tryz.prog W bs nt ds y Q ⟨n, φ, h⟩) (hg : e -> mi Γ W bs nt ops ops.toList σ.n σ.φ σ.h = ⟨side, n, φ, h, pans, lost, fx⟩ := by intro he; simp only [dS, Op.operands, Value.cells, σ0, σB, Nat.reduceEqDiff, Nat.reduceAdd, Nat.reduceMul, Nat.reduceLT, Nat.reduceLeDiff, Nat.reduceBEq, ae, Int.reduceToNat, Int.reduceLT, Int.reduceLE, Nat.reduceDiv, Nat.reduceMod, Nat.reduceSub, Int.reducePow, Nat.reducePow, σP, σB3, he]; exact rfl) (hp : pans.all Option.isNone = true := by rfl) (hd : (ma ops && l8 ops fx) = true := by kernel_rfl) (hs : side := by first | trivial | omega | exact ⟨_, rfl⟩ | (simp; done) | (unfold maxLen; omega) | (simp <;> omega) | (simp <;> unfold maxLen <;> omega)) : Wp Tryz.prog W bs nt ds (.seq (.region id ops true) y) Q σ := Wp.U1 Γ bR (hg he) hp hd hs hQ
theorem sx (Γ : Env Tryz.prog) (he : e) (hs : side) (hQ : q) (hg : e -> mi Γ W bs nt ops ops.toList σ.n σ.φ σ.h = ⟨side, n, φ, h, pans, lost, fx⟩ := by intro he; simp only [dS, Op.operands, Value.cells, σ0, σB, Nat.reduceEqDiff, Nat.reduceAdd, Nat.reduceMul, Nat.reduceLT, Nat.reduceLeDiff, Nat.reduceBEq, ae, Int.reduceToNat, Int.reduceLT, Int.reduceLE, Nat.reduceDiv, Nat.reduceMod, Nat.reduceSub, Int.reducePow, Nat.reducePow, σP, σB3, he]; exact rfl) (hp : pans.all Option.isNone = true := by rfl) (hd : (ma ops && l8 ops fx) = true := by kernel_rfl) (t : q -> Q .normal W bs ⟨n, φ, h⟩ := by intro hq; (with_reducible repeat (first | refine eU ?_ | refine fc ?_ | refine iT ?_ | refine iW ?_ | refine dP (by decide) ?_ | refine lv ?_ | refine lR ?_ | refine gx ?_ | refine gl ?_)); exact hq) : Wp Tryz.prog W bs nt ds (.region id ops true) Q σ := Wp.Tx Γ bR (hg he) hp hd hs (t hQ)
theorem Y3 (Γ : Env Tryz.prog) (he : e) (hQ : q) (hg : e -> mi Γ W bs nt ops ops.toList σ.n σ.φ σ.h = ⟨side, n, φ, h, pans, lost, fx⟩ := by intro he; simp only [dS, Op.operands, Value.cells, σ0, σB, Nat.reduceEqDiff, Nat.reduceAdd, Nat.reduceMul, Nat.reduceLT, Nat.reduceLeDiff, Nat.reduceBEq, ae, Int.reduceToNat, Int.reduceLT, Int.reduceLE, Nat.reduceDiv, Nat.reduceMod, Nat.reduceSub, Int.reducePow, Nat.reducePow, σP, σB3, he]; exact rfl) (hp : pans.all Option.isNone = true := by rfl) (hd : (ma ops && l8 ops fx) = true := by kernel_rfl) (hs : side := by first | trivial | omega | exact ⟨_, rfl⟩ | (simp; done) | (unfold maxLen; omega) | (simp <;> omega) | (simp <;> unfold maxLen <;> omega)) (t : q -> Q .normal W bs ⟨n, φ, h⟩ := by intro hq; (with_reducible repeat (first | refine eU ?_ | refine fc ?_ | refine iT ?_ | refine iW ?_ | refine dP (by decide) ?_ | refine lv ?_ | refine lR ?_ | refine gx ?_ | refine gl ?_)); exact hq) : Wp Tryz.prog W bs nt ds (.region id ops true) Q σ := Wp.Tx Γ bR (hg he) hp hd hs (t hQ)
theorem wK (hQ : q) (t : q -> Q .normal W bs σ := by intro hq; (with_reducible repeat (first | refine eU ?_ | refine fc ?_ | refine iT ?_ | refine iW ?_ | refine dP (by decide) ?_ | refine lv ?_ | refine lR ?_ | refine gx ?_ | refine gl ?_)); exact hq) : Wp Tryz.prog W bs nt ds .skip Q σ := Wp.skip (t hQ)
theorem wE {i : Nat} (hQ : q) (t : q -> Q (.exit i) W bs σ := by intro hq; (with_reducible repeat (first | refine eU ?_ | refine fc ?_ | refine iT ?_ | refine iW ?_ | refine dP (by decide) ?_ | refine lv ?_ | refine lR ?_ | refine gx ?_ | refine gl ?_)); exact hq) : Wp Tryz.prog W bs nt ds (.exit i) Q σ := Wp.exit (t hQ)
theorem wT (hQ : q) (t : q -> Q .ret W bs σ := by intro hq; (with_reducible repeat (first | refine eU ?_ | refine fc ?_ | refine iT ?_ | refine iW ?_ | refine dP (by decide) ?_ | refine lv ?_ | refine lR ?_ | refine gx ?_ | refine gl ?_)); exact hq) : Wp Tryz.prog W bs nt ds .ret Q σ := Wp.ret (t hQ)
theorem wZ (he : e) (hQ : q) (t : e -> q -> Q .ret W bs σ := by intro he; intro hq; (with_reducible repeat (first | refine eU ?_ | refine fc ?_ | refine iT ?_ | refine iW ?_ | refine dP (by decide) ?_ | refine lv ?_ | refine lR ?_ | refine gx ?_ | refine gl ?_)); simp only [dS, Op.operands, Value.cells, σ0, σB, Nat.reduceEqDiff, Nat.reduceAdd, Nat.reduceMul, Nat.reduceLT, Nat.reduceLeDiff, Nat.reduceBEq, ae, Int.reduceToNat, Int.reduceLT, Int.reduceLE, Nat.reduceDiv, Nat.reduceMod, Nat.reduceSub, Int.reducePow, Nat.reducePow, σP, σB3, nw, gJ, kB, jr, he]; exact hq) : Wp Tryz.prog W bs nt ds .ret Q σ := Wp.ret (t he hQ)
end
theorem wC {W : World} {bs : List Nat} {nt : Nat} {ds : Aux} {Q : jX} {σ : St} {e : Prop} {c : Operand} {x y : Code} {b : Bool} {p : Prop} (he : e) (ht : b = true -> Wp Tryz.prog W bs nt ds x Q σ) (hf : b = false -> Wp Tryz.prog W bs nt ds y Q σ) (hc : e -> lq σ.φ true c = (p, .v (.bool b)) := by intro he; simp only [dS, Op.operands, Value.cells, σ0, σB, Nat.reduceEqDiff, Nat.reduceAdd, Nat.reduceMul, Nat.reduceLT, Nat.reduceLeDiff, Nat.reduceBEq, ae, Int.reduceToNat, Int.reduceLT, Int.reduceLE, Nat.reduceDiv, Nat.reduceMod, Nat.reduceSub, Int.reducePow, Nat.reducePow, σP, σB3, he]; exact rfl) (hp : p := by trivial) : Wp Tryz.prog W bs nt ds (.cond c x y) Q σ := Wp.cond (hc he) hp ht hf
theorem wM {W : World} {bs : List Nat} {nt : Nat} {ds : Aux} {σ : St} {e : Prop} (m : Nat -> Go.LE.Src) (he : e) {n' : Nat} {L : List (Nat × FV)} {H : List (Nat × bm)} (hk : OM n' L H := by exact ⟨by simp [FV.keys, SV.keys, ax], by simp [bm.keys, ax, SV.keys, aO, aR]⟩) (hf : e -> Gp m σ.φ L := by intro he; simp only [dS, Op.operands, Value.cells, σ0, σB, Nat.reduceEqDiff, Nat.reduceAdd, Nat.reduceMul, Nat.reduceLT, Nat.reduceLeDiff, Nat.reduceBEq, ae, Int.reduceToNat, Int.reduceLT, Int.reduceLE, Nat.reduceDiv, Nat.reduceMod, Nat.reduceSub, Int.reducePow, Nat.reducePow, σP, σB3, Gp, EY, wI, jx, he] <;> trivial) (hh : e -> Ey m σ.h H := by intro he; simp only [dS, Op.operands, Value.cells, σ0, σB, Nat.reduceEqDiff, Nat.reduceAdd, Nat.reduceMul, Nat.reduceLT, Nat.reduceLeDiff, Nat.reduceBEq, ae, Int.reduceToNat, Int.reduceLT, Int.reduceLE, Nat.reduceDiv, Nat.reduceMod, Nat.reduceSub, Int.reducePow, Nat.reducePow, σP, σB3, Ey, ss, Cv, oG, mf, wI, he] <;> trivial) (hn : (gZ m H).Nodup := by simp [gZ]) (hpn : ∀ p ∈ ds.pins, m p.1 = .key p.1 /\ p.1 / 8 < n' := by simp) : Le W bs nt ds σ ⟨n', bQ L, bY H⟩ := Le.mk m hk (hf he) (hh he) hn hpn
theorem wS {e p q : Prop} (he : e) (h : q) (t : e -> q -> p := by intro he hq; simp only [dS, Op.operands, Value.cells, σ0, σB, Nat.reduceEqDiff, Nat.reduceAdd, Nat.reduceMul, Nat.reduceLT, Nat.reduceLeDiff, Nat.reduceBEq, ae, Int.reduceToNat, Int.reduceLT, Int.reduceLE, Nat.reduceDiv, Nat.reduceMod, Nat.reduceSub, Int.reducePow, Nat.reducePow, σP, σB3, nw, gJ, kB, jr, he]; exact hq) : p := t he h
theorem qq {p q : Prop} (h : q) (t : q -> p := by intro hq; (with_reducible repeat (first | refine eU ?_ | refine fc ?_ | refine iT ?_ | refine iW ?_ | refine dP (by decide) ?_ | refine lv ?_ | refine lR ?_ | refine gx ?_ | refine gl ?_)); exact hq) : p := t h
theorem oo {p : Prop} (h : p := by first | trivial | omega | exact ⟨_, rfl⟩ | (simp; done) | (unfold maxLen; omega) | (simp <;> omega) | (simp <;> unfold maxLen <;> omega)) : p := h
end
section
inductive Rx where
 | eps
 | cls (S : BitVec 256)
 | cat (a b : Rx)
 | alt (a b : Rx)
 | star (a : Rx)
 | and (a b : Rx)
 | minus (a b : Rx)
abbrev RL := Nat × Rx
def ca (n : Nat) : Nat := min n 2001
def aQ (mk : Rx -> Rx -> Rx) (a b : RL) : RL := (ca (1 + a.1 + b.1), mk a.2 b.2)
def bK (t : Rx) : RL := (1, t)
def eN (a : RL) : RL := (ca (1 + a.1), .star a.2)
def bA (a : RL) : RL := aQ .alt a (bK .eps)
def br (f : RL -> RL) : Nat -> RL -> RL
 | 0, x => x
 | n + 1, x => br f n (f x)
def cK (a : RL) (m n : Int) : RL :=
 if m = 0 /\ n < 0 then eN a
 else if m = 0 /\ n = 0 then bK .eps
 else if n < 0 then aQ .cat (br (fun x => aQ .cat x a) (m - 1).toNat (if m = 0 then bA a else a)) (eN a)
 else br (fun x => aQ .cat x (bA a)) (n - max m 1).toNat (br (fun x => aQ .cat x a) (m - 1).toNat (if m = 0 then bA a else a))
section
variable (c : Int -> Int) (N : Int) (rd : Int -> Except (Int × Int) (BitVec 256 × Int))
def iv : Nat -> Int -> Int -> Int × Int
 | 0, n, i => (n, i)
 | k + 1, n, i => if i < N /\ 48 <= c i /\ c i <= 57 then iv k (10 * n + (c i - 48)) (i + 1) else (n, i)
def fU (i : Int) : Except (Int × Int) (Int × Int) :=
 if (iv c N 3 0 i).2 = i then .error (20, i) else .ok (iv c N 3 0 i)
def vU (m j : Int) : Except (Int × Int) (Int × Int) :=
 if j < N /\ c j = 44 then (if ¬ j + 1 < N \/ c (j + 1) ≠ 125 then fU c N (j + 1) else .ok (-1, j + 1)) else .ok (m, j)
def kW (m n j i : Int) : Except (Int × Int) (Int × Int × Int) :=
 if ¬ j < N \/ c j ≠ 125 then .error (20, j)
 else if 255 < m \/ 255 < n \/ (0 <= n /\ n < m) then .error (22, i)
 else .ok (m, n, j + 1)
def lx (i : Int) : Except (Int × Int) (Int × Int × Int) :=
 match fU c N (i + 1) with
 | .error e => .error e
 | .ok (m, j) => match vU c N m j with
  | .error e => .error e
  | .ok (n, j) => kW c N m n j i
def gP : Nat -> RL -> Int -> Except (Int × Int) (RL × Int)
 | 0, r, i => .ok (r, i)
 | f + 1, r, i =>
  if ¬ i < N then .ok (r, i)
  else if c i = 42 then gP f (eN r) (i + 1)
  else if c i = 43 then gP f (aQ .cat r (eN r)) (i + 1)
  else if c i = 63 then gP f (bA r) (i + 1)
  else if c i = 123 then
   match lx c N i with
   | .error e => .error e
   | .ok (m, n, j) => gP f (cK r m n) j
  else .ok (r, i)
def qx (o : Option RL) : RL := o.getD (bK .eps)
def tR (o : Option RL) (p : RL) : RL := match o with
 | none => p
 | some x => aQ .cat x p
def ff (x : Int) : Prop := x = 124 \/ x = 38 \/ x = 45 \/ x = 41
def bf (x : Int) : Prop := x = 42 \/ x = 43 \/ x = 63 \/ x = 123
instance (x : Int) : Decidable (ff x) := by unfold ff; infer_instance
instance (x : Int) : Decidable (bf x) := by unfold bf; infer_instance
def dT (atom : Int -> Except (Int × Int) (RL × Int)) : Nat -> Option RL -> Int -> Except (Int × Int) (RL × Int)
 | 0, o, i => .ok (qx o, i)
 | f + 1, o, i =>
  if ¬ i < N then .ok (qx o, i)
  else if ff (c i) then .ok (qx o, i)
  else if bf (c i) then .error (20, i)
  else match atom i with
   | .error e => .error e
   | .ok (a, j) => match gP c N (N.toNat + 1) a j with
    | .error e => .error e
    | .ok (p, k) => dT atom f (some (tR o p)) k
def jn (row : Int -> Except (Int × Int) (RL × Int)) : Nat -> RL -> Int -> Except (Int × Int) (RL × Int)
 | 0, o, i => .ok (o, i)
 | f + 1, o, i =>
  if ¬ i < N then .ok (o, i)
  else if c i = 38 then match row (i + 1) with
   | .error e => .error e
   | .ok (r, j) => jn row f (aQ .and o r) j
  else if c i = 45 then match row (i + 1) with
   | .error e => .error e
   | .ok (r, j) => jn row f (aQ .minus o r) j
  else .ok (o, i)
def jG (row : Int -> Except (Int × Int) (RL × Int)) (i : Int) : Except (Int × Int) (RL × Int) :=
 match row i with
 | .error e => .error e
 | .ok (r, j) => jn c N row (N.toNat + 1) r j
def uo (meet : Int -> Except (Int × Int) (RL × Int)) : Nat -> RL -> Int -> Except (Int × Int) (RL × Int)
 | 0, o, i => .ok (o, i)
 | f + 1, o, i =>
  if i < N /\ c i = 124 then match meet (i + 1) with
   | .error e => .error e
   | .ok (r, j) => uo meet f (aQ .alt o r) j
  else .ok (o, i)
def VM (meet : Int -> Except (Int × Int) (RL × Int)) (i : Int) : Except (Int × Int) (RL × Int) :=
 match meet i with
 | .error e => .error e
 | .ok (r, j) => uo c N meet (N.toNat + 1) r j
def sN (atom : Int -> Except (Int × Int) (RL × Int)) : Int -> Except (Int × Int) (RL × Int) :=
 VM c N (jG c N (dT c N atom (N.toNat + 1) none))
def px (i : Int) : Except (Int × Int) (RL × Int) := match rd i with
 | .error e => .error e
 | .ok (S, j) => .ok (bK (.cls S), j)
def qE (i : Int) : Except (Int × Int) (RL × Int) -> Except (Int × Int) (RL × Int)
 | .error e => .error e
 | .ok (r, j) => if ¬ j < N then .error (21, i) else .ok (r, j + 1)
def bk : Nat -> Int -> Except (Int × Int) (RL × Int)
 | 0, i => if c i = 40 then .error (23, i) else px rd i
 | n + 1, i => if c i = 40 then qE N i (sN c N (bk n) (i + 1)) else px rd i
def alts (n : Nat) : Int -> Except (Int × Int) (RL × Int) := sN c N (bk c N rd n)
def Kl : Except (Int × Int) (RL × Int) -> Except (Int × Int) Rx
 | .error e => .error e
 | .ok (r, j) => if j < N then .error (20, j) else if 2000 < r.1 then .error (24, 0) else .ok r.2
def vV : Except (Int × Int) Rx := if 1048576 < N then .error (1, 0) else Kl N (alts c N rd 1000 0)
end
end
section
inductive RT where
 | eps
 | cls (S : BitVec 256)
 | cat (a b : RT)
 | alt (a b : RT)
 | and (a b : RT)
 | minus (a b : RT)
 | rep (a : RT) (m n : Int)
def cE (x : Rx) (m : Int) (k : Int) : Rx := if k < m then x else .alt x .eps
def dh (x : Rx) (m : Int) : Nat -> Int -> Rx -> Rx
 | 0, _, w => w
 | n + 1, k, w => dh x m n (k + 1) (.cat w (cE x m k))
def bZ (m : Int) : Int := if m = -2 then 1 else m
def cy (x : Rx) (m n : Int) : Rx :=
 if n < 0 /\ bZ m = 0 then .star x
 else if n = 0 then .eps
 else if n < 0 then .cat (dh x (bZ m) (bZ m - 1).toNat 1 (cE x (bZ m) 0)) (.star x)
 else dh x (bZ m) (n - 1).toNat 1 (cE x (bZ m) 0)
def cU (a m n : Int) : Int :=
 if m = -2 then a + 1 + a + 1
 else if n < 0 /\ m = 0 then a + 1
 else if n < 0 then m * a + m - 1 + 1 + a + 1
 else if n = 0 then 1
 else if m = 0 then n * (a + 2) + n - 1
 else m * a + m - 1 + (n - m) * (a + 2 + 1)
def RT.expand : RT -> Rx
 | .eps => .eps
 | .cls S => .cls S
 | .cat a b => .cat a.expand b.expand
 | .alt a b => .alt a.expand b.expand
 | .and a b => .and a.expand b.expand
 | .minus a b => .minus a.expand b.expand
 | .rep a m n => cy a.expand m n
def RT.sz : RT -> Nat
 | .eps => 1
 | .cls S => 1
 | .cat a b => ca (1 + a.sz + b.sz)
 | .alt a b => ca (1 + a.sz + b.sz)
 | .and a b => ca (1 + a.sz + b.sz)
 | .minus a b => ca (1 + a.sz + b.sz)
 | .rep a m n => ca (cU a.sz m n).toNat
def RT.val (t : RT) : RL := (t.sz, t.expand)
theorem iQ (n : Nat) : ca n <= 2001 := by unfold ca; omega
theorem GA (a b : Nat) : ca (1 + ca a + b) = ca (1 + a + b) := by unfold ca; omega
theorem Ev (a b : Nat) : ca (1 + a + ca b) = ca (1 + a + b) := by unfold ca; omega
theorem zL {n : Nat} (h : n <= 2001) : ca n = n := by unfold ca; omega
theorem lj (y : RL) : ∀ (k : Nat) (s : Nat) (w : Rx), (br (fun x => aQ .cat x y) k (ca s, w)).1 = ca (s + k * (1 + y.1))
 | 0, s, w => by simp [br]
 | k + 1, s, w => by
  show (br (fun x => aQ .cat x y) k (ca (1 + ca s + y.1), .cat w y.2)).1 = _
  rw [GA, lj y k, Nat.succ_mul]
  congr 1
  omega
theorem vi (x : Rx) (y : RL) (m : Int) (hy : y.2 = x) : ∀ (n : Nat) (k : Int) (s : Nat) (w : Rx), k + n <= m -> (br (fun z => aQ .cat z y) n (s, w)).2 = dh x m n k w
 | 0, k, s, w, _ => rfl
 | n + 1, k, s, w, h => by
  have hpx : cE x m k = y.2 := by rw [cE, if_pos (by omega), hy]
  show (br (fun z => aQ .cat z y) n (ca (1 + s + y.1), .cat w y.2)).2 = dh x m n (k + 1) (.cat w (cE x m k))
  rw [hpx]
  exact vi x y m hy n (k + 1) _ _ (by omega)
theorem uM (x : Rx) (y : RL) (m : Int) (hy : y.2 = .alt x .eps) : ∀ (n : Nat) (k : Int) (s : Nat) (w : Rx), m <= k -> (br (fun z => aQ .cat z y) n (s, w)).2 = dh x m n k w
 | 0, k, s, w, _ => rfl
 | n + 1, k, s, w, h => by
  have hpx : cE x m k = y.2 := by rw [cE, if_neg (by omega), hy]
  show (br (fun z => aQ .cat z y) n (ca (1 + s + y.1), .cat w y.2)).2 = dh x m n (k + 1) (.cat w (cE x m k))
  rw [hpx]
  exact uM x y m hy n (k + 1) _ _ (by omega)
theorem vx (x : Rx) (m : Int) : ∀ (a b : Nat) (k : Int) (w : Rx), dh x m (a + b) k w = dh x m b (k + a) (dh x m a k w)
 | 0, b, k, w => by simp [dh]
 | a + 1, b, k, w => by
  rw [Nat.succ_add]
  simp only [dh]
  rw [vx x m a b]
  congr 1
  omega
theorem tw (t : RT) : eN t.val = (RT.rep t 0 (-1)).val := by
 simp only [eN, RT.val, RT.sz, RT.expand, cy, bZ, cU]
 simp
 congr 1
 omega
theorem uI (t : RT) : aQ .cat t.val (eN t.val) = (RT.rep t (-2) (-1)).val := by
 simp only [eN, aQ, RT.val, RT.sz, RT.expand, cy, bZ, cU, dh, cE]
 simp [dh]
 rw [Ev]
 congr 1
 omega
theorem xU (t : RT) : bA t.val = (RT.rep t 0 1).val := by
 simp only [bA, bK, eN, aQ, RT.val, RT.sz, RT.expand, cy, bZ, cU, dh, cE]
 simp [dh]
 congr 1
 omega
theorem DM (p k s : Nat) : ca (p + k * (1 + ca s)) = ca (p + k * (1 + s)) := by
 by_cases h : s <= 2001
 ·rw [zL h]
 ·have e : ca s = 2001 := by unfold ca; omega
  rw [e]
  cases k with
  | zero => simp
  | succ k =>
   have h1 := Nat.succ_mul k (1 + 2001)
   have h2 := Nat.succ_mul k (1 + s)
   unfold ca
   rw [h1, h2]
   omega
theorem As {α β : Type} {x : α × β} {a : α} {b : β} (h1 : x.1 = a) (h2 : x.2 = b) : x = (a, b) := by rw [<- h1, <- h2]
theorem qI (t : RT) (m n : Int) (h0 : 0 <= m) (h1 : n = -1 \/ (0 <= n /\ m <= n)) (ht : t.sz <= 2001) : cK t.val m n = (RT.rep t m n).val := by
 have hp : bZ m = m := by unfold bZ; rw [if_neg (by omega)]
 have hm2 : ¬ m = -2 := by omega
 rcases h1 with rfl | ⟨hn, hmn⟩
 ·by_cases hm : m = 0
  ·subst hm
   rw [<- tw]
   rfl
  ·obtain ⟨a, rfl⟩ : ∃ a : Nat, m = (a : Int) + 1 := ⟨(m - 1).toNat, by omega⟩
   have e1 : ((a : Int) + 1 - 1).toNat = a := by omega
   have e2 : cK t.val ((a : Int) + 1) (-1) = aQ .cat (br (fun x => aQ .cat x t.val) a t.val) (eN t.val) := by
    unfold cK
    rw [if_neg (by omega), if_neg (by omega), if_pos (by omega), e1, if_neg hm]
   rw [e2]
   apply As
   ·show ca (1 + (br (fun x => aQ .cat x t.val) a t.val).1 + ca (1 + t.sz)) = ca (cU t.sz ((a : Int) + 1) (-1)).toNat
    have e3 : (br (fun x => aQ .cat x t.val) a t.val).1 = ca (t.sz + a * (1 + t.sz)) := by
     have := lj t.val a t.sz t.expand
     rw [zL ht] at this
     exact this
    have e4 : cU t.sz ((a : Int) + 1) (-1) = ((1 + (t.sz + a * (1 + t.sz)) + (1 + t.sz) : Nat) : Int) := by
     unfold cU
     rw [if_neg hm2, if_neg (by omega), if_pos (by omega)]
     have g1 : ((a : Int) + 1) * (t.sz : Int) = (a : Int) * t.sz + t.sz := by rw [Int.add_mul]; omega
     have g2 : a * (1 + t.sz) = a + a * t.sz := by rw [Nat.mul_add]; omega
     rw [g1, g2]
     have g3 : ((a * t.sz : Nat) : Int) = (a : Int) * t.sz := by simp
     omega
    rw [e3, e4, GA, Ev, Int.toNat_natCast]
   ·show Rx.cat (br (fun x => aQ .cat x t.val) a t.val).2 (.star t.expand) = cy t.expand ((a : Int) + 1) (-1)
    unfold cy
    rw [hp, if_neg (by omega), if_neg (by omega), if_pos (by omega), e1]
    have := vi t.expand t.val ((a : Int) + 1) rfl a 1 t.sz t.expand (by omega)
    rw [show cE t.expand ((a : Int) + 1) 0 = t.expand from by unfold cE; rw [if_pos (by omega)]]
    rw [<- this]
    rfl
 ·by_cases hm : m = 0
  ·subst hm
   by_cases hn0 : n = 0
   ·subst hn0; rfl
   ·obtain ⟨b, rfl⟩ : ∃ b : Nat, n = (b : Int) + 1 := ⟨(n - 1).toNat, by omega⟩
    have e1 : ((b : Int) + 1 - max 0 1).toNat = b := by omega
    have e2 : cK t.val 0 ((b : Int) + 1) = br (fun x => aQ .cat x (bA t.val)) b (bA t.val) := by
     unfold cK
     rw [if_neg (by omega), if_neg (by omega), if_neg (by omega), e1, if_pos rfl]
     rfl
    rw [e2]
    apply As
    ·have e3 : (br (fun x => aQ .cat x (bA t.val)) b (bA t.val)).1 = ca ((t.sz + 2) + b * (1 + (t.sz + 2))) := by
      have := lj (bA t.val) b (1 + t.sz + 1) (.alt t.expand .eps)
      rw [show (bA t.val).1 = ca (t.sz + 2) from by show ca (1 + t.sz + 1) = _; congr 1; omega, DM] at this
      rw [show 1 + t.sz + 1 = t.sz + 2 by omega] at this
      rw [<- this]
      show (br _ b (ca (1 + t.sz + 1), _)).1 = _
      rw [show 1 + t.sz + 1 = t.sz + 2 by omega]
      rfl
     have e4 : cU t.sz 0 ((b : Int) + 1) = (((t.sz + 2) + b * (1 + (t.sz + 2)) : Nat) : Int) := by
      unfold cU
      rw [if_neg (by omega), if_neg (by omega), if_neg (by omega), if_neg (by omega), if_pos rfl]
      have g1 : ((b : Int) + 1) * ((t.sz : Int) + 2) = (b : Int) * t.sz + 2 * b + t.sz + 2 := by rw [Int.add_mul, Int.mul_add]; omega
      have g2 : b * (1 + (t.sz + 2)) = b * t.sz + 3 * b := by rw [show 1 + (t.sz + 2) = t.sz + 3 by omega, Nat.mul_add]; omega
      rw [g1, g2]
      have g3 : ((b * t.sz : Nat) : Int) = (b : Int) * t.sz := by simp
      omega
     rw [e3]
     show _ = ca (cU t.sz 0 ((b : Int) + 1)).toNat
     rw [e4, Int.toNat_natCast]
    ·show _ = cy t.expand 0 ((b : Int) + 1)
     unfold cy
     rw [hp, if_neg (by omega), if_neg (by omega), if_neg (by omega), show ((b : Int) + 1 - 1).toNat = b by omega]
     have := uM t.expand (bA t.val) 0 rfl b 1 (bA t.val).1 (.alt t.expand .eps) (by omega)
     rw [show cE t.expand 0 0 = .alt t.expand .eps from by unfold cE; rw [if_neg (by omega)]]
     rw [<- this]
     rfl
  ·obtain ⟨a, rfl⟩ : ∃ a : Nat, m = (a : Int) + 1 := ⟨(m - 1).toNat, by omega⟩
   obtain ⟨d, rfl⟩ : ∃ d : Nat, n = (a : Int) + 1 + d := ⟨(n - (a + 1)).toNat, by omega⟩
   have e1 : ((a : Int) + 1 - 1).toNat = a := by omega
   have e0 : ((a : Int) + 1 + d - max ((a : Int) + 1) 1).toNat = d := by omega
   have e2 : cK t.val ((a : Int) + 1) ((a : Int) + 1 + d) = br (fun x => aQ .cat x (bA t.val)) d (br (fun x => aQ .cat x t.val) a t.val) := by
    unfold cK
    rw [if_neg (by omega), if_neg (by omega), if_neg (by omega), e0, e1, if_neg hm]
   have e3 : (br (fun x => aQ .cat x t.val) a t.val).1 = ca (t.sz + a * (1 + t.sz)) := by
    have := lj t.val a t.sz t.expand
    rw [zL ht] at this
    exact this
   have e5 : (br (fun x => aQ .cat x t.val) a t.val).2 = dh t.expand ((a : Int) + 1) a 1 t.expand := vi t.expand t.val ((a : Int) + 1) rfl a 1 t.sz t.expand (by omega)
   have e6 : br (fun x => aQ .cat x t.val) a t.val = (ca (t.sz + a * (1 + t.sz)), dh t.expand ((a : Int) + 1) a 1 t.expand) := As e3 e5
   rw [e2, e6]
   apply As
   ·have e4 : cU t.sz ((a : Int) + 1) ((a : Int) + 1 + d) = ((t.sz + a * (1 + t.sz) + d * (1 + (t.sz + 2)) : Nat) : Int) := by
     unfold cU
     rw [if_neg hm2, if_neg (by omega), if_neg (by omega), if_neg (by omega), if_neg hm]
     have g1 : ((a : Int) + 1) * (t.sz : Int) = (a : Int) * t.sz + t.sz := by rw [Int.add_mul]; omega
     have g2 : a * (1 + t.sz) = a + a * t.sz := by rw [Nat.mul_add]; omega
     have g4 : ((a : Int) + 1 + d - ((a : Int) + 1)) * ((t.sz : Int) + 2 + 1) = (d : Int) * t.sz + 3 * d := by
      rw [show (a : Int) + 1 + d - ((a : Int) + 1) = d by omega, show (t.sz : Int) + 2 + 1 = t.sz + 3 by omega, Int.mul_add]; omega
     have g5 : d * (1 + (t.sz + 2)) = d * t.sz + 3 * d := by rw [show 1 + (t.sz + 2) = t.sz + 3 by omega, Nat.mul_add]; omega
     rw [g1, g2, g4, g5]
     have g3 : ((a * t.sz : Nat) : Int) = (a : Int) * t.sz := by simp
     have g6 : ((d * t.sz : Nat) : Int) = (d : Int) * t.sz := by simp
     omega
    show _ = ca (cU t.sz ((a : Int) + 1) ((a : Int) + 1 + d)).toNat
    rw [e4, Int.toNat_natCast, lj]
    rw [show (bA t.val).1 = ca (t.sz + 2) from by show ca (1 + t.sz + 1) = _; congr 1; omega, DM]
   ·show _ = cy t.expand ((a : Int) + 1) ((a : Int) + 1 + d)
    unfold cy
    rw [hp, if_neg (by omega), if_neg (by omega), if_neg (by omega), show ((a : Int) + 1 + d - 1).toNat = a + d by omega, vx]
    rw [show cE t.expand ((a : Int) + 1) 0 = t.expand from by unfold cE; rw [if_pos (by omega)]]
    exact uM t.expand (bA t.val) ((a : Int) + 1) rfl d (1 + a) _ _ (by omega)
theorem rP (t : RT) : t.sz <= 2001 := by
 cases t <;> simp only [RT.sz] <;> first | exact iQ _ | omega
end
section
structure Lv where
 place : Int
 alt : Option RT
 meet : Option RT
 sgn : Int
 row : Option RT
 fac : Option RT
def fe (i : Int) : Lv := ⟨i, none, none, 0, none, none⟩
def X1 : Option RT -> RT -> RT
 | none, p => p
 | some r, p => .cat r p
def rowOf (row fac : Option RT) : Option RT := match fac with
 | none => row
 | some p => some (X1 row p)
def dO (f : Lv) : Lv := { f with row := rowOf f.row f.fac, fac := none }
def jJ (meet : Option RT) (sgn : Int) (r : RT) : RT := match meet with
 | none => r
 | some m => if sgn = 38 then .and m r else .minus m r
def j5 (f : Lv) : Lv := { f with meet := some (jJ f.meet f.sgn ((rowOf f.row f.fac).getD .eps)), row := none, fac := none }
def QM (alt : Option RT) (m : RT) : RT := match alt with
 | none => m
 | some a => .alt a m
def dL (f : Lv) : RT := jJ f.meet f.sgn ((rowOf f.row f.fac).getD .eps)
def gu (f : Lv) : RT := QM f.alt (dL f)
def oy (f : Lv) : Lv := { f with alt := some (gu f), meet := none, row := none, fac := none }
section
variable (c : Int -> Int) (N : Int) (rd : Int -> Except (Int × Int) (BitVec 256 × Int))
def ni (i : Int) (f : Lv) (p : RT) : Except (Int × Int) (Int × Lv) :=
 if c i = 42 then .ok (i + 1, { f with fac := some (.rep p 0 (-1)) })
 else if c i = 43 then .ok (i + 1, { f with fac := some (.rep p (-2) (-1)) })
 else if c i = 63 then .ok (i + 1, { f with fac := some (.rep p 0 1) })
 else match lx c N i with
  | .error e => .error e
  | .ok (m, n, j) => .ok (j, { f with fac := some (.rep p m n) })
def dJ (i : Int) (f : Lv) (rest : List Lv) : Except (Int × Int) (Int × Lv × List Lv) :=
 if bf (c i) then
  match f.fac with
  | none => .error (20, i)
  | some p => match ni c N i f p with
   | .error e => .error e
   | .ok (j, g) => .ok (j, g, rest)
 else if c i = 124 then .ok (i + 1, oy f, rest)
 else if c i = 38 \/ c i = 45 then .ok (i + 1, { j5 f with sgn := c i }, rest)
 else if c i = 41 then
  match rest with
  | [] => .error (20, i)
  | g :: r => .ok (i + 1, { g with fac := some (gu f) }, r)
 else if c i = 40 then
  if 1000 < rest.length + 1 then .error (23, i) else .ok (i + 1, fe i, dO f :: rest)
 else match rd i with
  | .error e => .error e
  | .ok (S, j) => .ok (j, { dO f with fac := some (.cls S) }, rest)
def runN : Nat -> Int -> Lv -> List Lv -> Except (Int × Int) (Lv × List Lv)
 | 0, _, f, rest => .ok (f, rest)
 | n + 1, i, f, rest =>
  if i < N then match dJ c N rd i f rest with
   | .error e => .error e
   | .ok (j, g, r) => runN n j g r
  else .ok (f, rest)
def run (i : Int) (f : Lv) (rest : List Lv) : Except (Int × Int) (Lv × List Lv) := runN c N rd ((N - i).toNat + 1) i f rest
def mT : Except (Int × Int) (Lv × List Lv) -> Except (Int × Int) RT
 | .error e => .error e
 | .ok (f, rest) => if rest ≠ [] then .error (21, f.place) else if 2000 < (gu f).sz then .error (24, 0) else .ok (gu f)
def gA : Except (Int × Int) RT := if 1048576 < N then .error (1, 0) else mT (run c N rd 0 (fe (-1)) [])
variable {c N rd}
def qW (N : Int) (rd : Int -> Except (Int × Int) (BitVec 256 × Int)) : Prop := ∀ i S j, 0 <= i -> i < N -> rd i = .ok (S, j) -> i < j /\ j <= N
theorem Je : ∀ (k : Nat) (n i : Int), i <= (iv c N k n i).2 /\ ((iv c N k n i).2 <= N \/ (iv c N k n i).2 = i) := by
 intro k
 induction k with
 | zero => intro n i; exact ⟨Int.le_refl _, .inr rfl⟩
 | succ k ih =>
  intro n i
  simp only [iv]
  split
  ·have := ih (10 * n + (c i - 48)) (i + 1)
   omega
  ·exact ⟨Int.le_refl _, .inr rfl⟩
theorem ti {i n j : Int} (h : fU c N i = .ok (n, j)) : i < j /\ j <= N := by
 have := Je (c := c) (N := N) 3 0 i
 unfold fU at h
 split at h
 ·cases h
 ·simp only [Except.ok.injEq] at h
  rw [h] at this
  rename_i hne
  rw [h] at hne
  simp only at this hne
  omega
theorem tO {i m n j : Int} (h : lx c N i = .ok (m, n, j)) : i < j /\ j <= N := by
 unfold lx at h
 cases h1 : fU c N (i + 1) with
 | error e => rw [h1] at h; cases h
 | ok p =>
  obtain ⟨m', j'⟩ := p
  rw [h1] at h
  simp only at h
  have g1 := ti h1
  cases h2 : vU c N m' j' with
  | error e => rw [h2] at h; cases h
  | ok p =>
   obtain ⟨n', j2⟩ := p
   rw [h2] at h
   simp only at h
   have g2 : j' <= j2 /\ j2 <= N := by
    unfold vU at h2
    split at h2
    ·split at h2
     ·have := ti h2; omega
     ·simp only [Except.ok.injEq, Prod.mk.injEq] at h2; omega
    ·simp only [Except.ok.injEq, Prod.mk.injEq] at h2; omega
   unfold kW at h
   split at h
   ·cases h
   ·split at h
    ·cases h
    ·simp only [Except.ok.injEq, Prod.mk.injEq] at h; omega
theorem Q0 {i m n j : Int} (h : lx c N i = .ok (m, n, j)) : 0 <= m /\ (n = -1 \/ (0 <= n /\ m <= n)) := by
 have nn : ∀ (k : Nat) (n i : Int), 0 <= n -> 0 <= (iv c N k n i).1 := by
  intro k
  induction k with
  | zero => intro n i h; exact h
  | succ k ih =>
   intro n i h
   simp only [iv]
   split
   ·exact ih _ _ (by omega)
   ·exact h
 have ne : ∀ {i n j : Int}, fU c N i = .ok (n, j) -> 0 <= n := fun {i n j} h => by
  unfold fU at h
  split at h
  ·cases h
  ·simp only [Except.ok.injEq] at h
   have := nn 3 0 i (by omega)
   rw [h] at this
   exact this
 unfold lx at h
 cases h1 : fU c N (i + 1) with
 | error e => rw [h1] at h; cases h
 | ok p =>
  obtain ⟨m', j'⟩ := p
  rw [h1] at h
  simp only at h
  have g1 := ne h1
  cases h2 : vU c N m' j' with
  | error e => rw [h2] at h; cases h
  | ok p =>
   obtain ⟨n', j2⟩ := p
   rw [h2] at h
   simp only at h
   have g2 : n' = -1 \/ 0 <= n' := by
    unfold vU at h2
    split at h2
    ·split at h2
     ·exact .inr (ne h2)
     ·simp only [Except.ok.injEq, Prod.mk.injEq] at h2; omega
    ·simp only [Except.ok.injEq, Prod.mk.injEq] at h2; omega
   unfold kW at h
   split at h
   ·cases h
   ·split at h
    ·cases h
    ·simp only [Except.ok.injEq, Prod.mk.injEq] at h
     obtain ⟨rfl, rfl, _⟩ := h
     omega
theorem CB (hrd : qW N rd) {i j : Int} {f g : Lv} {rest r : List Lv} (h0 : 0 <= i) (hi : i < N) (h : dJ c N rd i f rest = .ok (j, g, r)) : i < j /\ j <= N := by
 unfold dJ at h
 split at h
 ·cases hf : f.fac with
  | none => rw [hf] at h; cases h
  | some p =>
   rw [hf] at h
   simp only at h
   cases hp : ni c N i f p with
   | error e => rw [hp] at h; cases h
   | ok q =>
    obtain ⟨j', g'⟩ := q
    rw [hp] at h
    simp only [Except.ok.injEq, Prod.mk.injEq] at h
    obtain ⟨rfl, rfl, rfl⟩ := h
    unfold ni at hp
    split at hp
    ·simp only [Except.ok.injEq, Prod.mk.injEq] at hp; omega
    ·split at hp
     ·simp only [Except.ok.injEq, Prod.mk.injEq] at hp; omega
     ·split at hp
      ·simp only [Except.ok.injEq, Prod.mk.injEq] at hp; omega
      ·cases hb : lx c N i with
       | error e => rw [hb] at hp; cases hp
       | ok q =>
        obtain ⟨m, n, k⟩ := q
        rw [hb] at hp
        simp only [Except.ok.injEq, Prod.mk.injEq] at hp
        have := tO hb
        omega
 ·split at h
  ·simp only [Except.ok.injEq, Prod.mk.injEq] at h; omega
  ·split at h
   ·simp only [Except.ok.injEq, Prod.mk.injEq] at h; omega
   ·split at h
    ·cases rest with
     | nil => cases h
     | cons g r => simp only [Except.ok.injEq, Prod.mk.injEq] at h; omega
    ·split at h
     ·split at h
      ·cases h
      ·simp only [Except.ok.injEq, Prod.mk.injEq] at h; omega
     ·cases hS : rd i with
      | error e => rw [hS] at h; cases h
      | ok q =>
       obtain ⟨S, k⟩ := q
       rw [hS] at h
       simp only [Except.ok.injEq, Prod.mk.injEq] at h
       have := hrd i S k h0 hi hS
       omega
theorem J0 (hrd : qW N rd) : ∀ (n m : Nat) (i : Int) (f : Lv) (rest : List Lv), 0 <= i -> N - i < n -> N - i < m -> runN c N rd n i f rest = runN c N rd m i f rest := by
 intro n
 induction n with
 | zero =>
  intro m i f rest h0 h1 h2
  cases m with
  | zero => rfl
  | succ m => simp only [runN]; rw [if_neg (by omega)]
 | succ n ih =>
  intro m i f rest h0 h1 h2
  cases m with
  | zero => simp only [runN]; rw [if_neg (by omega)]
  | succ m =>
   simp only [runN]
   by_cases hi : i < N
   ·rw [if_pos hi, if_pos hi]
    cases hs : dJ c N rd i f rest with
    | error e => rfl
    | ok q =>
     obtain ⟨j, g, r⟩ := q
     have := CB hrd h0 hi hs
     exact ih m j g r (by omega) (by omega) (by omega)
   ·rw [if_neg hi, if_neg hi]
theorem ID {i : Int} {f : Lv} {rest : List Lv} (hi : ¬ i < N) : run c N rd i f rest = .ok (f, rest) := by
 unfold run
 simp only [runN]
 rw [if_neg hi]
theorem fC (hrd : qW N rd) {i : Int} {f : Lv} {rest : List Lv} (h0 : 0 <= i) (hi : i < N) : run c N rd i f rest = match dJ c N rd i f rest with
  | .error e => .error e
  | .ok (j, g, r) => run c N rd j g r := by
 unfold run
 rw [runN, if_pos hi]
 cases hs : dJ c N rd i f rest with
 | error e => rfl
 | ok q =>
  obtain ⟨j, g, r⟩ := q
  have := CB hrd h0 hi hs
  exact J0 hrd _ _ j g r (by omega) (by omega) (by omega)
theorem UG (hrd : qW N rd) : ∀ (n : Nat) (i : Int) (p : RT) (f : Lv) (rest : List Lv), 0 <= i -> i <= N -> N - i < n -> f.fac = some p ->
  match gP c N n p.val i with
  | .error e => mT (run c N rd i f rest) = .error e
  | .ok (r, j) => i <= j /\ j <= N /\ (j < N -> ¬ bf (c j)) /\ ∃ q, r = RT.val q /\ run c N rd i f rest = run c N rd j { f with fac := some q } rest := by
 intro n
 induction n with
 | zero => intro i p f rest _ _ h; omega
 | succ n ih =>
  intro i p f rest h0 hiN hn hf
  have same : f = { f with fac := some p } := by cases f; simp only at hf; subst hf; rfl
  have go : ∀ (q : RT) (j : Int), i < j -> j <= N -> dJ c N rd i f rest = .ok (j, { f with fac := some q }, rest) -> ∀ res, gP c N (n + 1) p.val i = res -> gP c N n q.val j = res ->
    match res with
    | .error e => mT (run c N rd i f rest) = .error e
    | .ok (r, j) => i <= j /\ j <= N /\ (j < N -> ¬ bf (c j)) /\ ∃ q, r = RT.val q /\ run c N rd i f rest = run c N rd j { f with fac := some q } rest := by
   intro q j hij hjN hs res _ hr
   have := ih j q { f with fac := some q } rest (by omega) hjN (by omega) rfl
   rw [hr] at this
   have hi : i < N := by omega
   rw [fC hrd h0 hi, hs]
   cases res with
   | error e => exact this
   | ok x =>
    obtain ⟨r, k⟩ := x
    obtain ⟨g1, g2, g3, q', g4, g5⟩ := this
    exact ⟨by omega, g2, g3, q', g4, g5⟩
  by_cases hi : i < N
  ·have hP : ∀ x, bf (c i) -> ni c N i f p = x -> dJ c N rd i f rest = match x with | .error e => .error e | .ok (j, g) => .ok (j, g, rest) := fun x hp hx => by
    unfold dJ
    rw [if_pos hp, hf]
    simp only [hx]
   have hE : gP c N (n + 1) p.val i = if c i = 42 then gP c N n (eN p.val) (i + 1)
     else if c i = 43 then gP c N n (aQ .cat p.val (eN p.val)) (i + 1)
     else if c i = 63 then gP c N n (bA p.val) (i + 1)
     else if c i = 123 then
      match lx c N i with
      | .error e => .error e
      | .ok (m, n', j) => gP c N n (cK p.val m n') j
     else .ok (p.val, i) := by
    rw [gP, if_neg (by omega)]
    all_goals rfl
   by_cases h42 : c i = 42
   ·rw [hE, if_pos h42, tw]
    exact go _ (i + 1) (by omega) (by omega) (by rw [hP _ (by unfold bf; omega) rfl]; unfold ni; rw [if_pos h42]) _ (by rw [hE, if_pos h42, tw]) rfl
   ·by_cases h43 : c i = 43
    ·rw [hE, if_neg h42, if_pos h43, uI]
     exact go _ (i + 1) (by omega) (by omega) (by rw [hP _ (by unfold bf; omega) rfl]; unfold ni; rw [if_neg h42, if_pos h43]) _ (by rw [hE, if_neg h42, if_pos h43, uI]) rfl
    ·by_cases h63 : c i = 63
     ·rw [hE, if_neg h42, if_neg h43, if_pos h63, xU]
      exact go _ (i + 1) (by omega) (by omega) (by rw [hP _ (by unfold bf; omega) rfl]; unfold ni; rw [if_neg h42, if_neg h43, if_pos h63]) _ (by rw [hE, if_neg h42, if_neg h43, if_pos h63, xU]) rfl
     ·by_cases h123 : c i = 123
      ·have hps : ni c N i f p = match lx c N i with
         | .error e => .error e
         | .ok (m, n, j) => .ok (j, { f with fac := some (.rep p m n) }) := by
        unfold ni; rw [if_neg h42, if_neg h43, if_neg h63]
       rw [hE, if_neg h42, if_neg h43, if_neg h63, if_pos h123]
       cases hb : lx c N i with
       | error e =>
        simp only
        rw [fC hrd h0 hi, hP _ (by unfold bf; omega) hps, hb]
        rfl
       | ok x =>
        obtain ⟨m, n', j⟩ := x
        have g1 := tO hb
        obtain ⟨g2, g3⟩ := Q0 hb
        simp only
        rw [qI p m n' g2 g3 (rP p)]
        exact go _ j g1.1 g1.2 (by rw [hP _ (by unfold bf; omega) hps, hb]) _ (by rw [hE, if_neg h42, if_neg h43, if_neg h63, if_pos h123, hb]; simp only; rw [qI p m n' g2 g3 (rP p)]) rfl
      ·rw [hE, if_neg h42, if_neg h43, if_neg h63, if_neg h123]
       exact ⟨Int.le_refl _, by omega, fun _ hp => by unfold bf at hp; omega, p, rfl, by rw [<- same]⟩
  ·rw [gP, if_pos hi]
   exact ⟨Int.le_refl _, hiN, fun h => absurd h hi, p, rfl, by rw [<- same]⟩
def qu (c : Int -> Int) (N : Int) (rd : Int -> Except (Int × Int) (BitVec 256 × Int)) (n : Nat) : Prop := ∀ (i : Int) (f : Lv) (rest : List Lv), 0 <= i -> i < N -> ¬ ff (c i) -> ¬ bf (c i) -> rest.length + n = 1000 ->
  match bk c N rd n i with
  | .error e => mT (run c N rd i f rest) = .error e
  | .ok (r, j) => i < j /\ j <= N /\ ∃ t, r = RT.val t /\ run c N rd i f rest = run c N rd j { dO f with fac := some t } rest
theorem CO (o : Option RT) : qx (o.map RT.val) = (o.getD .eps).val := by cases o <;> rfl
theorem Nt (o : Option RT) (p : RT) : tR (o.map RT.val) p.val = (X1 o p).val := by cases o <;> rfl
theorem AA (hrd : qW N rd) {n : Nat} (ha : qu c N rd n) : ∀ (k : Nat) (i : Int) (f : Lv) (rest : List Lv), 0 <= i -> i <= N -> N - i < k -> (f.fac ≠ none -> i < N -> ¬ bf (c i)) -> rest.length + n = 1000 ->
  match dT c N (bk c N rd n) k ((rowOf f.row f.fac).map RT.val) i with
  | .error e => mT (run c N rd i f rest) = .error e
  | .ok (r, j) => i <= j /\ j <= N /\ (j < N -> ff (c j)) /\ ∃ row fac, r = ((rowOf row fac).getD .eps).val /\ run c N rd i f rest = run c N rd j { f with row := row, fac := fac } rest := by
 intro k
 induction k with
 | zero => intro i f rest _ _ h; omega
 | succ k ih =>
  intro i f rest h0 hiN hk hp hd
  by_cases hi : i < N
  ·by_cases he : ff (c i)
   ·rw [dT, if_neg (by omega), if_pos he, CO]
    exact ⟨Int.le_refl _, hiN, fun _ => he, f.row, f.fac, rfl, rfl⟩
   ·by_cases hps : bf (c i)
    ·rw [dT, if_neg (by omega), if_neg he, if_pos hps]
     have hf : f.fac = none := by
      cases hf : f.fac with
      | none => rfl
      | some p => exact absurd hps (hp (by rw [hf]; simp) hi)
     simp only
     rw [fC hrd h0 hi]
     unfold dJ
     rw [if_pos hps, hf]
     rfl
    ·rw [dT, if_neg (by omega), if_neg he, if_neg hps]
     have h1 := ha i f rest h0 hi he hps hd
     cases hA : bk c N rd n i with
     | error e => rw [hA] at h1; exact h1
     | ok x =>
      obtain ⟨a, j⟩ := x
      rw [hA] at h1
      obtain ⟨g1, g2, t, rfl, g3⟩ := h1
      have h2 := UG (c := c) hrd (N.toNat + 1) j t { dO f with fac := some t } rest (by omega) g2 (by omega) rfl
      simp only
      cases hR : gP c N (N.toNat + 1) t.val j with
      | error e => rw [hR] at h2; simp only at h2 ⊢; rw [g3, h2]
      | ok y =>
       obtain ⟨p, l⟩ := y
       rw [hR] at h2
       obtain ⟨g4, g5, g6, q, rfl, g7⟩ := h2
       simp only
       have h3 := ih l { dO f with fac := some q } rest (by omega) g5 (by omega) (fun _ => g6) hd
       have e1 : some (tR ((rowOf f.row f.fac).map RT.val) q.val) = (rowOf (dO f).row (some q)).map RT.val := by
        rw [Nt]; rfl
       rw [e1]
       simp only at h3
       revert h3
       cases dT c N (bk c N rd n) k ((rowOf (dO f).row (some q)).map RT.val) l with
       | error e => intro h3; simp only at h3 ⊢; rw [g3, g7, h3]
       | ok z =>
        obtain ⟨r, m⟩ := z
        rintro ⟨g8, g9, g10, row, fac, g11, g12⟩
        exact ⟨by omega, g9, g10, row, fac, g11, by rw [g3, g7, g12]; rfl⟩
  ·rw [dT, if_pos hi, CO]
   exact ⟨Int.le_refl _, hiN, fun h => absurd h hi, f.row, f.fac, rfl, rfl⟩
theorem Mh (hrd : qW N rd) {n : Nat} (ha : qu c N rd n) : ∀ (k : Nat) (i : Int) (f : Lv) (rest : List Lv), 0 <= i -> i <= N -> N - i < k -> (i < N -> ff (c i)) -> rest.length + n = 1000 ->
  match jn c N (dT c N (bk c N rd n) (N.toNat + 1) none) k (dL f).val i with
  | .error e => mT (run c N rd i f rest) = .error e
  | .ok (r, j) => i <= j /\ j <= N /\ (j < N -> c j = 124 \/ c j = 41) /\ ∃ g : Lv, g.place = f.place /\ g.alt = f.alt /\ r = (dL g).val /\ run c N rd i f rest = run c N rd j g rest := by
 intro k
 induction k with
 | zero => intro i f rest _ _ h; omega
 | succ k ih =>
  intro i f rest h0 hiN hk he hd
  by_cases hi : i < N
  ·have go : ∀ (mk : RT -> RT -> RT) (mkx : Rx -> Rx -> Rx), (∀ a b : RT, aQ mkx a.val b.val = (mk a b).val) -> (c i = 38 \/ c i = 45) -> (∀ (m : RT) (g : Lv), g.meet = some m -> g.sgn = c i -> dL g = mk m ((rowOf g.row g.fac).getD .eps)) ->
     match (match dT c N (bk c N rd n) (N.toNat + 1) none (i + 1) with
      | .error e => (.error e : Except (Int × Int) (RL × Int))
      | .ok (r, j) => jn c N (dT c N (bk c N rd n) (N.toNat + 1) none) k (aQ mkx (dL f).val r) j) with
     | .error e => mT (run c N rd i f rest) = .error e
     | .ok (r, j) => i <= j /\ j <= N /\ (j < N -> c j = 124 \/ c j = 41) /\ ∃ g : Lv, g.place = f.place /\ g.alt = f.alt /\ r = (dL g).val /\ run c N rd i f rest = run c N rd j g rest := by
    intro mk mkx hmk hc hmt
    have hs : dJ c N rd i f rest = .ok (i + 1, { j5 f with sgn := c i }, rest) := by
     unfold dJ
     rw [if_neg (by unfold bf; omega), if_neg (by omega), if_pos hc]
    have h1 := AA hrd ha (N.toNat + 1) (i + 1) { j5 f with sgn := c i } rest (by omega) (by omega) (by omega) (fun h => absurd rfl h) hd
    have hr : run c N rd i f rest = run c N rd (i + 1) { j5 f with sgn := c i } rest := by rw [fC hrd h0 hi, hs]
    have e0 : (rowOf ({ j5 f with sgn := c i } : Lv).row ({ j5 f with sgn := c i } : Lv).fac).map RT.val = none := rfl
    rw [e0] at h1
    revert h1
    cases dT c N (bk c N rd n) (N.toNat + 1) none (i + 1) with
    | error e => intro h1; simp only at h1 ⊢; rw [hr]; exact h1
    | ok z =>
     obtain ⟨r, j⟩ := z
     rintro ⟨g1, g2, g3, row, fac, rfl, g4⟩
     simp only
     rw [hmk]
     have hg : mk (dL f) ((rowOf row fac).getD .eps) = dL { j5 f with sgn := c i, row := row, fac := fac } := (hmt (dL f) { j5 f with sgn := c i, row := row, fac := fac } rfl rfl).symm
     rw [hg]
     have h2 := ih j { j5 f with sgn := c i, row := row, fac := fac } rest (by omega) g2 (by omega) g3 hd
     revert h2
     cases jn c N (dT c N (bk c N rd n) (N.toNat + 1) none) k (dL { j5 f with sgn := c i, row := row, fac := fac }).val j with
     | error e => intro h2; simp only at h2 ⊢; rw [hr]; exact (congrArg mT g4).trans h2
     | ok y =>
      obtain ⟨r2, j2⟩ := y
      rintro ⟨g5, g6, g7, g, g8, g9, g10, g11⟩
      exact ⟨by omega, g6, g7, g, g8, g9, g10, by rw [hr]; exact g4.trans g11⟩
   by_cases h38 : c i = 38
   ·rw [jn, if_neg (by omega), if_pos h38]
    exact go .and .and (fun a b => rfl) (.inl h38) fun m g h1 h2 => by unfold dL; rw [h1, h2, h38]; simp [jJ]
   ·by_cases h45 : c i = 45
    ·rw [jn, if_neg (by omega), if_neg h38, if_pos h45]
     exact go .minus .minus (fun a b => rfl) (.inr h45) fun m g h1 h2 => by unfold dL; rw [h1, h2, h45]; simp [jJ]
    ·rw [jn, if_neg (by omega), if_neg h38, if_neg h45]
     have := he hi
     exact ⟨Int.le_refl _, hiN, fun _ => by unfold ff at this; omega, f, rfl, rfl, rfl, rfl⟩
  ·rw [jn, if_pos hi]
   exact ⟨Int.le_refl _, hiN, fun h => absurd h hi, f, rfl, rfl, rfl, rfl⟩
theorem uQ (hrd : qW N rd) {n : Nat} (ha : qu c N rd n) (i : Int) (f : Lv) (rest : List Lv) (h0 : 0 <= i) (hiN : i <= N) (hd : rest.length + n = 1000) (h1 : f.meet = none) (h2 : f.row = none) (h3 : f.fac = none) :
  match jG c N (dT c N (bk c N rd n) (N.toNat + 1) none) i with
  | .error e => mT (run c N rd i f rest) = .error e
  | .ok (r, j) => i <= j /\ j <= N /\ (j < N -> c j = 124 \/ c j = 41) /\ ∃ g : Lv, g.place = f.place /\ g.alt = f.alt /\ r = (dL g).val /\ run c N rd i f rest = run c N rd j g rest := by
 have g := AA hrd ha (N.toNat + 1) i f rest h0 hiN (by omega) (fun h => absurd h3 h) hd
 have e0 : (rowOf f.row f.fac).map RT.val = none := by rw [h2, h3]; rfl
 rw [e0] at g
 unfold jG
 revert g
 cases dT c N (bk c N rd n) (N.toNat + 1) none i with
 | error e => exact fun g => g
 | ok z =>
  obtain ⟨r, j⟩ := z
  rintro ⟨g1, g2, g3, row, fac, rfl, g4⟩
  simp only
  have hm : (rowOf row fac).getD .eps = dL { f with row := row, fac := fac } := by unfold dL; rw [h1]; rfl
  rw [hm]
  have h5 := Mh hrd ha (N.toNat + 1) j { f with row := row, fac := fac } rest (by omega) g2 (by omega) g3 hd
  revert h5
  cases jn c N (dT c N (bk c N rd n) (N.toNat + 1) none) (N.toNat + 1) (dL { f with row := row, fac := fac }).val j with
  | error e => intro h5; exact (congrArg mT g4).trans h5
  | ok y =>
   obtain ⟨r2, j2⟩ := y
   rintro ⟨g5, g6, g7, g, g8, g9, g10, g11⟩
   exact ⟨by omega, g6, g7, g, g8, g9, g10, g4.trans g11⟩
theorem N7 (hrd : qW N rd) {n : Nat} (ha : qu c N rd n) : ∀ (k : Nat) (i : Int) (f : Lv) (rest : List Lv), 0 <= i -> i <= N -> N - i < k -> (i < N -> c i = 124 \/ c i = 41) -> rest.length + n = 1000 ->
  match uo c N (jG c N (dT c N (bk c N rd n) (N.toNat + 1) none)) k (gu f).val i with
  | .error e => mT (run c N rd i f rest) = .error e
  | .ok (r, j) => i <= j /\ j <= N /\ (j < N -> c j = 41) /\ ∃ g : Lv, g.place = f.place /\ r = (gu g).val /\ run c N rd i f rest = run c N rd j g rest := by
 intro k
 induction k with
 | zero => intro i f rest _ _ h; omega
 | succ k ih =>
  intro i f rest h0 hiN hk he hd
  by_cases hi : i < N /\ c i = 124
  ·rw [uo, if_pos hi]
   have hs : dJ c N rd i f rest = .ok (i + 1, oy f, rest) := by
    unfold dJ
    rw [if_neg (by unfold bf; omega), if_pos hi.2]
   have hr : run c N rd i f rest = run c N rd (i + 1) (oy f) rest := by rw [fC hrd h0 hi.1, hs]
   have h1 := uQ hrd ha (i + 1) (oy f) rest (by omega) (by omega) hd rfl rfl rfl
   revert h1
   cases jG c N (dT c N (bk c N rd n) (N.toNat + 1) none) (i + 1) with
   | error e => intro h1; simp only at h1 ⊢; rw [hr]; exact h1
   | ok z =>
    obtain ⟨r, j⟩ := z
    rintro ⟨g1, g2, g3, g, g4, g5, rfl, g6⟩
    simp only
    have e1 : aQ .alt (gu f).val (dL g).val = (gu g).val := by
     have : gu g = .alt (gu f) (dL g) := by
      show QM g.alt (dL g) = _
      rw [g5]; rfl
     rw [this]; rfl
    rw [e1]
    have h2 := ih j g rest (by omega) g2 (by omega) g3 hd
    revert h2
    cases uo c N (jG c N (dT c N (bk c N rd n) (N.toNat + 1) none)) k (gu g).val j with
    | error e => intro h2; simp only at h2 ⊢; rw [hr, g6, h2]
    | ok y =>
     obtain ⟨r2, j2⟩ := y
     rintro ⟨g7, g8, g9, g', g10, g11, g12⟩
     exact ⟨by omega, g8, g9, g', by rw [g10, g4]; rfl, g11, by rw [hr, g6, g12]⟩
  ·rw [uo, if_neg hi]
   exact ⟨Int.le_refl _, hiN, fun h => by have := he h; omega, f, rfl, rfl, rfl⟩
theorem A2 (hrd : qW N rd) {n : Nat} (ha : qu c N rd n) (i p : Int) (rest : List Lv) (h0 : 0 <= i) (hiN : i <= N) (hd : rest.length + n = 1000) :
  match sN c N (bk c N rd n) i with
  | .error e => mT (run c N rd i (fe p) rest) = .error e
  | .ok (r, j) => i <= j /\ j <= N /\ (j < N -> c j = 41) /\ ∃ g : Lv, g.place = p /\ r = (gu g).val /\ run c N rd i (fe p) rest = run c N rd j g rest := by
 have h1 := uQ hrd ha i (fe p) rest h0 hiN hd rfl rfl rfl
 unfold sN VM
 revert h1
 cases jG c N (dT c N (bk c N rd n) (N.toNat + 1) none) i with
 | error e => exact fun h => h
 | ok z =>
  obtain ⟨r, j⟩ := z
  rintro ⟨g1, g2, g3, g, g4, g5, rfl, g6⟩
  simp only
  have e1 : (dL g).val = (gu g).val := by
   have : gu g = dL g := by
    show QM g.alt (dL g) = _
    rw [g5]; rfl
   rw [this]
  rw [e1]
  have h2 := N7 hrd ha (N.toNat + 1) j g rest (by omega) g2 (by omega) g3 hd
  revert h2
  cases uo c N (jG c N (dT c N (bk c N rd n) (N.toNat + 1) none)) (N.toNat + 1) (gu g).val j with
  | error e => intro h2; simp only at h2 ⊢; rw [g6, h2]
  | ok y =>
   obtain ⟨r2, j2⟩ := y
   rintro ⟨g7, g8, g9, g', g10, g11, g12⟩
   exact ⟨by omega, g8, g9, g', by rw [g10, g4]; rfl, g11, by rw [g6, g12]⟩
theorem Bp (hrd : qW N rd) (i : Int) (f : Lv) (rest : List Lv) (h0 : 0 <= i) (hi : i < N) (he : ¬ ff (c i)) (hp : ¬ bf (c i)) (h40 : c i ≠ 40) :
  match px rd i with
  | .error e => mT (run c N rd i f rest) = .error e
  | .ok (r, j) => i < j /\ j <= N /\ ∃ t, r = RT.val t /\ run c N rd i f rest = run c N rd j { dO f with fac := some t } rest := by
 have hs : dJ c N rd i f rest = match rd i with
  | .error e => .error e
  | .ok (S, j) => .ok (j, { dO f with fac := some (.cls S) }, rest) := by
  unfold ff at he
  unfold dJ
  rw [if_neg hp, if_neg (by omega), if_neg (by omega), if_neg (by omega), if_neg h40]
 unfold px
 rw [fC hrd h0 hi, hs]
 cases hS : rd i with
 | error e => rfl
 | ok q =>
  obtain ⟨S, j⟩ := q
  have := hrd i S j h0 hi hS
  exact ⟨this.1, this.2, .cls S, rfl, rfl⟩
theorem o4 (hrd : qW N rd) : ∀ n, qu c N rd n := by
 intro n
 induction n with
 | zero =>
  intro i f rest h0 hi he hp hd
  by_cases h40 : c i = 40
  ·rw [bk, if_pos h40]
   simp only
   rw [fC hrd h0 hi]
   unfold dJ
   rw [if_neg hp, if_neg (by omega), if_neg (by omega), if_neg (by omega), if_pos h40, if_pos (by omega)]
   rfl
  ·rw [bk, if_neg h40]
   exact Bp hrd i f rest h0 hi he hp h40
 | succ n ih =>
  intro i f rest h0 hi he hp hd
  by_cases h40 : c i = 40
  ·rw [bk, if_pos h40]
   have hs : dJ c N rd i f rest = .ok (i + 1, fe i, dO f :: rest) := by
    unfold dJ
    rw [if_neg hp, if_neg (by omega), if_neg (by omega), if_neg (by omega), if_pos h40, if_neg (by omega)]
   have hr : run c N rd i f rest = run c N rd (i + 1) (fe i) (dO f :: rest) := by rw [fC hrd h0 hi, hs]
   have h1 := A2 hrd ih (i + 1) i (dO f :: rest) (by omega) (by omega) (by simp only [List.length_cons]; omega)
   revert h1
   cases sN c N (bk c N rd n) (i + 1) with
   | error e => intro h1; simp only [qE] at h1 ⊢; rw [hr, h1]
   | ok z =>
    obtain ⟨r, j⟩ := z
    rintro ⟨g1, g2, g3, g, g4, rfl, g5⟩
    simp only [qE]
    by_cases hj : j < N
    ·rw [if_neg (by omega)]
     have h41 := g3 hj
     have hs2 : dJ c N rd j g (dO f :: rest) = .ok (j + 1, { dO f with fac := some (gu g) }, rest) := by
      unfold dJ
      rw [if_neg (by unfold bf; omega), if_neg (by omega), if_neg (by omega), if_pos h41]
     refine ⟨by omega, by omega, gu g, rfl, ?_⟩
     rw [hr, g5, fC hrd (by omega) hj, hs2]
    ·rw [if_pos hj]
     simp only
     rw [hr, g5, ID hj]
     simp [mT, g4]
  ·rw [bk, if_neg h40]
   exact Bp hrd i f rest h0 hi he hp h40
def Xn : Except (Int × Int) RT -> Except (Int × Int) Rx
 | .error e => .error e
 | .ok t => .ok t.expand
theorem Kk (hrd : qW N rd) (hN : 0 <= N) : vV c N rd = Xn (gA c N rd) := by
 unfold vV gA
 by_cases hb : 1048576 < N
 ·rw [if_pos hb, if_pos hb]; rfl
 ·rw [if_neg hb, if_neg hb]
  have h1 := A2 hrd (o4 (c := c) hrd 1000) 0 (-1) [] (by omega) hN rfl
  unfold alts
  revert h1
  cases sN c N (bk c N rd 1000) 0 with
  | error e => intro h1; simp only at h1; rw [h1]; rfl
  | ok z =>
   obtain ⟨r, j⟩ := z
   rintro ⟨g1, g2, g3, g, g4, rfl, g5⟩
   rw [g5]
   by_cases hj : j < N
   ·have h41 := g3 hj
    have hs : dJ c N rd j g [] = .error (20, j) := by
     unfold dJ
     rw [if_neg (by unfold bf; omega), if_neg (by omega), if_neg (by omega), if_pos h41]
    rw [fC hrd (by omega) hj, hs]
    simp only [Kl]
    rw [if_pos hj]
    rfl
   ·rw [ID hj]
    simp only [Kl, mT]
    rw [if_neg hj, if_neg (show ¬ ([] : List Lv) ≠ [] by simp)]
    show (if 2000 < (gu g).sz then _ else _) = _
    by_cases hs : 2000 < (gu g).sz
    ·rw [if_pos hs, if_pos hs]; rfl
    ·rw [if_neg hs, if_neg hs]; rfl
end
end
section
open Go.RowKit Go.LE
abbrev CS := BitVec 256
def wd (S : CS) (j : Nat) : Int := ((S.extractLsb' (64 * j) 64).toNat : Int)
def jU (S : CS) : List Value := [.int .u64 (wd S 0), .int .u64 (wd S 1), .int .u64 (wd S 2), .int .u64 (wd S 3)]
theorem pF (x : BitVec 64) : IntKind.u64.wrap ((x.toNat : Nat) : Int) = ((x.toNat : Nat) : Int) := by
 have := x.isLt
 simp only [IntKind.wrap, IntKind.bits, IntKind.signed, Bool.false_and, Bool.false_eq_true, if_false, decide_false, show (2 : Int) ^ 64 = 18446744073709551616 from rfl]
 omega
theorem gM (x : BitVec 64) : BitVec.ofInt 64 ((x.toNat : Nat) : Int) = x := by simp
theorem Yf (x y : BitVec 64) : bX .or .u64 (x.toNat : Nat) (y.toNat : Nat) = ((x ||| y).toNat : Nat) := by
 show IntKind.u64.wrap (((BitVec.ofInt 64 ((x.toNat : Nat) : Int) ||| BitVec.ofInt 64 ((y.toNat : Nat) : Int) : BitVec 64).toNat : Nat) : Int) = _
 rw [gM, gM, pF]
theorem PN (x y : BitVec 64) : bX .and .u64 (x.toNat : Nat) (y.toNat : Nat) = ((x &&& y).toNat : Nat) := by
 show IntKind.u64.wrap (((BitVec.ofInt 64 ((x.toNat : Nat) : Int) &&& BitVec.ofInt 64 ((y.toNat : Nat) : Int) : BitVec 64).toNat : Nat) : Int) = _
 rw [gM, gM, pF]
theorem XR (x y : BitVec 64) : bX .xor .u64 (x.toNat : Nat) (y.toNat : Nat) = ((x ^^^ y).toNat : Nat) := by
 show IntKind.u64.wrap (((BitVec.ofInt 64 ((x.toNat : Nat) : Int) ^^^ BitVec.ofInt 64 ((y.toNat : Nat) : Int) : BitVec 64).toNat : Nat) : Int) = _
 rw [gM, gM, pF]
theorem W6 (S T : CS) (j : Nat) : bX .or .u64 (wd S j) (wd T j) = wd (S ||| T) j := by
 rw [wd, wd, Yf, wd, BitVec.extractLsb'_or]
theorem V0 (S T : CS) (j : Nat) : bX .and .u64 (wd S j) (wd T j) = wd (S &&& T) j := by
 rw [wd, wd, PN, wd, BitVec.extractLsb'_and]
theorem Aa (S : CS) (j : Nat) (hj : j < 4) : bX .xor .u64 (if IntKind.u64.signed = true then -1 else IntKind.u64.max) (wd S j) = wd (~~~S) j := by
 have e : (if IntKind.u64.signed = true then -1 else IntKind.u64.max) = (((BitVec.allOnes 64).toNat : Nat) : Int) := by decide
 rw [e, wd, XR, wd]
 congr 2
 apply BitVec.eq_of_getLsbD_eq
 intro i hi
 have h2 : 64 * j + i < 256 := by omega
 rw [BitVec.getLsbD_xor, BitVec.getLsbD_allOnes, BitVec.getLsbD_extractLsb', BitVec.getLsbD_extractLsb', BitVec.getLsbD_not]
 simp [hi, h2]
def ru (S : CS) (b : Nat) : CS := S ||| (1#256 <<< b)
theorem pe (S : CS) (b i : Nat) (hb : b < 256) : (ru S b).getLsbD i = (S.getLsbD i || decide (i = b)) := by
 simp only [ru, BitVec.getLsbD_or, BitVec.getLsbD_shiftLeft, BitVec.getLsbD_one]
 by_cases hi : i = b
 ·subst hi; simp [hb]
 ·have h : ¬(i < 256 /\ b <= i /\ i - b = 0) := by omega
  by_cases h1 : i < 256 <;> by_cases h2 : i < b <;> simp [h1, h2, hi] <;> omega
theorem W8 (b : Nat) (hb : b < 64) : IntKind.u64.wrap (1 * 2 ^ (min b 64)) = (((1#64 <<< b).toNat : Nat) : Int) := by
 rw [Nat.min_eq_left (by omega)]
 have h : (1#64 <<< b).toNat = 2 ^ b := by
  rw [BitVec.toNat_shiftLeft, Nat.shiftLeft_eq]
  have : 2 ^ b < 2 ^ 64 := Nat.pow_lt_pow_right (by omega) hb
  simp
  omega
 rw [<- pF, h]
 simp
theorem qZ (S : CS) (b : Nat) (hb : b < 256) : bX .or .u64 (wd S (b / 64)) (IntKind.u64.wrap (1 * 2 ^ (min (b % 64) 64))) = wd (ru S b) (b / 64) := by
 rw [W8 _ (Nat.mod_lt _ (by omega)), wd, Yf, wd]
 congr 2
 apply BitVec.eq_of_getLsbD_eq
 intro i hi
 have hdm := Nat.div_add_mod b 64
 rw [BitVec.getLsbD_or, BitVec.getLsbD_extractLsb', BitVec.getLsbD_extractLsb', pe _ _ _ hb, BitVec.getLsbD_shiftLeft, BitVec.getLsbD_one]
 have e : decide (64 * (b / 64) + i = b) = decide (i = b % 64) := by rw [decide_eq_decide]; omega
 rw [e]
 by_cases h1 : i = b % 64
 ·subst h1; simp [hi]
 ·by_cases h2 : i < b % 64 <;> simp [hi, h1, h2] <;> omega
theorem JV (S : CS) (b j : Nat) (hb : b < 256) (hj : j ≠ b / 64) : wd (ru S b) j = wd S j := by
 rw [wd, wd]
 congr 2
 apply BitVec.eq_of_getLsbD_eq
 intro i hi
 rw [BitVec.getLsbD_extractLsb', BitVec.getLsbD_extractLsb', pe _ _ _ hb]
 have : decide (64 * j + i = b) = false := by rw [decide_eq_false_iff_not]; omega
 rw [this, Bool.or_false]
theorem Tp (S : CS) (b : Nat) (hb : b < 256) : (jU S).take (b / 64) ++ .int .u64 (wd (ru S b) (b / 64)) :: (jU S).drop (b / 64 + 1) = jU (ru S b) := by
 have hq : b / 64 < 4 := by omega
 have ne : ∀ j, j ≠ b / 64 -> wd S j = wd (ru S b) j := fun j hj => (JV S b j hb hj).symm
 generalize hqe : b / 64 = q at *
 match q, hq with
 | 0, _ => simp [jU, ne 1, ne 2, ne 3]
 | 1, _ => simp [jU, ne 0, ne 2, ne 3]
 | 2, _ => simp [jU, ne 0, ne 1, ne 3]
 | 3, _ => simp [jU, ne 0, ne 1, ne 2]
theorem VN (S : CS) (b : Nat) (hb : b < 256) : decide (bX .and .u64 ((wd S (b / 64)).fdiv (2 ^ (min (b % 64) 64))) 1 = 1) = S.getLsbD b := by
 have hm : b % 64 < 64 := Nat.mod_lt _ (by omega)
 rw [Nat.min_eq_left (by omega)]
 have e1 : (wd S (b / 64)).fdiv (2 ^ (b % 64)) = (((S.extractLsb' (64 * (b / 64)) 64) >>> (b % 64)).toNat : Nat) := by
  rw [wd, BitVec.toNat_ushiftRight, Nat.shiftRight_eq_div_pow]
  have : (2 : Int) ^ (b % 64) = ((2 ^ (b % 64) : Nat) : Int) := by simp
  rw [this, Int.fdiv_eq_ediv_of_nonneg _ (Int.natCast_nonneg _)]
  rfl
 rw [e1, show (1 : Int) = (((1#64).toNat : Nat) : Int) from rfl, PN]
 rw [Bool.eq_iff_iff, decide_eq_true_eq]
 have hdm := Nat.div_add_mod b 64
 constructor
 ·intro h
  have h' : (S.extractLsb' (64 * (b / 64)) 64 >>> (b % 64)) &&& 1#64 = 1#64 := BitVec.eq_of_toNat_eq (by exact_mod_cast h)
  have := congrArg (fun x => x.getLsbD 0) h'
  simp only [BitVec.getLsbD_and, BitVec.getLsbD_ushiftRight, BitVec.getLsbD_extractLsb', BitVec.getLsbD_one] at this
  simpa [hm, hdm] using this
 ·intro h
  have h' : (S.extractLsb' (64 * (b / 64)) 64 >>> (b % 64)) &&& 1#64 = 1#64 := by
   apply BitVec.eq_of_getLsbD_eq
   intro i hi
   simp only [BitVec.getLsbD_and, BitVec.getLsbD_ushiftRight, BitVec.getLsbD_extractLsb', BitVec.getLsbD_one]
   by_cases h0 : i = 0
   ·subst h0; simp [hm, hdm, h]
   ·simp [h0]
  rw [h']
theorem oL (b : Nat) : ((b : Int)).fdiv 64 = ((b / 64 : Nat) : Int) := by
 rw [Int.fdiv_eq_ediv_of_nonneg _ (by omega)]
 omega
theorem BL (b : Nat) (hb : b < 256) : bX .and .u8 (b : Int) 63 = ((b % 64 : Nat) : Int) := by
 have : ∀ b : Fin 256, bX .and .u8 ((b.val : Nat) : Int) 63 = ((b.val % 64 : Nat) : Int) := by decide +kernel
 exact this ⟨b, hb⟩
theorem K5 (b : Nat) (hb : b < 256) : bX .and .i64 (b : Int) 63 = ((b % 64 : Nat) : Int) := by
 have : ∀ b : Fin 256, bX .and .i64 ((b.val : Nat) : Int) 63 = ((b.val % 64 : Nat) : Int) := by decide +kernel
 exact this ⟨b, hb⟩
theorem fS (S : CS) (j : Nat) (hj : j < 4) : (List.map SV.v (jU S)).getD j (.v undef) = .v (.int .u64 (wd S j)) := by
 match j, hj with
 | 0, _ => rfl
 | 1, _ => rfl
 | 2, _ => rfl
 | 3, _ => rfl
theorem jm (S : CS) (b : Nat) (hb : b < 256) : List.take (b / 64) (List.map SV.v (jU S)) ++ [SV.v (.int .u64 (wd (ru S b) (b / 64)))] ++ List.drop (b / 64 + 1) (List.map SV.v (jU S)) = List.map SV.v (jU (ru S b)) := by
 rw [<- Tp S b hb]
 simp
theorem Au (S : CS) : (List.map SV.v (jU S)).length = 4 := rfl
end
section
open Go.RowKit Go.LE
set_option maxRecDepth 10000
def Γ0 : Env Tryz.prog := ⟨fun _ => none, fun _ => none, fun _ _ => none⟩
def b7 (S : CS) : Value := .agg (jU S).toArray
theorem dm (S : CS) : Value.agg (jU S).toArray = b7 S := rfl
theorem jO (S : CS) : (jU S).length = 4 := rfl
theorem kF (S : CS) : List.take 4 ((jU S).map SV.v) = (jU S).map SV.v := rfl
theorem kC (S : CS) : List.drop 4 ((jU S).map SV.v) = [] := rfl
theorem ji (S : CS) : cI ((jU S).map SV.v) = some (jU S) := rfl
theorem nv (S : CS) : ((jU S).map SV.v).all cu = true := rfl
theorem zC (E : Nat -> Value) (S : CS) : den E (.agg ((jU S).map SV.v)) = b7 S := rfl
theorem gH (S : CS) : ((jU S).map SV.v).length = 4 := rfl
theorem dM (S : CS) : partsOf (.v (b7 S)) = (jU S).map SV.v := rfl
theorem QG (S : CS) (j i : Nat) (hi : i < 64) : (BitVec.ofInt 64 (wd S j)).getLsbD i = S.getLsbD (64 * j + i) := by
 rw [wd, gM, BitVec.getLsbD_extractLsb']
 simp [hi]
theorem cd (S T : CS) (h : b7 S = b7 T) : S = T := by
 have h : (jU S) = jU T := congrArg (fun v => match v with | Value.agg a => a.toList | _ => []) h
 simp only [jU, List.cons.injEq, Value.int.injEq, true_and, and_true] at h
 have e0 := h.1
 have e1 := h.2.1
 have e2 := h.2.2.1
 have e3 := h.2.2.2
 apply BitVec.eq_of_getLsbD_eq
 intro i hi
 have key : ∀ j, wd S j = wd T j -> i / 64 = j -> S.getLsbD i = T.getLsbD i := fun j e hj => by
  have h1 := QG S j (i % 64) (by omega)
  have h2 := QG T j (i % 64) (by omega)
  rw [e] at h1
  have : 64 * j + i % 64 = i := by omega
  rw [this] at h1 h2
  rw [<- h1, <- h2]
 have : i / 64 = 0 \/ i / 64 = 1 \/ i / 64 = 2 \/ i / 64 = 3 := by omega
 rcases this with h | h | h | h
 ·exact key 0 e0 h
 ·exact key 1 e1 h
 ·exact key 2 e2 h
 ·exact key 3 e3 h
def zB := (aq @List.replicate_succ.{0} @List.replicate_zero.{0} @av @af jV jW jb (aq cW cX c8 cT cZ c9 cR (aq cV gz gv gi gk gn ez (aq ey eB eC eA ew o6 pB (aq p6 qn rF r9 r8 sf @b7.eq_1 (ab @W6 @V0))))))
set_option maxHeartbeats 1000000 in
theorem KL (S T : CS) (w : World) : Calls Tryz.prog 274 #[b7 S, b7 T] w fun e w' => e = .returned (b7 (S ||| T)) /\ ai w [] w' := by
 refine aj (nt := 26) [.cell 4 309] Tryz.func274 rfl rfl rfl ?_
 refine vR Γ0 (ab zB @jU.eq_1) ?_
 refine vR Γ0 (ab zB @jU.eq_1) ?_
 refine wZ zB ?_
 exact fun E => rfl
set_option maxHeartbeats 1000000 in
theorem SF (S : CS) (w : World) : Calls Tryz.prog 224 #[b7 S] w fun e w' => e = .returned (b7 (~~~S)) /\ ai w [] w' := by
 have h0 := Aa S 0 (by omega)
 have h1 := Aa S 1 (by omega)
 have h2 := Aa S 2 (by omega)
 have h3 := Aa S 3 (by omega)
 refine aj (nt := 16) [.cell 2 309] Tryz.func224 rfl rfl rfl ?_
 refine vR Γ0 (ab zB @jU.eq_1) ?_
 refine vR Γ0 (lX zB @jU.eq_1 h0 h1 h2 h3) ?_
 refine wZ zB ?_
 exact fun E => rfl
set_option maxHeartbeats 1000000 in
theorem S9 (S : CS) (b : Nat) (hb : b < 256) (w : World) : Calls Tryz.prog 225 #[b7 S, .int .u8 b] w fun e w' => e = .returned (.bool (S.getLsbD b)) /\ ai w [] w' := by
 have hq : b / 64 < 4 := by omega
 refine aj (nt := 14) [.tmp 4] Tryz.func225 rfl rfl rfl ?_
 refine vR Γ0 zB ?_
 refine Wp.nZ Γ0 bR (by simp only [dS, Op.operands, Value.cells, σ0, σB, Nat.reduceEqDiff, Nat.reduceAdd, Nat.reduceMul, Nat.reduceLT, Nat.reduceLeDiff, Nat.reduceBEq, ae, Int.reduceToNat, Int.reduceLT, Int.reduceLE, Nat.reduceDiv, Nat.reduceMod, Nat.reduceSub, Int.reducePow, Nat.reducePow, σP, σB3, zB, oL, BL b hb, fS S _ hq, VN S b hb, Au]; exact rfl) rfl ?_ ?_
 ·exact oo
 refine wZ zB ?_
 exact fun E => rfl
end
section
open Go.RowKit Go.LE
set_option maxRecDepth 10000
def mM (lo : Nat) : Nat -> CS
 | 0 => 0
 | n + 1 => ru (mM lo n) (lo + n)
def span (lo hi : Nat) : CS := mM lo (hi + 1 - lo)
theorem xj (lo : Nat) : ∀ (n i : Nat), lo + n <= 256 -> (mM lo n).getLsbD i = decide (lo <= i /\ i < lo + n)
 | 0, i, _ => by simp [mM]
 | n + 1, i, h => by
  rw [mM, pe _ _ _ (by omega), xj lo n i (by omega), <- Bool.decide_or, decide_eq_decide]
  omega
theorem Dt (lo hi i : Nat) (h : hi < 256) : (span lo hi).getLsbD i = decide (lo <= i /\ i <= hi) := by
 by_cases hl : lo <= hi
 ·rw [span, xj _ _ _ (by omega), decide_eq_decide]; omega
 ·rw [span, show hi + 1 - lo = 0 by omega, mM]
  simp; omega
theorem uj : (jU 0).map SV.v = [SV.v (.int .u64 0), SV.v (.int .u64 0), SV.v (.int .u64 0), SV.v (.int .u64 0)] := by
 simp [jU, wd]
def iB := (aq @List.replicate_succ.{0} @List.replicate_zero.{0} @av @af jV jW jb (aq cW cX c8 cT cZ c9 cR (aq cV gz gv gi gk gn ez (aq ey eB eC eA ew o6 pB (yR p6 qn rF r9 r8 sf @b7.eq_1)))))
set_option maxHeartbeats 2000000 in
theorem OJ (lo hi : Nat) (hl : lo < 256) (hh : hi < 256) (w : World) : Calls Tryz.prog 271 #[.int .u8 lo, .int .u8 hi] w fun e w' => e = .returned (b7 (span lo hi)) /\ ai w [] w' := by
 have w0 : IntKind.i64.wrap (lo : Int) = lo := aa (by omega) (by omega)
 have w1 : IntKind.i64.wrap (hi : Int) = hi := aa (by omega) (by omega)
 refine aj (nt := 25) [.cell 4 309] Tryz.func271 rfl rfl rfl ?_
 refine vR Γ0 iB ?_
 refine vR Γ0 iB ?_
 refine Wp.seq (Wp.seq ?_)
 refine vr Γ0 (ab iB w0) ?_
 refine Wp.block ?_
 refine Wp.loop (fun j : Nat => ⟨2, bQ [(1, .is (.v (.int .u8 hi))), (4, .is (.own 0 0)), (5, .is (.own 8 0)), (6, .is (.v (.int .i64 ((lo + j : Nat) : Int))))], bY [(0, .cells 309 [.v (.int .u64 0), .v (.int .u64 0), .v (.int .u64 0), .v (.int .u64 0)]), (8, .cells 309 ((jU (mM lo j)).map .v))]⟩)
  (fun j => j <= hi + 1 - lo) (fun j => hi + 1 - lo - j) 0 ?_ (Nat.zero_le _) ?_
 ·exact wM (fun k => .key k) (eH iB @mM.eq_1 @mM.eq_2 @uj)
 rintro j h1
 have hr2 : IntKind.i64.wrap ((lo + j : Nat) : Int) = ((lo + j : Nat) : Int) := aa (by omega) (by omega)
 refine Wp.seq ?_
 refine vR Γ0 (ab iB w1) ?_
 refine wC iB (fun hc => ?_) (fun hc => ?_)
 ·simp only [decide_eq_true_eq] at hc
  have hb : lo + j < 256 := by omega
  have hq : (lo + j) / 64 < 4 := by omega
  have wn : IntKind.i64.wrap (((lo + j : Nat) : Int) + 1) = ((lo + (j + 1) : Nat) : Int) := by rw [aa (by omega) (by omega)]; omega
  refine wK ?_
  refine Wp.seq (Wp.block ?_)
  refine Wp.Tx Γ0 bR (by simp only [dS, Op.operands, Value.cells, σ0, σB, Nat.reduceEqDiff, Nat.reduceAdd, Nat.reduceMul, Nat.reduceLT, Nat.reduceLeDiff, Nat.reduceBEq, ae, Int.reduceToNat, Int.reduceLT, Int.reduceLE, Nat.reduceDiv, Nat.reduceMod, Nat.reduceSub, Int.reducePow, Nat.reducePow, σP, σB3, iB, oL, K5 _ hb, fS _ _ hq, qZ _ _ hb, jm _ _ hb, Au]; exact rfl) rfl (by kernel_rfl) ?_ ?_
  ·exact oo
  refine qq ?_
  refine vr Γ0 (ab iB wn) ?_
  refine ⟨j + 1, by omega, by omega, ?_⟩
  exact Le.mk (fun k => .key k) ⟨by simp [FV.keys, SV.keys, ax], by simp [bm.keys, ax, SV.keys, aO, aR]⟩ (by simp only [dS, Op.operands, Value.cells, σ0, σB, Nat.reduceEqDiff, Nat.reduceAdd, Nat.reduceMul, Nat.reduceLT, Nat.reduceLeDiff, Nat.reduceBEq, ae, Int.reduceToNat, Int.reduceLT, Int.reduceLE, Nat.reduceDiv, Nat.reduceMod, Nat.reduceSub, Int.reducePow, Nat.reducePow, σP, σB3, iB, mM, oL, fS _ _ hq, qZ _ _ hb, jm _ _ hb, Gp, EY, wI, jx] <;> trivial) (by simp only [dS, Op.operands, Value.cells, σ0, σB, Nat.reduceEqDiff, Nat.reduceAdd, Nat.reduceMul, Nat.reduceLT, Nat.reduceLeDiff, Nat.reduceBEq, ae, Int.reduceToNat, Int.reduceLT, Int.reduceLE, Nat.reduceDiv, Nat.reduceMod, Nat.reduceSub, Int.reducePow, Nat.reducePow, σP, σB3, iB, mM, oL, fS _ _ hq, qZ _ _ hb, jm _ _ hb, Ey, ss, Cv, oG, mf, wI] <;> trivial) (by simp [gZ]) (by simp)
 ·simp only [decide_eq_false_iff_not] at hc
  have hj : j = hi + 1 - lo := by omega
  refine wE ?_
  refine vR Γ0 (ab iB @jU.eq_1) ?_
  refine wZ iB ?_
  subst hj
  exact fun E => rfl
def Ef (s : ByteArray) : Nat -> CS
 | 0 => 0
 | n + 1 => ru (Ef s n) (bt s n).toNat
theorem dV (s : ByteArray) (i : Int) : 0 <= bt s i /\ bt s i < 256 := by
 unfold bt
 have := (s.data[i.toNat]?.getD 0).toNat_lt
 omega
set_option maxHeartbeats 2000000 in
theorem Wz (s : ByteArray) (hs : s.size <= 140737488351232) (w : World) : Calls Tryz.prog 245 #[.string s] w fun e w' => e = .returned (b7 (Ef s s.size)) /\ ai w [] w' := by
 refine aj (nt := 25) [.cell 2 309] Tryz.func245 rfl rfl rfl ?_
 refine vR Γ0 iB ?_
 refine vR Γ0 iB ?_
 refine Wp.seq ?_
 refine vR Γ0 iB ?_
 refine Wp.block ?_
 refine Wp.loop (fun j : Nat => ⟨2, bQ [(0, .is (.v (.string s))), (2, .is (.own 0 0)), (3, .is (.own 8 0)), (6, .is (.v (.int .i64 s.size))), (7, .is (.v (.int .i64 j)))], bY [(0, .cells 309 [.v (.int .u64 0), .v (.int .u64 0), .v (.int .u64 0), .v (.int .u64 0)]), (8, .cells 309 ((jU (Ef s j)).map .v))]⟩)
  (fun j => j <= s.size) (fun j => s.size - j) 0 ?_ (Nat.zero_le _) ?_
 ·exact wM (fun k => .key k) (eH iB @Ef.eq_1 @Ef.eq_2 @uj)
 rintro j h1
 refine vR Γ0 iB ?_
 refine Wp.seq ?_
 refine wC iB (fun hc => ?_) (fun hc => ?_)
 ·simp only [decide_eq_true_eq] at hc
  have hj : j < s.size := by omega
  obtain ⟨b0, b1⟩ := dV s j
  obtain ⟨b, hbe⟩ := Int.eq_ofNat_of_zero_le b0
  have hb : b < 256 := by omega
  have hq : b / 64 < 4 := by omega
  have hof : Ef s (j + 1) = ru (Ef s j) b := by rw [Ef, hbe]; rfl
  have wn : IntKind.i64.wrap ((j : Int) + 1) = ((j + 1 : Nat) : Int) := by rw [aa (by omega) (by omega)]; omega
  refine wK ?_
  refine Wp.seq (Wp.block ?_)
  refine vR Γ0 iB ?_
  refine Wp.Tx Γ0 bR (by simp only [dS, Op.operands, Value.cells, σ0, σB, Nat.reduceEqDiff, Nat.reduceAdd, Nat.reduceMul, Nat.reduceLT, Nat.reduceLeDiff, Nat.reduceBEq, ae, Int.reduceToNat, Int.reduceLT, Int.reduceLE, Nat.reduceDiv, Nat.reduceMod, Nat.reduceSub, Int.reducePow, Nat.reducePow, σP, σB3, iB, hbe, oL, BL _ hb, fS _ _ hq, qZ _ _ hb, jm _ _ hb, Au]; exact rfl) rfl (by kernel_rfl) ?_ ?_
  ·exact oo
  refine qq ?_
  refine vr Γ0 (ab iB wn) ?_
  refine ⟨j + 1, by omega, by omega, ?_⟩
  exact Le.mk (fun k => .key k) ⟨by simp [FV.keys, SV.keys, ax], by simp [bm.keys, ax, SV.keys, aO, aR]⟩ (by simp only [dS, Op.operands, Value.cells, σ0, σB, Nat.reduceEqDiff, Nat.reduceAdd, Nat.reduceMul, Nat.reduceLT, Nat.reduceLeDiff, Nat.reduceBEq, ae, Int.reduceToNat, Int.reduceLT, Int.reduceLE, Nat.reduceDiv, Nat.reduceMod, Nat.reduceSub, Int.reducePow, Nat.reducePow, σP, σB3, iB, hof, hbe, oL, fS _ _ hq, qZ _ _ hb, jm _ _ hb, Gp, EY, wI, jx] <;> trivial) (by simp only [dS, Op.operands, Value.cells, σ0, σB, Nat.reduceEqDiff, Nat.reduceAdd, Nat.reduceMul, Nat.reduceLT, Nat.reduceLeDiff, Nat.reduceBEq, ae, Int.reduceToNat, Int.reduceLT, Int.reduceLE, Nat.reduceDiv, Nat.reduceMod, Nat.reduceSub, Int.reducePow, Nat.reducePow, σP, σB3, iB, hof, hbe, oL, fS _ _ hq, qZ _ _ hb, jm _ _ hb, Ey, ss, Cv, oG, mf, wI] <;> trivial) (by simp [gZ]) (by simp)
 ·simp only [decide_eq_false_iff_not] at hc
  have hj : j = s.size := by omega
  refine wE ?_
  refine vR Γ0 (ab iB @jU.eq_1) ?_
  refine wZ iB ?_
  subst hj
  exact fun E => rfl
end
section
open Go.RowKit Go.LE
set_option maxRecDepth 10000
def ix (s : ByteArray) (c : Int) : Int := Lib.indexByte s.data.toList c.toNat.toUInt8
def U7 : Jr Tryz.prog 231 where
 pre := fun _ _ => fun | [.val (.string _), .val (.int .u8 _)] => True | _ => False
 res := fun _ => fun | [.val (.string s), .val (.int .u8 c)] => .int .i64 (ix s c) | _ => undef
 ok := by
  intro W w bs us as_ hk hu hp
  split at hp
  ·rename_i s c
   match us, hu with
   | [u, v], hu =>
    obtain ⟨rfl, rfl, _⟩ := hu
    rw [run_callFunc_extern Tryz.func231 (by kernel_rfl) (by kernel_rfl) (by kernel_rfl) (e := Extern.BytealgIndexByte.indexByte) (by kernel_rfl), Lib.run_indexByteString]
    rfl
  ·exact hp.elim
theorem S5 (W : World) (s : ByteArray) (c : Int) : U7.res W [.val (.string s), .val (.int .u8 c)] = .int .i64 (ix s c) := rfl
theorem UI (W : World) (bs : List Nat) (s : ByteArray) (c : Int) : U7.pre W bs [.val (.string s), .val (.int .u8 c)] = True := rfl
noncomputable def Γ10 : Env Tryz.prog := ⟨fun | 231 => some U7.spec | _ => none, fun | _ => none, fun _ _ => none⟩
theorem Gt10c231 : Γ10.sp 231 = some U7.spec := rfl
def SE := (aq @List.replicate_succ.{0} @List.replicate_zero.{0} @av @af jV jW jb (aq cW cX c8 cT cZ c9 cR (aq cV gz gv gi gk gn ez (aq ey eB eC eA ew Qp NZ (aq Rf Nj Ak zz AP zl AJ (aq z7 AE Ae zI zd Jb H8 (aq IB I7 IC IK IY Jt Ih (aq H6 Jy Ju II @aN @au @aA (eH @az @S5 @UI Gt10c231)))))))))
theorem KX (s : ByteArray) (c : Int) (w : World) : Calls Tryz.prog 189 #[.string s, .int .u8 c] w fun e w' => e = .returned (.int .i64 (ix s c)) /\ ai w [] w' := by
 refine aj (nt := 8) [.tmp 4] Tryz.func189 rfl rfl rfl ?_
 refine vR Γ10 SE ?_
 refine vR Γ10 SE ?_
 refine wZ SE ?_
 exact fun E => rfl
def IS : aU Tryz.prog 189 where
 pre := fun W bs => fun | [.val (.string s), .val (.int .u8 c)] => True | _ => False
 res := fun W => fun | [.val (.string s), .val (.int .u8 c)] => .int .i64 (ix s c) | _ => undef
 enters := Tryz.call189
 ok := by
  intro W w bs us as_ hk hu hp
  split at hp
  ·rename_i s c
   match us, hu with
   | [u0, u1], hu =>
    obtain ⟨rfl, rfl, _⟩ := hu
    exact KX s c w
  ·exact hp.elim
theorem KD (W : World) (s : ByteArray) (c : Int) : IS.res W [.val (.string s), .val (.int .u8 c)] = .int .i64 (ix s c) := rfl
theorem Md (W : World) (bs : List Nat) (s : ByteArray) (c : Int) : IS.pre W bs [.val (.string s), .val (.int .u8 c)] = (True) := rfl
noncomputable def Γ11 : Env Tryz.prog := ⟨fun | 189 => some IS.spec | _ => none, fun | _ => none, fun _ _ => none⟩
theorem Gt11c189 : Γ11.sp 189 = some IS.spec := rfl
def SR := (eH SE KD Md Gt11c189)
theorem Vt (s : ByteArray) (c : Int) (w : World) : Calls Tryz.prog 138 #[.string s, .int .u8 c] w fun e w' => e = .returned (.int .i64 (ix s c)) /\ ai w [] w' := by
 refine aj (nt := 8) [.tmp 4] Tryz.func138 rfl rfl rfl ?_
 refine vR Γ11 SR ?_
 refine vR Γ11 SR ?_
 refine wZ SR ?_
 exact fun E => rfl
def R2 : aU Tryz.prog 138 where
 pre := fun W bs => fun | [.val (.string s), .val (.int .u8 c)] => True | _ => False
 res := fun W => fun | [.val (.string s), .val (.int .u8 c)] => .int .i64 (ix s c) | _ => undef
 enters := Tryz.call138
 ok := by
  intro W w bs us as_ hk hu hp
  split at hp
  ·rename_i s c
   match us, hu with
   | [u0, u1], hu =>
    obtain ⟨rfl, rfl, _⟩ := hu
    exact Vt s c w
  ·exact hp.elim
theorem zK (W : World) (s : ByteArray) (c : Int) : R2.res W [.val (.string s), .val (.int .u8 c)] = .int .i64 (ix s c) := rfl
theorem zx (W : World) (bs : List Nat) (s : ByteArray) (c : Int) : R2.pre W bs [.val (.string s), .val (.int .u8 c)] = (True) := rfl
def zu (s : ByteArray) (i : Int) : List AV := [.val (.string s), .val (.int .i64 i)]
def gX (i : Int) : List PanicEntry := [{ v := .iface 39 (.agg #[.int .i64 10, .int .i64 i, .string ⟨#[]⟩]), recovered := false }]
def Cu := (de SR @zK @zx)
set_option maxHeartbeats 1000000 in
theorem RX (s : ByteArray) (i : Int) (u : Value) (fp : List Nat) (w : World) (h0 : 0 <= i) (ho : bz w u fp 375 (zu s i)) (hlt : ∀ b ∈ fp, b < w.heap.size) :
  Calls Tryz.prog 272 (#[u] ++ #[]) w fun e w' => fu w u fp 375 e w' (.ret (.tuple #[.int .u8 (bt s i), .bool (decide (i < s.size))]) (zu s i)) := by
 refine bL (nt := 23) #[] [.tmp 2, .tmp 3] (by show 2 <= 7; omega) ho hlt Tryz.func272 rfl rfl rfl ?_
 refine vR Γ11 (ab Cu @zu.eq_1) ?_
 refine Wp.seq ?_
 refine R0 Γ11 Cu ?_
 refine wC Cu (fun hc => ?_) (fun hc => ?_)
 ·simp only [decide_eq_true_eq] at hc
  refine R0 Γ11 Cu ?_
  refine wZ Cu ?_
  exact ⟨_, _, rfl, fun E => by rw [decide_eq_true hc]; rfl, _, _, rfl, rfl, by decide⟩
 ·simp only [decide_eq_false_iff_not] at hc
  have hb : bt s i = 0 := by
   unfold bt
   rw [Array.getElem?_eq_none (by have : s.data.size = s.size := rfl; omega)]
   rfl
  refine wK ?_
  refine vR Γ11 Cu ?_
  refine wZ Cu ?_
  exact ⟨_, _, rfl, fun E => by rw [decide_eq_false hc, hb]; rfl, _, _, rfl, rfl, by decide⟩
def mq : dz Tryz.prog 272 where
 T := 375
 pre := fun W bs fs as_ => match fs, as_ with | [.val (.string s), .val (.int .i64 i)], [] => 0 <= i | _, _ => False
 out := fun W fs as_ => match fs, as_ with | [.val (.string s), .val (.int .i64 i)], [] => .ret (.tuple #[.int .u8 (bt s i), .bool (decide (i < s.size))]) (zu s i) | _, _ => .pan [] undef
 enters := Tryz.call272
 ok := by
  intro W w bs u fp us fs as_ hk ho hlt hmine hu hp
  split at hp
  ·rename_i s i
   match us, hu with
   | [], _ =>
    exact RX s i u fp w hp ho hlt
  ·exact hp.elim
theorem rf (W : World) (s : ByteArray) (i : Int) : mq.out W [.val (.string s), .val (.int .i64 i)] [] = .ret (.tuple #[.int .u8 (bt s i), .bool (decide (i < s.size))]) (zu s i) := rfl
theorem qR (W : World) (bs : List Nat) (s : ByteArray) (i : Int) : mq.pre W bs [.val (.string s), .val (.int .i64 i)] [] = (0 <= i) := rfl
theorem zN : mq.T = 375 := rfl
def YC := (eH Cu @rf @qR @zN)
set_option maxHeartbeats 1000000 in
theorem RA (s : ByteArray) (i j : Int) (u : Value) (fp : List Nat) (w : World) (ho : bz w u fp 375 (zu s i)) (hlt : ∀ b ∈ fp, b < w.heap.size) :
  Calls Tryz.prog 273 (#[u] ++ #[.int .i64 j]) w fun e w' => fu w u fp 375 e w' (.pan (gX j) (.tuple #[])) := by
 refine bL (nt := 7) #[.int .i64 j] [] (by show 2 <= 7; omega) ho hlt Tryz.func273 rfl rfl rfl ?_
 refine Wp.nY Γ11 bR (ev (ab YC @zu.eq_1)) ?_ ?_
 ·exact oo
 refine qq ?_
 exact ⟨_, rfl⟩
def mR : dz Tryz.prog 273 where
 T := 375
 pre := fun W bs fs as_ => match fs, as_ with | [.val (.string s), .val (.int .i64 i)], [.val (.int .i64 j)] => True | _, _ => False
 out := fun W fs as_ => match fs, as_ with | [.val (.string s), .val (.int .i64 i)], [.val (.int .i64 j)] => .pan (gX j) (.tuple #[]) | _, _ => .pan [] undef
 enters := Tryz.call273
 ok := by
  intro W w bs u fp us fs as_ hk ho hlt hmine hu hp
  split at hp
  ·rename_i s i j
   match us, hu with
   | [u0], hu =>
    obtain ⟨rfl, _⟩ := hu
    exact RA s i j u fp w ho hlt
  ·exact hp.elim
theorem yN (W : World) (s : ByteArray) (i : Int) (j : Int) : mR.out W [.val (.string s), .val (.int .i64 i)] [.val (.int .i64 j)] = .pan (gX j) (.tuple #[]) := rfl
theorem xk (W : World) (bs : List Nat) (s : ByteArray) (i : Int) (j : Int) : mR.pre W bs [.val (.string s), .val (.int .i64 i)] [.val (.int .i64 j)] = (True) := rfl
theorem Ig : mR.T = 375 := rfl
end
section
open Go.RowKit Go.LE
set_option maxRecDepth 10000
noncomputable def Γ12 : Env Tryz.prog := ⟨fun | 138 => some R2.spec | 272 => some mq.spec | 273 => some mR.spec | _ => none, fun | _ => none, fun _ _ => none⟩
theorem Gt12c138 : Γ12.sp 138 = some R2.spec := rfl
theorem Gt12c272 : Γ12.sp 272 = some mq.spec := rfl
theorem Gt12c273 : Γ12.sp 273 = some mR.spec := rfl
def dW : ByteArray := ⟨#[48, 49, 50, 51, 52, 53, 54, 55, 56, 57, 97, 98, 99, 100, 101, 102]⟩
def ux (s : ByteArray) : Except Int (Int × Int) -> BOut
 | .ok (b, j) => .ret (.int .u8 b) (zu s j)
 | .error j => .pan (gX j) (.int .u8 0)
def fT (s : ByteArray) (i : Int) : Except Int (Int × Int) := if i < s.size /\ 0 <= ix dW (bt s i) then .ok (ix dW (bt s i), i + 1) else .error i
theorem sS (c : Int) (h0 : 0 <= c) (h1 : c < 256) : -1 <= ix dW c /\ ix dW c < 16 := by
 obtain ⟨n, rfl⟩ := Int.eq_ofNat_of_zero_le h0
 have : ∀ b : Fin 256, -1 <= ix dW ((b.val : Nat) : Int) /\ ix dW ((b.val : Nat) : Int) < 16 := by decide +kernel
 exact this ⟨n, by omega⟩
theorem fH {n : Int} (h0 : 0 <= n) (h1 : n < 256) : IntKind.u8.wrap n = n := by
 simp only [IntKind.wrap, IntKind.bits, IntKind.signed, Bool.false_and, Bool.false_eq_true, if_false, decide_false, show (2 : Int) ^ 8 = 256 from rfl]
 omega
theorem JA (s : ByteArray) (b j : Int) : ux s (.ok (b, j)) = .ret (.int .u8 b) (zu s j) := rfl
theorem tI (s : ByteArray) (j : Int) : ux s (.error j) = .pan (gX j) (.int .u8 0) := rfl
def ob := (aq @List.replicate_succ.{0} @List.replicate_zero.{0} @av @af jV jW jb (aq cW cX c8 cT cZ c9 cR (aq cV gz gv gi gk gn ez (aq ey eB eC eA ew Jb H8 (aq UT UZ Vn UQ UN U5 UU (aq U6 Vo UW IB I7 IC IK (aq IY Jt Ih H6 Jy Ju II (aq @aN @au @aA @az @zK @zx @rf (aq @qR @zN @yN @xk @Ig @zu.eq_1 @gX.eq_1 (de Gt12c138 Gt12c272 Gt12c273))))))))))
set_option maxHeartbeats 1000000 in
theorem TY (s : ByteArray) (i : Int) (u : Value) (fp : List Nat) (w : World) (h0 : 0 <= i) (hs : s.size <= 140737488351232) (ho : bz w u fp 375 (zu s i)) (hlt : ∀ b ∈ fp, b < w.heap.size) :
  Calls Tryz.prog 276 (#[u] ++ #[]) w fun e w' => fu w u fp 375 e w' (ux s (fT s i)) := by
 obtain ⟨b0, b1⟩ := dV s i
 obtain ⟨x0, x1⟩ := sS _ b0 b1
 refine bL (nt := 34) #[] [.tmp 2] (by show 2 <= 7; omega) ho hlt Tryz.func276 rfl rfl rfl ?_
 refine vR Γ12 ob ?_
 refine wR Γ12 ob ?_ ?_
 ·simp [h0]
 refine vR Γ12 ob ?_
 refine Wp.seq ?_
 refine vR Γ12 ob ?_
 refine wC ob (fun hc => ?_) (fun hc => ?_)
 ·have he : fT s i = .error i := by
   rw [fT, if_neg]
   simp [dW] at hc ⊢
   omega
  rw [he]
  refine Wp.nY Γ12 bR (ev ob) ?_ ?_
  ·simp
  refine qq ?_
  exact ⟨_, rfl⟩
 ·have hi : i < s.size /\ 0 <= ix dW (bt s i) := by
   simp [dW] at hc ⊢
   omega
  have he : fT s i = .ok (ix dW (bt s i), i + 1) := by rw [fT, if_pos hi]
  have w1 : IntKind.i64.wrap (i + 1) = i + 1 := aa (by omega) (by omega)
  have w2 : IntKind.u8.wrap (ix dW (bt s i)) = ix dW (bt s i) := fH hi.2 (by omega)
  rw [he]
  refine wK ?_
  refine vR Γ12 (ab ob w1) ?_
  refine vR Γ12 (ab ob w2) ?_
  refine wZ ob ?_
  exact ⟨_, _, rfl, fun E => by simp only [den]; rw [show ix dW (bt s i) = ix ⟨#[48, 49, 50, 51, 52, 53, 54, 55, 56, 57, 97, 98, 99, 100, 101, 102]⟩ (bt s i) from rfl] at w2; exact congrArg _ w2, _, _, rfl, rfl, by decide⟩
def OX : dz Tryz.prog 276 where
 T := 375
 pre := fun W bs fs as_ => match fs, as_ with | [.val (.string s), .val (.int .i64 i)], [] => 0 <= i /\ s.size <= 140737488351232 | _, _ => False
 out := fun W fs as_ => match fs, as_ with | [.val (.string s), .val (.int .i64 i)], [] => ux s (fT s i) | _, _ => .pan [] undef
 enters := Tryz.call276
 ok := by
  intro W w bs u fp us fs as_ hk ho hlt hmine hu hp
  split at hp
  ·rename_i s i
   match us, hu with
   | [], _ =>
    exact TY s i u fp w hp.1 hp.2 ho hlt
  ·exact hp.elim
theorem Rg (W : World) (s : ByteArray) (i : Int) : OX.out W [.val (.string s), .val (.int .i64 i)] [] = ux s (fT s i) := rfl
theorem QF (W : World) (bs : List Nat) (s : ByteArray) (i : Int) : OX.pre W bs [.val (.string s), .val (.int .i64 i)] [] = (0 <= i /\ s.size <= 140737488351232) := rfl
theorem Ww : OX.T = 375 := rfl
noncomputable def Γ13 : Env Tryz.prog := ⟨fun | 138 => some R2.spec | 272 => some mq.spec | 273 => some mR.spec | 276 => some OX.spec | _ => none, fun | _ => none, fun _ _ => none⟩
theorem Gt13c138 : Γ13.sp 138 = some R2.spec := rfl
theorem Gt13c272 : Γ13.sp 272 = some mq.spec := rfl
theorem Gt13c273 : Γ13.sp 273 = some mR.spec := rfl
theorem Gt13c276 : Γ13.sp 276 = some OX.spec := rfl
def ba (W : World) (S : Nat -> Prop) : Prop := S 4 /\ W.cell? ⟨4, 0, none⟩ = some (.int .u8 110) /\ W.cell? ⟨4, 0 + 1, none⟩ = some (.int .u8 10) /\ W.cell? ⟨4, 0 + 1 + 1, none⟩ = some (.int .u8 114) /\ W.cell? ⟨4, 0 + 1 + 1 + 1, none⟩ = some (.int .u8 13) /\
 W.cell? ⟨4, 0 + 1 + 1 + 1 + 1, none⟩ = some (.int .u8 116) /\ W.cell? ⟨4, 0 + 1 + 1 + 1 + 1 + 1, none⟩ = some (.int .u8 9)
theorem ba.mono {W W' : World} {S S' : Nat -> Prop} (h : ba W S) (hs : cv W S W' S') : ba W' S' := by
 obtain ⟨h0, h1, h2, h3, h4, h5, h6⟩ := h
 have g : ∀ o v, W.cell? ⟨4, o, none⟩ = some v -> W'.cell? ⟨4, o, none⟩ = some v /\ S' 4 := fun o v hv => by
  have := XC.mono (b := 4) (o := o) (v := v) ⟨h0, hv⟩ hs
  exact ⟨this.2, this.1⟩
 exact ⟨(g _ _ h1).2, (g _ _ h1).1, (g _ _ h2).1, (g _ _ h3).1, (g _ _ h4).1, (g _ _ h5).1, (g _ _ h6).1⟩
theorem ba.fM {W w : World} {bs fp : List Nat} (h : ba W (Out bs)) (hk : ai W bs w) (hm : ∀ b ∈ fp, W.heap.size <= b \/ b ∈ bs) : ba w (Out fp) :=
 h.mono fun b hb hs => ⟨hk.block b hb hs, fun hb' => (hm b hb').elim (fun g => absurd g (Nat.not_le.2 hb)) hs⟩
def dC (s : ByteArray) (i : Int) : Except Int (Int × Int) :=
 if ¬ i < s.size then .error i
 else if bt s i = 110 then .ok (10, i + 1)
 else if bt s i = 114 then .ok (13, i + 1)
 else if bt s i = 116 then .ok (9, i + 1)
 else if bt s i = 120 then
  match fT s (i + 1) with
  | .error j => .error j
  | .ok (h, j) => match fT s j with
   | .error k => .error k
   | .ok (l, k) => .ok (16 * h + l, k)
 else if (((bt s i < 32 \/ 126 < bt s i) \/ 48 <= bt s i /\ bt s i <= 57) \/ 97 <= bt s i /\ bt s i <= 122) \/ 65 <= bt s i /\ bt s i <= 90 then .error i
 else .ok (bt s i, i + 1)
theorem p5 {s : ByteArray} {i h j : Int} (he : fT s i = .ok (h, j)) (h0 : 0 <= i) : 0 <= h /\ h < 16 /\ j = i + 1 /\ i < s.size := by
 rw [fT] at he
 split at he
 ·rename_i hc
  simp only [Except.ok.injEq, Prod.mk.injEq] at he
  obtain ⟨rfl, rfl⟩ := he
  obtain ⟨b0, b1⟩ := dV s i
  have := sS _ b0 b1
  exact ⟨hc.2, this.2, rfl, hc.1⟩
 ·cases he
theorem V6 (h l : Int) (h0 : 0 <= h) (h1 : h < 16) (l0 : 0 <= l) (l1 : l < 16) : bX .or .u8 (IntKind.u8.wrap (h * 16)) l = 16 * h + l := by
 obtain ⟨n, rfl⟩ := Int.eq_ofNat_of_zero_le h0
 obtain ⟨m, rfl⟩ := Int.eq_ofNat_of_zero_le l0
 have : ∀ a b : Fin 16, bX .or .u8 (IntKind.u8.wrap (((a.val : Nat) : Int) * 16)) ((b.val : Nat) : Int) = 16 * ((a.val : Nat) : Int) + ((b.val : Nat) : Int) := by decide +kernel
 exact this ⟨n, by omega⟩ ⟨m, by omega⟩
def bC := (aq ob Rg QF Ww @JA @tI Gt13c138 (de Gt13c272 Gt13c273 Gt13c276))
set_option maxHeartbeats 4000000 in
theorem Si (s : ByteArray) (i : Int) (u : Value) (fp : List Nat) (w : World) (h0 : 0 <= i) (hs : s.size <= 140737488351232) (hg : ba w (Out fp)) (ho : bz w u fp 375 (zu s i)) (hlt : ∀ b ∈ fp, b < w.heap.size) :
  Calls Tryz.prog 275 (#[u] ++ #[]) w fun e w' => fu w u fp 375 e w' (ux s (dC s i)) := by
 obtain ⟨b0, b1⟩ := dV s i
 obtain ⟨g0, g1, g2, g3, g4, g5, g6⟩ := hg
 have g0' : ¬ 4 ∈ fp := g0
 refine bL (nt := 99) #[] [.tmp 2] (by show 2 <= 7; omega) ho hlt Tryz.func275 rfl rfl rfl ?_
 refine vR Γ13 bC ?_
 refine wR Γ13 bC ?_ ?_
 ·simp [h0]
 refine Wp.seq ?_
 refine vR Γ13 bC ?_
 refine wC bC (fun hc => ?_) (fun hc => ?_)
 ·simp at hc
  have he : dC s i = .error i := by rw [dC, if_pos (by omega)]
  rw [he]
  refine Wp.nY Γ13 bR (ev bC) ?_ ?_
  ·simp
  refine qq ?_
  exact ⟨_, rfl⟩
 ·simp at hc
  have hi : i < s.size := by omega
  have w1 : IntKind.i64.wrap (i + 1) = i + 1 := aa (by omega) (by omega)
  refine wK ?_
  refine Wp.seq ?_
  refine wR Γ13 (yR bC g1 g2 g3 g4 g5 g6) ?_ ?_
  ·simp [Out, g0', ax, SV.keys]
  refine Wp.block ?_
  refine Wp.loop (fun k : Nat => ⟨40, bQ [(0, .is (.own 0 0)), (3, .is (.v (.int .u8 (bt s i)))), (21, .is (.agg [.v (.int .u8 110), .v (.int .u8 10), .v (.int .u8 114), .v (.int .u8 13), .v (.int .u8 116), .v (.int .u8 9)])), (22, .is (.v (.int .i64 k)))], bY [(0, .cells 375 [.v (.string s), .v (.int .i64 i)])]⟩)
   (fun k => k <= 3 /\ (0 < k -> bt s i ≠ 110) /\ (1 < k -> bt s i ≠ 114) /\ (2 < k -> bt s i ≠ 116)) (fun k => 3 - k) 0 ?_ ⟨by omega, by omega, by omega, by omega⟩ ?_
  ·exact wM (fun k => .key k) bC
  rintro k ⟨k0, k1, k2, k3⟩
  refine vR Γ13 bC ?_
  refine Wp.seq ?_
  refine wC bC (fun hc => ?_) (fun hc => ?_)
  ·simp at hc
   refine wK ?_
   have hk3 : k < 3 := by omega
   have hcase : k = 0 \/ k = 1 \/ k = 2 := by omega
   refine Wp.seq (Wp.block ?_)
   rcases hcase with rfl | rfl | rfl
   ·skip
    refine vR Γ13 bC ?_
    refine vR Γ13 bC ?_
    refine wC bC (fun hc => ?_) (fun hc => ?_)
    ·simp at hc
     have he : dC s i = .ok (10, i + 1) := by rw [dC, if_neg (by omega), if_pos (by omega)]
     rw [he]
     refine vR Γ13 (ab bC w1) ?_
     refine vR Γ13 bC ?_
     refine wZ bC ?_
     exact ⟨_, _, rfl, fun E => rfl, _, _, rfl, rfl, by decide⟩
    ·simp at hc
     refine wK ?_
     refine vr Γ13 bC ?_
     refine ⟨1, ⟨by omega, by omega, by omega, by omega⟩, by omega, ?_⟩
     exact wM (fun k => .key k) bC
   ·skip
    refine vR Γ13 bC ?_
    refine vR Γ13 bC ?_
    refine wC bC (fun hc => ?_) (fun hc => ?_)
    ·simp at hc
     have he : dC s i = .ok (13, i + 1) := by rw [dC, if_neg (by omega), if_neg (k1 (by omega)), if_pos (by omega)]
     rw [he]
     refine vR Γ13 (ab bC w1) ?_
     refine vR Γ13 bC ?_
     refine wZ bC ?_
     exact ⟨_, _, rfl, fun E => rfl, _, _, rfl, rfl, by decide⟩
    ·simp at hc
     refine wK ?_
     refine vr Γ13 bC ?_
     refine ⟨2, ⟨by omega, by omega, by omega, by omega⟩, by omega, ?_⟩
     exact wM (fun k => .key k) bC
   ·skip
    refine vR Γ13 bC ?_
    refine vR Γ13 bC ?_
    refine wC bC (fun hc => ?_) (fun hc => ?_)
    ·simp at hc
     have he : dC s i = .ok (9, i + 1) := by rw [dC, if_neg (by omega), if_neg (k1 (by omega)), if_neg (k2 (by omega)), if_pos (by omega)]
     rw [he]
     refine vR Γ13 (ab bC w1) ?_
     refine vR Γ13 bC ?_
     refine wZ bC ?_
     exact ⟨_, _, rfl, fun E => rfl, _, _, rfl, rfl, by decide⟩
    ·simp at hc
     refine wK ?_
     refine vr Γ13 bC ?_
     refine ⟨3, ⟨by omega, by omega, by omega, by omega⟩, by omega, ?_⟩
     exact wM (fun k => .key k) bC
  ·simp at hc
   have k33 : k = 3 := by omega
   subst k33
   refine wE ?_
   refine Wp.seq ?_
   refine vR Γ13 bC ?_
   refine wC bC (fun hc => ?_) (fun hc => ?_)
   ·simp at hc
    have he : dC s i = match fT s (i + 1) with
      | .error j => .error j
      | .ok (h, j) => match fT s j with
       | .error k => .error k
       | .ok (l, k) => .ok (16 * h + l, k) := by rw [dC, if_neg (by omega), if_neg (by omega), if_neg (by omega), if_neg (by omega), if_pos hc]
    refine vR Γ13 (ab bC w1) ?_
    cases h1 : fT s (i + 1) with
    | error j =>
     rw [he, h1]
     refine Wp.iJ Γ13 bR (ev (ab bC h1)) ?_ ?_
     ·simp [w1]; omega
     refine qq ?_
     exact ⟨_, rfl⟩
    | ok p =>
     obtain ⟨h, j⟩ := p
     obtain ⟨q0, q1, rfl, q3⟩ := p5 h1 (by omega)
     refine wR Γ13 (ab bC h1) ?_ ?_
     ·simp [w1]; omega
     cases h2 : fT s (i + 1 + 1) with
     | error j =>
      rw [he, h1]
      simp only [h2]
      refine Wp.iJ Γ13 bR (ev (ab bC h2)) ?_ ?_
      ·simp [w1]; omega
      refine qq ?_
      exact ⟨_, rfl⟩
     | ok p =>
      obtain ⟨l, j⟩ := p
      obtain ⟨r0, r1, rfl, r3⟩ := p5 h2 (by omega)
      rw [he, h1]
      simp only [h2]
      refine wR Γ13 (ab bC h2) ?_ ?_
      ·simp [w1]; omega
      refine wZ bC ?_
      exact ⟨_, _, rfl, fun E => by simp only [den]; rw [V6 h l q0 q1 r0 r1], _, _, rfl, rfl, by decide⟩
   ·simp at hc
    refine wK ?_
    refine Wp.seq ?_
    refine vR Γ13 bC ?_
    refine wC bC (fun hc => ?_) (fun hc => ?_)
    ·simp at hc
     have he : dC s i = .error i := by rw [dC, if_neg (by omega), if_neg (by omega), if_neg (by omega), if_neg (by omega), if_neg (by assumption), if_pos hc]
     rw [he]
     refine Wp.nY Γ13 bR (ev bC) ?_ ?_
     ·exact oo
     refine qq ?_
     exact ⟨_, rfl⟩
    ·have hn : ¬ ((((bt s i < 32 \/ 126 < bt s i) \/ 48 <= bt s i /\ bt s i <= 57) \/ 97 <= bt s i /\ bt s i <= 122) \/ 65 <= bt s i /\ bt s i <= 90) := by
      intro h
      apply Bool.eq_false_iff.1 hc
      simp
      exact h
     have he : dC s i = .ok (bt s i, i + 1) := by rw [dC, if_neg (by omega), if_neg (by omega), if_neg (by omega), if_neg (by omega), if_neg (by assumption), if_neg hn]
     rw [he]
     refine wK ?_
     refine vR Γ13 (ab bC w1) ?_
     refine vR Γ13 bC ?_
     refine wZ bC ?_
     exact ⟨_, _, rfl, fun E => rfl, _, _, rfl, rfl, by decide⟩
def QA : dz Tryz.prog 275 where
 T := 375
 pre := fun W bs fs as_ => match fs, as_ with | [.val (.string s), .val (.int .i64 i)], [] => 0 <= i /\ s.size <= 140737488351232 /\ ba W (Out bs) | _, _ => False
 out := fun W fs as_ => match fs, as_ with | [.val (.string s), .val (.int .i64 i)], [] => ux s (dC s i) | _, _ => .pan [] undef
 enters := Tryz.call275
 ok := by
  intro W w bs u fp us fs as_ hk ho hlt hmine hu hp
  split at hp
  ·rename_i s i
   match us, hu with
   | [], _ =>
    exact Si s i u fp w hp.1 hp.2.1 (hp.2.2.fM hk hmine) ho hlt
  ·exact hp.elim
theorem Q6 (W : World) (s : ByteArray) (i : Int) : QA.out W [.val (.string s), .val (.int .i64 i)] [] = ux s (dC s i) := rfl
theorem Px (W : World) (bs : List Nat) (s : ByteArray) (i : Int) : QA.pre W bs [.val (.string s), .val (.int .i64 i)] [] = (0 <= i /\ s.size <= 140737488351232 /\ ba W (Out bs)) := rfl
theorem Wu : QA.T = 375 := rfl
noncomputable def Γ14 : Env Tryz.prog := ⟨fun | 138 => some R2.spec | 272 => some mq.spec | 273 => some mR.spec | 275 => some QA.spec | _ => none, fun | _ => none, fun _ _ => none⟩
theorem Gt14c138 : Γ14.sp 138 = some R2.spec := rfl
theorem Gt14c272 : Γ14.sp 272 = some mq.spec := rfl
theorem Gt14c273 : Γ14.sp 273 = some mR.spec := rfl
theorem Gt14c275 : Γ14.sp 275 = some QA.spec := rfl
def dy (s : ByteArray) (i : Int) (q : ByteArray) : Except Int (Int × Int) :=
 if i < s.size /\ bt s i = 92 then dC s (i + 1)
 else if ((¬ i < s.size \/ bt s i < 32) \/ 126 < bt s i) \/ 0 <= ix q (bt s i) then .error i
 else .ok (bt s i, i + 1)
def j7 := (aq bC Q6 Px Wu Gt14c138 Gt14c272 Gt14c273 Gt14c275)
set_option maxHeartbeats 4000000 in
theorem TV (s : ByteArray) (i : Int) (q : ByteArray) (u : Value) (fp : List Nat) (w : World) (h0 : 0 <= i) (hs : s.size <= 140737488351232) (hg : ba w (Out fp)) (ho : bz w u fp 375 (zu s i)) (hlt : ∀ b ∈ fp, b < w.heap.size) :
  Calls Tryz.prog 270 (#[u] ++ #[.string q]) w fun e w' => fu w u fp 375 e w' (ux s (dy s i q)) := by
 obtain ⟨b0, b1⟩ := dV s i
 refine bL (nt := 56) #[.string q] [.tmp 4] (by show 2 <= 7; omega) ho hlt Tryz.func270 rfl rfl rfl ?_
 refine vR Γ14 j7 ?_
 refine wR Γ14 j7 ?_ ?_
 ·simp [h0]
 refine Wp.seq ?_
 refine vR Γ14 j7 ?_
 refine wC j7 (fun hc => ?_) (fun hc => ?_)
 ·simp at hc
  have w1 : IntKind.i64.wrap (i + 1) = i + 1 := aa (by omega) (by omega)
  have he : dy s i q = dC s (i + 1) := by rw [dy, if_pos hc]
  rw [he]
  refine vR Γ14 (ab j7 w1) ?_
  cases h1 : dC s (i + 1) with
  | error j =>
   refine Wp.iJ Γ14 bR (ev (ab j7 h1)) ?_ ?_
   ·simp [w1, hs]; exact ⟨by omega, hg⟩
   refine qq ?_
   exact ⟨_, rfl⟩
  | ok p =>
   obtain ⟨b, j⟩ := p
   refine wR Γ14 (ab j7 h1) ?_ ?_
   ·simp [w1, hs]; exact ⟨by omega, hg⟩
   refine wZ j7 ?_
   exact ⟨_, _, rfl, fun E => rfl, _, _, rfl, rfl, by decide⟩
 ·have hn : ¬ (i < s.size /\ bt s i = 92) := fun h => by
   apply Bool.eq_false_iff.1 hc
   simp
   exact h
  refine wK ?_
  refine Wp.seq ?_
  refine vR Γ14 j7 ?_
  refine wC j7 (fun hc => ?_) (fun hc => ?_)
  ·simp at hc
   have he : dy s i q = .error i := by
    rw [dy, if_neg hn, if_pos]
    omega
   rw [he]
   refine Wp.nY Γ14 bR (ev j7) ?_ ?_
   ·simp
   refine qq ?_
   exact ⟨_, rfl⟩
  ·have hn' : ¬ (((¬ i < s.size \/ bt s i < 32) \/ 126 < bt s i) \/ 0 <= ix q (bt s i)) := fun h => by
    apply Bool.eq_false_iff.1 hc
    simp
    omega
   have he : dy s i q = .ok (bt s i, i + 1) := by rw [dy, if_neg hn, if_neg hn']
   have w1 : IntKind.i64.wrap (i + 1) = i + 1 := aa (by omega) (by omega)
   rw [he]
   refine wK ?_
   refine vR Γ14 (ab j7 w1) ?_
   refine vR Γ14 j7 ?_
   refine wZ j7 ?_
   exact ⟨_, _, rfl, fun E => rfl, _, _, rfl, rfl, by decide⟩
def ES : dz Tryz.prog 270 where
 T := 375
 pre := fun W bs fs as_ => match fs, as_ with | [.val (.string s), .val (.int .i64 i)], [.val (.string q)] => 0 <= i /\ s.size <= 140737488351232 /\ ba W (Out bs) | _, _ => False
 out := fun W fs as_ => match fs, as_ with | [.val (.string s), .val (.int .i64 i)], [.val (.string q)] => ux s (dy s i q) | _, _ => .pan [] undef
 enters := Tryz.call270
 ok := by
  intro W w bs u fp us fs as_ hk ho hlt hmine hu hp
  split at hp
  ·rename_i s i q
   match us, hu with
   | [u0], hu =>
    obtain ⟨rfl, _⟩ := hu
    exact TV s i q u fp w hp.1 hp.2.1 (hp.2.2.fM hk hmine) ho hlt
  ·exact hp.elim
theorem Qc (W : World) (s : ByteArray) (i : Int) (q : ByteArray) : ES.out W [.val (.string s), .val (.int .i64 i)] [.val (.string q)] = ux s (dy s i q) := rfl
theorem O6 (W : World) (bs : List Nat) (s : ByteArray) (i : Int) (q : ByteArray) : ES.pre W bs [.val (.string s), .val (.int .i64 i)] [.val (.string q)] = (0 <= i /\ s.size <= 140737488351232 /\ ba W (Out bs)) := rfl
theorem V7 : ES.T = 375 := rfl
end
section
open Go.RowKit Go.LE
set_option maxRecDepth 10000
theorem Tn {s : ByteArray} {i b j : Int} (he : dC s i = .ok (b, j)) (h0 : 0 <= i) : 0 <= b /\ b < 256 /\ i < j /\ j <= s.size := by
 obtain ⟨b0, b1⟩ := dV s i
 rw [dC] at he
 split at he
 ·cases he
 ·rename_i h1
  split at he
  ·simp only [Except.ok.injEq, Prod.mk.injEq] at he; omega
  ·split at he
   ·simp only [Except.ok.injEq, Prod.mk.injEq] at he; omega
   ·split at he
    ·simp only [Except.ok.injEq, Prod.mk.injEq] at he; omega
    ·split at he
     ·cases h2 : fT s (i + 1) with
      | error k => rw [h2] at he; cases he
      | ok p =>
       obtain ⟨h, k⟩ := p
       rw [h2] at he
       obtain ⟨q0, q1, q2, q3⟩ := p5 h2 (by omega)
       simp only at he
       cases h3 : fT s k with
       | error k' => rw [h3] at he; cases he
       | ok p =>
        obtain ⟨l, k'⟩ := p
        rw [h3] at he
        obtain ⟨r0, r1, r2, r3⟩ := p5 h3 (by omega)
        simp only [Except.ok.injEq, Prod.mk.injEq] at he
        omega
     ·split at he
      ·cases he
      ·simp only [Except.ok.injEq, Prod.mk.injEq] at he; omega
theorem iS {s : ByteArray} {i b j : Int} {q : ByteArray} (he : dy s i q = .ok (b, j)) (h0 : 0 <= i) : 0 <= b /\ b < 256 /\ i < j /\ j <= s.size := by
 obtain ⟨b0, b1⟩ := dV s i
 rw [dy] at he
 split at he
 ·have := Tn he (by omega); omega
 ·split at he
  ·cases he
  ·simp only [Except.ok.injEq, Prod.mk.injEq] at he; omega
noncomputable def w6 : aU Tryz.prog 224 where
 pre := fun W bs => fun | [.val y0] => (match dec b7 y0 with | some S => True | _ => False) | _ => False
 res := fun W => fun | [.val y0] => (match dec b7 y0 with | some S => b7 (~~~S) | _ => undef) | _ => undef
 enters := Tryz.call224
 ok := by
  intro W w bs us as_ hk hu hp
  split at hp
  ·rename_i y0
   split at hp
   ·rename_i S h0
    match us, hu with
    | [u0], hu =>
     obtain ⟨rfl, _⟩ := hu
     obtain rfl := fA h0
     try dsimp only
     try simp only [cj cd]
     exact SF S w
   ·exact hp.elim
  ·exact hp.elim
theorem Bm (W : World) (S : CS) : w6.res W [.val (b7 S)] = b7 (~~~S) := by simp only [w6, cj cd]
theorem Bg (W : World) (bs : List Nat) (S : CS) : w6.pre W bs [.val (b7 S)] = (True) := by simp only [w6, cj cd]
noncomputable def rA : aU Tryz.prog 274 where
 pre := fun W bs => fun | [.val y0, .val y1] => (match dec b7 y0, dec b7 y1 with | some S, some T => True | _, _ => False) | _ => False
 res := fun W => fun | [.val y0, .val y1] => (match dec b7 y0, dec b7 y1 with | some S, some T => b7 (S ||| T) | _, _ => undef) | _ => undef
 enters := Tryz.call274
 ok := by
  intro W w bs us as_ hk hu hp
  split at hp
  ·rename_i y0 y1
   split at hp
   ·rename_i S T h0 h1
    match us, hu with
    | [u0, u1], hu =>
     obtain ⟨rfl, rfl, _⟩ := hu
     obtain rfl := fA h0; obtain rfl := fA h1
     try dsimp only
     try simp only [cj cd]
     exact KL S T w
   ·exact hp.elim
  ·exact hp.elim
theorem GQ (W : World) (S : CS) (T : CS) : rA.res W [.val (b7 S), .val (b7 T)] = b7 (S ||| T) := by simp only [rA, cj cd]
theorem F3 (W : World) (bs : List Nat) (S : CS) (T : CS) : rA.pre W bs [.val (b7 S), .val (b7 T)] = (True) := by simp only [rA, cj cd]
def j9 (lo hi : Int) : CS := span lo.toNat hi.toNat
def xR : aU Tryz.prog 271 where
 pre := fun W bs => fun | [.val (.int .u8 lo), .val (.int .u8 hi)] => 0 <= lo /\ lo < 256 /\ 0 <= hi /\ hi < 256 | _ => False
 res := fun W => fun | [.val (.int .u8 lo), .val (.int .u8 hi)] => b7 (j9 lo hi) | _ => undef
 enters := Tryz.call271
 ok := by
  intro W w bs us as_ hk hu hp
  split at hp
  ·rename_i lo hi
   match us, hu with
   | [u0, u1], hu =>
    obtain ⟨rfl, rfl, _⟩ := hu
    obtain ⟨p0, p1, p2, p3⟩ := hp; have := OJ lo.toNat hi.toNat (by omega) (by omega) w; rwa [Int.toNat_of_nonneg p0, Int.toNat_of_nonneg p2] at this
  ·exact hp.elim
theorem LM (W : World) (lo : Int) (hi : Int) : xR.res W [.val (.int .u8 lo), .val (.int .u8 hi)] = b7 (j9 lo hi) := rfl
theorem My (W : World) (bs : List Nat) (lo : Int) (hi : Int) : xR.pre W bs [.val (.int .u8 lo), .val (.int .u8 hi)] = (0 <= lo /\ lo < 256 /\ 0 <= hi /\ hi < 256) := rfl
def WG : aU Tryz.prog 245 where
 pre := fun W bs => fun | [.val (.string s)] => s.size <= 140737488351232 | _ => False
 res := fun W => fun | [.val (.string s)] => b7 (Ef s s.size) | _ => undef
 enters := Tryz.call245
 ok := by
  intro W w bs us as_ hk hu hp
  split at hp
  ·rename_i s
   match us, hu with
   | [u0], hu =>
    obtain ⟨rfl, _⟩ := hu
    exact Wz s hp w
  ·exact hp.elim
theorem Tj (W : World) (s : ByteArray) : WG.res W [.val (.string s)] = b7 (Ef s s.size) := rfl
theorem SL (W : World) (bs : List Nat) (s : ByteArray) : WG.pre W bs [.val (.string s)] = (s.size <= 140737488351232) := rfl
noncomputable def Γ15 : Env Tryz.prog := ⟨fun | 272 => some mq.spec | 273 => some mR.spec | 270 => some ES.spec | 224 => some w6.spec | 274 => some rA.spec | 271 => some xR.spec | 245 => some WG.spec | _ => none, fun | _ => none, fun _ _ => none⟩
theorem Gt15c272 : Γ15.sp 272 = some mq.spec := rfl
theorem Gt15c273 : Γ15.sp 273 = some mR.spec := rfl
theorem Gt15c270 : Γ15.sp 270 = some ES.spec := rfl
theorem Gt15c224 : Γ15.sp 224 = some w6.spec := rfl
theorem Gt15c274 : Γ15.sp 274 = some rA.spec := rfl
theorem Gt15c271 : Γ15.sp 271 = some xR.spec := rfl
theorem Gt15c245 : Γ15.sp 245 = some WG.spec := rfl
def ku : ByteArray := ⟨#[92, 93, 91, 45, 94, 47]⟩
def qU (s : ByteArray) : Nat -> Int -> CS -> Except Int (CS × Int)
 | 0, i, _ => .error i
 | n + 1, i, a =>
  if i < s.size /\ bt s i = 93 then .ok (a, i + 1) else
  match dy s i ku with
  | .error j => .error j
  | .ok (lo, j) =>
   if j < s.size /\ bt s j = 45 then
    match dy s (j + 1) ku with
    | .error k => .error k
    | .ok (hi, k) => if hi < lo then .error (j + 1) else qU s n k (a ||| j9 lo hi)
   else qU s n j (a ||| j9 lo lo)
def Io (b : Bool) (a : CS) : CS := if b then ~~~a else a
def gD (s : ByteArray) (i : Int) : Bool := decide (i < s.size) && decide (bt s i = 94)
def ry (b : Bool) : Except Int (CS × Int) -> Except Int (CS × Int)
 | .error j => .error j
 | .ok (a, j) => .ok (Io b a, j)
def dU (s : ByteArray) (i : Int) : Except Int (CS × Int) := ry (gD s i) (qU s (s.size + 1) (if gD s i then i + 1 else i) 0)
def Bn (s : ByteArray) : Except Int (CS × Int) -> BOut
 | .ok (a, j) => .ret (b7 a) (zu s j)
 | .error j => .pan (gX j) (b7 0)
theorem oZ (s : ByteArray) (a : CS) (j : Int) : Bn s (.ok (a, j)) = .ret (b7 a) (zu s j) := rfl
theorem jP (s : ByteArray) (j : Int) : Bn s (.error j) = .pan (gX j) (b7 0) := rfl
def cn := (aq @List.replicate_succ.{0} @List.replicate_zero.{0} @av @af jV jW jb (aq cW cX c8 cT cZ c9 cR (aq cV gz gv gi gk gn ez (aq ey eB eC eA ew o6 pB (aq p6 qn rF r9 r8 sf Jb (aq H8 IB I7 IC IK IY Jt (aq Ih H6 Jy Ju II @aN @au (aq @aA @az @rf @qR @zN @yN @xk (aq @Ig @Qc @O6 @V7 @zu.eq_1 @gX.eq_1 @JA (aq @tI @dm @jO @kF @kC @ji @nv (aq @dM @zC @gH @List.drop_nil.{0} @Bm @Bg GQ (aq F3 LM My Tj SL Gt15c272 Gt15c273 (oc Gt15c270 Gt15c224 Gt15c274 Gt15c271 Gt15c245)))))))))))))
set_option maxHeartbeats 4000000 in
theorem DV (s : ByteArray) (i : Int) (u : Value) (fp : List Nat) (w : World) (h0 : 0 <= i) (hs : s.size <= 140737488351232) (hg : ba w (Out fp)) (ho : bz w u fp 375 (zu s i)) (hlt : ∀ b ∈ fp, b < w.heap.size) :
  Calls Tryz.prog 269 (#[u] ++ #[]) w fun e w' => fu w u fp 375 e w' (Bn s (dU s i)) := by
 obtain ⟨b0, b1⟩ := dV s i
 refine bL (nt := 90) #[] [.cell 2 309] (by show 2 <= 7; omega) ho hlt Tryz.func269 rfl rfl rfl ?_
 refine vR Γ15 cn ?_
 refine vR Γ15 cn ?_
 refine wR Γ15 cn ?_ ?_
 ·simp [h0]
 refine vR Γ15 cn ?_
 generalize hi0 : (if gD s i then i + 1 else i) = i0
 have hj0 : 0 <= i0 /\ i0 <= i + 1 := by rw [<- hi0]; split <;> omega
 generalize hR : qU s (s.size + 1) i0 0 = R
 have hm : dU s i = ry (gD s i) R := by rw [dU, hi0, hR]
 refine bp ⟨40, bQ [(0, .is (.own 0 0)), (2, .is (.own 8 0)), (3, .is (.own 16 0)), (6, .is (.v (.bool (gD s i))))], bY [(0, .cells 375 [.v (.string s), .v (.int .i64 i0)]), (8, .cells 309 [.v (.int .u64 0), .v (.int .u64 0), .v (.int .u64 0), .v (.int .u64 0)]), (16, .cells 309 [.v (.int .u64 0), .v (.int .u64 0), .v (.int .u64 0), .v (.int .u64 0)])]⟩ ?_ ?_
 ·skip
  refine vR Γ15 cn ?_
  refine wC cn (fun hc => ?_) (fun hc => ?_)
  ·have hcar : gD s i = true := hc
   rw [hcar] at hi0
   simp only [if_true] at hi0
   simp at hc
   have w1 : IntKind.i64.wrap (i + 1) = i + 1 := aa (by omega) (by omega)
   refine vr Γ15 (ab cn w1) ?_
   subst hi0
   exact wM (fun k => .key k) (ab cn @gD.eq_1)
  ·have hcar : gD s i = false := hc
   rw [hcar] at hi0
   simp only [Bool.false_eq_true, if_false] at hi0
   refine wK ?_
   subst hi0
   exact wM (fun k => .key k) (ab cn @gD.eq_1)
 refine Wp.seq ?_
 refine Wp.block ?_
 refine Wp.loop (fun p : Nat × Int × CS => ⟨40, bQ [(0, .is (.own 0 0)), (2, .is (.own 8 0)), (3, .is (.own 16 0)), (6, .is (.v (.bool (gD s i))))], bY [(0, .cells 375 [.v (.string s), .v (.int .i64 p.2.1)]), (8, .cells 309 [.v (.int .u64 0), .v (.int .u64 0), .v (.int .u64 0), .v (.int .u64 0)]), (16, .cells 309 ((jU p.2.2).map .v))]⟩)
  (fun p => 0 <= p.2.1 /\ (s.size - p.2.1 < p.1 /\ 1 <= p.1) /\ qU s p.1 p.2.1 p.2.2 = R) (fun p => p.1) (s.size + 1, i0, 0) ?_ ⟨hj0.1, by simp only; omega, hR⟩ ?_
 ·exact wM (fun k => .key k) (ab cn @uj)
 rintro ⟨n, i', a⟩ ⟨k0, ⟨k1, k3⟩, k2⟩
 simp only at k0 k1 k2
 obtain ⟨n, rfl⟩ : ∃ m, n = m + 1 := ⟨n - 1, by simp only at k3; omega⟩
 rw [qU] at k2
 refine Wp.block ?_
 refine Wp.seq ?_
 refine wR Γ15 cn ?_ ?_
 ·simp [k0]
 refine vR Γ15 cn ?_
 refine wC cn (fun hc => ?_) (fun hc => ?_)
 ·simp at hc
  have hR' : R = .ok (a, i' + 1) := by rw [<- k2, if_pos hc]
  have w1 : IntKind.i64.wrap (i' + 1) = i' + 1 := aa (by omega) (by omega)
  refine vR Γ15 (ab cn w1) ?_
  refine wE ?_
  refine Wp.seq ?_
  refine vR Γ15 cn ?_
  refine wC cn (fun hc => ?_) (fun hc => ?_)
  ·have hcar : gD s i = true := hc
   rw [hm, hR', hcar, ry, oZ]
   refine wR Γ15 cn ?_ ?_
   ·simp [jO]
   refine wZ cn ?_
   exact ⟨_, _, rfl, rfl, _, _, rfl, rfl, by decide⟩
  ·have hcar : gD s i = false := hc
   rw [hm, hR', hcar, ry, oZ]
   refine wK ?_
   refine wR Γ15 cn ?_ ?_
   ·simp [jO]
   refine wZ cn ?_
   exact ⟨_, _, rfl, rfl, _, _, rfl, rfl, by decide⟩
 ·have hn : ¬ (i' < s.size /\ bt s i' = 93) := fun h => by
   apply Bool.eq_false_iff.1 hc
   simp
   exact h
  rw [if_neg hn] at k2
  refine wK ?_
  cases h1 : dy s i' ku with
  | error j =>
   rw [h1] at k2
   simp only at k2
   rw [ku] at h1
   rw [hm, <- k2, ry, jP]
   refine Wp.iJ Γ15 bR (ev (ab cn h1)) ?_ ?_
   ·simp [hs, hg]; omega
   refine qq ?_
   exact ⟨_, rfl⟩
  | ok p =>
   obtain ⟨lo, j⟩ := p
   obtain ⟨o0, o1, o2, o3⟩ := iS h1 k0
   rw [h1] at k2
   simp only at k2
   rw [ku] at h1
   refine wR Γ15 (ab cn h1) ?_ ?_
   ·simp [hs, hg]; omega
   refine vR Γ15 cn ?_
   refine Wp.seq ?_
   refine wR Γ15 cn ?_ ?_
   ·simp; omega
   refine vR Γ15 cn ?_
   refine wC cn (fun hc => ?_) (fun hc => ?_)
   ·simp at hc
    rw [if_pos hc] at k2
    have w1 : IntKind.i64.wrap (j + 1) = j + 1 := aa (by omega) (by omega)
    refine vR Γ15 (ab cn w1) ?_
    refine vR Γ15 cn ?_
    cases h2 : dy s (j + 1) ku with
    | error l =>
     rw [h2] at k2
     simp only at k2
     rw [ku] at h2
     rw [hm, <- k2, ry, jP]
     refine Wp.iJ Γ15 bR (ev (ab cn h2)) ?_ ?_
     ·simp [hs, hg]; omega
     refine qq ?_
     exact ⟨_, rfl⟩
    | ok p =>
     obtain ⟨hi, l⟩ := p
     obtain ⟨r0, r1, r2, r3⟩ := iS h2 (by omega)
     rw [h2] at k2
     simp only at k2
     rw [ku] at h2
     refine wR Γ15 (ab cn h2) ?_ ?_
     ·simp [hs, hg]; omega
     refine vR Γ15 cn ?_
     refine wC cn (fun hc => ?_) (fun hc => ?_)
     ·simp at hc
      rw [if_pos hc] at k2
      rw [hm, <- k2, ry, jP]
      refine Wp.nY Γ15 bR (ev cn) ?_ ?_
      ·exact oo
      refine qq ?_
      exact ⟨_, rfl⟩
     ·simp at hc
      rw [if_neg (by omega)] at k2
      refine wK ?_
      refine sx Γ15 cn ?_ ?_
      ·omega
      refine ⟨(n, l, a ||| j9 lo hi), ⟨by simp only; omega, by simp only; omega, k2⟩, by simp only; omega, ?_⟩
      exact wM (fun k => .key k) cn
   ·have hn' : ¬ (j < s.size /\ bt s j = 45) := fun h => by
     apply Bool.eq_false_iff.1 hc
     simp
     exact h
    rw [if_neg hn'] at k2
    refine wK ?_
    refine sx Γ15 cn ?_ ?_
    ·omega
    refine ⟨(n, j, a ||| j9 lo lo), ⟨by simp only; omega, by simp only; omega, k2⟩, by simp only; omega, ?_⟩
    exact wM (fun k => .key k) cn
def mI : dz Tryz.prog 269 where
 T := 375
 pre := fun W bs fs as_ => match fs, as_ with | [.val (.string s), .val (.int .i64 i)], [] => 0 <= i /\ s.size <= 140737488351232 /\ ba W (Out bs) | _, _ => False
 out := fun W fs as_ => match fs, as_ with | [.val (.string s), .val (.int .i64 i)], [] => Bn s (dU s i) | _, _ => .pan [] undef
 enters := Tryz.call269
 ok := by
  intro W w bs u fp us fs as_ hk ho hlt hmine hu hp
  split at hp
  ·rename_i s i
   match us, hu with
   | [], _ =>
    exact DV s i u fp w hp.1 hp.2.1 (hp.2.2.fM hk hmine) ho hlt
  ·exact hp.elim
theorem An (W : World) (s : ByteArray) (i : Int) : mI.out W [.val (.string s), .val (.int .i64 i)] [] = Bn s (dU s i) := rfl
theorem zT (W : World) (bs : List Nat) (s : ByteArray) (i : Int) : mI.pre W bs [.val (.string s), .val (.int .i64 i)] [] = (0 <= i /\ s.size <= 140737488351232 /\ ba W (Out bs)) := rfl
theorem Gq : mI.T = 375 := rfl
noncomputable def Γ16 : Env Tryz.prog := ⟨fun | 270 => some ES.spec | 224 => some w6.spec | 271 => some xR.spec | 245 => some WG.spec | 269 => some mI.spec | _ => none, fun | _ => none, fun _ _ => none⟩
theorem Gt16c270 : Γ16.sp 270 = some ES.spec := rfl
theorem Gt16c224 : Γ16.sp 224 = some w6.spec := rfl
theorem Gt16c271 : Γ16.sp 271 = some xR.spec := rfl
theorem Gt16c245 : Γ16.sp 245 = some WG.spec := rfl
theorem Gt16c269 : Γ16.sp 269 = some mI.spec := rfl
def wo : ByteArray := ⟨#[40, 41, 91, 93, 123, 125, 124, 38, 45, 42, 43, 63, 46, 92, 47, 94]⟩
def Uk : Except Int (Int × Int) -> Except Int (CS × Int)
 | .error j => .error j
 | .ok (b, j) => .ok (j9 b b, j)
def dr (s : ByteArray) (i : Int) : Except Int (CS × Int) :=
 if bt s i = 46 then .ok (~~~(Ef ⟨#[10]⟩ 1), i + 1)
 else if bt s i = 91 then dU s (i + 1)
 else Uk (dy s i wo)
def gE := (aq cn An zT Gq @oZ @jP Gt16c270 (eH Gt16c224 Gt16c271 Gt16c245 Gt16c269))
set_option maxHeartbeats 4000000 in
theorem Np (s : ByteArray) (i : Int) (u : Value) (fp : List Nat) (w : World) (h0 : 0 <= i) (h1 : i < s.size) (hs : s.size <= 140737488351232) (hg : ba w (Out fp)) (ho : bz w u fp 375 (zu s i)) (hlt : ∀ b ∈ fp, b < w.heap.size) :
  Calls Tryz.prog 268 (#[u] ++ #[]) w fun e w' => fu w u fp 375 e w' (Bn s (dr s i)) := by
 obtain ⟨b0, b1⟩ := dV s i
 have w1 : IntKind.i64.wrap (i + 1) = i + 1 := aa (by omega) (by omega)
 refine bL (nt := 42) #[] [.cell 2 309] (by show 2 <= 7; omega) ho hlt Tryz.func268 rfl rfl rfl ?_
 refine vR Γ16 gE ?_
 refine Wp.seq ?_
 refine R0 Γ16 gE ?_
 refine vR Γ16 gE ?_
 refine Wp.block ?_
 refine vR Γ16 gE ?_
 refine wC gE (fun hc => ?_) (fun hc => ?_)
 ·simp at hc
  have he : dr s i = .ok (~~~(Ef ⟨#[10]⟩ 1), i + 1) := by rw [dr, if_pos hc]
  rw [he, oZ]
  refine vR Γ16 (ab gE w1) ?_
  refine wR Γ16 gE ?_ ?_
  ·decide
  refine wZ gE ?_
  exact ⟨_, _, rfl, rfl, _, _, rfl, rfl, by decide⟩
 ·simp at hc
  have hc0 := hc
  refine vR Γ16 gE ?_
  refine wC gE (fun hc => ?_) (fun hc => ?_)
  ·simp at hc
   have he : dr s i = dU s (i + 1) := by rw [dr, if_neg hc0, if_pos hc]
   rw [he]
   refine vR Γ16 (ab gE w1) ?_
   cases h2 : dU s (i + 1) with
   | error j =>
    refine Wp.iJ Γ16 bR (ev (ab gE h2)) ?_ ?_
    ·simp [hs, hg]; omega
    refine qq ?_
    exact ⟨_, rfl⟩
   | ok p =>
    obtain ⟨a, j⟩ := p
    refine wR Γ16 (ab gE h2) ?_ ?_
    ·simp [hs, hg]; omega
    refine wZ gE ?_
    exact ⟨_, _, rfl, rfl, _, _, rfl, rfl, by decide⟩
  ·simp at hc
   have he : dr s i = Uk (dy s i wo) := by rw [dr, if_neg hc0, if_neg hc]
   rw [he]
   refine wK ?_
   cases h2 : dy s i wo with
   | error j =>
    rw [wo] at h2
    refine Wp.iJ Γ16 bR (ev (ab gE h2)) ?_ ?_
    ·simp [hs, hg]; omega
    refine qq ?_
    exact ⟨_, rfl⟩
   | ok p =>
    obtain ⟨b, j⟩ := p
    obtain ⟨o0, o1, o2, o3⟩ := iS h2 h0
    rw [wo] at h2
    refine wR Γ16 (ab gE h2) ?_ ?_
    ·simp [hs, hg]; omega
    refine wR Γ16 gE ?_ ?_
    ·omega
    refine wZ gE ?_
    exact ⟨_, _, rfl, rfl, _, _, rfl, rfl, by decide⟩
def Ed : dz Tryz.prog 268 where
 T := 375
 pre := fun W bs fs as_ => match fs, as_ with | [.val (.string s), .val (.int .i64 i)], [] => 0 <= i /\ i < s.size /\ s.size <= 140737488351232 /\ ba W (Out bs) | _, _ => False
 out := fun W fs as_ => match fs, as_ with | [.val (.string s), .val (.int .i64 i)], [] => Bn s (dr s i) | _, _ => .pan [] undef
 enters := Tryz.call268
 ok := by
  intro W w bs u fp us fs as_ hk ho hlt hmine hu hp
  split at hp
  ·rename_i s i
   match us, hu with
   | [], _ =>
    exact Np s i u fp w hp.1 hp.2.1 hp.2.2.1 (hp.2.2.2.fM hk hmine) ho hlt
  ·exact hp.elim
theorem LC (W : World) (s : ByteArray) (i : Int) : Ed.out W [.val (.string s), .val (.int .i64 i)] [] = Bn s (dr s i) := rfl
theorem LZ (W : World) (bs : List Nat) (s : ByteArray) (i : Int) : Ed.pre W bs [.val (.string s), .val (.int .i64 i)] [] = (0 <= i /\ i < s.size /\ s.size <= 140737488351232 /\ ba W (Out bs)) := rfl
theorem UB : Ed.T = 375 := rfl
end
section
open Go.RowKit Go.LE
set_option maxRecDepth 10000
noncomputable def Γ20 : Env Tryz.prog := ⟨fun | 268 => some Ed.spec | _ => none, fun | _ => none, fun _ _ => none⟩
theorem Gt20c268 : Γ20.sp 268 = some Ed.spec := rfl
def tZ (c i : Int) (t : ByteArray) : Value := .agg #[.int .i64 c, .int .i64 i, .string t]
def eO := (aq @List.replicate_succ.{0} @List.replicate_zero.{0} @av @af jV jW HS (aq HB E9 jb cW cX c8 cT (aq cZ c9 cR cV ez ey eB (aq eC eA ew Qp NZ Rf Nj (aq Ak zz AP zl AJ z7 AE (aq Ae zI zd o6 pB p6 qn (aq rF r9 r8 sf IB I7 IC (aq IK IY Jt Ih H6 Jy Ju (aq II @aN @au @aA @az @σR.eq_1 @σL.eq_1 (aq @mz.eq_1 @mz.eq_2 @uw.eq_1 @uw.eq_2 @zu.eq_1 @LC @LZ (aq @UB @oZ @jP @gX.eq_1 @dm @jO @kF (aq @kC @ji @nv @dM @zC @gH @List.drop_nil.{0} Gt20c268))))))))))))
noncomputable def Qv : CatchC Tryz.prog 267 where
 Ts := [309, 3, 39]
 enters := Tryz.call267
 pre := fun vss pv => (∃ a b c d e f g h, vss = [[a, b, c, d], [e], [f, g, h]]) /\ ∃ c i t, pv = .iface 39 (tZ c i t)
 out := fun vss pv => [[.int .u64 0, .int .u64 0, .int .u64 0, .int .u64 0], [.int .i64 0], match pv with | .iface _ (.agg x) => x.toList | _ => []]
 bh := fun vss pv => [b7 0, .int .i64 0, match pv with | .iface _ x => x | _ => undef]
 vals_ok := by
  rintro vss pv ⟨_, c, i, t, rfl⟩
  refine ⟨.inl ⟨by simp only [dS, Op.operands, Value.cells, σ0, σB, Nat.reduceEqDiff, Nat.reduceAdd, Nat.reduceMul, Nat.reduceLT, Nat.reduceLeDiff, Nat.reduceBEq, ae, Int.reduceToNat, Int.reduceLT, Int.reduceLE, Nat.reduceDiv, Nat.reduceMod, Nat.reduceSub, Int.reducePow, Nat.reducePow, σP, σB3, eO] <;> rfl, by simp only [dS, Op.operands, Value.cells, σ0, σB, Nat.reduceEqDiff, Nat.reduceAdd, Nat.reduceMul, Nat.reduceLT, Nat.reduceLeDiff, Nat.reduceBEq, ae, Int.reduceToNat, Int.reduceLT, Int.reduceLE, Nat.reduceDiv, Nat.reduceMod, Nat.reduceSub, Int.reducePow, Nat.reducePow, σP, σB3, eO], ?_⟩, .inr ⟨by simp only [dS, Op.operands, Value.cells, σ0, σB, Nat.reduceEqDiff, Nat.reduceAdd, Nat.reduceMul, Nat.reduceLT, Nat.reduceLeDiff, Nat.reduceBEq, ae, Int.reduceToNat, Int.reduceLT, Int.reduceLE, Nat.reduceDiv, Nat.reduceMod, Nat.reduceSub, Int.reducePow, Nat.reducePow, σP, σB3, eO], rfl⟩, .inl ⟨by simp only [dS, Op.operands, Value.cells, σ0, σB, Nat.reduceEqDiff, Nat.reduceAdd, Nat.reduceMul, Nat.reduceLT, Nat.reduceLeDiff, Nat.reduceBEq, ae, Int.reduceToNat, Int.reduceLT, Int.reduceLE, Nat.reduceDiv, Nat.reduceMod, Nat.reduceSub, Int.reducePow, Nat.reducePow, σP, σB3, eO] <;> rfl, by simp only [dS, Op.operands, Value.cells, σ0, σB, Nat.reduceEqDiff, Nat.reduceAdd, Nat.reduceMul, Nat.reduceLT, Nat.reduceLeDiff, Nat.reduceBEq, ae, Int.reduceToNat, Int.reduceLT, Int.reduceLE, Nat.reduceDiv, Nat.reduceMod, Nat.reduceSub, Int.reducePow, Nat.reducePow, σP, σB3, eO], rfl⟩, trivial⟩
  rfl
 quiet := fun w us hl => by
  match us, hl with
  | [u0, u1, u2], _ =>
   refine pO (nt := 10) w _ Tryz.func267 rfl rfl (by omega) (by omega) rfl ?_
   refine vR Γ20 eO ?_
   refine wC eO (fun hc => ?_) (fun hc => ?_)
   ·simp at hc
   ·refine wK ?_
    simp only [dS, Op.operands, Value.cells, σ0, σB, Nat.reduceEqDiff, Nat.reduceAdd, Nat.reduceMul, Nat.reduceLT, Nat.reduceLeDiff, Nat.reduceBEq, ae, Int.reduceToNat, Int.reduceLT, Int.reduceLE, Nat.reduceDiv, Nat.reduceMod, Nat.reduceSub, Int.reducePow, Nat.reducePow, σP, σB3, nw, gJ, kB, jr, eO]
    done
 caught := fun w us bl vss pv hl hn hlt hp => by
  obtain ⟨⟨a, b, c, d, e, f, g, h, rfl⟩, k, i, t, rfl⟩ := hp
  have h3 := hl.len.1
  refine oh (nt := 10) Tryz.func267 rfl rfl (by omega) (by omega) ?_ hl hn hlt ?_ ?_
  ·rw [h3]; rfl
  ·rw [h3]; decide
  intro us _
  refine vR Γ20 eO ?_
  refine wC eO (fun hc => ?_) (fun hc => ?_)
  ·skip
   refine Y3 Γ20 (ab eO @tZ.eq_1) ?_
   refine wS eO ?_
   exact ⟨rfl, rfl, rfl, trivial⟩
  ·cases hc
def oq (c : Int) (a : CS) (j k : Int) : Value := .tuple #[b7 a, .int .i64 j, tZ c k ⟨#[]⟩]
def qk (s : ByteArray) (i : Int) : Value :=
 if i < 0 \/ s.size <= i then oq 2 0 0 0
 else match dr s i with
  | .error j => oq 10 0 0 j
  | .ok (a, j) => oq 0 a j 0
set_option maxHeartbeats 4000000 in
theorem QY (s : ByteArray) (i : Int) (w : World) (hs : s.size <= 140737488351232) (hg : ba w (Out [])) :
  Calls Tryz.prog 263 #[.string s, .int .i64 i] w fun e w' => e = .returned (qk s i) /\ ai w [] w' := by
 refine sw (nt := 31) Tryz.func263 rfl rfl ?_
 refine jY.seq' (rs := [.cell 4 309, .cell 5 3, .cell 6 39]) rfl ?_
 refine vr Γ20 eO ?_
 refine jY.seq' (rs := [.cell 4 309, .cell 5 3, .cell 6 39]) rfl ?_
 refine vR Γ20 eO ?_
 refine wC eO (fun hc => ?_) (fun hc => ?_)
 ·have hb : i < 0 \/ s.size <= i := by simpa using hc
  have he : qk s i = oq 2 0 0 0 := by rw [qk, if_pos hb]
  rw [he]
  refine vR Γ20 eO ?_
  refine wZ eO ?_
  exact fun E => rfl
 ·have hb : ¬ (i < 0 \/ s.size <= i) := fun h => by
   apply Bool.eq_false_iff.1 hc
   simpa using h
  have he : qk s i = match dr s i with
    | .error j => oq 10 0 0 j
    | .ok (a, j) => oq 0 a j 0 := by rw [qk, if_neg hb]
  refine wK ?_
  refine jY.PY (rs := [.cell 4 309, .cell 5 3, .cell 6 39]) rfl Qv [4, 5, 6] [0, 8, 16] rfl (by decide) rfl (by decide) rfl rfl ?_ ?_ fun us hus => ?_
  ·rintro p hp
   simp only [List.zip_cons_cons, List.zip_nil_right, List.mem_cons, List.not_mem_nil, or_false] at hp
   rcases hp with rfl | rfl | rfl <;> rfl
  ·rintro k hk
   simp only [List.mem_cons, List.not_mem_nil, or_false] at hk
   rcases hk with rfl | rfl | rfl <;> exact ⟨_, _, rfl⟩
  have hi : 0 <= i /\ i < s.size := by omega
  refine vR Γ20 eO ?_
  cases h2 : dr s i with
  | error j =>
   rw [he, h2]
   refine Wp.iJ Γ20 bR (ev (ab eO h2)) ?_ ?_
   ·simp [hs, hg]; omega
   refine qq ?_
   refine wS eO ?_
   refine ⟨.iface 39 (tZ 10 j ⟨#[]⟩), [[.int .u64 0, .int .u64 0, .int .u64 0, .int .u64 0], [.int .i64 0], [.int .i64 0, .int .i64 0, .string ⟨#[]⟩]], rfl, ⟨?_, ?_, ?_, ?_, ?_, ?_, trivial⟩, ⟨⟨_, _, _, _, _, _, _, _, rfl⟩, 10, j, ⟨#[]⟩, rfl⟩, fun E => rfl⟩
   all_goals rfl
  | ok p =>
   obtain ⟨a, j⟩ := p
   rw [he, h2]
   refine wR Γ20 (ab eO h2) ?_ ?_
   ·simp [hs, hg]; omega
   refine R0 Γ20 eO ?_
   refine wZ eO ?_
   exact fun E => rfl
end
section
open Go.RowKit Go.LE
set_option maxRecDepth 10000
def aF : Rx -> Value
 | .eps => .iface 283 (.agg #[])
 | .cls S => .iface 311 (b7 S)
 | .cat a b => .iface 281 (.agg #[aF a, aF b])
 | .alt a b => .iface 284 (.agg #[aF a, aF b])
 | .star a => .iface 279 (.agg #[aF a])
 | .and a b => .iface 285 (.agg #[aF a, aF b])
 | .minus a b => .iface 286 (.agg #[aF a, aF b])
theorem bM (t : Rx) : (aF t).oneCell' = true := by cases t <;> rfl
theorem cl : ∀ a b : Rx, aF a = aF b -> a = b
 | .eps, b, h => by cases b <;> simp_all [aF]
 | .cls S, b, h => by
  cases b <;> simp [aF] at h
  rw [cd _ _ h]
 | .cat x y, b, h => by
  cases b <;> simp [aF] at h
  rw [cl x _ h.1, cl y _ h.2]
 | .alt x y, b, h => by
  cases b <;> simp [aF] at h
  rw [cl x _ h.1, cl y _ h.2]
 | .star x, b, h => by
  cases b <;> simp [aF] at h
  rw [cl x _ h]
 | .and x y, b, h => by
  cases b <;> simp [aF] at h
  rw [cl x _ h.1, cl y _ h.2]
 | .minus x y, b, h => by
  cases b <;> simp [aF] at h
  rw [cl x _ h.1, cl y _ h.2]
inductive Jn where
 | cat | alt | and | minus
def Jn.f : Jn -> FuncId
 | .cat => 252
 | .alt => 181
 | .and => 217
 | .minus => 218
def Jn.mk : Jn -> Rx -> Rx -> Rx
 | .cat => .cat
 | .alt => .alt
 | .and => .and
 | .minus => .minus
def Jn.T : Jn -> TypeId
 | .cat => 281
 | .alt => 284
 | .and => 285
 | .minus => 286
def Jn.v (g : Jn) : Value := .func (.func g.f) #[] #[]
def lG (b : Nat) : Value := .pointer (some ⟨b, 0, none⟩)
inductive bw (W : World) (S : Nat -> Prop) : Value -> Rx -> Prop where
 | leaf (b : Nat) (t : Rx) : XC W S b 0 (aF t) -> bw W S (.func (.func 259) #[] #[lG b]) t
 | join (g : Jn) (b5 b3 b4 : Nat) (fa fb : Value) (ta tb : Rx) : XC W S b5 0 g.v -> XC W S b3 1 fa -> XC W S b4 1 fb -> bw W S fa ta -> bw W S fb tb ->
   bw W S (.func (.func 220) #[] #[lG b5, lG b3, lG b4]) (g.mk ta tb)
 | star (b : Nat) (fa : Value) (ta : Rx) : XC W S b 1 fa -> bw W S fa ta -> bw W S (.func (.func 264) #[] #[lG b]) (.star ta)
theorem bw.mono {W W' : World} {S S' : Nat -> Prop} {v : Value} {t : Rx} (h : bw W S v t) (hs : cv W S W' S') : bw W' S' v t := by
 induction h with
 | leaf b t h => exact .leaf b t (h.mono hs)
 | join g b5 b3 b4 fa fb ta tb h1 h2 h3 _ _ ih1 ih2 => exact .join g b5 b3 b4 fa fb ta tb (h1.mono hs) (h2.mono hs) (h3.mono hs) ih1 ih2
 | star b fa ta h _ ih => exact .star b fa ta (h.mono hs) ih
theorem bw.one {W : World} {S : Nat -> Prop} {v : Value} {t : Rx} (h : bw W S v t) : v.oneCell' = true := by cases h <;> rfl
theorem C4 {W : World} {S S' : Nat -> Prop} {b o : Nat} {u v : Value} (h : XC W S b o u) (h' : XC W S' b o v) : u = v := Option.some.inj (h.2.symm.trans h'.2)
theorem bw.fn {W : World} {S S' : Nat -> Prop} {v : Value} {t t' : Rx} (h : bw W S v t) (h' : bw W S' v t') : t = t' := by
 induction h generalizing t' with
 | leaf b t h =>
  cases h' with
  | leaf _ t' h2 => exact cl _ _ (C4 h h2)
 | join g b5 b3 b4 fa fb ta tb h1 h2 h3 _ _ ih1 ih2 =>
  cases h' with
  | join g' _ _ _ fa' fb' ta' tb' k1 k2 k3 k4 k5 =>
   obtain rfl := C4 h2 k2
   obtain rfl := C4 h3 k3
   have hg := C4 h1 k1
   rw [ih1 k4, ih2 k5]
   have : g = g' := by cases g <;> cases g' <;> simp [Jn.v, Jn.f] at hg <;> rfl
   rw [this]
 | star b fa ta h _ ih =>
  cases h' with
  | star _ fa' ta' k1 k2 =>
   obtain rfl := C4 h k1
   rw [ih k2]
def dk (r : RL) : FK := ⟨fun cs W S => ∃ fv, cs = [.int .i64 (r.1 : Nat), fv] /\ bw W S fv r.2, fun hs ⟨fv, h1, h2⟩ => ⟨fv, h1, h2.mono hs⟩⟩
def gq (r : RL) (fv : Value) : Value := .agg #[.int .i64 (r.1 : Nat), fv]
theorem ph (r : RL) (fv : Value) (h : fv.oneCell' = true) : Sh.two.val [.int .i64 (r.1 : Nat), fv] = gq r fv := by
 show Value.agg #[hv (.int .i64 (r.1 : Nat)), hv fv] = _
 rw [iG h]; rfl
theorem ju {W : World} {S : Nat -> Prop} {r : RL} {u : Value} (h : ∃ cs, u = Sh.two.val cs /\ (dk r).Φ cs W S) : ∃ fv, u = gq r fv /\ bw W S fv r.2 := by
 obtain ⟨cs, rfl, fv, rfl, h⟩ := h
 exact ⟨fv, ph r fv h.one, h⟩
theorem bV {W : World} {S : Nat -> Prop} {r : RL} {fv : Value} (h : bw W S fv r.2) : ∃ cs, gq r fv = Sh.two.val cs /\ (dk r).Φ cs W S :=
 ⟨_, (ph r fv h.one).symm, fv, rfl, h⟩
theorem ky {r : RL} {W1 : World} {bs1 : List Nat} {w : World} {S : Nat -> Prop} {fv : Value} (hg : bw W1 (fg (cG w S) bs1) fv r.2) : OE w S W1 bs1 (.agg [.v (.int .i64 (r.1 : Nat)), .v fv]) (.fact Sh.two (dk r)) :=
 ⟨[.int .i64 (r.1 : Nat), fv], fun E => (ph r fv hg.one).symm, fv, rfl, hg⟩
theorem ck {W : World} {S : Nat -> Prop} {r : RL} {cs : List Value} (h : (dk r).Φ cs W S) : ∃ fv, cs = [.int .i64 (r.1 : Nat), fv] /\ bw W S fv r.2 /\ hv fv = fv := by
 obtain ⟨fv, h1, h2⟩ := h
 exact ⟨fv, h1, h2, iG h2.one⟩
theorem gG (t : Rx) : partsOf (.v (aF t)) = [.v (aF t)] := by cases t <;> rfl
def BM := (aq @List.replicate_succ.{0} @List.replicate_zero.{0} @av @af jV jW jb (aq cW cX c8 cT rU rV sb (aq rX It JK IF qa qb qp (aq py ql pH ON O7 RC OI (aq PK Pd Rv Nr Om Rq OL (aq Qe OC N9 Qg P4 Oc Ik (aq H4 JB IU Jc Jj IL OT (aq Nf RD Qm N4 Pa OV P1 (aq PR RE Q9 Qi OP OF Pc (aq QQ O9 NG Nk Qa Po QE (aq Qb Ri No PE P5 xv yP (aq ya @aN @au @aA @az @gG (fun t => iG (bM t)) @bM))))))))))))
set_option maxHeartbeats 1000000 in
theorem Rn (t : Rx) (w : World) (S : Nat -> Prop) : Calls Tryz.prog 249 #[aF t] w fun e w' => mw w S e w' (.fact Sh.two (dk (bK t))) := by
 refine eI (nt := 5) S [.cell 2 254] Tryz.func249 rfl rfl rfl ?_
 refine vR Γ0 BM ?_
 refine vR Γ0 BM ?_
 refine Wp.l7 0 (ev BM) (fun E => by simp only [an, den]; exact rfl) fun W1 bs1 b hx hb hn hc => ?_
 refine wZ BM ?_
 exact ⟨[_, _], fun E => rfl, _, rfl, .leaf b t ⟨⟨cG.up w S b hn, hb⟩, cell_of hc 0 (by simp)⟩⟩
def lV (t : Rx) : lg Tryz.prog 249 where
 kinds := [none]
 pre := fun as_ _ _ => as_ = [.val (aF t)]
 premono := fun _ _ _ _ _ _ h => h
 out := fun _ => .fact Sh.two (dk (bK t))
 enters := Tryz.call249
 ok := by
  intro w S us as_ hu hp
  subst hp
  match us, hu with
  | [u], hu =>
   obtain ⟨rfl, _⟩ := hu
   exact Rn t w S
set_option maxHeartbeats 1000000 in
theorem E1 (n : Int) (w : World) : Calls Tryz.prog 219 #[.int .i64 n] w fun e w' => e = .returned (.int .i64 (min n 2001)) /\ ai w [] w' := by
 refine aj (nt := 5) [.tmp 2] Tryz.func219 rfl rfl rfl ?_
 refine vR Γ0 BM ?_
 refine vR Γ0 BM ?_
 refine wZ BM ?_
 exact fun E => by simp only [den]; congr 1; split <;> omega
def te : aU Tryz.prog 219 where
 pre := fun W bs => fun | [.val (.int .i64 n)] => True | _ => False
 res := fun W => fun | [.val (.int .i64 n)] => .int .i64 (min n 2001) | _ => undef
 enters := Tryz.call219
 ok := by
  intro W w bs us as_ hk hu hp
  split at hp
  ·rename_i n
   match us, hu with
   | [u0], hu =>
    obtain ⟨rfl, _⟩ := hu
    exact E1 n w
  ·exact hp.elim
theorem sd (W : World) (n : Int) : te.res W [.val (.int .i64 n)] = .int .i64 (min n 2001) := rfl
theorem rH (W : World) (bs : List Nat) (n : Int) : te.pre W bs [.val (.int .i64 n)] = (True) := rfl
noncomputable def Γ40 : Env Tryz.prog := ⟨fun | 219 => some te.spec | _ => none, fun | _ => none, fun _ _ => none⟩
theorem Gt40c219 : Γ40.sp 219 = some te.spec := rfl
theorem IQ {a b : Nat} (ha : a <= 2001) (hb : b <= 2001) : IntKind.i64.wrap (IntKind.i64.wrap (1 + (a : Int)) + (b : Int)) = ((1 + a + b : Nat) : Int) := by
 rw [aa (n := 1 + (a : Int)) (by omega) (by omega), aa (by omega) (by omega)]; omega
theorem jl (n : Nat) : min ((n : Nat) : Int) 2001 = ((ca n : Nat) : Int) := by unfold ca; omega
def u6 := (eH BM @sd @rH @Gt40c219)
set_option maxHeartbeats 2000000 in
theorem PG (g : Jn) (a b : RL) (fa fb : Value) (ha : a.1 <= 2001) (hb : b.1 <= 2001) (w : World) (S : Nat -> Prop) (h1 : bw w S fa a.2) (h2 : bw w S fb b.2) :
  Calls Tryz.prog 180 #[gq a fa, gq b fb, g.v] w fun e w' => mw w S e w' (.fact Sh.two (dk (aQ g.mk a b))) := by
 have ga : partsOf (.v (gq a fa)) = [.v (.int .i64 (a.1 : Nat)), .v fa] := rfl
 have gb : partsOf (.v (gq b fb)) = [.v (.int .i64 (b.1 : Nat)), .v fb] := rfl
 have gg : partsOf (.v g.v) = [.v g.v] := rfl
 have w1 := IQ ha hb
 refine eI (nt := 16) S [.cell 6 254] Tryz.func180 rfl rfl rfl ?_
 refine vR Γ40 (eH u6 ga gb gg) ?_
 refine vR Γ40 (lX u6 ga gb gg w1 @jl) ?_
 refine Wp.l7 0 (ev (eH u6 ga gb gg)) (fun E => by simp only [an, den, ga, gb, gg]; exact rfl) fun W1 bs1 b3 hx1 hb3 hn3 hc3 => ?_
 refine Wp.l7 8 (ev (eH u6 ga gb gg)) (fun E => by simp only [an, den, ga, gb, gg]; exact rfl) fun W2 bs2 b4 hx2 hb4 hn4 hc4 => ?_
 refine Wp.l7 16 (ev (eH u6 ga gb gg)) (fun E => by simp only [an, den, ga, gb, gg]; exact rfl) fun W3 bs3 b5 hx3 hb5 hn5 hc5 => ?_
 refine wZ (lX u6 ga gb gg w1 @jl) ?_
 have hx := (hx1.trans hx2).trans hx3
 have u0 := cG.up w S
 have u1 := u0.ext hx1
 have u2 := u1.ext hx2
 have s0 : cv w S W3 (fg (cG w S) bs3) := (cG.h9 w S).trans (hx.Bf) (Nat.le_refl _)
 refine ⟨[_, _], fun E => rfl, _, rfl, .join g b5 b3 b4 fa fb a.2 b.2 ⟨⟨u2 b5 hn5, hb5⟩, cell_of hc5 0 (by simp)⟩ ?_ ?_ (h1.mono s0) (h2.mono s0)⟩
 ·exact XC.mono (XC.mono ⟨⟨u0 b3 hn3, hb3⟩, cell_of hc3 1 (by simp)⟩ hx2.Bf) hx3.Bf
 ·exact XC.mono ⟨⟨u1 b4 hn4, hb4⟩, cell_of hc4 1 (by simp)⟩ hx3.Bf
def gC (g : Jn) (a b : RL) : lg Tryz.prog 180 where
 kinds := [some (Sh.two, dk a), some (Sh.two, dk b), none]
 pre := fun as_ _ _ => (a.1 <= 2001 /\ b.1 <= 2001) /\ ∃ x y, as_ = [x, y, .val g.v]
 premono := fun _ _ _ _ _ _ h => h
 out := fun _ => .fact Sh.two (dk (aQ g.mk a b))
 enters := Tryz.call180
 ok := by
  intro w S us as_ hu hp
  obtain ⟨⟨ha, hb⟩, x, y, rfl⟩ := hp
  match us, hu with
  | [u1, u2, u3], hu =>
   obtain ⟨h1, h2, rfl, _⟩ := hu
   obtain ⟨fa, rfl, h1'⟩ := ju h1
   obtain ⟨fb, rfl, h2'⟩ := ju h2
   exact PG g a b fa fb ha hb w S h1' h2'
set_option maxHeartbeats 2000000 in
theorem PZ (a : RL) (fa : Value) (ha : a.1 <= 2001) (w : World) (S : Nat -> Prop) (h1 : bw w S fa a.2) :
  Calls Tryz.prog 260 #[gq a fa] w fun e w' => mw w S e w' (.fact Sh.two (dk (eN a))) := by
 have ga : partsOf (.v (gq a fa)) = [.v (.int .i64 (a.1 : Nat)), .v fa] := rfl
 have w1 : IntKind.i64.wrap (1 + (a.1 : Int)) = ((1 + a.1 : Nat) : Int) := by rw [aa (by omega) (by omega)]; omega
 refine eI (nt := 9) S [.cell 2 254] Tryz.func260 rfl rfl rfl ?_
 refine vR Γ40 (ab u6 ga) ?_
 refine vR Γ40 (eH u6 ga w1 @jl) ?_
 refine Wp.l7 0 (ev (ab u6 ga)) (fun E => by simp only [an, den, ga]; exact rfl) fun W1 bs1 b3 hx1 hb3 hn3 hc3 => ?_
 refine wZ (eH u6 ga w1 @jl) ?_
 have s0 : cv w S W1 (fg (cG w S) bs1) := (cG.h9 w S).trans (hx1.Bf) (Nat.le_refl _)
 exact ⟨[_, _], fun E => rfl, _, rfl, .star b3 fa a.2 ⟨⟨cG.up w S b3 hn3, hb3⟩, cell_of hc3 1 (by simp)⟩ (h1.mono s0)⟩
def vT (a : RL) : lg Tryz.prog 260 where
 kinds := [some (Sh.two, dk a)]
 pre := fun as_ _ _ => a.1 <= 2001 /\ ∃ x, as_ = [x]
 premono := fun _ _ _ _ _ _ h => h
 out := fun _ => .fact Sh.two (dk (eN a))
 enters := Tryz.call260
 ok := by
  intro w S us as_ hu hp
  obtain ⟨hp, x, rfl⟩ := hp
  match us, hu with
  | [u1], hu =>
   obtain ⟨h1, _⟩ := hu
   obtain ⟨fa, rfl, h1'⟩ := ju h1
   exact PZ a fa hp w S h1'
noncomputable def Γ41 (G : Nat -> Prop) (a : RL) : Env Tryz.prog := ⟨fun | 249 => some ((lV .eps).spec G) | 180 => some ((gC .alt a (bK .eps)).spec G) | _ => none, fun _ => none, fun _ _ => none⟩
theorem Gt41c249 (G : Nat -> Prop) (a : RL) : (Γ41 G a).sp 249 = some ((lV .eps).spec G) := rfl
theorem Gt41c180 (G : Nat -> Prop) (a : RL) : (Γ41 G a).sp 180 = some ((gC .alt a (bK .eps)).spec G) := rfl
def Sv := (yR u6 @fz @lV.eq_1 @gC.eq_1 @vT.eq_1 @Gt41c249 @Gt41c180)
set_option maxHeartbeats 2000000 in
theorem MN (a : RL) (fa : Value) (ha : a.1 <= 2001) (w : World) (S : Nat -> Prop) (h1 : bw w S fa a.2) :
  Calls Tryz.prog 261 #[gq a fa] w fun e w' => mw w S e w' (.fact Sh.two (dk (bA a))) := by
 have ga : partsOf (.v (gq a fa)) = [.v (.int .i64 (a.1 : Nat)), .v fa] := rfl
 refine eI (nt := 8) S [.cell 2 254] Tryz.func261 rfl rfl rfl ?_
 refine vR Γ40 (ab Sv ga) ?_
 refine l9 (Γ41 (cG w S) a) (ab Sv ga) ?_ ?_
 ·have u0 := cG.up w S
  exact ⟨⟨rfl, u0⟩, ⟨bV (h1.mono (cG.h9 w S)), ⟨ha, by decide⟩, _, _, rfl⟩, u0⟩
 refine Wp.gK 48 (ev (ab Sv ga)) (cv.refl _ _) fun W1 bs1 cs hx1 hΦ => ?_
 obtain ⟨fv, rfl, hg, hv1⟩ := ck hΦ
 refine wZ (de Sv ga hv1) ?_
 exact ky hg
def qH (a : RL) : lg Tryz.prog 261 where
 kinds := [some (Sh.two, dk a)]
 pre := fun as_ _ _ => a.1 <= 2001 /\ ∃ x, as_ = [x]
 premono := fun _ _ _ _ _ _ h => h
 out := fun _ => .fact Sh.two (dk (bA a))
 enters := Tryz.call261
 ok := by
  intro w S us as_ hu hp
  obtain ⟨hp, x, rfl⟩ := hp
  match us, hu with
  | [u1], hu =>
   obtain ⟨h1, _⟩ := hu
   obtain ⟨fa, rfl, h1'⟩ := ju h1
   exact MN a fa hp w S h1'
theorem oO (f : RL -> RL) : ∀ (n : Nat) (x : RL), br f (n + 1) x = f (br f n x)
 | 0, x => rfl
 | n + 1, x => by rw [br, oO f n, <- br]
theorem eJ (mk : Rx -> Rx -> Rx) (a b : RL) : (aQ mk a b).1 <= 2001 := iQ _
theorem mW (f : RL -> RL) (hf : ∀ x, (f x).1 <= 2001) : ∀ (n : Nat) (x : RL), x.1 <= 2001 -> (br f n x).1 <= 2001
 | 0, x, h => h
 | n + 1, x, h => mW f hf n (f x) (hf x)
end
section
open Go.RowKit Go.LE
set_option maxRecDepth 10000
noncomputable def Γ42 (G : Nat -> Prop) (x y a : RL) : Env Tryz.prog := ⟨fun | 249 => some ((lV .eps).spec G) | 180 => some ((gC .cat x y).spec G) | 260 => some ((vT a).spec G) | 261 => some ((qH a).spec G) | _ => none, fun _ => none, fun _ _ => none⟩
theorem Gt42c249 (G : Nat -> Prop) (x y a : RL) : (Γ42 G x y a).sp 249 = some ((lV .eps).spec G) := rfl
theorem Gt42c180 (G : Nat -> Prop) (x y a : RL) : (Γ42 G x y a).sp 180 = some ((gC .cat x y).spec G) := rfl
theorem Gt42c260 (G : Nat -> Prop) (x y a : RL) : (Γ42 G x y a).sp 260 = some ((vT a).spec G) := rfl
theorem Gt42c261 (G : Nat -> Prop) (x y a : RL) : (Γ42 G x y a).sp 261 = some ((qH a).spec G) := rfl
theorem mO (a : RL) : (eN a).1 <= 2001 := iQ _
theorem lh (a : RL) : (bA a).1 <= 2001 := iQ _
structure TI where
 W : World
 bs : List Nat
 fo : Value
 j : Nat
def b9 := (aq @List.replicate_succ.{0} @List.replicate_zero.{0} @av @af jV jW jb (aq cW cX c8 cT cZ c9 cR (aq cV rU rV sb rX qa qb (aq qp py ql pH Ik H4 JB (aq IU Jc Jj IL xv yP ya (aq @aN @au @aA @az @fz @lV.eq_1 @gC.eq_1 (lX @vT.eq_1 @qH.eq_1 @Gt42c249 @Gt42c180 @Gt42c260 @Gt42c261)))))))
set_option maxHeartbeats 1000000 in
theorem JU (a : RL) (m n : Int) (fa : Value) (ha : a.1 <= 2001) (hm0 : 0 <= m) (hm1 : m <= 255) (hn0 : -1 <= n) (hn1 : n <= 255) (w : World) (S : Nat -> Prop) (h1 : bw w S fa a.2) :
  Calls Tryz.prog 266 #[gq a fa, .int .i64 m, .int .i64 n] w fun e w' => mw w S e w' (.fact Sh.two (dk (cK a m n))) := by
 have ga : partsOf (.v (gq a fa)) = [.v (.int .i64 (a.1 : Nat)), .v fa] := rfl
 have u0 := cG.up w S
 have g0 := h1.mono (cG.h9 w S)
 refine eI (nt := 55) S [.cell 6 254] Tryz.func266 rfl rfl rfl ?_
 refine vR Γ0 (ab b9 ga) ?_
 refine Wp.seq ?_
 refine vR Γ0 b9 ?_
 refine wC b9 (fun hc => ?_) (fun hc => ?_)
 ·have hc' : m = 0 /\ n < 0 := by simpa using hc
  have hR : cK a m n = eN a := by rw [cK, if_pos hc']
  rw [hR]
  refine wR (Γ42 (cG w S) a a a) (ab b9 ga) ?_ ?_
  ·exact ⟨⟨bV g0, ha, _, rfl⟩, u0⟩
  refine Wp.gK 72 (ev (ab b9 ga)) (cv.refl _ _) fun W1 bs1 cs hx1 hΦ => ?_
  obtain ⟨fv, rfl, hg, hv1⟩ := ck hΦ
  refine wZ (de b9 ga hv1) ?_
  exact ky hg
 ·have hc1 : ¬ (m = 0 /\ n < 0) := by simpa using hc
  refine wK ?_
  refine Wp.seq ?_
  refine vR Γ0 b9 ?_
  refine wC b9 (fun hc => ?_) (fun hc => ?_)
  ·have hc' : m = 0 /\ n = 0 := by simpa using hc
   have hR : cK a m n = bK .eps := by rw [cK, if_neg hc1, if_pos hc']
   rw [hR]
   refine wR (Γ42 (cG w S) a a a) (ab b9 ga) ?_ ?_
   ·exact ⟨rfl, u0⟩
   refine Wp.gK 128 (ev (ab b9 ga)) (cv.refl _ _) fun W1 bs1 cs hx1 hΦ => ?_
   obtain ⟨fv, rfl, hg, hv1⟩ := ck hΦ
   refine wZ (de b9 ga hv1) ?_
   exact ky hg
  ·have hc2 : ¬ (m = 0 /\ n = 0) := by simpa using hc
   refine wK ?_
   refine wR Γ0 (ab b9 ga) ?_ ?_
   ·exact h1.one
   refine vR Γ0 b9 ?_
   generalize hr0 : (if m = 0 then bA a else a) = r0
   have hr0' : r0.1 <= 2001 := by rw [<- hr0]; split; exact lh a; exact ha
   refine iR (fun p : TI => ⟨20, bQ [(1, .is (.v (.int .i64 m))), (2, .is (.v (.int .i64 n))), (3, .is (.own 0 0)), (6, .is (.own 8 0)), (7, .is (.own 120 0)), (8, .is (.v (.int .i64 1)))], bY [(0, .cells 254 [.v (.int .i64 (a.1 : Nat)), .v fa]), (8, .cells 254 [.v (.int .i64 0), .v .nilFunc]), (120, .cells 254 [.v (.int .i64 (r0.1 : Nat)), .v p.fo])]⟩) TI.W TI.bs
    (fun p => bw p.W (fg (cG w S) p.bs) p.fo r0.2) ?_ ?_
   ·skip
    refine vR Γ0 b9 ?_
    refine wC b9 (fun hc => ?_) (fun hc => ?_)
    ·have hm : m = 0 := by simpa using hc
     rw [if_pos hm] at hr0
     subst hr0
     refine Wp.more ?_
     refine wr (Γ42 (cG w S) a a a) (ab b9 ga) ?_ ?_
     ·exact ⟨⟨bV g0, ha, _, rfl⟩, u0⟩
     refine ei ?_
     refine Pw.gK 168 (ev (ab b9 ga)) (cv.refl _ _) fun W1 bs1 cs hx1 hΦ => ?_
     obtain ⟨fv, rfl, hg, hv1⟩ := ck hΦ
     refine Pw.here ?_
     refine qq ?_
     refine ⟨⟨W1, bs1, fv, 0⟩, hg, rfl, rfl, ?_⟩
     exact wM (fun k => .key k) (de b9 ga hv1)
    ·have hm : ¬ m = 0 := by simpa using hc
     rw [if_neg hm] at hr0
     subst hr0
     refine wK ?_
     refine ⟨⟨w, [], fa, 0⟩, g0, rfl, rfl, ?_⟩
     exact wM (fun k => .key k) (ab b9 ga)
   rintro ⟨W0, bs0, fo, j0⟩ hfo hx0
   simp only at hfo hx0
   dsimp only
   have hR1 : cK a m n = if n < 0 then aQ .cat (br (fun x => aQ .cat x a) (m - 1).toNat r0) (eN a) else br (fun x => aQ .cat x (bA a)) (n - max m 1).toNat (br (fun x => aQ .cat x a) (m - 1).toNat r0) := by
    rw [cK, if_neg hc1, if_neg hc2, hr0]
   have hi1 : ∀ k, (br (fun x => aQ .cat x a) k r0).1 <= 2001 := fun k => mW _ (fun x => eJ _ _ _) k r0 hr0'
   refine Wp.seq (Wp.block ?_)
   refine Wp.yQ (fun p : TI => ⟨23, bQ [(1, .is (.v (.int .i64 m))), (2, .is (.v (.int .i64 n))), (3, .is (.own 0 0)), (6, .is (.own 8 0)), (7, .is (.own 120 0)), (8, .is (.v (.int .i64 ((p.j : Nat) + 1))))], bY [(0, .cells 254 [.v (.int .i64 (a.1 : Nat)), .v fa]), (8, .cells 254 [.v (.int .i64 0), .v .nilFunc]), (120, .cells 254 [.v (.int .i64 ((br (fun x => aQ .cat x a) p.j r0).1 : Nat)), .v p.fo])]⟩)
    TI.W TI.bs (fun p => p.j <= (m - 1).toNat /\ bw p.W (fg (cG w S) p.bs) p.fo (br (fun x => aQ .cat x a) p.j r0).2) (fun p => (m - 1).toNat - p.j) ⟨W0, bs0, fo, 0⟩ rfl rfl ?_ ⟨Nat.zero_le _, hfo⟩ ?_
   ·exact wM (fun k => .key k) (oc b9 @br.eq_1 @br.eq_2 @Int.natCast_zero @Int.zero_add)
   rintro ⟨W1, bs1, fo1, j⟩ ⟨hj, hfo1⟩ hx1
   simp only at hj hfo1 hx1
   dsimp only
   have hx01 := hx0.trans hx1
   have u1 := u0.ext hx01
   have g1 := g0.mono hx01.Bf
   refine Wp.seq ?_
   refine vR Γ0 b9 ?_
   refine wC b9 (fun hc => ?_) (fun hc => ?_)
   ·have hjm : (j : Int) + 1 < m := by simpa using hc
    refine wK ?_
    refine Wp.seq (Wp.block ?_)
    refine Wp.more ?_
    refine wr (Γ42 (cG w S) (br (fun x => aQ .cat x a) j r0) a a) (ab b9 ga) ?_ ?_
    ·exact ⟨⟨⟨bV hfo1, bV g1⟩, ⟨hi1 j, ha⟩, _, _, rfl⟩, u1⟩
    refine ei ?_
    refine Pw.gK 224 (ev (ab b9 ga)) (cv.refl _ _) fun W2 bs2 cs hx2 hΦ => ?_
    obtain ⟨fv, rfl, hg, hv1⟩ := ck hΦ
    refine Pw.here ?_
    refine qq ?_
    have wn : IntKind.i64.wrap ((j : Int) + 1 + 1) = ((j + 1 : Nat) : Int) + 1 := by rw [aa (by omega) (by omega)]; omega
    have e : br (fun x => aQ .cat x a) (j + 1) r0 = aQ Jn.cat.mk (br (fun x => aQ .cat x a) j r0) a := oO _ _ _
    refine vr Γ0 (ab b9 wn) ?_
    refine ⟨⟨W2, bs2, fv, j + 1⟩, ⟨by simp only; omega, by simp only; rw [e]; exact hg⟩, by simp only; omega, rfl, rfl, ?_⟩
    exact wM (fun k => .key k) (eH b9 ga hv1 e)
   ·have hjm : ¬ (j : Int) + 1 < m := by simpa using hc
    have hj' : j = (m - 1).toNat := by omega
    generalize hr1 : br (fun x => aQ .cat x a) (m - 1).toNat r0 = r1 at hR1
    have hr1' : r1.1 <= 2001 := by rw [<- hr1]; exact hi1 _
    rw [hj', hr1] at hfo1
    rw [hj', hr1]
    refine wE ?_
    refine Wp.seq ?_
    refine vR Γ0 b9 ?_
    refine wC b9 (fun hc => ?_) (fun hc => ?_)
    ·have hn : n < 0 := by simpa using hc
     rw [hR1, if_pos hn]
     refine l9 (Γ42 (cG w S) r1 (eN a) a) (ab b9 ga) ?_ ?_
     ·exact ⟨⟨⟨bV g1, ha, _, rfl⟩, u1⟩, ⟨bV hfo1, ⟨hr1', mO a⟩, _, _, rfl⟩, u1⟩
     refine Wp.gK 248 (ev (ab b9 ga)) (cv.refl _ _) fun W2 bs2 cs hx2 hΦ => ?_
     obtain ⟨fv, rfl, hg, hv1⟩ := ck hΦ
     refine wZ (de b9 ga hv1) ?_
     exact ky hg
    ·have hn : ¬ n < 0 := by simpa using hc
     rw [hR1, if_neg hn]
     have hk0 : ((j : Nat) : Int) + 1 = max m 1 := by omega
     have hi2 : ∀ k, (br (fun x => aQ .cat x (bA a)) k r1).1 <= 2001 := fun k => mW _ (fun x => eJ _ _ _) k r1 hr1'
     refine wK ?_
     rw [<- hj'] at *
     refine Wp.seq (Wp.block ?_)
     refine Wp.yQ (fun p : TI => ⟨28, bQ [(2, .is (.v (.int .i64 n))), (3, .is (.own 0 0)), (6, .is (.own 8 0)), (7, .is (.own 120 0)), (8, .is (.v (.int .i64 (((j : Nat) : Int) + 1 + (p.j : Nat)))))], bY [(0, .cells 254 [.v (.int .i64 (a.1 : Nat)), .v fa]), (8, .cells 254 [.v (.int .i64 0), .v .nilFunc]), (120, .cells 254 [.v (.int .i64 ((br (fun x => aQ .cat x (bA a)) p.j r1).1 : Nat)), .v p.fo])]⟩)
      TI.W TI.bs (fun p => p.j <= (n - max m 1).toNat /\ bw p.W (fg (cG w S) p.bs) p.fo (br (fun x => aQ .cat x (bA a)) p.j r1).2) (fun p => (n - max m 1).toNat - p.j) ⟨W1, bs1, fo1, 0⟩ rfl rfl ?_ ⟨Nat.zero_le _, hfo1⟩ ?_
     ·exact wM (fun k => .key k) (oc b9 @br.eq_1 @br.eq_2 @Int.natCast_zero @Int.add_zero)
     rintro ⟨W3, bs3, fo3, i⟩ ⟨hi, hfo3⟩ hx3
     simp only at hi hfo3 hx3
     dsimp only
     have u3 := u1.ext hx3
     have g3 := g1.mono hx3.Bf
     refine Wp.seq ?_
     refine vR Γ0 b9 ?_
     refine wC b9 (fun hc => ?_) (fun hc => ?_)
     ·have hin : (j : Int) + 1 + i < n := by simpa using hc
      refine wK ?_
      refine Wp.seq (Wp.block ?_)
      refine Wp.more ?_
      refine sx (Γ42 (cG w S) (br (fun x => aQ .cat x (bA a)) i r1) (bA a) a) (ab b9 ga) ?_ ?_
      ·exact ⟨⟨⟨bV g3, ha, _, rfl⟩, u3⟩, ⟨bV hfo3, ⟨hi2 i, lh a⟩, _, _, rfl⟩, u3⟩
      refine ei ?_
      refine Pw.gK 272 (ev (ab b9 ga)) (cv.refl _ _) fun W4 bs4 cs hx4 hΦ => ?_
      obtain ⟨fv, rfl, hg, hv1⟩ := ck hΦ
      refine Pw.here ?_
      refine qq ?_
      have wn : IntKind.i64.wrap ((j : Int) + 1 + i + 1) = (j : Int) + 1 + ((i + 1 : Nat) : Int) := by rw [aa (by omega) (by omega)]; omega
      have e : br (fun x => aQ .cat x (bA a)) (i + 1) r1 = aQ Jn.cat.mk (br (fun x => aQ .cat x (bA a)) i r1) (bA a) := oO _ _ _
      refine vr Γ0 (ab b9 wn) ?_
      refine ⟨⟨W4, bs4, fv, i + 1⟩, ⟨by simp only; omega, by simp only; rw [e]; exact hg⟩, by simp only; omega, rfl, rfl, ?_⟩
      exact wM (fun k => .key k) (eH b9 ga hv1 e)
     ·have hin : ¬ (j : Int) + 1 + i < n := by simpa using hc
      have hi' : i = (n - max m 1).toNat := by omega
      refine wE ?_
      refine wR Γ0 b9 ?_ ?_
      ·exact hfo3.one
      refine wZ b9 ?_
      rw [<- hi']
      exact ky hfo3
def vz (a : RL) : lg Tryz.prog 266 where
 kinds := [some (Sh.two, dk a), none, none]
 pre := fun as_ _ _ => a.1 <= 2001 /\ ∃ x m n, as_ = [x, .val (.int .i64 m), .val (.int .i64 n)] /\ 0 <= m /\ m <= 255 /\ -1 <= n /\ n <= 255
 premono := fun _ _ _ _ _ _ h => h
 out := fun
  | [_, .val (.int .i64 m), .val (.int .i64 n)] => .fact Sh.two (dk (cK a m n))
  | _ => .val undef
 enters := Tryz.call266
 ok := by
  intro w S us as_ hu hp
  obtain ⟨ha, x, m, n, rfl, hp⟩ := hp
  match us, hu with
  | [u1, u2, u3], hu =>
   obtain ⟨h1, rfl, rfl, _⟩ := hu
   obtain ⟨fa, rfl, h1'⟩ := ju h1
   exact JU a m n fa ha hp.1 hp.2.1 hp.2.2.1 hp.2.2.2 w S h1'
end
section
open Go.RowKit Go.LE
set_option maxRecDepth 10000
def two (g : Jn) (x y : Value) : Value := .iface g.T (.agg #[x, y])
theorem RQ (g : Jn) (a b : Rx) : two g (aF a) (aF b) = aF (g.mk a b) := by cases g <;> rfl
def kU := (aq @List.replicate_succ.{0} @List.replicate_zero.{0} @av @af jV jW rU (aq rV sb rX It JK IF qa (aq qb qp py ql pH ON O7 (aq RC OI PK Pd Rv Nr Om (aq Rq OL Qe OC N9 Qg P4 (aq Oc OT Nf RD Qm N4 Pa (aq OV P1 PR RE Q9 Qi OP (aq OF Pc QQ O9 NG Nk Qa (aq Po QE Qb Ri No PE P5 (aq xv yP ya @aN @au @aA @az (de @gG (fun t => iG (bM t)) @bM)))))))))))
set_option maxHeartbeats 1000000 in
theorem V5 (a b : Rx) (w : World) : Calls Tryz.prog 252 #[aF a, aF b] w fun e w' => e = .returned (two .cat (aF a) (aF b)) /\ ai w [] w' := by
 refine aj (nt := 9) [.tmp 4] Tryz.func252 rfl rfl rfl ?_
 refine vR Γ0 kU ?_
 refine vR Γ0 kU ?_
 refine wZ kU ?_
 exact fun E => rfl
set_option maxHeartbeats 1000000 in
theorem VV (a b : Rx) (w : World) : Calls Tryz.prog 181 #[aF a, aF b] w fun e w' => e = .returned (two .alt (aF a) (aF b)) /\ ai w [] w' := by
 refine aj (nt := 9) [.tmp 4] Tryz.func181 rfl rfl rfl ?_
 refine vR Γ0 kU ?_
 refine vR Γ0 kU ?_
 refine wZ kU ?_
 exact fun E => rfl
set_option maxHeartbeats 1000000 in
theorem Wi (a b : Rx) (w : World) : Calls Tryz.prog 217 #[aF a, aF b] w fun e w' => e = .returned (two .and (aF a) (aF b)) /\ ai w [] w' := by
 refine aj (nt := 9) [.tmp 4] Tryz.func217 rfl rfl rfl ?_
 refine vR Γ0 kU ?_
 refine vR Γ0 kU ?_
 refine wZ kU ?_
 exact fun E => rfl
set_option maxHeartbeats 1000000 in
theorem Qj (a b : Rx) (w : World) : Calls Tryz.prog 218 #[aF a, aF b] w fun e w' => e = .returned (two .minus (aF a) (aF b)) /\ ai w [] w' := by
 refine aj (nt := 9) [.tmp 4] Tryz.func218 rfl rfl rfl ?_
 refine vR Γ0 kU ?_
 refine vR Γ0 kU ?_
 refine wZ kU ?_
 exact fun E => rfl
theorem VG : ∀ (g : Jn) (a b : Rx) (w : World), Calls Tryz.prog g.f #[aF a, aF b] w fun e w' => e = .returned (two g (aF a) (aF b)) /\ ai w [] w'
 | .cat, a, b, w => V5 a b w
 | .alt, a, b, w => VV a b w
 | .and, a, b, w => Wi a b w
 | .minus, a, b, w => Qj a b w
theorem KZ : ∀ (g : Jn) args w, (callFunc g.f args).run Tryz.prog w = .ok (.enter g.f args) w
 | .cat => Tryz.call252
 | .alt => Tryz.call181
 | .and => Tryz.call217
 | .minus => Tryz.call218
def WE (g : Jn) : aU Tryz.prog g.f where
 pre := fun W bs as_ => ∃ a b, as_ = [.val (aF a), .val (aF b)]
 res := fun W => fun | [.val x, .val y] => two g x y | _ => undef
 enters := KZ g
 ok := by
  rintro W w bs us _ hk hu ⟨a, b, rfl⟩
  match us, hu with
  | [u, v], hu =>
   obtain ⟨rfl, rfl, _⟩ := hu
   exact VG g a b w
theorem To (g : Jn) (W : World) (x y : Value) : (WE g).res W [.val x, .val y] = two g x y := rfl
theorem Tl (g : Jn) (W : World) (bs : List Nat) (as_ : List AV) : (WE g).pre W bs as_ = ∃ a b, as_ = [.val (aF a), .val (aF b)] := rfl
def dp : Rx -> Nat
 | .eps => 0
 | .cls _ => 0
 | .cat a b => dp a + dp b + 1
 | .alt a b => dp a + dp b + 1
 | .star a => dp a + 1
 | .and a b => dp a + dp b + 1
 | .minus a b => dp a + dp b + 1
theorem Xl (g : Jn) (a b : Rx) : dp (g.mk a b) = dp a + dp b + 1 := by cases g <;> rfl
def hD (f : FuncId) : Prop := f = 259 \/ f = 220 \/ f = 264
theorem bw.shape {W : World} {S : Nat -> Prop} {v : Value} {t : Rx} (h : bw W S v t) : ∃ f cap, v = .func (.func f) #[] cap /\ hD f := by
 cases h with
 | leaf => exact ⟨_, _, rfl, .inl rfl⟩
 | join => exact ⟨_, _, rfl, .inr (.inl rfl)⟩
 | star => exact ⟨_, _, rfl, .inr (.inr rfl)⟩
theorem D0 {f : FuncId} (h : hD f) : ∀ args w, (callFunc f args).run Tryz.prog w = .ok (.enter f args) w := by
 rcases h with rfl | rfl | rfl
 ·exact Tryz.call259
 ·exact Tryz.call220
 ·exact Tryz.call264
def fX (n : Nat) : Prop := ∀ f cap w S t, bw w S (.func (.func f) #[] cap) t -> dp t < n -> Calls Tryz.prog f cap w fun e w' => e = .returned (aF t) /\ ai w [] w'
open Classical in
noncomputable def sR (W : World) (f : FuncId) (as_ : List AV) : Value :=
 if h : ∃ (cap : List Value) (t : Rx), as_ = cap.map .val /\ bw W (fun _ => True) (.func (.func f) #[] cap.toArray) t then aF h.choose_spec.choose else undef
theorem D6 {l m : List Value} (h : l.map AV.val = m.map .val) : l = m := by
 have := congrArg (List.map fun | AV.val v => v | _ => undef) h
 simpa [Function.comp_def] using this
theorem jC {W : World} {S : Nat -> Prop} {f : FuncId} {cap : List Value} {t : Rx} (h : bw W S (.func (.func f) #[] cap.toArray) t) : sR W f (cap.map .val) = aF t := by
 have h1 := h.mono (S' := fun _ => True) (W' := W) fun b _ _ => ⟨rfl, trivial⟩
 have hex : ∃ (c : List Value) (t : Rx), cap.map AV.val = c.map .val /\ bw W (fun _ => True) (.func (.func f) #[] c.toArray) t := ⟨cap, t, rfl, h1⟩
 rw [sR, dif_pos hex]
 obtain ⟨g1, g2⟩ := hex.choose_spec.choose_spec
 have key : ∀ (c : List Value) (t' : Rx), cap = c -> bw W (fun _ => True) (.func (.func f) #[] c.toArray) t' -> t' = t := by
  rintro _ t' rfl hg
  exact (h1.fn hg).symm
 rw [key _ _ (D6 g1) g2]
theorem rM {w : World} : ∀ {us cap : List Value}, eD w us (cap.map .val) -> us = cap
 | [], [], _ => rfl
 | u :: us, c :: cap, h => by rw [h.1, rM h.2]
 | [], _ :: _, h => h.elim
 | _ :: _, [], h => h.elim
noncomputable def Dk (n : Nat) (ih : fX n) (f : FuncId) (hf : hD f) : aU Tryz.prog f where
 pre := fun W bs as_ => ∃ (cap : List Value) (t : Rx), as_ = cap.map .val /\ bw W (Out bs) (.func (.func f) #[] cap.toArray) t /\ dp t < n
 res := fun W as_ => sR W f as_
 enters := D0 hf
 ok := by
  rintro W w bs us _ hk hu ⟨cap, t, rfl, hg, hd⟩
  rw [jC hg, rM hu]
  exact ih f _ w (Out bs) t (hg.mono hk.h9) hd
open Classical in
noncomputable def ET (n : Nat) (ih : fX n) (f : FuncId) : Option (Go.LE.Spec Tryz.prog f) := if hf : hD f then some (Dk n ih f hf).spec else none
theorem JS (n : Nat) (ih : fX n) (f : FuncId) (hf : hD f) : ET n ih f = some (Dk n ih f hf).spec := dif_pos hf
noncomputable def Γ43 (n : Nat) (ih : fX n) : Env Tryz.prog := ⟨fun | 252 => some (WE .cat).spec | 181 => some (WE .alt).spec | 217 => some (WE .and).spec | 218 => some (WE .minus).spec | f => ET n ih f, fun _ => none, fun _ _ => none⟩
theorem Gt43cmk (n : Nat) (ih : fX n) (g : Jn) : (Γ43 n ih).sp g.f = some (WE g).spec := by cases g <;> rfl
theorem Gt43cgrow (n : Nat) (ih : fX n) (f : FuncId) (hf : hD f) : (Γ43 n ih).sp f = some (Dk n ih f hf).spec := by
 rw [<- JS]
 rcases hf with rfl | rfl | rfl <;> rfl
theorem yp (n : Nat) (ih : fX n) (f : FuncId) (hf : hD f) (W : World) (as_ : List AV) : (Dk n ih f hf).res W as_ = sR W f as_ := rfl
theorem yg (n : Nat) (ih : fX n) (f : FuncId) (hf : hD f) (W : World) (bs : List Nat) (as_ : List AV) : (Dk n ih f hf).pre W bs as_ = ∃ (cap : List Value) (t : Rx), as_ = cap.map .val /\ bw W (Out bs) (.func (.func f) #[] cap.toArray) t /\ dp t < n := rfl
theorem lJ (h : Hp) : ∀ l : List Value, ay h (l.map .v) = some (l.map .val, [])
 | [] => rfl
 | x :: r => by rw [List.map_cons, v7, lJ h r]; rfl
theorem Am {W : World} {S : Nat -> Prop} {v : Value} {t : Rx} (h : bw W S v t) : bw W (Out []) v t := h.mono fun b _ _ => ⟨rfl, by simp [Out]⟩
def pg := (lX kU @To @Tl @yp @yg @Gt43cmk)
set_option maxHeartbeats 1000000 in
theorem MA (b : Nat) (t : Rx) (w : World) (S : Nat -> Prop) (h : XC w S b 0 (aF t)) : Calls Tryz.prog 259 #[lG b] w fun e w' => e = .returned (aF t) /\ ai w [] w' := by
 have h1 : w.cell? ⟨b, 0, none⟩ = some (aF t) := h.2
 refine aj (nt := 3) [.tmp 1] Tryz.func259 rfl rfl rfl ?_
 refine vR Γ0 (ab pg @lG.eq_1) ?_
 refine vR Γ0 (de pg @lG.eq_1 h1) ?_
 refine wZ pg ?_
 exact fun E => rfl
set_option maxHeartbeats 1000000 in
theorem KN (n : Nat) (ih : fX n) (b : Nat) (fa : Value) (ta : Rx) (w : World) (S : Nat -> Prop) (h : XC w S b 1 fa) (hg : bw w S fa ta) (hd : dp ta < n) :
  Calls Tryz.prog 264 #[lG b] w fun e w' => e = .returned (aF (.star ta)) /\ ai w [] w' := by
 have h1 : w.cell? ⟨b, 0 + 1, none⟩ = some fa := by rw [Nat.zero_add]; exact h.2
 obtain ⟨f, cap, rfl, hf⟩ := hg.shape
 obtain ⟨cap, rfl⟩ : ∃ l : List Value, cap = l.toArray := ⟨cap.toList, by simp⟩
 have hr := jC hg
 have hs := Gt43cgrow n ih f hf
 refine aj (nt := 7) [.tmp 1] Tryz.func264 rfl rfl rfl ?_
 refine vR Γ0 (ab pg @lG.eq_1) ?_
 refine wR (Γ43 n ih) (lX pg @lG.eq_1 h1 hs hr @lJ) ?_ ?_
 ·exact ⟨cap, ta, rfl, Am hg, hd⟩
 refine wZ pg ?_
 exact fun E => rfl
set_option maxHeartbeats 1000000 in
theorem J6 (n : Nat) (ih : fX n) (g : Jn) (b5 b3 b4 : Nat) (fa fb : Value) (ta tb : Rx) (w : World) (S : Nat -> Prop) (h5 : XC w S b5 0 g.v) (h3 : XC w S b3 1 fa) (h4 : XC w S b4 1 fb)
  (hga : bw w S fa ta) (hgb : bw w S fb tb) (hda : dp ta < n) (hdb : dp tb < n) :
  Calls Tryz.prog 220 #[lG b5, lG b3, lG b4] w fun e w' => e = .returned (aF (g.mk ta tb)) /\ ai w [] w' := by
 have g5 : w.cell? ⟨b5, 0, none⟩ = some (.func (.func g.f) #[] #[]) := h5.2
 have g3 : w.cell? ⟨b3, 0 + 1, none⟩ = some fa := by rw [Nat.zero_add]; exact h3.2
 have g4 : w.cell? ⟨b4, 0 + 1, none⟩ = some fb := by rw [Nat.zero_add]; exact h4.2
 obtain ⟨f, cap, rfl, hf⟩ := hga.shape
 obtain ⟨cap, rfl⟩ : ∃ l : List Value, cap = l.toArray := ⟨cap.toList, by simp⟩
 obtain ⟨f', cap', rfl, hf'⟩ := hgb.shape
 obtain ⟨cap', rfl⟩ : ∃ l : List Value, cap' = l.toArray := ⟨cap'.toList, by simp⟩
 have hr := jC hga
 have hs := Gt43cgrow n ih f hf
 have hr' := jC hgb
 have hs' := Gt43cgrow n ih f' hf'
 refine aj (nt := 12) [.tmp 3] Tryz.func220 rfl rfl rfl ?_
 refine vR Γ0 (ab pg @lG.eq_1) ?_
 refine l9 (Γ43 n ih) (aq pg @lG.eq_1 g5 g3 g4 hs hs' (de hr hr' @lJ)) ?_ ?_
 ·exact ⟨⟨cap, ta, rfl, Am hga, hda⟩, ⟨cap', tb, rfl, Am hgb, hdb⟩, ta, tb, rfl⟩
 refine wZ pg ?_
 exact fun E => RQ g ta tb
theorem tg : ∀ n, fX n
 | 0 => fun _ _ _ _ _ _ h => by omega
 | n + 1 => by
  have ih := tg n
  intro f cap w S t h hd
  cases h with
  | leaf b t h => exact MA b t w S h
  | join g b5 b3 b4 fa fb ta tb h5 h3 h4 ha hb =>
   rw [Xl] at hd
   exact J6 n ih g b5 b3 b4 fa fb ta tb w S h5 h3 h4 ha hb (by omega) (by omega)
  | star b fa ta h ha =>
   have : dp ta + 1 < n + 1 := hd
   exact KN n ih b fa ta w S h ha (by omega)
end
end Go.Proofs.YtnemkecffmdlnaaGreatDoor
