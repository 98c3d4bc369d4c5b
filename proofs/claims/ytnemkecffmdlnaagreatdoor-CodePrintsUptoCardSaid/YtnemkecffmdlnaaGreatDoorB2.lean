/-
 Part 2 of the proof (packed).
-/
import Derived.Test.YtnemkecffmdlnaaGreatDoorB1
import Derived.Deep.LoopGhost
import Derived.Test.YtnemkecffmdlnaaGreatDoorProg
import Derived.WalkKit
import Derived.ProofKit
import Derived.OpenShut
import Derived.JoinedCond
import Derived.Lib.SmallJoins
import Derived.ReadAgain
import Derived.Deep.Slices
import Derived.Deep.Strs
import Derived.Defers
import Derived.Recover
set_option linter.unusedSimpArgs false
set_option linter.unusedVariables false
set_option linter.defProp false
namespace Go.LE
section
open Go.RowKit
structure Ext (W : World) (bs : List Nat) (W' : World) (bs' : List Nat) : Prop where
 keeps : ai W bs W'
 sub : ∀ b ∈ bs', W.heap.size <= b \/ b ∈ bs
theorem Ext.refl (W : World) (bs : List Nat) : Ext W bs W bs := ⟨ai.refl W bs, fun _ h => .inr h⟩
theorem Ext.trans {W W' W'' : World} {bs bs' bs'' : List Nat} (h : Ext W bs W' bs') (h' : Ext W' bs' W'' bs'') : Ext W bs W'' bs'' :=
 ⟨h.keeps.trans h'.keeps fun b hb hlt => (h.sub b hb).resolve_left (by omega), fun b hb => (h'.sub b hb).elim (fun h1 => .inl (Nat.le_trans h.keeps.size h1)) fun h1 => h.sub b h1⟩
theorem Ext.Dx {W W' w : World} {bs bs' : List Nat} (h : Ext W bs W' bs') (h' : ai W' bs' w) : ai W bs w :=
 h.keeps.trans h' fun b hb hlt => (h.sub b hb).resolve_left (by omega)
theorem al.back {W W' w : World} {bs bs' : List Nat} {E : Nat -> Value} {F : Nat -> List Nat} {h : Hp} (he : Ext W bs W' bs') (hs : al W' bs' E F h w) : al W bs E F h w :=
 ⟨hs.ent, hs.lt, fun k e hk b hb => (hs.mine k e hk b hb).elim (fun h1 => .inl (Nat.le_trans he.keeps.size h1)) fun h1 => he.sub b h1, hs.apart, he.Dx hs.keeps⟩
theorem Sat.back {W W' : World} {bs bs' : List Nat} {nt : Nat} {ds : Aux} {σ : St} {a : Act} {w : World} (he : Ext W bs W' bs') (h : Sat W' bs' nt ds σ a w) : Sat W bs nt ds σ a w := by
 obtain ⟨⟨E, F, hf, hs, hp⟩, h1, h2, h3, h4, h5⟩ := h
 exact ⟨⟨E, F, hf, hs.back he, hp⟩, h1, h2, h3, h4, h5⟩
abbrev jX := Exit -> World -> List Nat -> St -> Prop
def Wp (P : Program) (W : World) (bs : List Nat) (nt : Nat) (ds : Aux) (c : Code) (Q : jX) (σ : St) : Prop :=
 ∀ a w, Sat W bs nt ds σ a w -> c.wp P (fun e a' w' => ∃ W' bs' σ', Ext W bs W' bs' /\ Q e W' bs' σ' /\ Sat W' bs' nt ds σ' a' w') a w
def Le (W : World) (bs : List Nat) (nt : Nat) (ds : Aux) (σ σ' : St) : Prop := ∀ a w, Sat W bs nt ds σ a w -> Sat W bs nt ds σ' a w
def Th (next : World -> List Nat -> St -> Prop) (Q : jX) : jX
 | .normal, W, bs, σ => next W bs σ
 | e, W, bs, σ => Q e W bs σ
def Bl (id : Nat) (Q : jX) : jX
 | .exit id', W, bs, σ => if id' = id then Q .normal W bs σ else Q (.exit id') W bs σ
 | e, W, bs, σ => Q e W bs σ
section
variable {next : World -> List Nat -> St -> Prop} {Q : jX} {W : World} {bs : List Nat} {σ : St}
theorem eU (h : next W bs σ) : Th next Q .normal W bs σ := h
theorem lv (h : Q .ret W bs σ) : Th next Q .ret W bs σ := h
theorem iT {i : Nat} (h : Q (.exit i) W bs σ) : Th next Q (.exit i) W bs σ := h
theorem gx {c : List PanicEntry} (h : Q (.panic c) W bs σ) : Th next Q (.panic c) W bs σ := h
theorem fc {id : Nat} (h : Q .normal W bs σ) : Bl id Q .normal W bs σ := h
theorem lR {id : Nat} (h : Q .ret W bs σ) : Bl id Q .ret W bs σ := h
theorem gl {id : Nat} {c : List PanicEntry} (h : Q (.panic c) W bs σ) : Bl id Q (.panic c) W bs σ := h
theorem iW {id : Nat} (h : Q .normal W bs σ) : Bl id Q (.exit id) W bs σ := by simpa [Bl] using h
theorem dP {id i : Nat} (hn : i ≠ id) (h : Q (.exit i) W bs σ) : Bl id Q (.exit i) W bs σ := by simpa [Bl, hn] using h
end
section
variable {P : Program} {W : World} {bs : List Nat} {nt : Nat} {ds : Aux} {Q : jX} {σ : St}
theorem nC {W W' : World} {bs bs' : List Nat} {e : Exit} {a : Act} {w : World} {Q : jX} (he : Ext W bs W' bs') (h : ∃ W'' bs'' σ', Ext W' bs' W'' bs'' /\ Q e W'' bs'' σ' /\ Sat W'' bs'' nt ds σ' a w) :
  ∃ W'' bs'' σ', Ext W bs W'' bs'' /\ Q e W'' bs'' σ' /\ Sat W'' bs'' nt ds σ' a w := by
 obtain ⟨W'', bs'', σ', h1, h2, h3⟩ := h
 exact ⟨W'', bs'', σ', he.trans h1, h2, h3⟩
theorem Wp.mono {c : Code} {Q' : jX} (h : Wp P W bs nt ds c Q σ) (hq : ∀ e W bs σ, Q e W bs σ -> Q' e W bs σ) : Wp P W bs nt ds c Q' σ :=
 fun a w hs => wp_mono (h a w hs) fun e _ _ ⟨W', bs', σ', he, hq', hs'⟩ => ⟨W', bs', σ', he, hq _ _ _ _ hq', hs'⟩
theorem Wp.XG {c : Code} {σ' : St} (hle : Le W bs nt ds σ σ') (h : Wp P W bs nt ds c Q σ') : Wp P W bs nt ds c Q σ :=
 fun a w hs => h a w (hle a w hs)
theorem Wp.skip (h : Q .normal W bs σ) : Wp P W bs nt ds .skip Q σ := fun a w hs => wp_skip ⟨W, bs, σ, Ext.refl W bs, h, hs⟩
theorem Wp.exit {id : Nat} (h : Q (.exit id) W bs σ) : Wp P W bs nt ds (.exit id) Q σ := fun a w hs => wp_exit ⟨W, bs, σ, Ext.refl W bs, h, hs⟩
theorem Wp.goto {l : Nat} (h : Q (.goto l) W bs σ) : Wp P W bs nt ds (.goto l) Q σ := fun a w hs => wp_goto ⟨W, bs, σ, Ext.refl W bs, h, hs⟩
theorem Wp.ret (h : Q .ret W bs σ) : Wp P W bs nt ds .ret Q σ := fun a w hs => wp_ret ⟨W, bs, σ, Ext.refl W bs, h, hs⟩
theorem Wp.seq {x y : Code} (h : Wp P W bs nt ds x (Th (fun W bs σ => Wp P W bs nt ds y Q σ) Q) σ) : Wp P W bs nt ds (.seq x y) Q σ := fun a w hs =>
 wp_seq (wp_mono (h a w hs) fun e a' w' ⟨W', bs', σ', he, hq, hs'⟩ => by
  cases e with
  | normal => exact wp_mono (hq a' w' hs') fun e'' a'' w'' hh => nC he hh
  | _ => exact ⟨W', bs', σ', he, hq, hs'⟩)
theorem Wp.block {id : Nat} {c : Code} (h : Wp P W bs nt ds c (Bl id Q) σ) : Wp P W bs nt ds (.block id c) Q σ := fun a w hs =>
 wp_block (wp_mono (h a w hs) fun e a' w' ⟨W', bs', σ', he, hq, hs'⟩ => by
  cases e with
  | exit i =>
   simp only [Bl] at hq
   simp only [Exit.inBlock]
   split
   ·rename_i hi; rw [if_pos hi] at hq; exact ⟨W', bs', σ', he, hq, hs'⟩
   ·rename_i hi; rw [if_neg hi] at hq; exact ⟨W', bs', σ', he, hq, hs'⟩
  | _ => exact ⟨W', bs', σ', he, hq, hs'⟩)
theorem Wp.cond {c : Operand} {x y : Code} {b : Bool} {p : Prop} (hc : lq σ.φ true c = (p, .v (.bool b))) (hp : p)
  (ht : b = true -> Wp P W bs nt ds x Q σ) (hf : b = false -> Wp P W bs nt ds y Q σ) : Wp P W bs nt ds (.cond c x y) Q σ := fun a w hs => by
 obtain ⟨E, F, hφ, hh, _⟩ := hs.ex
 have : a.eval c = .bool b := by
  rw [pb hφ rfl (by rw [hc]; exact hp), hc]
  rfl
 exact wp_cond_split this (fun hb => ht hb a w hs) (fun hb => hf hb a w hs)
theorem Wp.Ix (Γ : Env P) {id : Nat} {d : Bool} {ops : Array Oper} {g : RG} (hm : P.follows .mixedOrders = true)
  (hg : mi Γ W bs nt ops ops.toList σ.n σ.φ σ.h = g) (hside : g.side) (hd : d = true -> ma ops = true /\ l8 ops g.fx = true)
  (hQ : (∀ x ∈ g.pans, x = none) -> Q .normal W bs ⟨g.n, g.φ, g.h⟩) (hP : ∀ c, some c ∈ g.pans -> Q (.panic c) W bs ⟨σ.n, qt ops σ.φ, dropKeys σ.h g.lost⟩) :
  Wp P W bs nt ds (.region id ops d) Q σ := fun a w hs =>
 L0 Γ hm hs hg hside hd (fun hn a' w' hs' => ⟨W, bs, _, Ext.refl W bs, hQ hn, hs'⟩) (fun c hc a' w' hs' => ⟨W, bs, _, Ext.refl W bs, hP c hc, hs'⟩)
theorem Wp.region (Γ : Env P) {id : Nat} {d : Bool} {ops : Array Oper} {g : RG} (hm : P.follows .mixedOrders = true)
  (hg : mi Γ W bs nt ops ops.toList σ.n σ.φ σ.h = g) (hside : g.side) (hd : d = true -> ma ops = true /\ l8 ops g.fx = true)
  (hQ : Q .normal W bs ⟨g.n, g.φ, g.h⟩) (hP : ∀ c, some c ∈ g.pans -> Q (.panic c) W bs ⟨σ.n, qt ops σ.φ, dropKeys σ.h g.lost⟩) :
  Wp P W bs nt ds (.region id ops d) Q σ := Wp.Ix Γ hm hg hside hd (fun _ => hQ) hP
theorem Iy {α : Type} {l : List (Option α)} {c : α} (h : l.filter Option.isSome = [some c]) : some c ∈ l /\ ∀ x, some x ∈ l -> x = c := by
 have h1 : some c ∈ l.filter Option.isSome := by rw [h]; simp
 refine ⟨(List.mem_filter.1 h1).1, fun x hx => ?_⟩
 have : some x ∈ l.filter Option.isSome := List.mem_filter.2 ⟨hx, rfl⟩
 rw [h] at this
 simpa using this
theorem Wp.nY (Γ : Env P) {id : Nat} {ops : Array Oper} {side : Prop} {lost : List Nat} {c : List PanicEntry} (hm : P.follows .mixedOrders = true)
  (hg : uF Γ W bs nt ops ops.toList σ.n σ.φ σ.h = ⟨side, some c, lost⟩) (hside : side)
  (hQ : Q (.panic c) W bs ⟨σ.n, qt ops σ.φ, dropKeys σ.h lost⟩) : Wp P W bs nt ds (.region id ops false) Q σ := fun a w hs =>
 Es Γ hs hg hside fun a' w' hs' => ⟨W, bs, _, Ext.refl W bs, hQ, hs'⟩
theorem Wp.JI (Γ : Env P) {id : Nat} {ops : Array Oper} {side : Prop} {n : Nat} {φ : Fr} {h : Hp} {pans : List (Option (List PanicEntry))} {lost : List Nat} {fx : List (List Nat × List Nat)} {c : List PanicEntry} (hm : P.follows .mixedOrders = true)
  (hg : mi Γ W bs nt ops ops.toList σ.n σ.φ σ.h = ⟨side, n, φ, h, pans, lost, fx⟩) (hp : pans.filter Option.isSome = [some c]) (hd : (ma ops && l8 ops fx) = true) (hside : side)
  (hQ : Q (.panic c) W bs ⟨σ.n, qt ops σ.φ, dropKeys σ.h lost⟩) : Wp P W bs nt ds (.region id ops true) Q σ :=
 Wp.Ix Γ hm hg hside (fun _ => by rw [Bool.and_eq_true] at hd; exact hd) (fun hn => by cases hn _ (Iy hp).1) fun c' hc' => by rw [(Iy hp).2 c' hc']; exact hQ
theorem Wp.iJ (Γ : Env P) {id : Nat} {ops : Array Oper} {y : Code} {side : Prop} {lost : List Nat} {c : List PanicEntry} (hm : P.follows .mixedOrders = true)
  (hg : uF Γ W bs nt ops ops.toList σ.n σ.φ σ.h = ⟨side, some c, lost⟩) (hside : side)
  (hQ : Q (.panic c) W bs ⟨σ.n, qt ops σ.φ, dropKeys σ.h lost⟩) : Wp P W bs nt ds (.seq (.region id ops false) y) Q σ :=
 Wp.seq (Wp.nY Γ hm hg hside hQ)
theorem Wp.nZ (Γ : Env P) {id : Nat} {ops : Array Oper} {y : Code} {side : Prop} {n : Nat} {φ : Fr} {h : Hp} {pans : List (Option (List PanicEntry))} {lost : List Nat} {fx : List (List Nat × List Nat)} (hm : P.follows .mixedOrders = true)
  (hg : mi Γ W bs nt ops ops.toList σ.n σ.φ σ.h = ⟨side, n, φ, h, pans, lost, fx⟩) (hp : pans.all Option.isNone = true) (hside : side)
  (hQ : Wp P W bs nt ds y Q ⟨n, φ, h⟩) : Wp P W bs nt ds (.seq (.region id ops false) y) Q σ :=
 Wp.seq (Wp.region Γ hm hg hside (fun hd => by cases hd) hQ fun c hc => by rw [List.all_eq_true] at hp; have := hp _ hc; cases this)
theorem Wp.U1 (Γ : Env P) {id : Nat} {ops : Array Oper} {y : Code} {side : Prop} {n : Nat} {φ : Fr} {h : Hp} {pans : List (Option (List PanicEntry))} {lost : List Nat} {fx : List (List Nat × List Nat)} (hm : P.follows .mixedOrders = true)
  (hg : mi Γ W bs nt ops ops.toList σ.n σ.φ σ.h = ⟨side, n, φ, h, pans, lost, fx⟩) (hp : pans.all Option.isNone = true) (hd : (ma ops && l8 ops fx) = true) (hside : side)
  (hQ : Wp P W bs nt ds y Q ⟨n, φ, h⟩) : Wp P W bs nt ds (.seq (.region id ops true) y) Q σ :=
 Wp.seq (Wp.region Γ hm hg hside (fun _ => by rw [Bool.and_eq_true] at hd; exact hd) hQ fun c hc => by rw [List.all_eq_true] at hp; have := hp _ hc; cases this)
theorem Wp.Bf (Γ : Env P) {id : Nat} {ops : Array Oper} {side : Prop} {n : Nat} {φ : Fr} {h : Hp} {pans : List (Option (List PanicEntry))} {lost : List Nat} {fx : List (List Nat × List Nat)} (hm : P.follows .mixedOrders = true)
  (hg : mi Γ W bs nt ops ops.toList σ.n σ.φ σ.h = ⟨side, n, φ, h, pans, lost, fx⟩) (hp : pans.all Option.isNone = true) (hside : side)
  (hQ : Q .normal W bs ⟨n, φ, h⟩) : Wp P W bs nt ds (.region id ops false) Q σ :=
 Wp.region Γ hm hg hside (fun hd => by cases hd) hQ fun c hc => by rw [List.all_eq_true] at hp; have := hp _ hc; cases this
theorem Wp.Tx (Γ : Env P) {id : Nat} {ops : Array Oper} {side : Prop} {n : Nat} {φ : Fr} {h : Hp} {pans : List (Option (List PanicEntry))} {lost : List Nat} {fx : List (List Nat × List Nat)} (hm : P.follows .mixedOrders = true)
  (hg : mi Γ W bs nt ops ops.toList σ.n σ.φ σ.h = ⟨side, n, φ, h, pans, lost, fx⟩) (hp : pans.all Option.isNone = true) (hd : (ma ops && l8 ops fx) = true) (hside : side)
  (hQ : Q .normal W bs ⟨n, φ, h⟩) : Wp P W bs nt ds (.region id ops true) Q σ :=
 Wp.region Γ hm hg hside (fun _ => by rw [Bool.and_eq_true] at hd; exact hd) hQ fun c hc => by rw [List.all_eq_true] at hp; have := hp _ hc; cases this
theorem Wp.loop {c : Code} {ι : Type} (I : ι -> St) (ok : ι -> Prop) (μ : ι -> Nat) (p0 : ι) (hle : Le W bs nt ds σ (I p0)) (h0 : ok p0)
  (round : ∀ p, ok p -> Wp P W bs nt ds c (Th (fun W' bs' σ' => ∃ p', ok p' /\ μ p' < μ p /\ Le W' bs' nt ds σ' (I p')) Q) (I p)) : Wp P W bs nt ds (.loop c) Q σ := fun a w hs =>
 wp_loop_ghost (fun n a w => ∃ p, ok p /\ μ p = n /\ Sat W bs nt ds (I p) a w) (μ p0) ⟨p0, h0, rfl, hle a w hs⟩ fun n a w ⟨p, hp, hn, hsat⟩ =>
  wp_mono (round p hp a w hsat) fun e a' w' ⟨W', bs', σ', he, hq, hs'⟩ => by
   cases e with
   | normal =>
    obtain ⟨p', hp', hlt, hle'⟩ := hq
    exact ⟨μ p', hn ▸ hlt, p', hp', rfl, Sat.back he (hle' a' w' hs')⟩
   | _ => exact ⟨W', bs', σ', he, hq, hs'⟩
theorem Wp.yQ {c : Code} {ι : Type} (I : ι -> St) (V : ι -> World) (B : ι -> List Nat) (ok : ι -> Prop) (μ : ι -> Nat) (p0 : ι) (hV : V p0 = W) (hB : B p0 = bs) (hle : Le W bs nt ds σ (I p0)) (h0 : ok p0)
  (round : ∀ p, ok p -> Ext W bs (V p) (B p) -> Wp P (V p) (B p) nt ds c (Th (fun W' bs' σ' => ∃ p', ok p' /\ μ p' < μ p /\ V p' = W' /\ B p' = bs' /\ Le W' bs' nt ds σ' (I p')) Q) (I p)) : Wp P W bs nt ds (.loop c) Q σ := fun a w hs =>
 wp_loop_ghost (fun n a w => ∃ p, ok p /\ μ p = n /\ Ext W bs (V p) (B p) /\ Sat (V p) (B p) nt ds (I p) a w) (μ p0) ⟨p0, h0, rfl, by rw [hV, hB]; exact Ext.refl W bs, by rw [hV, hB]; exact hle a w hs⟩ fun n a w ⟨p, hp, hn, hx, hsat⟩ =>
  wp_mono (round p hp hx a w hsat) fun e a' w' ⟨W', bs', σ', he, hq, hs'⟩ => by
   cases e with
   | normal =>
    obtain ⟨p', hp', hlt, rfl, rfl, hle'⟩ := hq
    exact ⟨μ p', hn ▸ hlt, p', hp', rfl, hx.trans he, hle' a' w' hs'⟩
   | _ => exact ⟨W', bs', σ', hx.trans he, hq, hs'⟩
inductive Src where
 | key (k : Nat)
 | nil
def jx : Value := .slice none 0 0
mutual
def wI (m : Nat -> Src) : SV -> SV
 | .v x => .v x
 | .own k o => match m k with | .key j => .own j o | .nil => .v .nilIface
 | .hd k => match m k with | .key j => .hd j | .nil => .v jx
 | .agg l => .agg (mf m l)
 | .tup l => .tup (mf m l)
 | .ifc t x => .ifc t (wI m x)
 | .part k i => match m k with | .key j => .part j i | .nil => .v .nilIface
 | .fn f a c => .fn f (mf m a) (mf m c)
def mf (m : Nat -> Src) : List SV -> List SV
 | [] => []
 | x :: r => wI m x :: mf m r
end
def tS (E : Nat -> Value) (m : Nat -> Src) (k : Nat) : Value := match m k with | .key j => E j | .nil => jx
def wL (F : Nat -> List Nat) (m : Nat -> Src) (k : Nat) : List Nat := match m k with | .key j => F j | .nil => []
mutual
theorem nu (E : Nat -> Value) (m : Nat -> Src) : ∀ x : SV, den E (wI m x) = den (tS E m) x
 | .v x => rfl
 | .own k o => by
  simp only [wI, den, tS]
  cases m k <;> rfl
 | .hd k => by
  simp only [wI, den, tS]
  cases m k <;> rfl
 | .agg l => by simp only [wI, den, jK E m l]
 | .tup l => by simp only [wI, den, jK E m l]
 | .ifc t x => by simp only [wI, den, nu E m x]
 | .part k i => by
  simp only [wI, den, tS]
  cases m k <;> rfl
 | .fn f a c => by simp only [wI, den, jK E m a, jK E m c]
theorem jK (E : Nat -> Value) (m : Nat -> Src) : ∀ l : List SV, an E (mf m l) = an (tS E m) l
 | [] => rfl
 | x :: r => by simp only [mf, an, nu E m x, jK E m r]
end
def Cv (m : Nat -> Src) : bm -> bm
 | .cells T vs => .cells T (mf m vs)
 | .row T s n vs => .row T s n (mf m vs)
 | .obj d R => .obj d R
theorem Gz {E : Nat -> Value} {m : Nat -> Src} {u : Value} {fp : List Nat} {w : World} {e : bm} (h : bn E u fp w (Cv m e)) : bn (tS E m) u fp w e := by
 cases e with
 | cells T vs => simpa [bn, Cv, jK] using h
 | row T s n vs => simpa [bn, Cv, jK] using h
 | obj d R => exact h
def bQ : List (Nat × FV) -> Fr
 | [] => fun _ => .any
 | (t, x) :: r => bg (bQ r) t x
def bY : List (Nat × bm) -> Hp
 | [] => fun _ => none
 | (k, e) :: r => bg (bY r) k (some e)
def EY (m : Nat -> Src) : FV -> FV -> Prop
 | .is x, .is y => x = wI m y
 | .cnd b x, .cnd c y => b = c /\ (b = true -> x = wI m y)
 | .is x, .cnd c y => c = true /\ x = wI m y
 | .cnd b x, .is y => b = true /\ x = wI m y
 | _, .any => True
 | .any, _ => False
theorem J9 {E : Nat -> Value} {m : Nat -> Src} {x y : FV} {u : Value} (hle : EY m x y) (hf : fits E x u) : fits (tS E m) y u := by
 cases x with
 | is x =>
  cases y with
  | is y => simp only [EY] at hle; simp only [fits] at hf ⊢; rw [hf, hle, nu]
  | cnd c y => obtain ⟨rfl, hle⟩ := hle; simp only [fits, cond_true] at hf ⊢; rw [hf, hle, nu]
  | any => trivial
 | cnd b x =>
  cases y with
  | is y => obtain ⟨rfl, hle⟩ := hle; simp only [fits, cond_true] at hf ⊢; rw [hf, hle, nu]
  | cnd c y =>
   obtain ⟨rfl, hle⟩ := hle
   cases b with
   | false => exact hf
   | true => simp only [fits, cond_true] at hf ⊢; rw [hf, hle rfl, nu]
  | any => trivial
 | any => cases y <;> first | trivial | exact hle.elim
def Gp (m : Nat -> Src) (φ : Fr) : List (Nat × FV) -> Prop
 | [] => True
 | (t, x) :: r => EY m (φ t) x /\ Gp m φ r
def ss (m : Nat -> Src) (h : Hp) (k : Nat) (e : bm) : Prop := match m k with
 | .key j => h j = some (Cv m e)
 | .nil => match e with
  | .row _ sz n vs => 0 < sz /\ n = 0 /\ vs = []
  | _ => False
def Ey (m : Nat -> Src) (h : Hp) : List (Nat × bm) -> Prop
 | [] => True
 | (k, e) :: r => ss m h k e /\ Ey m h r
def gZ (m : Nat -> Src) : List (Nat × bm) -> List Nat
 | [] => []
 | (k, _) :: r => (match m k with | .key j => [j] | .nil => []) ++ gZ m r
def OM (n : Nat) (L : List (Nat × FV)) (H : List (Nat × bm)) : Prop :=
 (∀ p ∈ L, ∀ k ∈ p.2.keys, k / 8 < n) /\ (∀ p ∈ H, p.1 / 8 < n /\ ∀ k ∈ p.2.keys, k / 8 < n)
theorem je {L : List (Nat × FV)} (t : Nat) : bQ L t = .any \/ ∃ p ∈ L, p.1 = t /\ bQ L t = p.2 := by
 induction L with
 | nil => exact .inl rfl
 | cons p r ih =>
  by_cases ht : t = p.1
  ·exact .inr ⟨p, by simp, ht.symm, by simp [bQ, bg, ht]⟩
  ·rcases ih with ih | ⟨q, hq, h1, h2⟩
   ·exact .inl (by simp [bQ, bg, ht, ih])
   ·exact .inr ⟨q, by simp [hq], h1, by simp [bQ, bg, ht, h2]⟩
theorem eQ {H : List (Nat × bm)} {k : Nat} {e : bm} (h : bY H k = some e) : (k, e) ∈ H := by
 induction H with
 | nil => cases h
 | cons p r ih =>
  by_cases ht : k = p.1
  ·simp [bY, bg, ht] at h; subst h; simp [ht]
  ·simp [bY, bg, ht] at h; simp [ih h]
theorem DP {m : Nat -> Src} {φ : Fr} : ∀ {L : List (Nat × FV)}, Gp m φ L -> ∀ p ∈ L, EY m (φ p.1) p.2
 | _ :: _, h, p, hp => by
  rcases List.mem_cons.1 hp with rfl | hp
  ·exact h.1
  ·exact DP h.2 p hp
theorem Cz {m : Nat -> Src} {h : Hp} : ∀ {H : List (Nat × bm)}, Ey m h H -> ∀ p ∈ H, ss m h p.1 p.2
 | _ :: _, h, p, hp => by
  rcases List.mem_cons.1 hp with rfl | hp
  ·exact h.1
  ·exact Cz h.2 p hp
theorem mN {m : Nat -> Src} {k : Nat} : ∀ {H : List (Nat × bm)}, ∀ y ∈ H, m y.1 = .key k -> k ∈ gZ m H
 | z :: t, y, hy, hk => by
  simp only [gZ, List.mem_append]
  rcases List.mem_cons.1 hy with rfl | hy
  ·left; rw [hk]; simp
  ·right; exact mN y hy hk
theorem tT {m : Nat -> Src} : ∀ {H : List (Nat × bm)}, (gZ m H).Nodup -> ∀ p ∈ H, ∀ q ∈ H, p.1 ≠ q.1 -> ∀ i j, m p.1 = .key i -> m q.1 = .key j -> i ≠ j
 | [], _, p, hp, _, _, _, _, _, _, _ => by cases hp
 | x :: r, hn, p, hp, q, hq, hpq, i, j, hi, hj => by
  simp only [gZ] at hn
  rcases List.mem_cons.1 hp with rfl | hp'
  ·rcases List.mem_cons.1 hq with rfl | hq'
   ·exact absurd rfl hpq
   ·rw [hi] at hn
    intro hij
    subst hij
    exact (List.nodup_append.1 hn).2.2 i (by simp) i (mN q hq' hj) rfl
  ·rcases List.mem_cons.1 hq with rfl | hq'
   ·rw [hj] at hn
    intro hij
    subst hij
    exact (List.nodup_append.1 hn).2.2 i (by simp) i (mN p hp' hi) rfl
   ·exact tT (List.nodup_append.1 hn).2.1 p hp' q hq' hpq i j hi hj
theorem Le.mk (m : Nat -> Src) {n' : Nat} {L : List (Nat × FV)} {H : List (Nat × bm)} (hk : OM n' L H) (hf : Gp m σ.φ L) (hh : Ey m σ.h H) (hn : (gZ m H).Nodup) (hpn : ∀ p ∈ ds.pins, m p.1 = .key p.1 /\ p.1 / 8 < n') :
  Le W bs nt ds σ ⟨n', bQ L, bY H⟩ := by
 rintro a w ⟨⟨E, F, hφ, hs, hp⟩, hsz, hdf, _, _, _⟩
 have at' : ∀ k e, bY H k = some e -> ss m σ.h k e := fun k e he => Cz hh _ (eQ he)
 have key : ∀ k e j, bY H k = some e -> m k = .key j -> σ.h j = some (Cv m e) := fun k e j he hj => by
  have := at' k e he
  simpa only [ss, hj] using this
 refine ⟨⟨tS E m, wL F m, fun t => ?_, ⟨fun k e he => ?_, fun k e he b hb => ?_, fun k e he b hb => ?_, fun k k' e e' hne he he' b hb => ?_, hs.keeps⟩, fun p hpp => ?_⟩, hsz, hdf, fun p hpp => (hpn p hpp).2, fun t k hk' => ?_, fun k e he => ?_⟩
 ·rcases je (L := L) t with h | ⟨p, hp, rfl, h⟩
  ·simp only [h]; trivial
  ·simp only [h]; exact J9 (DP hf p hp) (hφ p.1)
 ·cases hm : m k with
  | key j =>
   simp only [tS, wL, hm]
   exact Gz (hs.ent j _ (key k e j he hm))
  | nil =>
   have := at' k e he
   simp only [ss, hm] at this
   cases e with
   | row T s n vs =>
    obtain ⟨h0, rfl, rfl⟩ := this
    simp only [tS, wL, hm]
    exact ⟨⟨by simp [an], .inl ⟨rfl, rfl⟩⟩, rfl⟩
   | cells T vs => exact this.elim
   | obj d R => exact this.elim
 ·cases hm : m k with
  | key j => simp only [wL, hm] at hb; exact hs.lt j _ (key k e j he hm) b hb
  | nil => simp only [wL, hm] at hb; cases hb
 ·cases hm : m k with
  | key j => simp only [wL, hm] at hb; exact hs.mine j _ (key k e j he hm) b hb
  | nil => simp only [wL, hm] at hb; cases hb
 ·cases hm : m k with
  | nil => simp only [wL, hm] at hb; cases hb
  | key i =>
   cases hm' : m k' with
   | nil => simp only [wL, hm']; simp
   | key j =>
    simp only [wL, hm, hm'] at hb ⊢
    exact hs.apart i j _ _ (tT hn _ (eQ he) _ (eQ he') hne i j hm hm') (key k e i he hm) (key k' e' j he' hm') b hb
 ·simp only [tS, (hpn p hpp).1]; exact hp p hpp
 ·rcases je (L := L) t with h | ⟨p, hp, _, h⟩
  ·simp only [h] at hk'; cases hk'
  ·simp only [h] at hk'; exact hk.1 p hp k hk'
 ·exact hk.2 _ (eQ he)
end
end
section
open Go.RowKit
section
variable {P : Program} {W : World} {bs : List Nat} {nt : Nat} {ds : Aux} {σ : St}
theorem Rc {E : Nat -> Value} {F : Nat -> List Nat} {h : Nat -> Option bm} {w : World} {T : TypeId} {k o : Nat} (hs : al W bs E F h w) (hside : (di P W bs h T [.own k o]).side) :
  ∃ a, den E (.own k o) = .pointer (some a) /\ (loadVar T a).run P w = .ok (den E (di P W bs h T [.own k o]).val) w := by
 revert hside
 simp only [di]
 split
 ·rename_i sz vs hsz hag hvs
  rintro ⟨hlen, hpos⟩
  obtain ⟨b, hb, hcells⟩ := eY hs hvs (by omega)
  have hrun : (loadVar T ⟨b, 0 + o, none⟩).run P w = .ok (.agg (((an E vs).drop o).take sz).toArray) w := by
   refine fE hsz hag _ _ (by simp [aC]; omega) fun j v hj => ?_
   have hjl : j < sz := by
    have := (List.getElem?_eq_some_iff.1 hj).1
    simp at this; omega
   rw [Addr.add_lit, Nat.zero_add, hcells (o + j) (by omega)]
   rw [List.getElem?_take, if_pos hjl, List.getElem?_drop] at hj
   rw [hj]; rfl
  refine ⟨⟨b, 0 + o, none⟩, by simp [den, hb, cD], ?_⟩
  rw [hrun]
  simp [den, a7, List.map_take, List.map_drop]
 ·rename_i sz vs hsz hag hvs
  intro hlen
  obtain ⟨b, hb, hcells⟩ := eY hs hvs (Nat.zero_lt_of_lt hlen)
  have hrun := fF (w := w) hag ⟨b, 0 + o, none⟩ ((an E vs)[o]?.getD undef) (by rw [Nat.zero_add]; exact hcells o hlen)
  refine ⟨⟨b, 0 + o, none⟩, by simp [den, hb, cD], ?_⟩
  rw [hrun, nU]
 ·exact fun hf => hf.elim
def jA (P : Program) (W : World) (bs : List Nat) (σ : St) : ResultVar -> Prop × SV
 | .tmp t => match σ.φ t with
  | .is x => (True, x)
  | .cnd b x => (b = true, x)
  | .any => (False, .v undef)
 | .cell t T => match σ.φ t with
  | .is (.own k o) => ((di P W bs σ.h T [.own k o]).side, (di P W bs σ.h T [.own k o]).val)
  | _ => (False, .v undef)
def gT (P : Program) (W : World) (bs : List Nat) (σ : St) : List ResultVar -> Prop × List SV
 | [] => (True, [])
 | r :: l => ((jA P W bs σ r).1 /\ (gT P W bs σ l).1, (jA P W bs σ r).2 :: (gT P W bs σ l).2)
def jE : List SV -> SV
 | [x] => x
 | l => .tup l
def Fin (P : Program) (rs : List ResultVar) (R : World -> List Nat -> SV -> Hp -> Prop) (RP : List PanicEntry -> Hp -> Prop) : jX
 | .normal, W, bs, σ | .ret, W, bs, σ => (gT P W bs σ rs).1 /\ R W bs (jE (gT P W bs σ rs).2) σ.h
 | .panic c, _, _, σ => RP c σ.h
 | _, _, _, _ => False
def Ends (W : World) (bs : List Nat) (pins : List (Nat × Value)) (R : World -> List Nat -> SV -> Hp -> Prop) (RP : List PanicEntry -> Hp -> Prop) : Ending -> World -> Prop
 | .returned v, w' => ∃ W' bs' E F x h, Ext W bs W' bs' /\ R W' bs' x h /\ v = den E x /\ al W' bs' E F h w' /\ ∀ p ∈ pins, E p.1 = p.2
 | .panicked c, w' => ∃ W' bs' E F h, Ext W bs W' bs' /\ RP c h /\ al W' bs' E F h w' /\ ∀ p ∈ pins, E p.1 = p.2
 | .outgrown, _ => False
def kp (a : Act) : ResultVar -> Sem Value
 | .tmp t => pure (a.tmps.getD t undef)
 | .cell x t => do loadVar t (<- asAddr (a.tmps.getD x undef))
theorem G8 {E : Nat -> Value} {F : Nat -> List Nat} {a : Act} {w : World} (hφ : gm E σ.φ a) (hs : al W bs E F σ.h w) (r : ResultVar) (hr : (jA P W bs σ r).1) :
  (kp a r).run P w = .ok (den E (jA P W bs σ r).2) w := by
 cases r with
 | tmp t =>
  have := hφ t
  simp only [jA, kp] at hr ⊢
  revert hr this
  cases σ.φ t with
  | is x => intro _ h; simp only [fits] at h; rw [h]; rfl
  | cnd b x =>
   intro hb h
   simp only at hb
   subst hb
   simp only [fits, cond_true] at h
   rw [h]; rfl
  | any => exact fun hf _ => hf.elim
 | cell t T =>
  have := hφ t
  simp only [jA, kp] at hr ⊢
  revert hr this
  split
  ·rename_i k o hk
   intro hr h
   rw [hk] at h
   simp only [fits] at h
   obtain ⟨ad, h1, h2⟩ := Rc hs hr
   rw [h, h1]
   simpa [asAddr] using h2
  ·exact fun hf _ => hf.elim
theorem Bo {E : Nat -> Value} {F : Nat -> List Nat} {a : Act} {w : World} (hφ : gm E σ.φ a) (hs : al W bs E F σ.h w) : ∀ (l : List ResultVar), (gT P W bs σ l).1 ->
  (l.mapM (kp a)).run P w = .ok (an E (gT P W bs σ l).2) w
 | [], _ => rfl
 | r :: l, h => by
  have h1 := G8 hφ hs r h.1
  have h2 := Bo hφ hs l h.2
  rw [List.mapM_cons]
  simp [h1, h2, gT, an]
theorem ie {E : Nat -> Value} {F : Nat -> List Nat} {a : Act} {w : World} {fn : Func} (hφ : gm E σ.φ a) (hs : al W bs E F σ.h w) (h : (gT P W bs σ fn.results.toList).1) :
  (results fn a.tmps).run P w = .ok (den E (jE (gT P W bs σ fn.results.toList).2)) w := by
 have h1 := Bo hφ hs fn.results.toList h
 have h2 : results fn a.tmps = ((Functor.map List.toArray (fn.results.toList.mapM (kp a))) >>= fun (vs : Array Value) => (pure (if h : vs.size = 1 then vs[0] else .tuple vs) : Sem Value)) := by
  rw [<- Array.mapM_eq_mapM_toList]
  unfold results
  congr 1
 rw [h2]
 have : ((Functor.map List.toArray (fn.results.toList.mapM (kp a))) >>= fun (vs : Array Value) => (pure (if h : vs.size = 1 then vs[0] else .tuple vs) : Sem Value)).run P w =
   .ok (den E (jE (gT P W bs σ fn.results.toList).2)) w := by
  simp only [map_eq_pure_bind, bind_assoc, pure_bind]
  simp [h1]
  generalize (gT P W bs σ fn.results.toList).2 = l
  match l with
  | [] => simp [an, jE, den]
  | [x] => simp [an, jE]
  | x :: y :: r => simp [an, jE, den]
 exact this
theorem jB {f : FuncId} {fn : Func} {c : Code} {args : Array Value} {w : World} {pins : List (Nat × Value)} {R : World -> List Nat -> SV -> Hp -> Prop} {RP : List PanicEntry -> Hp -> Prop}
  (hf : P.funcs[f]? = some fn) (hb : fn.body = some c)
  (hsat : Sat W bs nt ⟨[], pins⟩ σ { tmps := args ++ Array.replicate (fn.ntmps - args.size) undef, defers := [] } w)
  (h : Wp P W bs nt ⟨[], pins⟩ c (Fin P fn.results.toList R RP) σ) :
  Calls P f args w (Ends W bs pins R RP) := by
 refine calls_of_wp hf hb (wp_mono (h _ w hsat) fun e a' w' ⟨W', bs', σ', hx, hq, hs'⟩ => ?_)
 obtain ⟨⟨E, F, hφ, hh, hp⟩, hsz, hdf, _⟩ := hs'
 have ret : (gT P W' bs' σ' fn.results.toList).1 /\ R W' bs' (jE (gT P W' bs' σ' fn.results.toList).2) σ'.h -> a'.defers = [] /\ ∃ v, (results fn a'.tmps).run P w' = .ok v w' /\ Ends W bs pins R RP (.returned v) w' :=
  fun hq => ⟨hdf, _, ie hφ hh hq.1, W', bs', E, F, _, _, hx, hq.2, rfl, hh, hp⟩
 cases e with
 | normal => exact ret hq
 | ret => exact ret hq
 | panic ch => exact ⟨hdf, W', bs', E, F, _, hx, hq, hh, hp⟩
 | exit i => exact hq.elim
 | goto l => exact hq.elim
 | outgrown => exact hq.elim
theorem qC {κ : Nat} {E : Nat -> Value} {F : Nat -> List Nat} {h : Hp} {w : World} {f : FuncId} {args : Array Value} {r : R} {v : Value} (hs : al W bs E F h w)
  (hc : Calls P f args w fun e w' => e = .returned v /\ ai w [] w') (hv : v = den E r.val) (hu : r.bg = []) (hp : r.pan = none) :
  Good P W bs κ E h r (.ok (.enter f args) w) := by
 refine hc.mono fun e w' he => ?_
 obtain ⟨rfl, hk⟩ := he
 exact ⟨hp, E, F, fun _ _ => rfl, hv, by rw [hu]; exact hs.grow hk⟩
theorem vZ {κ : Nat} {E : Nat -> Value} {F : Nat -> List Nat} {h : Hp} {w : World} {K : Nat -> Prop} {f : FuncId} {args : Array Value} {r : R} {e : bm} (hs : al W bs E F h w)
  (hK : bI K h) (hk : ∀ k, k / 8 = κ -> ¬ K k)
  (hc : Calls P f args w fun en w' => ∃ v u fp, en = .returned v /\ (∀ E', bn E' u fp w' e) /\ (∀ b ∈ fp, w.heap.size <= b /\ b < w'.heap.size) /\ ai w [] w' /\ v = den (bg E (nk κ) u) r.val)
  (hu : r.bg = [(nk κ, some e)]) (hp : r.pan = none) :
  Good P W bs κ E h r (.ok (.enter f args) w) := by
 refine hc.mono fun en w' he => ?_
 obtain ⟨v, u, fp, rfl, hent, hfp, hkeep, hv⟩ := he
 refine ⟨hp, bg E (nk κ) u, bg F (nk κ) fp, fun k hk' => ak _ _ fun e => hk' (by subst e; exact aW κ), hv, ?_⟩
 rw [hu]
 exact hs.new hK (hk _ (aW κ)) (hent _) hfp hkeep
theorem Ct {κ k : Nat} {E : Nat -> Value} {F : Nat -> List Nat} {h : Hp} {w : World} {f : FuncId} {args : Array Value} {r : R} {e e' : bm} (hs : al W bs E F h w)
  (hk : h k = some e)
  (hc : Calls P f args w fun en w' => ∃ v fp, en = .returned v /\ bn E (E k) fp w' e' /\ (∀ b ∈ fp, b ∈ F k \/ w.heap.size <= b) /\ (∀ b ∈ fp, b < w'.heap.size) /\ ai w (F k) w' /\ v = den E r.val)
  (hu : r.bg = [(k, some e')]) (hp : r.pan = none) :
  Good P W bs κ E h r (.ok (.enter f args) w) := by
 refine hc.mono fun en w' he => ?_
 obtain ⟨v, fp, rfl, hent, hfp, hlt, hkeep, hv⟩ := he
 refine ⟨hp, E, bg F k fp, fun _ _ => rfl, hv, ?_⟩
 rw [hu]
 exact hs.WS hk hent hfp hlt hkeep
end
end
section
open Go.RowKit
section
variable {P : Program} {W : World} {bs : List Nat} {nt : Nat} {ds : Aux} {σ : St} {ops : Array Oper} (Γ : Env P)
def XZ (dst : Option Nat) (r : List Oper) (κ : Nat) (φ : Fr) (h : Hp) (s : S) : RG :=
 Ck s (mi Γ W bs nt ops r (κ + 1) (nX φ dst s.fv) (aZ h s.bg))
theorem TU (κ : Nat) (φ : Fr) (h : Hp) : mi Γ W bs nt ops [] κ φ h = ⟨True, κ, φ, h, [], [], []⟩ := rfl
theorem QC (o : Oper) (r : List Oper) (κ : Nat) (φ : Fr) (h : Hp) : mi Γ W bs nt ops (o :: r) κ φ h = XZ (W := W) (bs := bs) (nt := nt) (ops := ops) Γ o.dst r κ φ h (step Γ W bs nt ops κ φ h o) := rfl
theorem TE (dst : Option Nat) (r : List Oper) (κ : Nat) (φ : Fr) (h : Hp) (side : Prop) (fv : FV) (u : List (Nat × Option bm)) (pan : Option (List PanicEntry)) (pupd reads uk : List Nat) :
  XZ (W := W) (bs := bs) (nt := nt) (ops := ops) Γ dst r κ φ h ⟨side, fv, u, pan, pupd, reads, uk⟩ = Ck ⟨side, fv, u, pan, pupd, reads, uk⟩ (mi Γ W bs nt ops r (κ + 1) (nX φ dst fv) (aZ h u)) := rfl
theorem Ok (side side' : Prop) (n : Nat) (fv : FV) (u : List (Nat × Option bm)) (pan : Option (List PanicEntry)) (pupd reads uk lost : List Nat) (φ : Fr) (h : Hp) (pans : List (Option (List PanicEntry))) (fx : List (List Nat × List Nat)) :
  Ck ⟨side, fv, u, pan, pupd, reads, uk⟩ ⟨side', n, φ, h, pans, lost, fx⟩ = ⟨side /\ side', n, φ, h, pan :: pans, uk ++ pupd ++ lost, (uk, reads) :: fx⟩ := rfl
def Pr (Γ : Env P) (dst : Option Nat) (r : List Oper) (κ : Nat) (φ : Fr) (h : Hp) (s : S) : RP := match s.pan with
 | some c => ⟨s.side, some c, s.uk ++ s.pupd⟩
 | none => BX s (uF Γ W bs nt ops r (κ + 1) (nX φ dst s.fv) (aZ h s.bg))
theorem LK (o : Oper) (r : List Oper) (κ : Nat) (φ : Fr) (h : Hp) : uF Γ W bs nt ops (o :: r) κ φ h = Pr (W := W) (bs := bs) (nt := nt) (ops := ops) Γ o.dst r κ φ h (step Γ W bs nt ops κ φ h o) := rfl
theorem FL (dst : Option Nat) (r : List Oper) (κ : Nat) (φ : Fr) (h : Hp) (side : Prop) (fv : FV) (u : List (Nat × Option bm)) (c : List PanicEntry) (pupd reads uk : List Nat) :
  Pr (W := W) (bs := bs) (nt := nt) (ops := ops) Γ dst r κ φ h ⟨side, fv, u, some c, pupd, reads, uk⟩ = ⟨side, some c, uk ++ pupd⟩ := rfl
theorem G0 (dst : Option Nat) (r : List Oper) (κ : Nat) (φ : Fr) (h : Hp) (side : Prop) (fv : FV) (u : List (Nat × Option bm)) (pupd reads uk : List Nat) :
  Pr (W := W) (bs := bs) (nt := nt) (ops := ops) Γ dst r κ φ h ⟨side, fv, u, none, pupd, reads, uk⟩ = BX ⟨side, fv, u, none, pupd, reads, uk⟩ (uF Γ W bs nt ops r (κ + 1) (nX φ dst fv) (aZ h u)) := rfl
theorem Q5 (side side' : Prop) (fv : FV) (u : List (Nat × Option bm)) (pan : Option (List PanicEntry)) (pupd reads uk lost : List Nat) (c : Option (List PanicEntry)) :
  BX ⟨side, fv, u, pan, pupd, reads, uk⟩ ⟨side', c, lost⟩ = ⟨side /\ side', c, uk ++ pupd ++ lost⟩ := rfl
def cJ : Op -> Bool
 | .pick _ _ _ => true
 | _ => false
theorem Lx :
  (∀ (x : Operand), cJ (.move x) = false) /\
  (∀ (x : Operand), cJ (.assign x) = false) /\
  (∀ (elem : TypeId), cJ (.alloc elem) = false) /\
  (∀ (elem : TypeId) (v : Operand), cJ (.box elem v) = false) /\
  (∀ (t : TypeId) (parts : Array (Nat × Operand)), cJ (.build t parts) = false) /\
  (∀ (t : TypeId) (len : Nat) (parts : Array (Nat × Operand)), cJ (.buildSlice t len parts) = false) /\
  (∀ (t : TypeId) (addr : Operand), cJ (.load t addr) = false) /\
  (∀ (t : TypeId) (addr val : Operand), cJ (.store t addr val) = false) /\
  (∀ (x : Operand), cJ (.nilCheck x) = false) /\
  (∀ (op : BinOp) (xType : TypeId) (x y : Operand) (yType : TypeId), cJ (.binOp op xType x y yType) = false) /\
  (∀ (op : UnOp) (xType : TypeId) (x : Operand), cJ (.unOp op xType x) = false) /\
  (∀ (src dst : TypeId) (x : Operand), cJ (.convert src dst x) = false) /\
  (∀ (xType : TypeId) (x : Operand), cJ (.makeInterface xType x) = false) /\
  (∀ (fn : Fn) (first captured : Array Operand), cJ (.makeFunc fn first captured) = false) /\
  (∀ (t : TypeId) (len cap : Operand), cJ (.makeSlice t len cap) = false) /\
  (∀ (xType : TypeId) (x : Operand) (low high max : Option Operand), cJ (.slice xType x low high max) = false) /\
  (∀ (xType : TypeId) (x : Operand) (field : Nat), cJ (.fieldAddr xType x field) = false) /\
  (∀ (xType : TypeId) (x : Operand) (field : Nat), cJ (.field xType x field) = false) /\
  (∀ (xType : TypeId) (x index : Operand), cJ (.indexAddr xType x index) = false) /\
  (∀ (xType : TypeId) (x index : Operand), cJ (.index xType x index) = false) /\
  (∀ (x : Operand) (xType asserted : TypeId) (commaOk : Bool), cJ (.typeAssert x xType asserted commaOk) = false) /\
  (∀ (tuple : Operand) (index : Nat), cJ (.extract tuple index) = false) /\
  (∀ (c : Call), cJ (.call c) = false) /\
  (∀ (x : Operand), cJ (.panic x) = false) := by
 refine ⟨?_, ?_, ?_, ?_, ?_, ?_, ?_, ?_, ?_, ?_, ?_, ?_, ?_, ?_, ?_, ?_, ?_, ?_, ?_, ?_, ?_, ?_, ?_, ?_⟩ <;> (intros; rfl)
def sk (nt : Nat) : Option Nat -> Prop
 | some d => d < nt
 | none => True
theorem DI (d : Option Nat) : (∀ i, d = some i -> i < nt) = sk nt d := by
 cases d <;> simp [sk]
def JE (nt : Nat) (dst : Option Nat) (un : Bool) (p : Prop) (b : Bool) (q : Prop) (r : R) : S :=
 ⟨p /\ q /\ (b = true -> r.side) /\ sk nt dst, pZ un b r.val, bif b then r.bg else [], bif b then r.pan else none, r.pupd, r.reads, b8 r.bg⟩
def Jx (W : World) (bs : List Nat) (nt : Nat) (κ : Nat) (h : Hp) (dst : Option Nat) (un : Bool) (op : Op) (p : Prop) (b : Bool) (e : Prop × List SV) : S :=
 JE nt dst un p b e.1 (dB Γ W bs κ h op e.2)
def stepG (W : World) (bs : List Nat) (nt : Nat) (κ : Nat) (φ : Fr) (h : Hp) (dst : Option Nat) (un : Bool) (op : Op) (g : Prop × Bool) : S :=
 Jx Γ W bs nt κ h dst un op g.1 g.2 (mh φ g.2 op.operands.toList)
theorem S1 (κ : Nat) (φ : Fr) (h : Hp) (dst : Option Nat) (op : Op) (ty : TypeId) (pos : String) (after : Array Edge) (guard : Option (Nat × Bool)) (hop : cJ op = false) :
  step Γ W bs nt ops κ φ h ⟨dst, op, ty, pos, after, guard⟩ = stepG Γ W bs nt κ φ h dst guard.isNone op (gI φ ops guard) := by
 rw [dN Γ (by rintro c x y rfl; cases hop)]
 simp only [stepG, Jx, JE, DI]
theorem Q1 (κ : Nat) (φ : Fr) (h : Hp) (dst : Option Nat) (un : Bool) (op : Op) (p : Prop) (b : Bool) :
  stepG Γ W bs nt κ φ h dst un op (p, b) = Jx Γ W bs nt κ h dst un op p b (mh φ b op.operands.toList) := rfl
theorem Ra (κ : Nat) (h : Hp) (dst : Option Nat) (un : Bool) (op : Op) (p : Prop) (b : Bool) (q : Prop) (l : List SV) :
  Jx Γ W bs nt κ h dst un op p b (q, l) = JE nt dst un p b q (dB Γ W bs κ h op l) := rfl
theorem PL (dst : Option Nat) (un : Bool) (p : Prop) (b : Bool) (q side : Prop) (val : SV) (u : List (Nat × Option bm)) (pan : Option (List PanicEntry)) (pupd reads : List Nat) :
  JE nt dst un p b q ⟨side, val, u, pan, pupd, reads⟩ = ⟨p /\ q /\ (b = true -> side) /\ sk nt dst, pZ un b val, bif b then u else [], bif b then pan else none, pupd, reads, b8 u⟩ := rfl
def y9 (nt : Nat) (φ : Fr) (dst : Option Nat) (un : Bool) (x y : Operand) (p : Prop) (g : Bool) : Prop × SV -> S
 | (q, .v (.bool cb)) => ⟨p /\ q /\ (cb = true -> (lq φ (g && cb) x).1) /\ (cb = false -> (lq φ (g && !cb) y).1) /\ sk nt dst, pZ un g (rL cb (lq φ (g && cb) x).2 (lq φ (g && !cb) y).2), [], none, [], [], []⟩
 | _ => ⟨False, .any, [], none, [], [], []⟩
def PM (nt : Nat) (φ : Fr) (dst : Option Nat) (un : Bool) (c x y : Operand) (g : Prop × Bool) : S := y9 nt φ dst un x y g.1 g.2 (lq φ g.2 c)
theorem Ld (κ : Nat) (φ : Fr) (h : Hp) (dst : Option Nat) (c x y : Operand) (ty : TypeId) (pos : String) (after : Array Edge) (guard : Option (Nat × Bool)) :
  step Γ W bs nt ops κ φ h ⟨dst, .pick c x y, ty, pos, after, guard⟩ = PM nt φ dst guard.isNone c x y (gI φ ops guard) := by
 simp only [step, PM, DI]
 split
 ·rename_i cb hcb
  rw [show lq φ (gI φ ops guard).2 c = ((lq φ (gI φ ops guard).2 c).1, .v (.bool cb)) from by rw [<- hcb]]
  rfl
 ·rename_i hn
  unfold y9
  split
  ·rename_i q cb he
   exact absurd (by rw [he]) (hn cb)
  ·rfl
theorem Pb (φ : Fr) (dst : Option Nat) (un : Bool) (c x y : Operand) (p : Prop) (g : Bool) : PM nt φ dst un c x y (p, g) = y9 nt φ dst un x y p g (lq φ g c) := rfl
theorem ML (φ : Fr) (dst : Option Nat) (un : Bool) (x y : Operand) (p q : Prop) (g cb : Bool) : y9 nt φ dst un x y p g (q, .v (.bool cb)) =
  ⟨p /\ q /\ (cb = true -> (lq φ (g && cb) x).1) /\ (cb = false -> (lq φ (g && !cb) y).1) /\ sk nt dst, pZ un g (rL cb (lq φ (g && cb) x).2 (lq φ (g && !cb) y).2), [], none, [], [], []⟩ := rfl
def Yj (w : Bool) : FV -> Prop × SV
 | .is x => (True, x)
 | .cnd b x => (w = true -> b = true, x)
 | .any => (w = false, .v undef)
theorem Ut (φ : Fr) (w : Bool) (t : Nat) : lq φ w (.tmp t) = Yj w (φ t) := by
 simp only [lq, Yj]; cases φ t <;> rfl
theorem Wx (w : Bool) (x : SV) : Yj w (.is x) = (True, x) := rfl
theorem SO (w b : Bool) (x : SV) : Yj w (.cnd b x) = (w = true -> b = true, x) := rfl
theorem Ki (φ : Fr) (w : Bool) (v : Value) : lq φ w (.const v) = (True, .v v) := rfl
theorem Hz (φ : Fr) (w : Bool) (g : Nat) : lq φ w (.global g) = (True, .v (.pointer (some ⟨g, 0, none⟩))) := rfl
theorem Ou (φ : Fr) (w : Bool) (f : Nat) : lq φ w (.func f) = (True, .v (.func (.func f) #[] #[])) := rfl
def YJ : Prop × SV -> Prop × List SV -> Prop × List SV := fun a b => (a.1 /\ b.1, a.2 :: b.2)
theorem TM (φ : Fr) (w : Bool) : mh φ w [] = (True, []) := rfl
theorem Ro (φ : Fr) (w : Bool) (o : Operand) (r : List Operand) : mh φ w (o :: r) = YJ (lq φ w o) (mh φ w r) := rfl
theorem V3 (p q : Prop) (x : SV) (l : List SV) : YJ (p, x) (q, l) = (p /\ q, x :: l) := rfl
def P6 (want : Bool) : FV -> Prop × Bool
 | .is (.v (.bool b)) => (True, b == want)
 | .cnd c (.v (.bool b)) => (True, c && (b == want))
 | _ => (False, false)
def VA (φ : Fr) (want : Bool) : Option Nat -> Prop × Bool
 | some d => P6 want (φ d)
 | none => (False, false)
theorem O5 (φ : Fr) : gI φ ops none = (True, true) := rfl
theorem OY (φ : Fr) (j : Nat) (want : Bool) : gI φ ops (some (j, want)) = VA φ want ((ops[j]?).bind (·.dst)) := by
 simp only [gI, VA]
 cases (ops[j]?).bind (·.dst) with
 | none => rfl
 | some d => simp only [P6]; split <;> simp_all
theorem ME (φ : Fr) (want : Bool) (d : Nat) : VA φ want (some d) = P6 want (φ d) := rfl
theorem TN (want b : Bool) : P6 want (.is (.v (.bool b))) = (True, b == want) := rfl
theorem Rz (want b c : Bool) : P6 want (.cnd c (.v (.bool b))) = (True, c && (b == want)) := rfl
theorem SZ (w : Bool) (x : SV) : pZ true w x = .is x := rfl
theorem VZ (w : Bool) (x : SV) : pZ false w x = .cnd w x := rfl
theorem HG (c a b : Bool) : rL c (.v (.bool a)) (.v (.bool b)) = .v (.bool (bif c then a else b)) := rfl
theorem Rw {α : Type} (f : Nat -> α) (k : Nat) (x : α) (j : Nat) : bg f k x j = if j = k then x else f j := rfl
theorem L2 (φ : Fr) (d : Nat) (x : FV) : nX φ (some d) x = bg φ d x := rfl
theorem Kn (φ : Fr) (x : FV) : nX φ none x = φ := rfl
theorem Og {α : Type} (f : Nat -> α) : aZ f [] = f := rfl
theorem Mp {α : Type} (f : Nat -> α) (k : Nat) (x : α) (r : List (Nat × α)) : aZ f ((k, x) :: r) = aZ (bg f k x) r := rfl
theorem R8 (t : Nat) : bQ [] t = .any := rfl
theorem OQ (t k : Nat) (x : FV) (r : List (Nat × FV)) : bQ ((k, x) :: r) t = if t = k then x else bQ r t := rfl
theorem Sy (t : Nat) : bY [] t = none := rfl
theorem PA (t k : Nat) (x : bm) (r : List (Nat × bm)) : bY ((k, x) :: r) t = if t = k then some x else bY r t := rfl
theorem EP (n d : Nat) : sk n (some d) = (d < n) := rfl
theorem Hk (n : Nat) : sk n none = True := rfl
section
variable {κ : Nat} {h : Hp}
theorem RF (o : Operand) (x : SV) : dB Γ W bs κ h (.move o) [x] = .ok x := rfl
theorem FG (o : Operand) (x : SV) : dB Γ W bs κ h (.assign o) [x] = .ok x := rfl
theorem LG (T : TypeId) : dB Γ W bs κ h (.alloc T) [] = gh P κ T := rfl
theorem S4 (T : TypeId) (o : Operand) (l : List SV) : dB Γ W bs κ h (.box T o) l = qK κ T l := rfl
theorem Mt (T : TypeId) (ps : Array (Nat × Operand)) (l : List SV) : dB Γ W bs κ h (.build T ps) l = df P T (ps.toList.map (·.1)) l := rfl
theorem vQ (T : TypeId) (n : Nat) (ps : Array (Nat × Operand)) (l : List SV) : dB Γ W bs κ h (.buildSlice T n ps) l = bj P κ T n (ps.toList.map (·.1)) l := rfl
theorem Q8 (T : TypeId) (o : Operand) (l : List SV) : dB Γ W bs κ h (.load T o) l = di P W bs h T l := rfl
theorem MO (T : TypeId) (o o' : Operand) (l : List SV) : dB Γ W bs κ h (.store T o o') l = gf P h T l := rfl
theorem y8 (o : Operand) (l : List SV) : dB Γ W bs κ h (.nilCheck o) l = da h l := rfl
theorem Me (op : BinOp) (T : TypeId) (x y : Operand) (r : TypeId) (l : List SV) : dB Γ W bs κ h (.binOp op T x y r) l = bE P Γ.eqs h op T x y l := rfl
theorem QI (op : UnOp) (T : TypeId) (x : Operand) (l : List SV) : dB Γ W bs κ h (.unOp op T x) l = qi op l := rfl
theorem CD (a b : TypeId) (x : Operand) (l : List SV) : dB Γ W bs κ h (.convert a b x) l = fy P h a b l := rfl
theorem wy (T : TypeId) (x y : Operand) (l : List SV) : dB Γ W bs κ h (.makeSlice T x y) l = ka P κ T l := rfl
theorem J3 (x : Operand) (l : List SV) : dB Γ W bs κ h (.panic x) l = jS l := rfl
theorem pD (T : TypeId) (o : Operand) (l : List SV) : dB Γ W bs κ h (.makeInterface T o) l = lL P T l := rfl
theorem Mk (T : TypeId) (o : Operand) (lo hi mx : Option Operand) (l : List SV) : dB Γ W bs κ h (.slice T o lo hi mx) l = dZ P κ h T lo.isSome hi.isSome mx.isSome l := rfl
theorem Fo (T : TypeId) (lo hi mx : Bool) (x : Value) (r : List SV) : dZ P κ h T lo hi mx (.v x :: r) = cQ P T lo hi mx (.v x :: r) := rfl
theorem wY (T : TypeId) (o : Operand) (f : Nat) (l : List SV) : dB Γ W bs κ h (.fieldAddr T o f) l = cf P h T f l := rfl
theorem Kw (T : TypeId) (o : Operand) (f : Nat) (l : List SV) : dB Γ W bs κ h (.field T o f) l = fD P T f l := rfl
theorem wO (T : TypeId) (o i : Operand) (l : List SV) : dB Γ W bs κ h (.indexAddr T o i) l = bo P h T l := rfl
theorem J7 (T : TypeId) (o i : Operand) (l : List SV) : dB Γ W bs κ h (.index T o i) l = eF P T l := rfl
theorem BV (o : Operand) (i : Nat) (l : List SV) : dB Γ W bs κ h (.extract o i) l = dQ i l := rfl
theorem T3 (as_ : Array Operand) (T : TypeId) (l : List SV) : dB Γ W bs κ h (.call { callee := .builtin .len, args := as_, argTypes := #[T] }) l = gR P h T l := rfl
theorem HN (as_ : Array Operand) (tys : Array TypeId) (l : List SV) : dB Γ W bs κ h (.call { callee := .builtin .append, args := as_, argTypes := tys }) l = et P W bs κ h tys.toList l := rfl
theorem Ov (f : Operand) (as_ : Array Operand) (tys : Array TypeId) (l : List SV) : dB Γ W bs κ h (.call { callee := .value f, args := as_, argTypes := tys }) l = iX Γ W bs κ h l := rfl
theorem Gj (f : Operand) (n : String) (as_ : Array Operand) (tys : Array TypeId) (l : List SV) : dB Γ W bs κ h (.call { callee := .invoke f n, args := as_, argTypes := tys }) l = gS Γ W bs κ h n l := rfl
theorem Lg (f : FuncId) (first cap : Array Value) (rest : List SV) : iX Γ W bs κ h (.v (.func (.func f) first cap) :: rest) = lS Γ W bs κ h f (first.toList.map .v ++ rest ++ cap.toList.map .v) := rfl
end
theorem XW (k : Nat) (e : bm) (x : SV) : R.new k e x = ⟨True, x, [(k, some e)], none, [], []⟩ := rfl
theorem Yu (x : SV) : R.ok x = ⟨True, x, [], none, [], []⟩ := rfl
theorem Xc (p : Prop) (x : SV) : R.fI p x = ⟨p, x, [], none, [], []⟩ := rfl
theorem Xw (n : Nat) : nk n = 8 * n := rfl
theorem KJ {α : Type} : b8 ([] : List (Nat × α)) = [] := rfl
theorem G6 {α : Type} (k : Nat) (x : α) (r : List (Nat × α)) : b8 ((k, x) :: r) = k :: b8 r := rfl
theorem Dl (l : List SV) : partsOf (.agg l) = l := rfl
theorem zR (cs : Array Value) : partsOf (.v (.agg cs)) = cs.toList.map .v := rfl
theorem CR (k : IntKind) (n : Int) : partsOf (.v (.int k n)) = [.v (.int k n)] := rfl
theorem uz (b : ByteArray) : partsOf (.v (.string b)) = [.v (.string b)] := rfl
theorem yV (b : Bool) : partsOf (.v (.bool b)) = [.v (.bool b)] := rfl
theorem wN (a : Option Addr) (n c : Nat) : partsOf (.v (.slice a n c)) = [.v (.slice a n c)] := rfl
theorem sA (a : Option Addr) : partsOf (.v (.pointer a)) = [.v (.pointer a)] := rfl
theorem wH (t : TypeId) (x : Value) : partsOf (.v (.iface t x)) = [.v (.iface t x)] := rfl
theorem qy : partsOf (.v .nilIface) = [.v .nilIface] := rfl
theorem D8 (k o : Nat) : partsOf (.own k o) = [.own k o] := rfl
theorem Gw (k : Nat) : partsOf (.hd k) = [.hd k] := rfl
theorem A6 (k i : Nat) : partsOf (.part k i) = [.part k i] := rfl
theorem B2 (t : TypeId) (x : SV) : partsOf (.ifc t x) = [.ifc t x] := rfl
theorem Kq (k : IntKind) (n : Int) : cu (.v (.int k n)) = true := rfl
theorem A8 (b : ByteArray) : cu (.v (.string b)) = true := rfl
theorem Fi (b : Bool) : cu (.v (.bool b)) = true := rfl
theorem BP (a : Option Addr) (n c : Nat) : cu (.v (.slice a n c)) = true := rfl
theorem w8 (a : Option Addr) : cu (.v (.pointer a)) = true := rfl
theorem B1 (t : TypeId) (x : Value) : cu (.v (.iface t x)) = true := rfl
theorem tC : cu (.v .nilIface) = true := rfl
theorem Lf (k o : Nat) : cu (.own k o) = true := rfl
theorem Re (k : Nat) : cu (.hd k) = true := rfl
theorem EN (k i : Nat) : cu (.part k i) = true := rfl
theorem L1 (t : TypeId) (x : SV) : cu (.ifc t x) = true := rfl
theorem DB (T : TypeId) (vs : List SV) : b6 (some (.cells T vs)) = some vs := rfl
theorem Mb (T : TypeId) (s n : Nat) (vs : List SV) : b6 (some (.row T s n vs)) = some vs := rfl
theorem zq (T : TypeId) (vs : List SV) (o : Nat) (ps : List SV) : nf (some (.cells T vs)) o ps = some (.cells T (ae vs o ps)) := rfl
theorem GK (T : TypeId) (s n : Nat) (vs : List SV) (o : Nat) (ps : List SV) : nf (some (.row T s n vs)) o ps = some (.row T s n (ae vs o ps)) := rfl
section
variable {κ : Nat} {h : Hp}
def FZ (κ : Nat) (T : TypeId) : Option (List Value) -> R
 | some zs => ⟨True, .own (8 * κ) 0, [(8 * κ, some (.cells T (zs.map .v)))], none, [], []⟩
 | none => .bad
theorem Cl (T : TypeId) : gh P κ T = FZ κ T (tz P T) := by simp only [gh]; unfold FZ; cases tz P T <;> rfl
theorem DC (T : TypeId) (zs : List Value) : FZ κ T (some zs) = ⟨True, .own (8 * κ) 0, [(8 * κ, some (.cells T (zs.map .v)))], none, [], []⟩ := rfl
theorem MJ (T : TypeId) (x : SV) : qK κ T [x] = ⟨True, .own (8 * κ) 0, [(8 * κ, some (.cells T (partsOf x)))], none, [], []⟩ := rfl
def H7 (o k : Nat) : Option Nat -> Option Bool -> Option (List SV) -> R
 | some sz, some true, some vs => ⟨o + sz <= vs.length /\ 0 < sz, .agg ((vs.drop o).take sz), [], none, [], [k]⟩
 | some _, some false, some vs => ⟨o < vs.length, vs.getD o (.v undef), [], none, [], [k]⟩
 | _, _, _ => .bad
theorem DU (T : TypeId) (k o : Nat) : di P W bs h T [.own k o] = H7 o k (ts P T) (ta P T) (b6 (h k)) := by
 simp only [di]; unfold H7
 rcases ts P T with _ | sz <;> rcases ta P T with _ | _ | _ <;> rcases b6 (h k) with _ | vs <;> rfl
theorem MK (o k sz : Nat) (vs : List SV) : H7 o k (some sz) (some true) (some vs) = ⟨o + sz <= vs.length /\ 0 < sz, .agg ((vs.drop o).take sz), [], none, [], [k]⟩ := rfl
theorem MB (o k sz : Nat) (vs : List SV) : H7 o k (some sz) (some false) (some vs) = ⟨o < vs.length, vs.getD o (.v undef), [], none, [], [k]⟩ := rfl
def IT (W : World) (bs : List Nat) (b o : Nat) : Option Nat -> Option Bool -> R
 | some sz, some true => ⟨b ∉ bs /\ cY W b o sz, .agg (bx W b o sz), [], none, [], []⟩
 | some _, some false => ⟨b ∉ bs /\ (W.cell? ⟨b, o, none⟩).isSome = true, .v ((W.cell? ⟨b, o, none⟩).getD undef), [], none, [], []⟩
 | _, _ => .bad
theorem CY (T : TypeId) (b o : Nat) : di P W bs h T [.v (.pointer (some ⟨b, o, none⟩))] = IT W bs b o (ts P T) (ta P T) := by
 simp only [di]; unfold IT
 rcases ts P T with _ | sz <;> rcases ta P T with _ | _ | _ <;> rfl
theorem KE (b o sz : Nat) : IT W bs b o (some sz) (some true) = ⟨b ∉ bs /\ cY W b o sz, .agg (bx W b o sz), [], none, [], []⟩ := rfl
theorem Lb (b o sz : Nat) : IT W bs b o (some sz) (some false) = ⟨b ∉ bs /\ (W.cell? ⟨b, o, none⟩).isSome = true, .v ((W.cell? ⟨b, o, none⟩).getD undef), [], none, [], []⟩ := rfl
theorem Dg (b o : Nat) : bx W b o 0 = [] := rfl
theorem BI (b o n : Nat) : bx W b o (n + 1) = .v ((W.cell? ⟨b, o, none⟩).getD undef) :: bx W b (o + 1) n := rfl
theorem BD (b o : Nat) : cY W b o 0 = True := rfl
theorem C3 (b o n : Nat) : cY W b o (n + 1) = ((W.cell? ⟨b, o, none⟩).isSome = true /\ cY W b (o + 1) n) := rfl
def F4 (e : Option bm) (k o : Nat) (x : SV) : Option Nat -> Option (List SV) -> R
 | some sz, some vs => ⟨(partsOf x).length = sz /\ o + sz <= vs.length /\ (0 < sz \/ Yn e = true) /\ (partsOf x).all cu = true, .v undef, [(k, nf e o (partsOf x))], none, [], [k]⟩
 | _, _ => .bad
theorem zp (T : TypeId) (k o : Nat) (x : SV) : gf P h T [.own k o, x] = F4 (h k) k o x (ts P T) (b6 (h k)) := by
 simp only [gf]; unfold F4
 rcases ts P T with _ | sz <;> rcases b6 (h k) with _ | vs <;> rfl
theorem DF (e : Option bm) (k o sz : Nat) (x : SV) (vs : List SV) : F4 e k o x (some sz) (some vs) = ⟨(partsOf x).length = sz /\ o + sz <= vs.length /\ (0 < sz \/ Yn e = true) /\ (partsOf x).all cu = true, .v undef, [(k, nf e o (partsOf x))], none, [], [k]⟩ := rfl
theorem KV (T : TypeId) (vs : List SV) : Yn (some (.cells T vs)) = true := rfl
def Ys (k o : Nat) : Option (Nat × Nat × Bool) -> Option (List SV) -> R
 | some (off, sz, _), some vs => ⟨0 < sz /\ o < vs.length, .own k (o + off), [], none, [], [k]⟩
 | _, _ => .bad
theorem q7 (T : TypeId) (f k o : Nat) : cf P h T f [.own k o] = Ys k o (tf P T f) (b6 (h k)) := by
 simp only [cf]; unfold Ys
 rcases tf P T f with _ | ⟨a, b, c⟩ <;> rcases b6 (h k) with _ | vs <;> rfl
theorem Qy (k o off sz : Nat) (ag : Bool) (vs : List SV) : Ys k o (some (off, sz, ag)) (some vs) = ⟨0 < sz /\ o < vs.length, .own k (o + off), [], none, [], [k]⟩ := rfl
def YT (b o : Nat) : Option (Nat × Nat × Bool) -> R
 | some (off, sz, _) => ⟨0 < sz, .v (.pointer (some ⟨b, o + off, none⟩)), [], none, [], []⟩
 | _ => .bad
theorem q8 (T : TypeId) (f b o : Nat) : cf P h T f [.v (.pointer (some ⟨b, o, none⟩))] = YT b o (tf P T f) := by
 simp only [cf]; unfold YT
 rcases tf P T f with _ | ⟨a, b, c⟩ <;> rfl
theorem NN (b o off sz : Nat) (ag : Bool) : YT b o (some (off, sz, ag)) = ⟨0 < sz, .v (.pointer (some ⟨b, o + off, none⟩)), [], none, [], []⟩ := rfl
def rp (l : List SV) : Option (Nat × Nat × Bool) -> R
 | some (off, sz, ag) => eu ag off sz l
 | none => .bad
theorem zn (T : TypeId) (f : Nat) (l : List SV) : fD P T f [.agg l] = rp l (tf P T f) := by
 simp only [fD]; unfold rp
 rcases tf P T f with _ | ⟨a, b, c⟩ <;> rfl
theorem wQ (T : TypeId) (f : Nat) (cs : Array Value) : fD P T f [.v (.agg cs)] = rp (cs.toList.map .v) (tf P T f) := by
 simp only [fD]; unfold rp
 rcases tf P T f with _ | ⟨a, b, c⟩ <;> rfl
theorem FT (l : List SV) (off sz : Nat) : rp l (some (off, sz, true)) = ⟨off + sz <= l.length, .agg ((l.drop off).take sz), [], none, [], []⟩ := rfl
theorem HU (l : List SV) (off sz : Nat) : rp l (some (off, sz, false)) = ⟨off < l.length, l.getD off (.v undef), [], none, [], []⟩ := rfl
theorem u9 (i : Nat) (l : List SV) : dQ i [.tup l] = ⟨i < l.length, l.getD i (.v undef), [], none, [], []⟩ := rfl
theorem sO (i : Nat) (vs : Array Value) : dQ i [.v (.tuple vs)] = ⟨i < vs.size, .v (vs.getD i undef), [], none, [], []⟩ := rfl
theorem Eh (eqs : (T : TypeId) -> Option (EqSpec P T)) (T : TypeId) (k k' : IntKind) (a b : Int) : aP P eqs .shl T [.v (.int k a), .v (.int k' b)] = ⟨0 <= b, .v (.int k (k.wrap (a * 2 ^ (min b.toNat k.bits)))), [], none, [], []⟩ := rfl
theorem Er (eqs : (T : TypeId) -> Option (EqSpec P T)) (T : TypeId) (k k' : IntKind) (a b : Int) : aP P eqs .shr T [.v (.int k a), .v (.int k' b)] = ⟨0 <= b, .v (.int k (a.fdiv (2 ^ (min b.toNat k.bits)))), [], none, [], []⟩ := rfl
theorem Gd (eqs : (T : TypeId) -> Option (EqSpec P T)) (T : TypeId) (k : IntKind) (a b : Int) :
  aP P eqs .add T [.v (.int k a), .v (.int k b)] = ⟨True, .v (.int k (k.wrap (a + b))), [], none, [], []⟩ /\
  aP P eqs .sub T [.v (.int k a), .v (.int k b)] = ⟨True, .v (.int k (k.wrap (a - b))), [], none, [], []⟩ /\
  aP P eqs .mul T [.v (.int k a), .v (.int k b)] = ⟨True, .v (.int k (k.wrap (a * b))), [], none, [], []⟩ /\
  aP P eqs .quo T [.v (.int k a), .v (.int k b)] = ⟨b ≠ 0, .v (.int k (k.wrap (a.tdiv b))), [], none, [], []⟩ /\
  aP P eqs .rem T [.v (.int k a), .v (.int k b)] = ⟨b ≠ 0, .v (.int k (a.tmod b)), [], none, [], []⟩ /\
  aP P eqs .and T [.v (.int k a), .v (.int k b)] = ⟨True, .v (.int k (bX .and k a b)), [], none, [], []⟩ /\
  aP P eqs .or T [.v (.int k a), .v (.int k b)] = ⟨True, .v (.int k (bX .or k a b)), [], none, [], []⟩ /\
  aP P eqs .xor T [.v (.int k a), .v (.int k b)] = ⟨True, .v (.int k (bX .xor k a b)), [], none, [], []⟩ /\
  aP P eqs .eql T [.v (.int k a), .v (.int k b)] = ⟨True, .v (.bool (decide (a = b))), [], none, [], []⟩ /\
  aP P eqs .neq T [.v (.int k a), .v (.int k b)] = ⟨True, .v (.bool (!decide (a = b))), [], none, [], []⟩ /\
  aP P eqs .lss T [.v (.int k a), .v (.int k b)] = ⟨True, .v (.bool (decide (a < b))), [], none, [], []⟩ /\
  aP P eqs .leq T [.v (.int k a), .v (.int k b)] = ⟨True, .v (.bool (decide (a <= b))), [], none, [], []⟩ /\
  aP P eqs .gtr T [.v (.int k a), .v (.int k b)] = ⟨True, .v (.bool (decide (b < a))), [], none, [], []⟩ /\
  aP P eqs .geq T [.v (.int k a), .v (.int k b)] = ⟨True, .v (.bool (decide (b <= a))), [], none, [], []⟩ := by
 simp [aP, wD, R.fI]
theorem F1 (eqs : (T : TypeId) -> Option (EqSpec P T)) (T : TypeId) (a b : ByteArray) :
  aP P eqs .add T [.v (.string a), .v (.string b)] = ⟨a.size + b.size <= 9223372036854775807, .v (.string (a ++ b)), [], none, [], []⟩ /\
  aP P eqs .eql T [.v (.string a), .v (.string b)] = ⟨True, .v (.bool (decide (a = b))), [], none, [], []⟩ /\
  aP P eqs .neq T [.v (.string a), .v (.string b)] = ⟨True, .v (.bool (!decide (a = b))), [], none, [], []⟩ /\
  aP P eqs .lss T [.v (.string a), .v (.string b)] = ⟨True, .v (.bool (Op.bytesLess a.toList b.toList)), [], none, [], []⟩ /\
  aP P eqs .gtr T [.v (.string a), .v (.string b)] = ⟨True, .v (.bool (!(Op.bytesLess a.toList b.toList || decide (a = b)))), [], none, [], []⟩ := by
 simp [aP, Mw, R.fI]
theorem B7 (eqs : (T : TypeId) -> Option (EqSpec P T)) (T : TypeId) (a b : Bool) :
  aP P eqs .eql T [.v (.bool a), .v (.bool b)] = ⟨P.underlying T = some .bool, .v (.bool (a == b)), [], none, [], []⟩ /\
  aP P eqs .neq T [.v (.bool a), .v (.bool b)] = ⟨P.underlying T = some .bool, .v (.bool (!(a == b))), [], none, [], []⟩ := ⟨rfl, rfl⟩
def cI : List SV -> Option (List Value)
 | [] => some []
 | .v x :: r => (cI r).map (x :: ·)
 | _ => none
theorem jF : ∀ l : List SV, mC (.agg l) = cI l
 | [] => rfl
 | x :: r => by
  have ih := jF r
  simp only [mC] at ih ⊢
  rw [List.mapM_cons, ih]
  cases x <;> simp [cI] <;> cases cI r <;> rfl
theorem vD (cs : Array Value) : mC (.v (.agg cs)) = some cs.toList := rfl
theorem Lo : cI [] = some [] := rfl
theorem G4 (x : Value) (r : List SV) : cI (.v x :: r) = (cI r).map (x :: ·) := rfl
def M7 {T : TypeId} (neg : Bool) : Option (List Value) -> Option (List Value) -> Option (EqSpec P T) -> R
 | some xs, some ys, some e => ⟨(e.f xs ys).isSome = true, .v (.bool (neg ^^ (e.f xs ys).getD false)), [], none, [], []⟩
 | _, _, _ => .bad
theorem E7 (eqs : (T : TypeId) -> Option (EqSpec P T)) (T : TypeId) (l l' : List SV) :
  aP P eqs .eql T [.agg l, .agg l'] = M7 false (cI l) (cI l') (eqs T) /\ aP P eqs .neq T [.agg l, .agg l'] = M7 true (cI l) (cI l') (eqs T) := by
 simp only [aP, jF, vD]
 constructor <;> (unfold M7; rcases cI l with _ | xs <;> rcases cI l' with _ | ys <;> rcases eqs T with _ | e <;> simp [R.fI])
theorem C1 (eqs : (T : TypeId) -> Option (EqSpec P T)) (T : TypeId) (cs cs' : Array Value) :
  aP P eqs .eql T [.v (.agg cs), .v (.agg cs')] = M7 false (some cs.toList) (some cs'.toList) (eqs T) /\ aP P eqs .neq T [.v (.agg cs), .v (.agg cs')] = M7 true (some cs.toList) (some cs'.toList) (eqs T) := by
 simp only [aP, jF, vD]
 refine ⟨?_, ?_⟩ <;> (unfold M7; rcases eqs T with _ | e <;> simp [R.fI])
theorem BH (eqs : (T : TypeId) -> Option (EqSpec P T)) (T : TypeId) (cs : Array Value) (l : List SV) :
  aP P eqs .eql T [.v (.agg cs), .agg l] = M7 false (some cs.toList) (cI l) (eqs T) /\ aP P eqs .neq T [.v (.agg cs), .agg l] = M7 true (some cs.toList) (cI l) (eqs T) /\
  aP P eqs .eql T [.agg l, .v (.agg cs)] = M7 false (cI l) (some cs.toList) (eqs T) /\ aP P eqs .neq T [.agg l, .v (.agg cs)] = M7 true (cI l) (some cs.toList) (eqs T) := by
 simp only [aP, jF, vD]
 refine ⟨?_, ?_, ?_, ?_⟩ <;> (unfold M7; rcases cI l with _ | xs <;> rcases eqs T with _ | e <;> simp [R.fI])
theorem Qo {T : TypeId} (neg : Bool) (xs ys : List Value) (e : EqSpec P T) : M7 neg (some xs) (some ys) (some e) = ⟨(e.f xs ys).isSome = true, .v (.bool (neg ^^ (e.f xs ys).getD false)), [], none, [], []⟩ := rfl
theorem JT (b : Bool) : qi .not [.v (.bool b)] = ⟨True, .v (.bool (!b)), [], none, [], []⟩ := rfl
theorem KK (k : IntKind) (n : Int) : qi .neg [.v (.int k n)] = ⟨True, .v (.int k (k.wrap (0 - n))), [], none, [], []⟩ := rfl
theorem HK (T : TypeId) (s : ByteArray) : gR P h T [.v (.string s)] = ⟨P.underlying T = some .string, .v (.int .i64 s.size), [], none, [], []⟩ := rfl
theorem Aj (T : TypeId) (a : Option Addr) (n c : Nat) : gR P h T [.v (.slice a n c)] = ⟨∃ e, P.underlying T = some (.slice e), .v (.int .i64 n), [], none, [], []⟩ := rfl
def WB (P : Program) (T : TypeId) (k : Nat) : Option bm -> R
 | some (.row _ _ n _) => ⟨∃ e, P.underlying T = some (.slice e), .v (.int .i64 n), [], none, [], [k]⟩
 | _ => .bad
theorem LS (T : TypeId) (k : Nat) : gR P h T [.hd k] = WB P T k (h k) := by
 simp only [gR]; unfold WB
 rcases h k with _ | e
 ·rfl
 ·cases e <;> rfl
theorem OR (T T' : TypeId) (k s n : Nat) (vs : List SV) : WB P T k (some (.row T' s n vs)) = ⟨∃ e, P.underlying T = some (.slice e), .v (.int .i64 n), [], none, [], [k]⟩ := rfl
def YP (P : Program) (k : Nat) (i : Int) : Option TypeDesc -> Option bm -> R
 | some (.slice e), some (.row _ size n _) => ⟨ts P e = some size /\ 0 <= i /\ i < n /\ 0 < size, .own k (i.toNat * size), [], none, [], [k]⟩
 | _, _ => .bad
theorem sH (T : TypeId) (k : Nat) (ik : IntKind) (i : Int) : bo P h T [.hd k, .v (.int ik i)] = YP P k i (P.underlying T) (h k) := by
 simp only [bo]; unfold YP
 rcases P.underlying T with _ | d <;> rcases h k with _ | e
 ·rfl
 ·cases e <;> rfl
 ·cases d <;> rfl
 ·cases d <;> cases e <;> rfl
theorem NL (e e' : TypeId) (k size n : Nat) (i : Int) (vs : List SV) : YP P k i (some (.slice e)) (some (.row e' size n vs)) = ⟨ts P e = some size /\ 0 <= i /\ i < n /\ 0 < size, .own k (i.toNat * size), [], none, [], [k]⟩ := rfl
def Y1 (b o n : Nat) (i : Int) : Option Nat -> R
 | some sz => ⟨0 <= i /\ i < n, .v (.pointer (some ⟨b, o + i.toNat * sz, none⟩)), [], none, [], []⟩
 | none => .bad
def U7 (P : Program) (b o n : Nat) (i : Int) : Option TypeDesc -> R
 | some (.slice e) => Y1 b o n i (ts P e)
 | _ => .bad
theorem qF (T : TypeId) (b o n c : Nat) (ik : IntKind) (i : Int) : bo P h T [.v (.slice (some ⟨b, o, none⟩) n c), .v (.int ik i)] = U7 P b o n i (P.underlying T) := by
 simp only [bo]; unfold U7
 rcases P.underlying T with _ | d
 ·rfl
 ·cases d <;> rfl
theorem Ml (e : TypeId) (b o n : Nat) (i : Int) : U7 P b o n i (some (.slice e)) = Y1 b o n i (ts P e) := rfl
def Yi (b o : Nat) (i : Int) (n : Nat) : Option Nat -> R
 | some sz => ⟨0 <= i /\ i < n /\ 1 < n, .v (.pointer (some ⟨b, o + i.toNat * sz, none⟩)), [], none, [], []⟩
 | none => .bad
def YQ (P : Program) (b o : Nat) (i : Int) : Option TypeDesc -> R
 | some (.array n e) => Yi b o i n (ts P e)
 | _ => .bad
theorem rr (T : TypeId) (b o : Nat) (ik : IntKind) (i : Int) : bo P h T [.v (.pointer (some ⟨b, o, none⟩)), .v (.int ik i)] = YQ P b o i (P.underlying T) := by
 simp only [bo]; unfold YQ
 rcases P.underlying T with _ | d
 ·rfl
 ·cases d
  case array n e => unfold Yi; cases ts P e <;> rfl
  all_goals rfl
theorem Mg (b o n : Nat) (i : Int) (e : TypeId) : YQ P b o i (some (.array n e)) = Yi b o i n (ts P e) := rfl
theorem Pv (b o n sz : Nat) (i : Int) : Yi b o i n (some sz) = ⟨0 <= i /\ i < n /\ 1 < n, .v (.pointer (some ⟨b, o + i.toNat * sz, none⟩)), [], none, [], []⟩ := rfl
theorem OB (b o n : Nat) (i : Int) (sz : Nat) : Y1 b o n i (some sz) = ⟨0 <= i /\ i < n, .v (.pointer (some ⟨b, o + i.toNat * sz, none⟩)), [], none, [], []⟩ := rfl
theorem yU (T : TypeId) (s : ByteArray) (ik : IntKind) (i : Int) : eF P T [.v (.string s), .v (.int ik i)] = ⟨P.underlying T = some .string /\ 0 <= i /\ i < s.size, .v (.int .u8 (bt s i)), [], none, [], []⟩ := rfl
theorem zw (T : TypeId) (s : ByteArray) (k k' : IntKind) (a b : Int) : cQ P T true true false [.v (.string s), .v (.int k a), .v (.int k' b)] = ⟨P.underlying T = some .string /\ 0 <= a /\ a <= b /\ b <= s.size, .v (.string (s.extract a.toNat b.toNat)), [], none, [], []⟩ := by
 simp [cQ, gV, lk, R.fI]
theorem y5 (T : TypeId) (s : ByteArray) (k : IntKind) (a : Int) : cQ P T true false false [.v (.string s), .v (.int k a)] = ⟨P.underlying T = some .string /\ 0 <= a /\ a <= s.size, .v (.string (s.extract a.toNat s.size)), [], none, [], []⟩ := by
 simp [cQ, gV, lk, R.fI]
theorem A4 (T : TypeId) (s : ByteArray) (k' : IntKind) (b : Int) : cQ P T false true false [.v (.string s), .v (.int k' b)] = ⟨P.underlying T = some .string /\ 0 <= b /\ b <= s.size, .v (.string (s.extract 0 b.toNat)), [], none, [], []⟩ := by
 simp [cQ, gV, lk, R.fI]
theorem sK (a : Addr) : da h [.v (.pointer (some a))] = ⟨True, .v (.pointer (some a)), [], none, [], []⟩ := rfl
theorem NB (T : TypeId) (x : Value) : lL P T [.v x] = ⟨P.concrete T = true, .v (.iface T x), [], none, [], []⟩ := rfl
end
end
end
section
def Zs := (ab @TU (ab @QC (ab @TE (ab @Ok (ab @Lx (ab @S1 (ab @Q1 (ab @Ra (ab @PL (ab @Ld (ab @Pb (ab @ML (ab @Ut (ab @Wx (ab @SO (ab @Ki (ab @Hz (ab @Ou (ab @TM (ab @Ro (ab @V3 (ab @O5 (ab @OY (ab @ME (ab @TN (ab @Rz (ab @SZ (ab @VZ (ab @HG (ab @Rw (ab @L2 (ab @Kn (ab @Og (ab @Mp (ab @R8 (ab @OQ (ab @Sy (ab @PA (ab @EP (ab @Hk (ab @RF (ab @FG (ab @LG (ab @S4 (ab @Mt (ab @vQ (ab @Q8 (ab @MO (ab @y8 (ab @Me @QI))))))))))))))))))))))))))))))))))))))))))))))))))
def Zz := (ab @CD (ab @wy (ab @J3 (ab @pD (ab @Mk <| ab @Fo (ab @wY (ab @Kw (ab @wO (ab @J7 (ab @BV (ab @T3 (ab @HN (ab @Ov (ab @Gj (ab @Lg (ab @XW (ab @Yu (ab @Xc (ab @Xw (ab @KJ (ab @G6 (ab @Dl (ab @zR (ab @CR (ab @uz (ab @yV (ab @wN (ab @sA (ab @wH (ab @qy (ab @D8 (ab @Gw (ab @A6 (ab @B2 (ab @Kq (ab @A8 (ab @Fi (ab @BP (ab @w8 (ab @B1 (ab @tC (ab @Lf (ab @Re (ab @EN (ab @L1 (ab @DB (ab @Mb (ab @zq (ab @GK (ab @Cl @DC))))))))))))))))))))))))))))))))))))))))))))))))))
def Zg := (ab @rr (ab @Mg (ab @Pv (ab @KV (ab @true_or (ab @MJ (ab @DU (ab @MK (ab @MB (ab @CY (ab @KE (ab @Lb (ab @Dg (ab @BI (ab @BD (ab @C3 (ab @zp (ab @DF (ab @q7 (ab @Qy (ab @q8 (ab @NN (ab @zn (ab @wQ (ab @FT (ab @HU (ab @u9 (ab @sO (ab @Eh (ab @Er (ab @Gd (ab @F1 (ab @B7 (ab @Lo (ab @G4 (ab @E7 (ab @C1 (ab @BH (ab @Qo (ab @JT (ab @KK (ab @HK (ab @Aj (ab @LS (ab @OR (ab @sH (ab @NL (ab @qF (ab @Ml (ab @OB (ab @yU (ab @zw (ab @y5 (ab @A4 (ab @sK @NB)))))))))))))))))))))))))))))))))))))))))))))))))))))))
end
section
open Go.RowKit
def oU : List Value -> Nat -> List (Nat × FV)
 | [], _ => []
 | x :: r, i => (i, .is (.v x)) :: oU r (i + 1)
theorem Oh (i : Nat) : oU [] i = [] := rfl
theorem JY (x : Value) (r : List Value) (i : Nat) : oU (x :: r) i = (i, .is (.v x)) :: oU r (i + 1) := rfl
def σ0 (args : List Value) : St := ⟨0, bQ (oU args 0), bY []⟩
theorem kN : ∀ (l : List Value) (i t : Nat), (bQ (oU l i) t).keys = []
 | [], _, _ => rfl
 | x :: r, i, t => by
  simp only [oU, bQ, bg]
  split
  ·rfl
  ·exact kN r (i + 1) t
theorem kQ (E : Nat -> Value) : ∀ (l : List Value) (i t : Nat) (tm : Nat -> Value), (∀ j (h : j < l.length), tm (i + j) = l[j]) -> fits E (bQ (oU l i) t) (tm t)
 | [], _, _, _, _ => trivial
 | x :: r, i, t, tm, h => by
  simp only [oU, bQ, bg]
  split
  ·rename_i ht
   subst ht
   have := h 0 (by simp)
   simpa [fits, den] using this
  ·exact kQ E r (i + 1) t tm fun j hj => by
    have := h (j + 1) (by simpa using hj)
    rw [show i + 1 + j = i + (j + 1) by omega]
    simpa using this
theorem nB {w : World} {nt m : Nat} (args : Array Value) (hnt : args.size + m = nt) :
  Sat w [] nt ⟨[], []⟩ (σ0 args.toList) { tmps := args ++ Array.replicate m undef, defers := [] } w := by
 refine ⟨⟨fun _ => undef, fun _ => [], fun t => ?_, ⟨fun k e h => (by cases h), fun k e h => (by cases h), fun k e h => (by cases h), fun k k' e e' _ h => (by cases h), ai.refl w []⟩, fun p hp => (by cases hp)⟩, by simpa using hnt, rfl, fun p hp => (by cases hp), fun t k hk => ?_, fun k e h => (by cases h)⟩
 ·refine kQ _ args.toList 0 t (fun t => (args ++ Array.replicate m undef).getD t undef) fun j hj => ?_
  have hj' : j < args.size := by simpa using hj
  rw [Nat.zero_add, Array.getD_eq_getD_getElem?, Array.getElem?_append_left hj', Array.getElem?_eq_getElem hj']
  rfl
 ·simp only [σ0, kN] at hk; cases hk
section
variable {P : Program} {f : FuncId} {fn : Func} {c : Code} {args : Array Value} {w : World} {nt : Nat}
theorem aj {v : Value} (rs : List ResultVar) (hf : P.funcs[f]? = some fn) (hb : fn.body = some c) (hrs : fn.results.toList = rs) (hnt : args.size + (fn.ntmps - args.size) = nt)
  (h : Wp P w [] nt ⟨[], []⟩ c (Fin P rs (fun _ _ x _ => ∀ E, den E x = v) (fun _ _ => False)) (σ0 args.toList)) :
  Calls P f args w fun e w' => e = .returned v /\ ai w [] w' := by
 subst hrs
 refine (jB hf hb (nB args hnt) h).mono fun e w' he => ?_
 cases e with
 | returned u =>
  obtain ⟨W', bs', E, F, x, h, hx, hR, rfl, hs, _⟩ := he
  exact ⟨by rw [hR E], hx.Dx hs.keeps⟩
 | panicked c => obtain ⟨_, _, _, _, _, _, hf, _⟩ := he; exact hf.elim
 | outgrown => exact he.elim
def YU (T : TypeId) (s n : Nat) (vs : List Value) (x : SV) (h : Hp) : Prop := 0 < s /\ ((∃ k, x = .hd k /\ h k = some (.row T s n (vs.map .v))) \/ (x = .v jx /\ n = 0 /\ vs = []))
theorem mP {T : TypeId} {s n : Nat} {vs : List Value} (g : Value -> Value) (rs : List ResultVar) (hf : P.funcs[f]? = some fn) (hb : fn.body = some c) (hrs : fn.results.toList = rs) (hnt : args.size + (fn.ntmps - args.size) = nt)
  (h : Wp P w [] nt ⟨[], []⟩ c (Fin P rs (fun _ _ x h => ∃ y, YU T s n vs y h /\ ∀ E, den E x = g (den E y)) (fun _ _ => False)) (σ0 args.toList)) :
  Calls P f args w fun e w' => ∃ u fp, e = .returned (g u) /\ (∀ E', bn E' u fp w' (.row T s n (vs.map .v))) /\ (∀ b ∈ fp, w.heap.size <= b /\ b < w'.heap.size) /\ ai w [] w' := by
 subst hrs
 refine (jB hf hb (nB args hnt) h).mono fun e w' he => ?_
 cases e with
 | returned u =>
  obtain ⟨W', bs', E, F, x, h, hx, ⟨y, ⟨hs0, hR⟩, hg⟩, rfl, hs, _⟩ := he
  rcases hR with ⟨k, rfl, hk⟩ | ⟨rfl, rfl, rfl⟩
  ·have hent := hs.ent k _ hk
   refine ⟨E k, F k, by rw [hg E]; simp only [den]; rw [iG (db hent)], fun E' => ?_, fun b hb => ⟨?_, hs.lt k _ hk b hb⟩, hx.Dx hs.keeps⟩
   ·simpa [bn, aB] using hent
   ·exact ((hs.back hx).mine k _ hk b hb).resolve_right (by simp)
  ·exact ⟨jx, [], by rw [hg E]; rfl, fun E' => ⟨⟨by simp [an], .inl ⟨rfl, rfl⟩⟩, rfl⟩, fun b hb => (by cases hb), hx.Dx hs.keeps⟩
 | panicked c => obtain ⟨_, _, _, _, _, _, hf, _⟩ := he; exact hf.elim
 | outgrown => exact he.elim
end
inductive AV where
 | val (v : Value)
 | row (T : TypeId) (s n : Nat) (vs : List Value)
def iM (k : Nat) : Option bm -> Option (AV × List Nat)
 | some (.row T s n us) => (cI us).map fun vs => (.row T s n vs, [k])
 | _ => none
def cg (h : Hp) : SV -> Option (AV × List Nat)
 | .v x => some (.val x, [])
 | .agg l => (cI l).map fun vs => (.val (.agg vs.toArray), [])
 | .hd k => iM k (h k)
 | _ => none
def jT : Option (AV × List Nat) -> Option (List AV × List Nat) -> Option (List AV × List Nat)
 | some (a, r), some (as_, rs) => some (a :: as_, r ++ rs)
 | _, _ => none
def ay (h : Hp) : List SV -> Option (List AV × List Nat)
 | [] => some ([], [])
 | x :: r => jT (cg h x) (ay h r)
def tJ (w : World) (u : Value) : AV -> Prop
 | .val v => u = v
 | .row T s n vs => w.ownsRow 0 T s u n vs
def eD (w : World) : List Value -> List AV -> Prop
 | [], [] => True
 | u :: r, a :: s => tJ w u a /\ eD w r s
 | _, _ => False
theorem qw {E : Nat -> Value} : ∀ {l : List SV} {vs : List Value}, cI l = some vs -> an E l = vs
 | [], vs, h => by simp [cI] at h; subst h; rfl
 | x :: r, vs, h => by
  cases x with
  | v x =>
   simp only [cI, Option.map_eq_some_iff] at h
   obtain ⟨ws, h1, rfl⟩ := h
   simp [an, den, qw h1]
  | _ => simp [cI] at h
section
variable {P : Program} {W : World} {bs : List Nat} {E : Nat -> Value} {F : Nat -> List Nat} {h : Hp} {w : World}
theorem xO (hs : al W bs E F h w) {x : SV} {a : AV} {r : List Nat} (hv : cg h x = some (a, r)) : tJ w (den E x) a := by
 cases x with
 | v x => simp [cg] at hv; obtain ⟨rfl, rfl⟩ := hv; rfl
 | agg l =>
  simp only [cg, Option.map_eq_some_iff, Prod.mk.injEq] at hv
  obtain ⟨vs, h1, rfl, rfl⟩ := hv
  simp [tJ, den, qw h1]
 | hd k =>
  simp only [cg] at hv
  cases hk : h k with
  | none => rw [hk] at hv; simp [iM] at hv
  | some e =>
   cases e with
   | row T s n us =>
    rw [hk] at hv
    simp only [iM, Option.map_eq_some_iff, Prod.mk.injEq] at hv
    obtain ⟨vs, h1, rfl, rfl⟩ := hv
    have := hs.ent k _ hk
    simp only [tJ, den]
    rw [iG (db this), <- qw (E := E) h1]
    exact this.1
   | cells T vs => rw [hk] at hv; simp [iM] at hv
   | obj d R => rw [hk] at hv; simp [iM] at hv
 | own k o => simp [cg] at hv
 | tup l => simp [cg] at hv
 | ifc t x => simp [cg] at hv
 | part k i => simp [cg] at hv
 | fn f a c => simp [cg] at hv
theorem dE (hs : al W bs E F h w) : ∀ {l : List SV} {as_ : List AV} {r : List Nat}, ay h l = some (as_, r) -> eD w (an E l) as_
 | [], as_, r, hv => by simp [ay] at hv; obtain ⟨rfl, rfl⟩ := hv; trivial
 | x :: l, as_, r, hv => by
  simp only [ay] at hv
  cases h1 : cg h x with
  | none => rw [h1] at hv; simp [jT] at hv
  | some p =>
   cases h2 : ay h l with
   | none => rw [h1, h2] at hv; simp [jT] at hv
   | some q =>
    obtain ⟨a, ra⟩ := p
    obtain ⟨as', rs⟩ := q
    rw [h1, h2] at hv
    simp only [jT, Option.some.injEq, Prod.mk.injEq] at hv
    obtain ⟨rfl, rfl⟩ := hv
    exact ⟨xO hs h1, dE hs h2⟩
theorem xF {h' : Hp} {x : SV} {a : AV} {r : List Nat} (hv : cg h x = some (a, r)) (hr : ∀ k ∈ r, h' k = h k) : cg h' x = some (a, r) := by
 cases x with
 | hd k =>
  simp only [cg] at hv ⊢
  have : k ∈ r := by
   cases hk : h k with
   | none => rw [hk] at hv; simp [iM] at hv
   | some e =>
    cases e <;> rw [hk] at hv <;> simp [iM] at hv
    obtain ⟨vs, h1, rfl, rfl⟩ := hv
    simp
  rw [hr k this]; exact hv
 | _ => exact hv
theorem cF {h' : Hp} : ∀ {l : List SV} {as_ : List AV} {r : List Nat}, ay h l = some (as_, r) -> (∀ k ∈ r, h' k = h k) -> ay h' l = some (as_, r)
 | [], _, _, hv, _ => hv
 | x :: l, as_, r, hv, hr => by
  simp only [ay] at hv ⊢
  cases h1 : cg h x with
  | none => rw [h1] at hv; simp [jT] at hv
  | some p =>
   cases h2 : ay h l with
   | none => rw [h1, h2] at hv; simp [jT] at hv
   | some q =>
    obtain ⟨a, ra⟩ := p
    obtain ⟨as', rs⟩ := q
    rw [h1, h2] at hv
    simp only [jT, Option.some.injEq, Prod.mk.injEq] at hv
    obtain ⟨rfl, rfl⟩ := hv
    rw [xF h1 fun k hk => hr k (by simp [hk]), cF h2 fun k hk => hr k (by simp [hk])]
    rfl
end
structure aU (P : Program) (f : FuncId) where
 pre : World -> List Nat -> List AV -> Prop
 res : World -> List AV -> Value
 enters : ∀ args w, (callFunc f args).run P w = .ok (.enter f args) w
 ok : ∀ (W w : World) (bs : List Nat) (us : List Value) (as_ : List AV), ai W bs w -> eD w us as_ -> pre W bs as_ -> Calls P f us.toArray w fun e w' => e = .returned (res W as_) /\ ai w [] w'
def Ce (pre : World -> List Nat -> List AV -> Prop) (res : World -> List AV -> Value) (W : World) (bs : List Nat) : Option (List AV × List Nat) -> R
 | some (as_, rs) => ⟨pre W bs as_, .v (res W as_), [], none, [], rs⟩
 | none => .bad
def aU.spec {P : Program} {f : FuncId} (p : aU P f) : Spec P f where
 ev := fun W bs _ h args => Ce p.pre p.res W bs (ay h args)
 good := fun W bs κ E F h w K args hs hK hk hx hside => by
  rw [p.enters]
  cases hv : ay h args with
  | none => rw [hv] at hside; exact hside.elim
  | some q =>
   obtain ⟨as_, rs⟩ := q
   rw [hv] at hside
   exact qC hs (p.ok W w bs _ as_ hs.keeps (dE hs hv) hside) rfl rfl rfl
 keys := fun W bs κ h K args hK hx hside => by
  cases hv : ay h args with
  | none => rw [hv] at hside; exact hside.elim
  | some q => exact aH.plain (fun k hk => by cases hk) rfl
 loc := fun W bs κ h h' args hside hr => by
  cases hv : ay h args with
  | none => rw [hv] at hside; exact hside.elim
  | some q =>
   obtain ⟨as_, rs⟩ := q
   rw [hv] at hr
   rw [cF hv hr]
structure xP (P : Program) (f : FuncId) where
 pre : World -> List Nat -> List AV -> Prop
 T : TypeId
 s : Nat
 n : World -> List AV -> Nat
 vs : World -> List AV -> List Value
 tm : World -> List AV -> SV -> SV
 g : World -> List AV -> Value -> Value
 tmg : ∀ W as_ E x, den E (tm W as_ x) = g W as_ (den E x)
 tmk : ∀ W as_ x, ∀ k ∈ (tm W as_ x).keys, k ∈ x.keys
 enters : ∀ args w, (callFunc f args).run P w = .ok (.enter f args) w
 ok : ∀ (W w : World) (bs : List Nat) (us : List Value) (as_ : List AV), ai W bs w -> eD w us as_ -> pre W bs as_ -> Calls P f us.toArray w fun e w' =>
  ∃ u fp, e = .returned (g W as_ u) /\ (∀ E', bn E' u fp w' (.row T s (n W as_) ((vs W as_).map .v))) /\ (∀ b ∈ fp, w.heap.size <= b /\ b < w'.heap.size) /\ ai w [] w'
def CC (κ : Nat) (T : TypeId) (s : Nat) (pre : World -> List Nat -> List AV -> Prop) (n : World -> List AV -> Nat) (vs : World -> List AV -> List Value) (tm : World -> List AV -> SV -> SV) (W : World) (bs : List Nat) : Option (List AV × List Nat) -> R
 | some (as_, rs) => ⟨pre W bs as_, tm W as_ (.hd (8 * κ)), [(8 * κ, some (.row T s (n W as_) ((vs W as_).map .v)))], none, [], rs⟩
 | none => .bad
def xP.spec {P : Program} {f : FuncId} (p : xP P f) : Spec P f where
 ev := fun W bs κ h args => CC κ p.T p.s p.pre p.n p.vs p.tm W bs (ay h args)
 good := fun W bs κ E F h w K args hs hK hk hx hside => by
  rw [p.enters]
  cases hv : ay h args with
  | none => rw [hv] at hside; exact hside.elim
  | some q =>
   obtain ⟨as_, rs⟩ := q
   rw [hv] at hside
   refine vZ hs hK hk ((p.ok W w bs _ as_ hs.keeps (dE hs hv) hside).mono fun e w' he => ?_) rfl rfl
   obtain ⟨u, fp, rfl, hent, hfp, hkeep⟩ := he
   refine ⟨_, u, fp, rfl, hent, hfp, hkeep, ?_⟩
   simp only [CC, p.tmg, den, nk, ah]
   rw [iG (db (hent E))]
 keys := fun W bs κ h K args hK hx hside => by
  cases hv : ay h args with
  | none => rw [hv] at hside; exact hside.elim
  | some q =>
   obtain ⟨as_, rs⟩ := q
   refine ⟨fun k hk => .inr ?_, fun q hq => ?_⟩
   ·have := p.tmk _ _ _ k hk
    simp [SV.keys] at this
    subst this
    exact aW κ
   ·simp only [CC, List.mem_singleton] at hq
    subst hq
    refine ⟨.inr (aW κ), fun e he k hk => ?_⟩
    simp only [Option.some.injEq] at he
    subst he
    simp only [bm.keys, aO] at hk
    cases hk
 loc := fun W bs κ h h' args hside hr => by
  cases hv : ay h args with
  | none => rw [hv] at hside; exact hside.elim
  | some q =>
   obtain ⟨as_, rs⟩ := q
   rw [hv] at hr
   rw [cF hv hr]
theorem KI (h : Hp) : ay h [] = some ([], []) := rfl
theorem v7 (h : Hp) (x : SV) (r : List SV) : ay h (x :: r) = jT (cg h x) (ay h r) := rfl
theorem Sq (h : Hp) (x : Value) : cg h (.v x) = some (.val x, []) := rfl
theorem LR (h : Hp) (l : List SV) : cg h (.agg l) = (cI l).map fun vs => (.val (.agg vs.toArray), []) := rfl
theorem Ny (h : Hp) (k : Nat) : cg h (.hd k) = iM k (h k) := rfl
theorem Kg (k : Nat) (T : TypeId) (s n : Nat) (us : List SV) : iM k (some (.row T s n us)) = (cI us).map fun vs => (.row T s n vs, [k]) := rfl
theorem Ej (a : AV) (r : List Nat) (as_ : List AV) (rs : List Nat) : jT (some (a, r)) (some (as_, rs)) = some (a :: as_, r ++ rs) := rfl
theorem aE (l : List Value) : cI (l.map .v) = some l := by
 induction l with
 | nil => rfl
 | cons x r ih => simp [cI, ih]
theorem Fa (pre : World -> List Nat -> List AV -> Prop) (res : World -> List AV -> Value) (W : World) (bs : List Nat) (as_ : List AV) (rs : List Nat) : Ce pre res W bs (some (as_, rs)) = ⟨pre W bs as_, .v (res W as_), [], none, [], rs⟩ := rfl
theorem FI (κ : Nat) (T : TypeId) (s : Nat) (pre : World -> List Nat -> List AV -> Prop) (n : World -> List AV -> Nat) (vs : World -> List AV -> List Value) (tm : World -> List AV -> SV -> SV) (W : World) (bs : List Nat) (as_ : List AV) (rs : List Nat) :
  CC κ T s pre n vs tm W bs (some (as_, rs)) = ⟨pre W bs as_, tm W as_ (.hd (8 * κ)), [(8 * κ, some (.row T s (n W as_) ((vs W as_).map .v)))], none, [], rs⟩ := rfl
end
section
open Go.RowKit
section
variable {P : Program} {W : World} {bs : List Nat} {κ : Nat} {h : Hp}
def rY (fl : List (Nat × Nat)) (cells : List SV) (l : List (Nat × SV)) : Option (List SV) := cS (fun i => fl[i]?) cells l
def NF (fl : List (Nat × Nat)) (cells : List SV) (r : List (Nat × SV)) (x : SV) : Option (Nat × Nat) -> Option (List SV)
 | some (off, size) => if (partsOf x).length = size /\ off + size <= cells.length then rY fl (ae cells off (partsOf x)) r else none
 | none => none
theorem yc (fl : List (Nat × Nat)) (cells : List SV) : rY fl cells [] = some cells := rfl
theorem G2 (fl : List (Nat × Nat)) (cells : List SV) (i : Nat) (x : SV) (r : List (Nat × SV)) : rY fl cells ((i, x) :: r) = NF fl cells r x (fl[i]?) := by
 simp only [rY, cS, NF]
 cases fl[i]? <;> rfl
theorem GX (fl : List (Nat × Nat)) (cells : List SV) (r : List (Nat × SV)) (x : SV) (off size : Nat) :
  NF fl cells r x (some (off, size)) = if (partsOf x).length = size /\ off + size <= cells.length then rY fl (ae cells off (partsOf x)) r else none := rfl
def Fz : Option (List SV) -> R
 | some cells => ⟨True, .agg cells, [], none, [], []⟩
 | none => .bad
theorem JZ (l : List SV) : Fz (some l) = ⟨True, .agg l, [], none, [], []⟩ := rfl
def Ge (idx : List Nat) (args : List SV) : Option (List Value) -> Option (List (Nat × Nat)) -> R
 | some zs, some fl => Fz (rY fl (zs.map .v) (idx.zip args))
 | _, _ => .bad
theorem CT (idx : List Nat) (args : List SV) (zs : List Value) (fl : List (Nat × Nat)) : Ge idx args (some zs) (some fl) = Fz (rY fl (zs.map .v) (idx.zip args)) := rfl
theorem av (T : TypeId) (idx : List Nat) (args : List SV) (hs : (oW P T).isSome = true) : df P T idx args = Ge idx args (tz P T) (oW P T) := by
 have hu : ∃ fs, P.underlying T = some (.struct fs) := by
  unfold oW at hs
  split at hs
  ·rename_i fs hfs; exact ⟨fs, hfs⟩
  ·cases hs
 obtain ⟨fs, hu⟩ := hu
 obtain ⟨fl, hfl⟩ := Option.isSome_iff_exists.1 hs
 unfold df Ge
 rw [hu, hfl]
 cases tz P T with
 | none => rfl
 | some zs =>
  simp only [rY, Fz]
  cases cS (fun i => fl[i]?) (zs.map .v) (idx.zip args) <;> rfl
def pt (sz : Nat) (cells : List SV) (l : List (Nat × SV)) : Option (List SV) := cS (fun i => some (i * sz, sz)) cells l
theorem Kr (sz : Nat) (cells : List SV) : pt sz cells [] = some cells := rfl
theorem FX (sz : Nat) (cells : List SV) (i : Nat) (x : SV) (r : List (Nat × SV)) :
  pt sz cells ((i, x) :: r) = if (partsOf x).length = sz /\ i * sz + sz <= cells.length then pt sz (ae cells (i * sz) (partsOf x)) r else none := rfl
def SP (κ : Nat) (e : TypeId) (sz len : Nat) (p : Prop) : Option (List SV) -> R
 | some cells => ⟨p, .hd (8 * κ), [(8 * κ, some (.row e sz len cells))], none, [], []⟩
 | none => .bad
theorem Mn (e : TypeId) (sz len : Nat) (p : Prop) (l : List SV) : SP κ e sz len p (some l) = ⟨p, .hd (8 * κ), [(8 * κ, some (.row e sz len l))], none, [], []⟩ := rfl
def Ym (κ : Nat) (e : TypeId) (len : Nat) (idx : List Nat) (args : List SV) : Option Nat -> Option (List Value) -> R
 | some sz, some zs => SP κ e sz len (len * sz <= 16777216 /\ zs.length = sz /\ 0 < sz) (pt sz ((List.replicate len zs).flatten.map .v) (idx.zip args))
 | _, _ => .bad
theorem NK (e : TypeId) (len : Nat) (idx : List Nat) (args : List SV) (sz : Nat) (zs : List Value) :
  Ym κ e len idx args (some sz) (some zs) = SP κ e sz len (len * sz <= 16777216 /\ zs.length = sz /\ 0 < sz) (pt sz ((List.replicate len zs).flatten.map .v) (idx.zip args)) := rfl
def YB (P : Program) (κ : Nat) (len : Nat) (idx : List Nat) (args : List SV) : Option TypeDesc -> R
 | some (.slice e) => Ym κ e len idx args (ts P e) (tz P e)
 | _ => .bad
theorem Kj (len : Nat) (idx : List Nat) (args : List SV) (e : TypeId) : YB P κ len idx args (some (.slice e)) = Ym κ e len idx args (ts P e) (tz P e) := rfl
theorem af (T : TypeId) (len : Nat) (idx : List Nat) (args : List SV) : bj P κ T len idx args = YB P κ len idx args (P.underlying T) := by
 unfold bj YB
 rcases P.underlying T with _ | d
 ·rfl
 ·cases d with
  | slice e =>
   simp only [Ym]
   rcases ts P e with _ | sz <;> rcases tz P e with _ | zs
   ·rfl
   ·rfl
   ·rfl
   ·simp only [SP, pt]
    cases cS (fun i => some (i * sz, sz)) ((List.replicate len zs).flatten.map .v) (idx.zip args) <;> rfl
  | _ => rfl
def Tr (P : Program) (κ k j : Nat) (tys : List TypeId) : Option bm -> Option bm -> R
 | some (.row e sz n vs), some (.row _ sz' m us) => match tys, oV P e, tz P e with
  | [T, T'], some by_, some zs => ⟨T' = T /\ P.underlying T = some (.slice e) /\ ts P e = some sz /\ zs.length = sz /\ 0 < sz /\ sz' = sz /\ k ≠ j /\ 0 < m /\ n + m <= maxLen /\ (n + m) * by_ <= 140737488355328 /\ us.all cu = true, .hd (8 * κ), [(k, none), (8 * κ, some (.row e sz (n + m) (vs ++ us)))], none, [], [k, j]⟩
  | _, _, _ => .bad
 | _, _ => .bad
theorem HO (tys : List TypeId) (k j : Nat) : et P W bs κ h tys [.hd k, .hd j] = Tr P κ k j tys (h k) (h j) := by
 simp only [et]
 unfold Tr
 rcases h k with _ | e <;> rcases h j with _ | e'
 ·rcases tys with _ | ⟨a, _ | ⟨b, _ | _⟩⟩ <;> rfl
 ·rcases tys with _ | ⟨a, _ | ⟨b, _ | _⟩⟩ <;> rfl
 ·rcases tys with _ | ⟨a, _ | ⟨b, _ | _⟩⟩ <;> cases e <;> rfl
 ·rcases tys with _ | ⟨a, _ | ⟨b, _ | _⟩⟩ <;> cases e <;> cases e' <;> try rfl
  rename_i T s n vs T' s' n' vs'
  simp only []
  rcases oV P T with _ | x <;> rcases tz P T with _ | y <;> rfl
def VL (P : Program) (κ k j : Nat) (T T' e sz n sz' m : Nat) (vs us : List SV) : Option Nat -> Option (List Value) -> R
 | some by_, some zs => ⟨T' = T /\ P.underlying T = some (.slice e) /\ ts P e = some sz /\ zs.length = sz /\ 0 < sz /\ sz' = sz /\ k ≠ j /\ 0 < m /\ n + m <= maxLen /\ (n + m) * by_ <= 140737488355328 /\ us.all cu = true, .hd (8 * κ), [(k, none), (8 * κ, some (.row e sz (n + m) (vs ++ us)))], none, [], [k, j]⟩
 | _, _ => .bad
theorem Qh (k j : Nat) (T T' e e' : TypeId) (sz n sz' m : Nat) (vs us : List SV) :
  Tr P κ k j [T, T'] (some (.row e sz n vs)) (some (.row e' sz' m us)) = VL P κ k j T T' e sz n sz' m vs us (oV P e) (tz P e) := by
 simp only [Tr, VL]
 rcases oV P e with _ | x <;> rcases tz P e with _ | y <;> rfl
theorem Mx (k j : Nat) (T T' e sz n sz' m : Nat) (vs us : List SV) (by_ : Nat) (zs : List Value) :
  VL P κ k j T T' e sz n sz' m vs us (some by_) (some zs) = ⟨T' = T /\ P.underlying T = some (.slice e) /\ ts P e = some sz /\ zs.length = sz /\ 0 < sz /\ sz' = sz /\ k ≠ j /\ 0 < m /\ n + m <= maxLen /\ (n + m) * by_ <= 140737488355328 /\ us.all cu = true, .hd (8 * κ), [(k, none), (8 * κ, some (.row e sz (n + m) (vs ++ us)))], none, [], [k, j]⟩ := rfl
def R7 (P : Program) (κ j : Nat) (T T' : TypeId) : Option TypeDesc -> Option bm -> R
 | some (.slice e), some (.row _ sz m us) => match oV P e, tz P e with
  | some by_, some zs => ⟨T' = T /\ ts P e = some sz /\ zs.length = sz /\ 0 < sz /\ 0 < m /\ m <= maxLen /\ m * by_ <= 140737488355328 /\ us.all cu = true, .hd (8 * κ), [(8 * κ, some (.row e sz m us))], none, [], [j]⟩
  | _, _ => .bad
 | _, _ => .bad
def Tq (κ k : Nat) (T T' e : TypeId) (sz n m : Nat) (vs us : List SV) (P : Program) (q : Prop) : Option Nat -> Option (List Value) -> R
 | some by_, some zs => ⟨T' = T /\ P.underlying T = some (.slice e) /\ ts P e = some sz /\ zs.length = sz /\ q /\ n + m <= maxLen /\ (n + m) * by_ <= 140737488355328 /\ us.all cu = true, .hd (8 * κ), [(k, none), (8 * κ, some (.row e sz (n + m) (vs ++ us)))], none, [], [k]⟩
 | _, _ => .bad
def TH (P : Program) (W : World) (bs : List Nat) (κ k : Nat) (ao : Option Addr) (m : Nat) (T T' : TypeId) : Bool -> Option bm -> R
 | true, some (.row e sz n vs) => ⟨T' = T /\ P.underlying T = some (.slice e) /\ ts P e = some sz /\ m = 0, .hd k, [], none, [], [k]⟩
 | false, some (.row e sz n vs) => (match ao with
  | some ⟨b, o, none⟩ => Tq κ k T T' e sz n m vs (bx W b o (m * sz)) P (b ∉ bs /\ cY W b o (m * sz)) (oV P e) (tz P e)
  | _ => .bad)
 | _, _ => .bad
theorem EX (T T' : TypeId) (k m c : Nat) (ao : Option Addr) : et P W bs κ h [T, T'] [.hd k, .v (.slice ao m c)] = TH P W bs κ k ao m T T' (m == 0) (h k) := by
 simp only [et]
 unfold TH
 rcases h k with _ | e
 ·cases (m == 0) <;> rfl
 ·cases e with
  | row e sz n vs =>
   cases (m == 0) with
   | true => rfl
   | false =>
    simp only [cond_false]
    rcases ao with _ | ⟨b, o, _ | s⟩
    ·rfl
    ·simp only [Tq]
     rcases oV P e with _ | x <;> rcases tz P e with _ | y <;> rfl
    ·rfl
  | _ => cases (m == 0) <;> rfl
theorem MG (k m : Nat) (ao : Option Addr) (T T' e : TypeId) (sz n : Nat) (vs : List SV) : TH P W bs κ k ao m T T' true (some (.row e sz n vs)) = ⟨T' = T /\ P.underlying T = some (.slice e) /\ ts P e = some sz /\ m = 0, .hd k, [], none, [], [k]⟩ := rfl
theorem Py (k m b o : Nat) (T T' e : TypeId) (sz n : Nat) (vs : List SV) : TH P W bs κ k (some ⟨b, o, none⟩) m T T' false (some (.row e sz n vs)) = Tq κ k T T' e sz n m vs (bx W b o (m * sz)) P (b ∉ bs /\ cY W b o (m * sz)) (oV P e) (tz P e) := rfl
theorem LJ (k : Nat) (T T' e : TypeId) (sz n m : Nat) (vs us : List SV) (q : Prop) (by_ : Nat) (zs : List Value) : Tq κ k T T' e sz n m vs us P q (some by_) (some zs) = ⟨T' = T /\ P.underlying T = some (.slice e) /\ ts P e = some sz /\ zs.length = sz /\ q /\ n + m <= maxLen /\ (n + m) * by_ <= 140737488355328 /\ us.all cu = true, .hd (8 * κ), [(k, none), (8 * κ, some (.row e sz (n + m) (vs ++ us)))], none, [], [k]⟩ := rfl
def Un (P : Program) (κ k : Nat) (s : ByteArray) (T T' : TypeId) : Option bm -> R
 | some (.row e sz n vs) => (match oV P e, tz P e with
  | some by_, some zs => ⟨P.underlying T' = some .string /\ P.underlying T = some (.slice e) /\ ts P e = some sz /\ zs.length = sz /\ sz = 1 /\ n + s.size <= maxLen /\ (n + s.size) * by_ <= 140737488355328, .hd (8 * κ), [(k, none), (8 * κ, some (.row e sz (n + s.size) (vs ++ (byteCells s).map .v)))], none, [], [k]⟩
  | _, _ => .bad)
 | _ => .bad
theorem D1 (T T' : TypeId) (k : Nat) (s : ByteArray) : et P W bs κ h [T, T'] [.hd k, .v (.string s)] = Un P κ k s T T' (h k) := by
 simp only [et]
 unfold Un
 rcases h k with _ | e
 ·rfl
 ·cases e with
  | _ => rfl
def VI (κ k : Nat) (s : ByteArray) (P : Program) (T T' e : TypeId) (sz n : Nat) (vs : List SV) : Option Nat -> Option (List Value) -> R
 | some by_, some zs => ⟨P.underlying T' = some .string /\ P.underlying T = some (.slice e) /\ ts P e = some sz /\ zs.length = sz /\ sz = 1 /\ n + s.size <= maxLen /\ (n + s.size) * by_ <= 140737488355328, .hd (8 * κ), [(k, none), (8 * κ, some (.row e sz (n + s.size) (vs ++ (byteCells s).map .v)))], none, [], [k]⟩
 | _, _ => .bad
theorem N5 (k : Nat) (s : ByteArray) (T T' e : TypeId) (sz n : Nat) (vs : List SV) : Un P κ k s T T' (some (.row e sz n vs)) = VI κ k s P T T' e sz n vs (oV P e) (tz P e) := by
 simp only [Un, VI]
theorem Mq (k : Nat) (s : ByteArray) (T T' e : TypeId) (sz n : Nat) (vs : List SV) (by_ : Nat) (zs : List Value) : VI κ k s P T T' e sz n vs (some by_) (some zs) = ⟨P.underlying T' = some .string /\ P.underlying T = some (.slice e) /\ ts P e = some sz /\ zs.length = sz /\ sz = 1 /\ n + s.size <= maxLen /\ (n + s.size) * by_ <= 140737488355328, .hd (8 * κ), [(k, none), (8 * κ, some (.row e sz (n + s.size) (vs ++ (byteCells s).map .v)))], none, [], [k]⟩ := rfl
theorem GG (T T' : TypeId) (j : Nat) : et P W bs κ h [T, T'] [.v (.slice none 0 0), .hd j] = R7 P κ j T T' (P.underlying T) (h j) := by
 simp only [et]
 unfold R7
 rcases h j with _ | e'
 ·rcases P.underlying T with _ | d
  ·rfl
  ·cases d <;> rfl
 ·cases e' with
  | row e sz m us =>
   simp only []
   rcases P.underlying T with _ | d
   ·rfl
   ·cases d with
    | slice a =>
     simp only []
     rcases oV P a with _ | x <;> rcases tz P a with _ | y <;> rfl
    | _ => rfl
  | cells T2 vs =>
   rcases P.underlying T with _ | d
   ·rfl
   ·cases d <;> rfl
  | obj d R =>
   rcases P.underlying T with _ | d
   ·rfl
   ·cases d <;> rfl
def VS (P : Program) (κ j : Nat) (T T' e sz m : Nat) (us : List SV) : Option Nat -> Option (List Value) -> R
 | some by_, some zs => ⟨T' = T /\ ts P e = some sz /\ zs.length = sz /\ 0 < sz /\ 0 < m /\ m <= maxLen /\ m * by_ <= 140737488355328 /\ us.all cu = true, .hd (8 * κ), [(8 * κ, some (.row e sz m us))], none, [], [j]⟩
 | _, _ => .bad
theorem N3 (j : Nat) (T T' e e' : TypeId) (sz m : Nat) (us : List SV) :
  R7 P κ j T T' (some (.slice e)) (some (.row e' sz m us)) = VS P κ j T T' e sz m us (oV P e) (tz P e) := by
 simp only [R7, VS]
theorem MW (j : Nat) (T T' e sz m : Nat) (us : List SV) (by_ : Nat) (zs : List Value) :
  VS P κ j T T' e sz m us (some by_) (some zs) = ⟨T' = T /\ ts P e = some sz /\ zs.length = sz /\ 0 < sz /\ 0 < m /\ m <= maxLen /\ m * by_ <= 140737488355328 /\ us.all cu = true, .hd (8 * κ), [(8 * κ, some (.row e sz m us))], none, [], [j]⟩ := rfl
end
theorem aa {n : Int} (h1 : -9223372036854775808 <= n) (h2 : n <= 9223372036854775807) : IntKind.i64.wrap n = n := by
 simp only [IntKind.wrap, IntKind.bits, IntKind.signed, Bool.true_and, decide_eq_true_eq, show (2 : Int) ^ (64 - 1) = 9223372036854775808 from rfl, show (2 : Int) ^ 64 = 18446744073709551616 from rfl]
 split <;> omega
theorem T5 (W : World) (b o : Nat) : bx W b o 1 = [.v ((W.cell? ⟨b, o, none⟩).getD undef)] := rfl
theorem Sl (W : World) (b o : Nat) : bx W b o 2 = [.v ((W.cell? ⟨b, o, none⟩).getD undef), .v ((W.cell? ⟨b, o + 1, none⟩).getD undef)] := rfl
theorem Uc (W : World) (b o : Nat) : bx W b o 3 = [.v ((W.cell? ⟨b, o, none⟩).getD undef), .v ((W.cell? ⟨b, o + 1, none⟩).getD undef), .v ((W.cell? ⟨b, o + 2, none⟩).getD undef)] := rfl
theorem SC (W : World) (b o : Nat) : bx W b o 4 = [.v ((W.cell? ⟨b, o, none⟩).getD undef), .v ((W.cell? ⟨b, o + 1, none⟩).getD undef), .v ((W.cell? ⟨b, o + 2, none⟩).getD undef), .v ((W.cell? ⟨b, o + 3, none⟩).getD undef)] := rfl
theorem Sk (W : World) (b o : Nat) : cY W b o 1 = ((W.cell? ⟨b, o, none⟩).isSome = true) := by simp [cY]
theorem R9 (W : World) (b o : Nat) : cY W b o 2 = ((W.cell? ⟨b, o, none⟩).isSome = true /\ (W.cell? ⟨b, o + 1, none⟩).isSome = true) := by simp [cY]
theorem UE (W : World) (b o : Nat) : cY W b o 3 = ((W.cell? ⟨b, o, none⟩).isSome = true /\ (W.cell? ⟨b, o + 1, none⟩).isSome = true /\ (W.cell? ⟨b, o + 2, none⟩).isSome = true) := by simp [cY]
theorem T6 (W : World) (b o : Nat) : cY W b o 4 = ((W.cell? ⟨b, o, none⟩).isSome = true /\ (W.cell? ⟨b, o + 1, none⟩).isSome = true /\ (W.cell? ⟨b, o + 2, none⟩).isSome = true /\ (W.cell? ⟨b, o + 3, none⟩).isSome = true) := by simp [cY]
theorem TF (e e' : TypeId) : ((some (TypeDesc.slice e) : Option TypeDesc) = some (.slice e')) = (e = e') := by simp
theorem Ua (e : TypeId) : (∃ e', (some (TypeDesc.slice e) : Option TypeDesc) = some (.slice e')) = True := by simp
theorem uT (i : Nat) (vs : Array Value) : dQ i [.v (.tuple vs)] = ⟨i < vs.size, .v (vs.getD i undef), [], none, [], []⟩ := rfl
theorem K1 (b : Builtin) (as_ : Array Operand) (tys : Array TypeId) : Call.operands { callee := .builtin b, args := as_, argTypes := tys } = as_ := by simp [Call.operands]
theorem JR (f : Operand) (as_ : Array Operand) (tys : Array TypeId) : (Call.operands { callee := .value f, args := as_, argTypes := tys }).toList = f :: as_.toList := by simp [Call.operands]
theorem Lm (f : Operand) (n : String) (as_ : Array Operand) (tys : Array TypeId) : (Call.operands { callee := .invoke f n, args := as_, argTypes := tys }).toList = f :: as_.toList := by simp [Call.operands]
def Ng {P : Program} {f : FuncId} (W : World) (bs : List Nat) (κ : Nat) (h : Hp) (l : List SV) : Option (Spec P f) -> R
 | some s => s.ev W bs κ h l
 | none => .bad
theorem aN {P : Program} {W : World} {bs : List Nat} {κ : Nat} {h : Hp} (Γ : Env P) (f : FuncId) (l : List SV) : lS Γ W bs κ h f l = Ng W bs κ h l (Γ.sp f) := by
 simp only [lS, Ng]
 cases Γ.sp f <;> rfl
theorem au {P : Program} {f : FuncId} (W : World) (bs : List Nat) (κ : Nat) (h : Hp) (l : List SV) (s : Spec P f) : Ng W bs κ h l (some s) = s.ev W bs κ h l := rfl
theorem aA {P : Program} {f : FuncId} (p : aU P f) (W : World) (bs : List Nat) (κ : Nat) (h : Hp) (l : List SV) : p.spec.ev W bs κ h l = Ce p.pre p.res W bs (ay h l) := rfl
theorem Qw {P : Program} {f : FuncId} (p : xP P f) (W : World) (bs : List Nat) (κ : Nat) (h : Hp) (l : List SV) : p.spec.ev W bs κ h l = CC κ p.T p.s p.pre p.n p.vs p.tm W bs (ay h l) := rfl
theorem N8 {P : Program} {W : World} {bs : List Nat} {σ : St} : gT P W bs σ [] = (True, []) := rfl
theorem J2 {P : Program} {W : World} {bs : List Nat} {σ : St} (r : ResultVar) (l : List ResultVar) : gT P W bs σ (r :: l) = YJ (jA P W bs σ r) (gT P W bs σ l) := rfl
def Wl : FV -> Prop × SV
 | .is x => (True, x)
 | .cnd b x => (b = true, x)
 | .any => (False, .v undef)
theorem Gh {P : Program} {W : World} {bs : List Nat} {σ : St} (t : Nat) : jA P W bs σ (.tmp t) = Wl (σ.φ t) := by
 simp only [jA, Wl]
 all_goals cases σ.φ t <;> rfl
theorem TD (x : SV) : Wl (.is x) = (True, x) := rfl
def P9 (P : Program) (W : World) (bs : List Nat) (h : Hp) (T : TypeId) : FV -> Prop × SV
 | .is (.own k o) => resR (di P W bs h T [.own k o])
 | _ => (False, .v undef)
where resR (r : R) : Prop × SV := (r.side, r.val)
theorem D2 {P : Program} {W : World} {bs : List Nat} {σ : St} (t : Nat) (T : TypeId) : jA P W bs σ (.cell t T) = P9 P W bs σ.h T (σ.φ t) := by
 simp only [jA, P9]
 rcases σ.φ t with x | ⟨b, x⟩ | _
 ·cases x <;> rfl
 ·rfl
 ·rfl
theorem Pz {P : Program} {W : World} {bs : List Nat} {h : Hp} (T : TypeId) (k o : Nat) : P9 P W bs h T (.is (.own k o)) = P9.resR (di P W bs h T [.own k o]) := rfl
theorem Um (side : Prop) (val : SV) (u : List (Nat × Option bm)) (pan : Option (List PanicEntry)) (pupd reads : List Nat) : P9.resR ⟨side, val, u, pan, pupd, reads⟩ = (side, val) := rfl
theorem KU (x : SV) : jE [x] = x := rfl
theorem MS (x y : SV) (l : List SV) : jE (x :: y :: l) = .tup (x :: y :: l) := rfl
def VK (R : World -> List Nat -> SV -> Hp -> Prop) (W : World) (bs : List Nat) (h : Hp) (x : Prop × List SV) : Prop := x.1 /\ R W bs (jE x.2) h
theorem nw {P : Program} {W : World} {bs : List Nat} {rs : List ResultVar} {R : World -> List Nat -> SV -> Hp -> Prop} {RP : List PanicEntry -> Hp -> Prop} {σ : St} : Fin P rs R RP .ret W bs σ = VK R W bs σ.h (gT P W bs σ rs) := rfl
theorem gJ {P : Program} {W : World} {bs : List Nat} {rs : List ResultVar} {R : World -> List Nat -> SV -> Hp -> Prop} {RP : List PanicEntry -> Hp -> Prop} {σ : St} : Fin P rs R RP .normal W bs σ = VK R W bs σ.h (gT P W bs σ rs) := rfl
theorem TT (R : World -> List Nat -> SV -> Hp -> Prop) (W : World) (bs : List Nat) (h : Hp) (p : Prop) (l : List SV) : VK R W bs h (p, l) = (p /\ R W bs (jE l) h) := rfl
end
section
def ZB := (ab @KI (ab @v7 (ab @Sq (ab @LR (ab @Ny (ab @Kg (ab @Ej (ab @aE (ab @Fa (ab @FI (ab @Oh @JY)))))))))))
def Zx := (ab @EX (ab @MG (ab @Py (ab @LJ (ab @D1 (ab @N5 (ab @Mq (ab @yc (ab @G2 (ab @GX (ab @JZ (ab @CT (ab @Kr (ab @FX (ab @Mn (ab @NK (ab @Kj (ab @yc (ab @HO (ab @Qh (ab @Mx (ab @GG (ab @N3 (ab @MW (ab @T5 (ab @Sl (ab @Uc (ab @SC (ab @Sk (ab @R9 (ab @UE (ab @T6 (ab @TF (ab @Ua (ab @uT (ab @K1 (ab @JR (ab @Lm (ab @aN (ab @au (ab @aA (ab @Qw (ab @N8 (ab @J2 (ab @Gh (ab @TD (ab @D2 (ab @Pz (ab @Um (ab @KU (ab @MS (ab @nw (ab @gJ @TT)))))))))))))))))))))))))))))))))))))))))))))))))))))
end
end Go.LE
namespace Go.Proofs.YtnemkecffmdlnaaGreatDoor
section
open Go.RowKit Go.LE
theorem bR : Tryz.prog.follows .mixedOrders = true := by kernel_rfl
theorem jV : ts Tryz.prog 0 = some 1 := by kernel_rfl
theorem jW : ta Tryz.prog 0 = some false := by kernel_rfl
theorem HS : ts Tryz.prog 1 = some 1 := by kernel_rfl
theorem HB : ta Tryz.prog 1 = some false := by kernel_rfl
theorem E9 : tz Tryz.prog 1 = some [Value.nilFunc] := by kernel_rfl
theorem XN : ts Tryz.prog 2 = some 1 := by kernel_rfl
theorem XB : ta Tryz.prog 2 = some false := by kernel_rfl
theorem X8 : tz Tryz.prog 2 = some [Value.int IntKind.i64 0] := by kernel_rfl
theorem XQ : Program.underlying Tryz.prog 2 = some (.int IntKind.i64) := by kernel_rfl
theorem jb : ts Tryz.prog 3 = some 1 := by kernel_rfl
theorem cW : ta Tryz.prog 3 = some false := by kernel_rfl
theorem cX : oV Tryz.prog 3 = some 8 := by kernel_rfl
theorem c8 : tz Tryz.prog 3 = some [Value.int IntKind.i64 0] := by kernel_rfl
theorem cT : Program.underlying Tryz.prog 3 = some (.int IntKind.i64) := by kernel_rfl
theorem cZ : ts Tryz.prog 4 = some 1 := by kernel_rfl
theorem c9 : ta Tryz.prog 4 = some false := by kernel_rfl
theorem cR : tz Tryz.prog 4 = some [Value.bool false] := by kernel_rfl
theorem cV : Program.underlying Tryz.prog 4 = some .bool := by kernel_rfl
theorem gz : ts Tryz.prog 5 = some 1 := by kernel_rfl
theorem gv : ta Tryz.prog 5 = some false := by kernel_rfl
theorem gi : oV Tryz.prog 5 = some 1 := by kernel_rfl
theorem gk : tz Tryz.prog 5 = some [Value.int IntKind.u8 0] := by kernel_rfl
theorem gn : Program.underlying Tryz.prog 5 = some (.int IntKind.u8) := by kernel_rfl
theorem ez : ts Tryz.prog 9 = some 1 := by kernel_rfl
theorem ey : ta Tryz.prog 9 = some false := by kernel_rfl
theorem eB : oV Tryz.prog 9 = some 16 := by kernel_rfl
theorem eC : tz Tryz.prog 9 = some [Value.string { data := #[] }] := by kernel_rfl
theorem eA : Program.underlying Tryz.prog 9 = some .string := by kernel_rfl
theorem ew : Program.concrete Tryz.prog 9 = true := by kernel_rfl
theorem Qp : ts Tryz.prog 20 = some 1 := by kernel_rfl
theorem NZ : ta Tryz.prog 20 = some false := by kernel_rfl
theorem Rf : tz Tryz.prog 20 = some [Value.nilIface] := by kernel_rfl
theorem Nj : isIface Tryz.prog 20 = some true := by kernel_rfl
theorem Dw : ts Tryz.prog 22 = some 1 := by kernel_rfl
theorem B4 : ta Tryz.prog 22 = some false := by kernel_rfl
theorem DD : tz Tryz.prog 22 = some [Value.slice none 0 0] := by kernel_rfl
theorem DQ : Program.underlying Tryz.prog 22 = some (.slice 9) := by kernel_rfl
theorem YS : ts Tryz.prog 23 = some 1 := by kernel_rfl
theorem Yw : ta Tryz.prog 23 = some false := by kernel_rfl
theorem YE : tz Tryz.prog 23 = some [Value.slice none 0 0] := by kernel_rfl
theorem YG : Program.underlying Tryz.prog 23 = some (.slice 82) := by kernel_rfl
theorem Xt : ts Tryz.prog 25 = some 5 := by kernel_rfl
theorem Xr : ta Tryz.prog 25 = some true := by kernel_rfl
theorem X9 : tz Tryz.prog 25 = some [Value.slice none 0 0, Value.slice none 0 0, Value.slice none 0 0, Value.int IntKind.i64 0, Value.int IntKind.i64 0] := by kernel_rfl
theorem Xi : oW Tryz.prog 25 = some [(0, 1), (1, 1), (2, 1), (3, 1), (4, 1)] := by kernel_rfl
theorem Xu : tf Tryz.prog 25 0 = some (0, 1, false) := by kernel_rfl
theorem XE : tf Tryz.prog 25 1 = some (1, 1, false) := by kernel_rfl
theorem Yd : tf Tryz.prog 25 2 = some (2, 1, false) := by kernel_rfl
theorem Xk : tf Tryz.prog 25 3 = some (3, 1, false) := by kernel_rfl
theorem XM : tf Tryz.prog 25 4 = some (4, 1, false) := by kernel_rfl
theorem O0 : ts Tryz.prog 27 = some 1 := by kernel_rfl
theorem QD : ta Tryz.prog 27 = some false := by kernel_rfl
theorem Pq : tz Tryz.prog 27 = some [Value.slice none 0 0] := by kernel_rfl
theorem QZ : Program.underlying Tryz.prog 27 = some (.slice 50) := by kernel_rfl
theorem GN : ts Tryz.prog 29 = some 5 := by kernel_rfl
theorem GS : ta Tryz.prog 29 = some true := by kernel_rfl
theorem GB : tz Tryz.prog 29 = some [Value.slice none 0 0, Value.slice none 0 0, Value.slice none 0 0, Value.int IntKind.i64 0, Value.int IntKind.i64 0] := by kernel_rfl
theorem GU : oW Tryz.prog 29 = some [(0, 1), (1, 1), (2, 1), (3, 1), (4, 1)] := by kernel_rfl
theorem Hl : tf Tryz.prog 29 0 = some (0, 1, false) := by kernel_rfl
theorem Gu : tf Tryz.prog 29 1 = some (1, 1, false) := by kernel_rfl
theorem Fe : tf Tryz.prog 29 2 = some (2, 1, false) := by kernel_rfl
theorem E5 : tf Tryz.prog 29 3 = some (3, 1, false) := by kernel_rfl
theorem Fs : tf Tryz.prog 29 4 = some (4, 1, false) := by kernel_rfl
theorem YO : ts Tryz.prog 31 = some 1 := by kernel_rfl
theorem YA : ta Tryz.prog 31 = some false := by kernel_rfl
theorem SH : ts Tryz.prog 33 = some 1 := by kernel_rfl
theorem Sz : ta Tryz.prog 33 = some false := by kernel_rfl
theorem Sw : tz Tryz.prog 33 = some [Value.slice none 0 0] := by kernel_rfl
theorem SQ : Program.underlying Tryz.prog 33 = some (.slice 85) := by kernel_rfl
theorem PI : ts Tryz.prog 35 = some 5 := by kernel_rfl
theorem QU : ta Tryz.prog 35 = some true := by kernel_rfl
theorem NX : tz Tryz.prog 35 = some [Value.slice none 0 0, Value.slice none 0 0, Value.slice none 0 0, Value.int IntKind.i64 0, Value.int IntKind.i64 0] := by kernel_rfl
theorem NJ : oW Tryz.prog 35 = some [(0, 1), (1, 1), (2, 1), (3, 1), (4, 1)] := by kernel_rfl
theorem N0 : tf Tryz.prog 35 0 = some (0, 1, false) := by kernel_rfl
theorem M9 : tf Tryz.prog 35 1 = some (1, 1, false) := by kernel_rfl
theorem QJ : tf Tryz.prog 35 2 = some (2, 1, false) := by kernel_rfl
theorem Ps : tf Tryz.prog 35 3 = some (3, 1, false) := by kernel_rfl
theorem OU : tf Tryz.prog 35 4 = some (4, 1, false) := by kernel_rfl
theorem Of : ts Tryz.prog 37 = some 1 := by kernel_rfl
theorem Q3 : ta Tryz.prog 37 = some false := by kernel_rfl
theorem Qt : tz Tryz.prog 37 = some [Value.int IntKind.i64 0] := by kernel_rfl
theorem Qd : Program.underlying Tryz.prog 37 = some (.int IntKind.i64) := by kernel_rfl
theorem Ak : ts Tryz.prog 39 = some 3 := by kernel_rfl
theorem zz : ta Tryz.prog 39 = some true := by kernel_rfl
theorem AP : zv Tryz.prog 39 = some (.agg #[Value.int IntKind.i64 0, Value.int IntKind.i64 0, Value.string { data := #[] }]) := by kernel_rfl
theorem zl : tz Tryz.prog 39 = some [Value.int IntKind.i64 0, Value.int IntKind.i64 0, Value.string { data := #[] }] := by kernel_rfl
theorem AJ : oW Tryz.prog 39 = some [(0, 1), (1, 1), (2, 1)] := by kernel_rfl
theorem z7 : isIface Tryz.prog 39 = some false := by kernel_rfl
theorem AE : Program.concrete Tryz.prog 39 = true := by kernel_rfl
theorem Ae : tf Tryz.prog 39 0 = some (0, 1, false) := by kernel_rfl
theorem zI : tf Tryz.prog 39 1 = some (1, 1, false) := by kernel_rfl
theorem zd : tf Tryz.prog 39 2 = some (2, 1, false) := by kernel_rfl
theorem Hm : ts Tryz.prog 50 = some 4 := by kernel_rfl
theorem G5 : ta Tryz.prog 50 = some true := by kernel_rfl
theorem HT : oV Tryz.prog 50 = some 32 := by kernel_rfl
theorem Hj : tz Tryz.prog 50 = some [Value.int IntKind.i64 0, Value.int IntKind.i64 0, Value.int IntKind.i64 0, Value.int IntKind.i64 0] := by kernel_rfl
theorem HX : oW Tryz.prog 50 = some [(0, 1), (1, 1), (2, 1), (3, 1)] := by kernel_rfl
theorem Gy : tf Tryz.prog 50 0 = some (0, 1, false) := by kernel_rfl
theorem En : tf Tryz.prog 50 1 = some (1, 1, false) := by kernel_rfl
theorem F2 : tf Tryz.prog 50 2 = some (2, 1, false) := by kernel_rfl
theorem ua : tf Tryz.prog 50 3 = some (3, 1, false) := by kernel_rfl
theorem rG : ts Tryz.prog 62 = some 1 := by kernel_rfl
theorem rQ : ta Tryz.prog 62 = some false := by kernel_rfl
theorem sr : tz Tryz.prog 62 = some [Value.slice none 0 0] := by kernel_rfl
theorem pY : Program.underlying Tryz.prog 62 = some (.slice 243) := by kernel_rfl
theorem vL : ts Tryz.prog 64 = some 2 := by kernel_rfl
theorem vO : ta Tryz.prog 64 = some true := by kernel_rfl
theorem vp : tz Tryz.prog 64 = some [Value.slice none 0 0, Value.int IntKind.i64 0] := by kernel_rfl
theorem vj : oW Tryz.prog 64 = some [(0, 1), (1, 1)] := by kernel_rfl
theorem tE : tf Tryz.prog 64 0 = some (0, 1, false) := by kernel_rfl
theorem ub : tf Tryz.prog 64 1 = some (1, 1, false) := by kernel_rfl
theorem Ya : ts Tryz.prog 82 = some 4 := by kernel_rfl
theorem Yb : ta Tryz.prog 82 = some true := by kernel_rfl
theorem Xa : oV Tryz.prog 82 = some 32 := by kernel_rfl
theorem XV : tz Tryz.prog 82 = some [Value.int IntKind.i64 0, Value.int IntKind.i64 0, Value.int IntKind.i64 0, Value.int IntKind.i64 0] := by kernel_rfl
theorem XL : oW Tryz.prog 82 = some [(0, 1), (1, 1), (2, 1), (3, 1)] := by kernel_rfl
theorem X6 : tf Tryz.prog 82 0 = some (0, 1, false) := by kernel_rfl
theorem WX : tf Tryz.prog 82 1 = some (1, 1, false) := by kernel_rfl
theorem WQ : tf Tryz.prog 82 2 = some (2, 1, false) := by kernel_rfl
theorem XF : tf Tryz.prog 82 3 = some (3, 1, false) := by kernel_rfl
theorem Bk : ts Tryz.prog 85 = some 4 := by kernel_rfl
theorem CM : ta Tryz.prog 85 = some true := by kernel_rfl
theorem Bj : oV Tryz.prog 85 = some 32 := by kernel_rfl
theorem Bw : tz Tryz.prog 85 = some [Value.int IntKind.i64 0, Value.int IntKind.i64 0, Value.int IntKind.i64 0, Value.int IntKind.i64 0] := by kernel_rfl
theorem CJ : oW Tryz.prog 85 = some [(0, 1), (1, 1), (2, 1), (3, 1)] := by kernel_rfl
theorem DK : tf Tryz.prog 85 0 = some (0, 1, false) := by kernel_rfl
theorem Bv : tf Tryz.prog 85 1 = some (1, 1, false) := by kernel_rfl
theorem CP : tf Tryz.prog 85 2 = some (2, 1, false) := by kernel_rfl
theorem Dm : tf Tryz.prog 85 3 = some (3, 1, false) := by kernel_rfl
theorem yn : ts Tryz.prog 89 = some 1 := by kernel_rfl
theorem yy : ta Tryz.prog 89 = some false := by kernel_rfl
theorem xV : tz Tryz.prog 89 = some [Value.slice none 0 0] := by kernel_rfl
theorem xN : Program.underlying Tryz.prog 89 = some (.slice 5) := by kernel_rfl
theorem W5 : ts Tryz.prog 91 = some 2 := by kernel_rfl
theorem Xo : ta Tryz.prog 91 = some true := by kernel_rfl
theorem WU : tz Tryz.prog 91 = some [Value.pointer none, Value.slice none 0 0] := by kernel_rfl
theorem WZ : oW Tryz.prog 91 = some [(0, 1), (1, 1)] := by kernel_rfl
theorem X2 : tf Tryz.prog 91 0 = some (0, 1, false) := by kernel_rfl
theorem Xe : tf Tryz.prog 91 1 = some (1, 1, false) := by kernel_rfl
theorem Xz : ts Tryz.prog 96 = some 1 := by kernel_rfl
theorem WW : ta Tryz.prog 96 = some false := by kernel_rfl
theorem Xp : tz Tryz.prog 96 = some [Value.nilFunc] := by kernel_rfl
theorem W7 : ts Tryz.prog 145 = some 1 := by kernel_rfl
theorem Xb : ta Tryz.prog 145 = some false := by kernel_rfl
theorem Vs : ts Tryz.prog 147 = some 1 := by kernel_rfl
theorem UO : ta Tryz.prog 147 = some false := by kernel_rfl
theorem CX : ts Tryz.prog 149 = some 1 := by kernel_rfl
theorem B8 : ta Tryz.prog 149 = some false := by kernel_rfl
theorem BC : tz Tryz.prog 149 = some [Value.slice none 0 0] := by kernel_rfl
theorem Du : Program.underlying Tryz.prog 149 = some (.slice 3) := by kernel_rfl
theorem rU : ts Tryz.prog 151 = some 1 := by kernel_rfl
theorem rV : ta Tryz.prog 151 = some false := by kernel_rfl
theorem sb : tz Tryz.prog 151 = some [Value.nilIface] := by kernel_rfl
theorem rX : isIface Tryz.prog 151 = some true := by kernel_rfl
theorem XY : ts Tryz.prog 152 = some 1 := by kernel_rfl
theorem Yc : ta Tryz.prog 152 = some false := by kernel_rfl
theorem IZ : ts Tryz.prog 156 = some 1 := by kernel_rfl
theorem JM : ta Tryz.prog 156 = some false := by kernel_rfl
theorem JL : tz Tryz.prog 156 = some [Value.int IntKind.i64 0] := by kernel_rfl
theorem I4 : Program.underlying Tryz.prog 156 = some (.int IntKind.i64) := by kernel_rfl
theorem U0 : ts Tryz.prog 160 = some 4 := by kernel_rfl
theorem Ve : ta Tryz.prog 160 = some true := by kernel_rfl
theorem Vc : tz Tryz.prog 160 = some [Value.string { data := #[] }, Value.bool false, Value.int IntKind.i64 0, Value.int IntKind.i64 0] := by kernel_rfl
theorem UP : oW Tryz.prog 160 = some [(0, 1), (1, 1), (2, 1), (3, 1)] := by kernel_rfl
theorem UX : tf Tryz.prog 160 0 = some (0, 1, false) := by kernel_rfl
theorem U9 : tf Tryz.prog 160 1 = some (1, 1, false) := by kernel_rfl
theorem Vr : tf Tryz.prog 160 2 = some (2, 1, false) := by kernel_rfl
theorem Vp : tf Tryz.prog 160 3 = some (3, 1, false) := by kernel_rfl
theorem Vh : ts Tryz.prog 161 = some 84 := by kernel_rfl
theorem UY : ta Tryz.prog 161 = some true := by kernel_rfl
theorem Vd : Program.underlying Tryz.prog 161 = some (.array 21 160) := by kernel_rfl
theorem o6 : ts Tryz.prog 203 = some 1 := by kernel_rfl
theorem pB : ta Tryz.prog 203 = some false := by kernel_rfl
theorem p6 : tz Tryz.prog 203 = some [Value.int IntKind.u64 0] := by kernel_rfl
theorem qn : Program.underlying Tryz.prog 203 = some (.int IntKind.u64) := by kernel_rfl
theorem IG : ts Tryz.prog 229 = some 1 := by kernel_rfl
theorem Jz : ta Tryz.prog 229 = some false := by kernel_rfl
theorem I0 : tz Tryz.prog 229 = some [Value.pointer none] := by kernel_rfl
theorem I6 : iH Tryz.prog 229 = some true := by kernel_rfl
theorem IW : Program.underlying Tryz.prog 229 = some (.pointer 232) := by kernel_rfl
theorem Nb : ts Tryz.prog 230 = some 1 := by kernel_rfl
theorem QV : ta Tryz.prog 230 = some false := by kernel_rfl
theorem Ox : tz Tryz.prog 230 = some [Value.slice none 0 0] := by kernel_rfl
theorem Pk : Program.underlying Tryz.prog 230 = some (.slice 234) := by kernel_rfl
theorem Iz : ts Tryz.prog 232 = some 2 := by kernel_rfl
theorem I3 : ta Tryz.prog 232 = some true := by kernel_rfl
theorem Ji : tz Tryz.prog 232 = some [Value.slice none 0 0, Value.slice none 0 0] := by kernel_rfl
theorem Ia : oW Tryz.prog 232 = some [(0, 1), (1, 1)] := by kernel_rfl
theorem Jo : tf Tryz.prog 232 0 = some (0, 1, false) := by kernel_rfl
theorem Jv : tf Tryz.prog 232 1 = some (1, 1, false) := by kernel_rfl
theorem IX : ts Tryz.prog 234 = some 6 := by kernel_rfl
theorem Iu : ta Tryz.prog 234 = some true := by kernel_rfl
theorem Iv : oV Tryz.prog 234 = some 48 := by kernel_rfl
theorem H3 : tz Tryz.prog 234 = some [Value.int IntKind.i64 0, Value.int IntKind.i64 0, Value.int IntKind.i64 0, Value.int IntKind.u8 0, Value.int IntKind.i64 0, Value.int IntKind.i64 0] := by kernel_rfl
theorem Jm : oW Tryz.prog 234 = some [(0, 1), (1, 1), (2, 1), (3, 1), (4, 1), (5, 1)] := by kernel_rfl
theorem Iw : tf Tryz.prog 234 0 = some (0, 1, false) := by kernel_rfl
theorem H0 : tf Tryz.prog 234 1 = some (1, 1, false) := by kernel_rfl
theorem Jh : tf Tryz.prog 234 2 = some (2, 1, false) := by kernel_rfl
theorem Js : tf Tryz.prog 234 3 = some (3, 1, false) := by kernel_rfl
theorem H5 : tf Tryz.prog 234 4 = some (4, 1, false) := by kernel_rfl
theorem Ii : tf Tryz.prog 234 5 = some (5, 1, false) := by kernel_rfl
theorem Oz : ts Tryz.prog 236 = some 1 := by kernel_rfl
theorem RS : ta Tryz.prog 236 = some false := by kernel_rfl
theorem P2 : tz Tryz.prog 236 = some [Value.pointer none] := by kernel_rfl
theorem QW : iH Tryz.prog 236 = some true := by kernel_rfl
theorem PD : Program.underlying Tryz.prog 236 = some (.pointer 234) := by kernel_rfl
theorem XJ : ts Tryz.prog 238 = some 1 := by kernel_rfl
theorem WV : ta Tryz.prog 238 = some false := by kernel_rfl
theorem yt : ts Tryz.prog 241 = some 256 := by kernel_rfl
theorem xp : ta Tryz.prog 241 = some true := by kernel_rfl
theorem yw : tz Tryz.prog 241 = some (List.replicate 256 (Value.bool false)) := by kernel_rfl
theorem xi : Program.underlying Tryz.prog 241 = some (.array 256 4) := by kernel_rfl
theorem pX : ts Tryz.prog 243 = some 261 := by kernel_rfl
theorem sc : ta Tryz.prog 243 = some true := by kernel_rfl
theorem sv : oV Tryz.prog 243 = some 296 := by kernel_rfl
theorem qg : tz Tryz.prog 243 = some ([Value.int IntKind.i64 0] ++ (List.replicate 256 (Value.bool false)) ++ [Value.int IntKind.i64 0] ++ [Value.int IntKind.i64 0] ++ [Value.int IntKind.i64 0] ++ [Value.int IntKind.i64 0]) := by kernel_rfl
theorem su : oW Tryz.prog 243 = some [(0, 1), (1, 256), (257, 1), (258, 1), (259, 1), (260, 1)] := by kernel_rfl
theorem rT : tf Tryz.prog 243 0 = some (0, 1, false) := by kernel_rfl
theorem rS : tf Tryz.prog 243 1 = some (1, 256, true) := by kernel_rfl
theorem rJ : tf Tryz.prog 243 2 = some (257, 1, false) := by kernel_rfl
theorem sa : tf Tryz.prog 243 3 = some (258, 1, false) := by kernel_rfl
theorem rD : tf Tryz.prog 243 4 = some (259, 1, false) := by kernel_rfl
theorem sq : tf Tryz.prog 243 5 = some (260, 1, false) := by kernel_rfl
theorem W9 : ts Tryz.prog 244 = some 1 := by kernel_rfl
theorem XK : ta Tryz.prog 244 = some false := by kernel_rfl
theorem CG : ts Tryz.prog 248 = some 1 := by kernel_rfl
theorem DG : ta Tryz.prog 248 = some false := by kernel_rfl
theorem Cd : tz Tryz.prog 248 = some [Value.pointer none] := by kernel_rfl
theorem DE : iH Tryz.prog 248 = some true := by kernel_rfl
theorem Db : Program.underlying Tryz.prog 248 = some (.pointer 64) := by kernel_rfl
theorem uJ : ts Tryz.prog 249 = some 1 := by kernel_rfl
theorem uL : ta Tryz.prog 249 = some false := by kernel_rfl
theorem u7 : tz Tryz.prog 249 = some [Value.pointer none] := by kernel_rfl
theorem tn : iH Tryz.prog 249 = some true := by kernel_rfl
theorem uZ : Program.underlying Tryz.prog 249 = some (.pointer 251) := by kernel_rfl
theorem uA : ts Tryz.prog 251 = some 3 := by kernel_rfl
theorem uH : ta Tryz.prog 251 = some true := by kernel_rfl
theorem vH : tz Tryz.prog 251 = some [Value.string { data := #[] }, Value.int IntKind.i64 0, Value.slice none 0 0] := by kernel_rfl
theorem uY : oW Tryz.prog 251 = some [(0, 1), (1, 1), (2, 1)] := by kernel_rfl
theorem u5 : tf Tryz.prog 251 0 = some (0, 1, false) := by kernel_rfl
theorem ue : tf Tryz.prog 251 1 = some (1, 1, false) := by kernel_rfl
theorem tX : tf Tryz.prog 251 2 = some (2, 1, false) := by kernel_rfl
theorem It : ts Tryz.prog 252 = some 1 := by kernel_rfl
theorem JK : ta Tryz.prog 252 = some false := by kernel_rfl
theorem IF : tz Tryz.prog 252 = some [Value.nilFunc] := by kernel_rfl
theorem qa : ts Tryz.prog 254 = some 2 := by kernel_rfl
theorem qb : ta Tryz.prog 254 = some true := by kernel_rfl
theorem qp : tz Tryz.prog 254 = some [Value.int IntKind.i64 0, Value.nilFunc] := by kernel_rfl
theorem py : oW Tryz.prog 254 = some [(0, 1), (1, 1)] := by kernel_rfl
theorem ql : tf Tryz.prog 254 0 = some (0, 1, false) := by kernel_rfl
theorem pH : tf Tryz.prog 254 1 = some (1, 1, false) := by kernel_rfl
theorem ON : ts Tryz.prog 279 = some 1 := by kernel_rfl
theorem O7 : ta Tryz.prog 279 = some true := by kernel_rfl
theorem RC : zv Tryz.prog 279 = some (.agg #[Value.nilIface]) := by kernel_rfl
theorem OI : tz Tryz.prog 279 = some [Value.nilIface] := by kernel_rfl
theorem PK : oW Tryz.prog 279 = some [(0, 1)] := by kernel_rfl
theorem Pd : isIface Tryz.prog 279 = some false := by kernel_rfl
theorem Rv : Program.concrete Tryz.prog 279 = true := by kernel_rfl
theorem Nr : tf Tryz.prog 279 0 = some (0, 1, false) := by kernel_rfl
theorem Om : ts Tryz.prog 281 = some 2 := by kernel_rfl
theorem Rq : ta Tryz.prog 281 = some true := by kernel_rfl
theorem OL : zv Tryz.prog 281 = some (.agg #[Value.nilIface, Value.nilIface]) := by kernel_rfl
theorem Qe : tz Tryz.prog 281 = some [Value.nilIface, Value.nilIface] := by kernel_rfl
theorem OC : oW Tryz.prog 281 = some [(0, 1), (1, 1)] := by kernel_rfl
theorem N9 : isIface Tryz.prog 281 = some false := by kernel_rfl
theorem Qg : Program.concrete Tryz.prog 281 = true := by kernel_rfl
theorem P4 : tf Tryz.prog 281 0 = some (0, 1, false) := by kernel_rfl
theorem Oc : tf Tryz.prog 281 1 = some (1, 1, false) := by kernel_rfl
theorem Ik : ts Tryz.prog 283 = some 0 := by kernel_rfl
theorem H4 : ta Tryz.prog 283 = some true := by kernel_rfl
theorem JB : zv Tryz.prog 283 = some (.agg #[]) := by kernel_rfl
theorem IU : tz Tryz.prog 283 = some [] := by kernel_rfl
theorem Jc : oW Tryz.prog 283 = some [] := by kernel_rfl
theorem Jj : isIface Tryz.prog 283 = some false := by kernel_rfl
theorem IL : Program.concrete Tryz.prog 283 = true := by kernel_rfl
theorem OT : ts Tryz.prog 284 = some 2 := by kernel_rfl
theorem Nf : ta Tryz.prog 284 = some true := by kernel_rfl
theorem RD : zv Tryz.prog 284 = some (.agg #[Value.nilIface, Value.nilIface]) := by kernel_rfl
theorem Qm : tz Tryz.prog 284 = some [Value.nilIface, Value.nilIface] := by kernel_rfl
theorem N4 : oW Tryz.prog 284 = some [(0, 1), (1, 1)] := by kernel_rfl
theorem Pa : isIface Tryz.prog 284 = some false := by kernel_rfl
theorem OV : Program.concrete Tryz.prog 284 = true := by kernel_rfl
theorem P1 : tf Tryz.prog 284 0 = some (0, 1, false) := by kernel_rfl
theorem PR : tf Tryz.prog 284 1 = some (1, 1, false) := by kernel_rfl
theorem RE : ts Tryz.prog 285 = some 2 := by kernel_rfl
theorem Q9 : ta Tryz.prog 285 = some true := by kernel_rfl
theorem Qi : zv Tryz.prog 285 = some (.agg #[Value.nilIface, Value.nilIface]) := by kernel_rfl
theorem OP : tz Tryz.prog 285 = some [Value.nilIface, Value.nilIface] := by kernel_rfl
theorem OF : oW Tryz.prog 285 = some [(0, 1), (1, 1)] := by kernel_rfl
theorem Pc : isIface Tryz.prog 285 = some false := by kernel_rfl
theorem QQ : Program.concrete Tryz.prog 285 = true := by kernel_rfl
theorem O9 : tf Tryz.prog 285 0 = some (0, 1, false) := by kernel_rfl
theorem NG : tf Tryz.prog 285 1 = some (1, 1, false) := by kernel_rfl
theorem Nk : ts Tryz.prog 286 = some 2 := by kernel_rfl
theorem Qa : ta Tryz.prog 286 = some true := by kernel_rfl
theorem Po : zv Tryz.prog 286 = some (.agg #[Value.nilIface, Value.nilIface]) := by kernel_rfl
theorem QE : tz Tryz.prog 286 = some [Value.nilIface, Value.nilIface] := by kernel_rfl
theorem Qb : oW Tryz.prog 286 = some [(0, 1), (1, 1)] := by kernel_rfl
theorem Ri : isIface Tryz.prog 286 = some false := by kernel_rfl
theorem No : Program.concrete Tryz.prog 286 = true := by kernel_rfl
theorem PE : tf Tryz.prog 286 0 = some (0, 1, false) := by kernel_rfl
theorem P5 : tf Tryz.prog 286 1 = some (1, 1, false) := by kernel_rfl
theorem XD : ts Tryz.prog 298 = some 2 := by kernel_rfl
theorem XO : ta Tryz.prog 298 = some true := by kernel_rfl
theorem Xf : tz Tryz.prog 298 = some [Value.int IntKind.i64 0, Value.int IntKind.i64 0] := by kernel_rfl
theorem WY : Program.underlying Tryz.prog 298 = some (.array 2 3) := by kernel_rfl
theorem Xq : ts Tryz.prog 301 = some 1 := by kernel_rfl
theorem Xv : ta Tryz.prog 301 = some false := by kernel_rfl
theorem xv : ts Tryz.prog 307 = some 1 := by kernel_rfl
theorem yP : ta Tryz.prog 307 = some false := by kernel_rfl
theorem ya : tz Tryz.prog 307 = some [Value.nilFunc] := by kernel_rfl
theorem rF : ts Tryz.prog 309 = some 4 := by kernel_rfl
theorem r9 : ta Tryz.prog 309 = some true := by kernel_rfl
theorem r8 : tz Tryz.prog 309 = some [Value.int IntKind.u64 0, Value.int IntKind.u64 0, Value.int IntKind.u64 0, Value.int IntKind.u64 0] := by kernel_rfl
theorem sf : Program.underlying Tryz.prog 309 = some (.array 4 203) := by kernel_rfl
theorem US : ts Tryz.prog 311 = some 4 := by kernel_rfl
theorem Vm : ta Tryz.prog 311 = some true := by kernel_rfl
theorem Va : zv Tryz.prog 311 = some (.agg #[Value.int IntKind.u64 0, Value.int IntKind.u64 0, Value.int IntKind.u64 0, Value.int IntKind.u64 0]) := by kernel_rfl
theorem U4 : tz Tryz.prog 311 = some [Value.int IntKind.u64 0, Value.int IntKind.u64 0, Value.int IntKind.u64 0, Value.int IntKind.u64 0] := by kernel_rfl
theorem Vq : oW Tryz.prog 311 = some [(0, 4)] := by kernel_rfl
theorem Vi : isIface Tryz.prog 311 = some false := by kernel_rfl
theorem U8 : Program.concrete Tryz.prog 311 = true := by kernel_rfl
theorem Vk : tf Tryz.prog 311 0 = some (0, 4, true) := by kernel_rfl
theorem Jb : ts Tryz.prog 326 = some 1 := by kernel_rfl
theorem H8 : ta Tryz.prog 326 = some false := by kernel_rfl
theorem UT : ts Tryz.prog 355 = some 2 := by kernel_rfl
theorem UZ : ta Tryz.prog 355 = some true := by kernel_rfl
theorem Vn : tz Tryz.prog 355 = some [Value.int IntKind.u8 0, Value.int IntKind.u8 0] := by kernel_rfl
theorem UQ : oW Tryz.prog 355 = some [(0, 1), (1, 1)] := by kernel_rfl
theorem UN : tf Tryz.prog 355 0 = some (0, 1, false) := by kernel_rfl
theorem U5 : tf Tryz.prog 355 1 = some (1, 1, false) := by kernel_rfl
theorem UU : ts Tryz.prog 356 = some 6 := by kernel_rfl
theorem U6 : ta Tryz.prog 356 = some true := by kernel_rfl
theorem Vo : tz Tryz.prog 356 = some [Value.int IntKind.u8 0, Value.int IntKind.u8 0, Value.int IntKind.u8 0, Value.int IntKind.u8 0, Value.int IntKind.u8 0, Value.int IntKind.u8 0] := by kernel_rfl
theorem UW : Program.underlying Tryz.prog 356 = some (.array 3 355) := by kernel_rfl
theorem XA : ts Tryz.prog 361 = some 1 := by kernel_rfl
theorem Xy : ta Tryz.prog 361 = some false := by kernel_rfl
theorem IB : ts Tryz.prog 373 = some 1 := by kernel_rfl
theorem I7 : ta Tryz.prog 373 = some false := by kernel_rfl
theorem IC : tz Tryz.prog 373 = some [Value.pointer none] := by kernel_rfl
theorem IK : iH Tryz.prog 373 = some true := by kernel_rfl
theorem IY : Program.underlying Tryz.prog 373 = some (.pointer 375) := by kernel_rfl
theorem Jt : ts Tryz.prog 375 = some 2 := by kernel_rfl
theorem Ih : ta Tryz.prog 375 = some true := by kernel_rfl
theorem H6 : tz Tryz.prog 375 = some [Value.string { data := #[] }, Value.int IntKind.i64 0] := by kernel_rfl
theorem Jy : oW Tryz.prog 375 = some [(0, 1), (1, 1)] := by kernel_rfl
theorem Ju : tf Tryz.prog 375 0 = some (0, 1, false) := by kernel_rfl
theorem II : tf Tryz.prog 375 1 = some (1, 1, false) := by kernel_rfl
end
end Go.Proofs.YtnemkecffmdlnaaGreatDoor
namespace Go.LE
section
open Go.RowKit
def kn (w : World) (ao : Option Addr) (vs : List Value) : Prop :=
 vs = [] \/ ∃ b o, ao = some ⟨b, o, none⟩ /\ ∀ j (h : j < vs.length), w.cell? ⟨b, o + j, none⟩ = some vs[j]
def X0 (W : World) (bs : List Nat) (sz n : Nat) (vs : List Value) : AV -> Prop
 | .row _ s m us => s = sz /\ m = n /\ us = vs
 | .val (.slice ao m _) => m = n /\ vs.length = n * sz /\ (vs = [] \/ ∃ b o, ao = some ⟨b, o, none⟩ /\ b ∉ bs /\ ∀ j (h : j < vs.length), W.cell? ⟨b, o + j, none⟩ = some vs[j])
 | _ => False
theorem Ti {W w : World} {bs : List Nat} {sz n : Nat} {vs : List Value} {a : AV} {u : Value} (hk : ai W bs w) (hu : tJ w u a) (h : X0 W bs sz n vs a) : ∃ ao c, u = .slice ao n c /\ kn w ao vs := by
 cases a with
 | row T s m us =>
  obtain ⟨rfl, rfl, rfl⟩ := h
  obtain ⟨hl, h⟩ := hu
  rcases h with ⟨rfl, rfl⟩ | ⟨g, cap, cur, rfl, _, hh, _, _, hsz, htk⟩
  ·exact ⟨none, 0, rfl, .inl (by simpa using hl)⟩
  ·refine ⟨some ⟨g, 0, none⟩, cap, rfl, .inr ⟨g, 0, rfl, fun j hj => ?_⟩⟩
   rw [Nat.zero_add]
   have hj' : j < m * s := by omega
   have : us[j]? = cur[j]? := by rw [<- htk, List.getElem?_take, if_pos hj']; simp
   simp only [World.cell?, hh]
   rw [<- this, List.getElem?_eq_getElem hj]
   rfl
 | val v =>
  cases v with
  | slice ao m c =>
   obtain ⟨rfl, hl, h⟩ := h
   cases hu
   refine ⟨ao, c, rfl, ?_⟩
   rcases h with h | ⟨b, o, rfl, hb, hc⟩
   ·exact .inl h
   ·refine .inr ⟨b, o, rfl, fun j hj => ?_⟩
    have := hc j hj
    rw [hk.cell hb (by rw [this]; rfl), this]
    rfl
  | _ => exact h.elim
theorem al.Yx {W : World} {bs : List Nat} {E : Nat -> Value} {F : Nat -> List Nat} {h : Nat -> Option bm} {w w' : World} {k : Nat} {e : bm} (hs : al W bs E F h w) (hk : h k = some e) (hkeep : ai w (F k) w') :
  al W bs E F (bg h k none) w' := by
 have old : ∀ j x, bg h k none j = some x -> h j = some x /\ j ≠ k := fun j x hj => by
  by_cases hjk : j = k
  ·subst hjk; rw [ah] at hj; cases hj
  ·rw [ak _ _ hjk] at hj; exact ⟨hj, hjk⟩
 refine ⟨fun j x hj => ?_, fun j x hj b hb => Nat.lt_of_lt_of_le (hs.lt j x (old j x hj).1 b hb) hkeep.size, fun j x hj => hs.mine j x (old j x hj).1, fun i j x y hij hi hj => hs.apart i j x y hij (old i x hi).1 (old j y hj).1, ?_⟩
 ·obtain ⟨hj, hne⟩ := old j x hj
  exact gB (hs.ent j x hj) fun b hb => hkeep.block b (hs.lt j x hj b hb) fun hb' => hs.apart j k x e hne hj hk b hb hb'
 ·exact hs.keeps.trans hkeep fun b hb hlt => (hs.mine k e hk b hb).resolve_left (by omega)
theorem Le.conv {W : World} {bs : List Nat} {nt : Nat} {ds : Aux} {σ : St} {k : Nat} {e e' : bm} (hk : σ.h k = some e) (he : ∀ E u fp w, bn E u fp w e -> bn E u fp w e') (hkeys : ∀ j ∈ e'.keys, j ∈ e.keys) :
  Le W bs nt ds σ ⟨σ.n, σ.φ, bg σ.h k (some e')⟩ := by
 rintro a w ⟨⟨E, F, hφ, hs, hp⟩, h1, h2, h3, h4, h5⟩
 have old : ∀ j x, bg σ.h k (some e') j = some x -> ∃ y, σ.h j = some y /\ ((j = k /\ x = e') \/ x = y) := fun j x hj => by
  by_cases hjk : j = k
  ·subst hjk; rw [ah] at hj; cases hj; exact ⟨e, hk, .inl ⟨rfl, rfl⟩⟩
  ·rw [ak _ _ hjk] at hj; exact ⟨x, hj, .inr rfl⟩
 refine ⟨⟨E, F, hφ, ⟨fun j x hj => ?_, fun j x hj => ?_, fun j x hj => ?_, fun i j x y hij hi hj => ?_, hs.keeps⟩, hp⟩, h1, h2, h3, h4, fun j x hj => ?_⟩
 ·obtain ⟨y, hy, h⟩ := old j x hj
  rcases h with ⟨rfl, rfl⟩ | rfl
  ·rw [hk] at hy; cases hy
   exact he _ _ _ _ (hs.ent j e hk)
  ·exact hs.ent j x hy
 ·obtain ⟨y, hy, _⟩ := old j x hj; exact hs.lt j y hy
 ·obtain ⟨y, hy, _⟩ := old j x hj; exact hs.mine j y hy
 ·obtain ⟨x', hx', _⟩ := old i x hi
  obtain ⟨y', hy', _⟩ := old j y hj
  exact hs.apart i j x' y' hij hx' hy'
 ·obtain ⟨y, hy, h⟩ := old j x hj
  rcases h with ⟨rfl, rfl⟩ | rfl
  ·rw [hk] at hy; cases hy
   exact ⟨(h5 j e hk).1, fun i hi => (h5 j e hk).2 i (hkeys i hi)⟩
  ·exact h5 j x hy
end
section
open Go.RowKit
def cv (W : World) (S : Nat -> Prop) (W' : World) (S' : Nat -> Prop) : Prop := ∀ b, b < W.heap.size -> S b -> W'.heap[b]? = W.heap[b]? /\ S' b
theorem cv.refl (W : World) (S : Nat -> Prop) : cv W S W S := fun _ _ h => ⟨rfl, h⟩
theorem cv.trans {W W' W'' : World} {S S' S'' : Nat -> Prop} (h : cv W S W' S') (h' : cv W' S' W'' S'') (hsz : W.heap.size <= W'.heap.size) : cv W S W'' S'' := fun b hb hs => by
 obtain ⟨h1, h2⟩ := h b hb hs
 obtain ⟨h3, h4⟩ := h' b (by omega) h2
 exact ⟨h3.trans h1, h4⟩
def Out (bs : List Nat) : Nat -> Prop := fun b => b ∉ bs
theorem Ext.h9 {W W' : World} {bs bs' : List Nat} (h : Ext W bs W' bs') : cv W (Out bs) W' (Out bs') := fun b hb hs =>
 ⟨h.keeps.block b hb hs, fun hb' => (h.sub b hb').elim (fun h1 => by omega) hs⟩
theorem ai.h9 {W w : World} {bs : List Nat} (h : ai W bs w) : cv W (Out bs) w (Out bs) := fun b hb hs => ⟨h.block b hb hs, hs⟩
def XC (W : World) (S : Nat -> Prop) (b o : Nat) (v : Value) : Prop := S b /\ W.cell? ⟨b, o, none⟩ = some v
theorem XC.mono {W W' : World} {S S' : Nat -> Prop} {b o : Nat} {v : Value} (h : XC W S b o v) (hs : cv W S W' S') : XC W' S' b o v := by
 have hlt := World.block_lt_of_cell? W _ h.2
 obtain ⟨h1, h2⟩ := hs b hlt h.1
 exact ⟨h2, by rw [<- h.2]; exact World.cell?_of_block h1⟩
def eP (W : World) (S : Nat -> Prop) (ao : Option Addr) (vs : List Value) : Prop := vs = [] \/ ∃ b o, ao = some ⟨b, o, none⟩ /\ ∀ j (h : j < vs.length), XC W S b (o + j) vs[j]
theorem eP.mono {W W' : World} {S S' : Nat -> Prop} {ao : Option Addr} {vs : List Value} (h : eP W S ao vs) (hs : cv W S W' S') : eP W' S' ao vs := by
 rcases h with h | ⟨b, o, h1, h2⟩
 ·exact .inl h
 ·exact .inr ⟨b, o, h1, fun j hj => (h2 j hj).mono hs⟩
theorem eP.is {W : World} {S : Nat -> Prop} {ao : Option Addr} {vs : List Value} (h : eP W S ao vs) : kn W ao vs := by
 rcases h with h | ⟨b, o, h1, h2⟩
 ·exact .inl h
 ·exact .inr ⟨b, o, h1, fun j hj => (h2 j hj).2⟩
theorem eP.lW {W : World} {ao : Option Addr} {vs : List Value} (h : kn W ao vs) : eP W (fun _ => True) ao vs := by
 rcases h with h | ⟨b, o, h1, h2⟩
 ·exact .inl h
 ·exact .inr ⟨b, o, h1, fun j hj => ⟨trivial, h2 j hj⟩⟩
theorem eP.out {W : World} {ao : Option Addr} {vs : List Value} {S S' : Nat -> Prop} (h : eP W S ao vs) (hs : ∀ b, S b -> S' b) : eP W S' ao vs := h.mono fun b _ hb => ⟨rfl, hs b hb⟩
theorem eP.take {W : World} {S : Nat -> Prop} {ao : Option Addr} {vs ws : List Value} (h : eP W S ao (vs ++ ws)) : eP W S ao vs := by
 rcases h with h | ⟨b, o, h1, h2⟩
 ·exact .inl (by simp at h; exact h.1)
 ·refine .inr ⟨b, o, h1, fun j hj => ?_⟩
  have := h2 j (by simp; omega)
  rwa [List.getElem_append_left hj] at this
def Tg (E : Nat -> Value) : FV -> FV -> Prop
 | .is x, .is y => den E x = den E y
 | .cnd b x, .cnd c y => b = c /\ (b = true -> den E x = den E y)
 | .cnd b x, .is y => b = true /\ den E x = den E y
 | _, .any => True
 | _, _ => False
def Wk (E : Nat -> Value) (φ : Fr) : List (Nat × FV) -> Prop
 | [] => True
 | (t, x) :: r => Tg E (φ t) x /\ Wk E φ r
theorem Mz {E : Nat -> Value} {x y : FV} {u : Value} (h : Tg E x y) (hf : fits E x u) : fits E y u := by
 cases x <;> cases y <;> simp only [Tg] at h <;> first | exact h.elim | trivial | skip
 ·simp only [fits] at hf ⊢; rw [hf, h]
 ·obtain ⟨rfl, h⟩ := h; simp only [fits, cond_true] at hf ⊢; rw [hf, h]
 ·rename_i b x c y
  obtain ⟨rfl, h⟩ := h
  cases b with
  | false => exact hf
  | true => simp only [fits, cond_true] at hf ⊢; rw [hf, h rfl]
theorem BJ {E : Nat -> Value} {φ : Fr} : ∀ {L : List (Nat × FV)}, Wk E φ L -> ∀ p ∈ L, Tg E (φ p.1) p.2
 | _ :: _, h, p, hp => by
  rcases List.mem_cons.1 hp with rfl | hp
  ·exact h.1
  ·exact BJ h.2 p hp
def JN (E : Nat -> Value) : Option bm -> bm -> Prop
 | some (.cells T vs), .cells T' vs' => T = T' /\ an E vs = an E vs'
 | some (.row T s n vs), .row T' s' n' vs' => T = T' /\ s = s' /\ n = n' /\ an E vs = an E vs'
 | some (.obj d R), .obj d' R' => d = d' /\ R = R'
 | _, _ => False
def VQ (E : Nat -> Value) (h : Hp) : List (Nat × bm) -> Prop
 | [] => True
 | (k, e) :: r => JN E (h k) e /\ VQ E h r
theorem vd {E : Nat -> Value} {h : Hp} : ∀ {H : List (Nat × bm)}, VQ E h H -> ∀ p ∈ H, JN E (h p.1) p.2
 | _ :: _, h, p, hp => by
  rcases List.mem_cons.1 hp with rfl | hp
  ·exact h.1
  ·exact vd h.2 p hp
theorem yk {E : Nat -> Value} {u : Value} {fp : List Nat} {w : World} {h : Hp} {k : Nat} {e : bm} (he : JN E (h k) e) : ∃ e0, h k = some e0 /\ (bn E u fp w e0 -> bn E u fp w e) := by
 cases hk : h k with
 | none => rw [hk] at he; cases e <;> exact he.elim
 | some e0 =>
  rw [hk] at he
  refine ⟨e0, rfl, fun hs => ?_⟩
  cases e0 <;> cases e <;> simp only [JN] at he <;> first | exact he.elim | skip
  ·obtain ⟨rfl, h2⟩ := he; simp only [bn, <- h2]; exact hs
  ·obtain ⟨rfl, rfl, rfl, h2⟩ := he; simp only [bn, <- h2]; exact hs
  ·obtain ⟨rfl, rfl⟩ := he; exact hs
theorem Wp.freeze {P : Program} {W : World} {bs : List Nat} {nt : Nat} {ds : Aux} {c : Code} {Q : jX} {σ : St} (n' : Nat) (ks : List Nat) (L : (Nat -> Value) -> List (Nat × FV)) (H : (Nat -> Value) -> List (Nat × bm))
  (hks : ∀ E, (H E).map (·.1) = ks) (hkb : ∀ E, OM n' (L E) (H E)) (hf : ∀ E, Wk E σ.φ (L E)) (hh : ∀ E, VQ E σ.h (H E)) (hpn : ∀ p ∈ ds.pins, p.1 / 8 < n')
  (h : ∀ W' bs' E F, Ext W bs W' bs' -> al W bs E F σ.h W' -> (∀ k ∈ ks, ∀ b ∈ F k, b ∈ bs') -> (∀ k e, σ.h k = some e -> k ∉ ks -> ∀ b ∈ F k, b ∉ bs') -> Wp P W' bs' nt ds c Q ⟨n', bQ (L E), bY (H E)⟩) : Wp P W bs nt ds c Q σ := by
 rintro a w ⟨⟨E, F, hφ, hs, hp⟩, hsz, hdf, _, _, _⟩
 have own : ∀ k ∈ ks, ∃ e, σ.h k = some e := fun k hk => by
  rw [<- hks E] at hk
  obtain ⟨p, hp, rfl⟩ := List.mem_map.1 hk
  obtain ⟨e0, h1, _⟩ := yk (u := undef) (fp := []) (w := w) (vd (hh E) p hp)
  exact ⟨e0, h1⟩
 have hx : Ext W bs w (ks.flatMap F) := ⟨hs.keeps, fun b hb => by
  obtain ⟨k, hk, hbk⟩ := List.mem_flatMap.1 hb
  obtain ⟨e, he⟩ := own k hk
  exact hs.mine k e he b hbk⟩
 refine wp_mono (h w (ks.flatMap F) E F hx hs (fun k hk b hb => List.mem_flatMap.2 ⟨k, hk, hb⟩) (fun k e hke hk b hb hb' => ?_) a w ?_) fun e' a' w' hh' => nC hx hh'
 ·obtain ⟨j, hj, hbj⟩ := List.mem_flatMap.1 hb'
  obtain ⟨e2, he2⟩ := own j hj
  exact hs.apart k j e e2 (fun hkj => hk (hkj ▸ hj)) hke he2 b hb hbj
 ·have at' : ∀ k e, bY (H E) k = some e -> k ∈ ks /\ ∃ e0, σ.h k = some e0 /\ bn E (E k) (F k) w e := fun k e he => by
   have hm := eQ he
   obtain ⟨e0, h1, h2⟩ := yk (u := E k) (fp := F k) (w := w) (vd (hh E) _ hm)
   exact ⟨by rw [<- hks E]; exact List.mem_map.2 ⟨_, hm, rfl⟩, e0, h1, h2 (hs.ent k e0 h1)⟩
  refine ⟨⟨E, F, fun t => ?_, ⟨fun k e he => (at' k e he).2.choose_spec.2, fun k e he b hb => ?_, fun k e he b hb => .inr (List.mem_flatMap.2 ⟨k, (at' k e he).1, hb⟩), fun k k' e e' hne he he' b hb => ?_, ai.refl w _⟩, hp⟩, hsz, hdf, hpn, fun t k hk' => ?_, fun k e he => ?_⟩
  ·rcases je (L := L E) t with h | ⟨p, hp, rfl, h⟩
   ·simp only [h]; trivial
   ·simp only [h]; exact Mz (BJ (hf E) p hp) (hφ p.1)
  ·obtain ⟨_, e0, h1, _⟩ := at' k e he; exact hs.lt k e0 h1 b hb
  ·obtain ⟨_, e0, h1, _⟩ := at' k e he
   obtain ⟨_, e1, h2, _⟩ := at' k' e' he'
   exact hs.apart k k' e0 e1 hne h1 h2 b hb
  ·rcases je (L := L E) t with h | ⟨p, hp, _, h⟩
   ·simp only [h] at hk'; cases hk'
   ·simp only [h] at hk'; exact (hkb E).1 p hp k hk'
  ·exact (hkb E).2 _ (eQ he)
theorem bp {P : Program} {W : World} {bs : List Nat} {nt : Nat} {ds : Aux} {Q : jX} {σ : St} {x y : Code} (σ' : St) (h1 : Wp P W bs nt ds x (Th (fun W' bs' σ1 => Le W' bs' nt ds σ1 σ') Q) σ) (h2 : Wp P W bs nt ds y Q σ') :
  Wp P W bs nt ds (.seq x y) Q σ := fun a w hs =>
 wp_seq (wp_mono (h1 a w hs) fun e a' w' ⟨W', bs', σ1, he, hq, hs'⟩ => by
  cases e with
  | normal => exact h2 a' w' (Sat.back he (hq a' w' hs'))
  | _ => exact ⟨W', bs', σ1, he, hq, hs'⟩)
def UM (W : World) (bs bs' : List Nat) : Nat -> Prop := fun b => b ∉ bs' /\ (W.heap.size <= b \/ b ∈ bs)
theorem UM.out {W : World} {bs bs' : List Nat} {b : Nat} (h : UM W bs bs' b) : Out bs' b := h.1
theorem Sx {W W' : World} {bs bs' : List Nat} {E : Nat -> Value} {F : Nat -> List Nat} {h : Hp} {k : Nat} {T : TypeId} {s n : Nat} {vs : List SV} (hs : al W bs E F h W') (hk : h k = some (.row T s n vs)) (hb : ∀ b ∈ F k, b ∉ bs') :
  ∃ ao c, E k = .slice ao n c /\ eP W' (UM W bs bs') ao (an E vs) /\ n <= c := by
 obtain ⟨⟨hl, h⟩, hF⟩ := hs.ent k _ hk
 rcases h with ⟨h1, rfl⟩ | ⟨g, cap, cur, h1, _, hh, hnc, _, hsz, htk⟩
 ·exact ⟨none, 0, h1, .inl (by simpa using hl), Nat.le_refl _⟩
 ·have hg : g ∈ F k := by rw [hF, h1]; simp [Value.ownBlock]
  refine ⟨some ⟨g, 0, none⟩, cap, h1, .inr ⟨g, 0, rfl, fun j hj => ⟨⟨hb g hg, hs.mine k _ hk g hg⟩, ?_⟩⟩, hnc⟩
  rw [Nat.zero_add]
  have hj' : j < n * s := by omega
  have : (an E vs)[j]? = cur[j]? := by rw [<- htk, List.getElem?_take, if_pos hj']; simp
  simp only [World.cell?, hh]
  rw [<- this, List.getElem?_eq_getElem hj]
  rfl
theorem eP.grow {W W' : World} {bs' : List Nat} {ao : Option Addr} {vs : List Value} {S : Nat -> Prop} (h : eP W' (UM W [] bs') ao vs) : eP W' (fun b => (b < W.heap.size -> S b) /\ b ∉ bs') ao vs :=
 h.out fun b hb => ⟨fun hlt => absurd (hb.2.resolve_right (by simp)) (Nat.not_le.2 hlt), hb.1⟩
def dv (cs : List Value) : Value := .iface 0 (.agg cs.toArray)
theorem AB (cs : List Value) (i : Nat) : C9 (dv cs) i = cs.getD i .nilIface := by simp [C9, dv, Array.getD_eq_getD_getElem?, List.getD_eq_getElem?_getD]
def Grow (w : World) (S : Nat -> Prop) : Nat -> Prop := fun b => b < w.heap.size -> S b
def Ip (W : World) (bs : List Nat) (Φ : List Value -> World -> (Nat -> Prop) -> Prop) : List Value -> Value -> List Nat -> World -> Prop := fun _ u fp w =>
 ∃ cs, u = dv cs /\ ∀ W₂ S₂, (∀ b, b < W.heap.size -> b ∉ bs -> W₂.heap[b]? = W.heap[b]? /\ S₂ b) -> (∀ b ∈ fp, W₂.heap[b]? = w.heap[b]? /\ S₂ b) -> Φ cs W₂ S₂
structure RN (P : Program) (f : FuncId) where
 pre : List AV -> World -> (Nat -> Prop) -> Prop
 tm : Nat -> SV
 Φ : List AV -> List Value -> World -> (Nat -> Prop) -> Prop
 premono : ∀ as_ W S W' S', cv W S W' S' -> pre as_ W S -> pre as_ W' S'
 mono : ∀ as_ cs W S W' S', cv W S W' S' -> Φ as_ cs W S -> Φ as_ cs W' S'
 tmg : ∀ E k, den E (tm k) = den (fun _ => E k) (tm 0)
 tmk : ∀ k, ∀ j ∈ (tm k).keys, j = k
 enters : ∀ args w, (callFunc f args).run P w = .ok (.enter f args) w
 ok : ∀ (w : World) (S : Nat -> Prop) (us : List Value) (as_ : List AV), eD w us as_ -> pre as_ w S -> Calls P f us.toArray w fun e w' => ∃ cs, e = .returned (den (fun _ => dv cs) (tm 0)) /\ Φ as_ cs w' (Grow w S) /\ ai w [] w'
def Old (W : World) (bs : List Nat) : Nat -> Prop := fun b => b < W.heap.size /\ b ∉ bs
def Dr (κ : Nat) (pre : List AV -> World -> (Nat -> Prop) -> Prop) (tm : Nat -> SV) (Φ : List AV -> List Value -> World -> (Nat -> Prop) -> Prop) (W : World) (bs : List Nat) : Option (List AV × List Nat) -> R
 | some (as_, rs) => ⟨pre as_ W (Out bs), tm (8 * κ), [(8 * κ, some (.obj [] (Ip W bs (Φ as_))))], none, [], rs⟩
 | none => .bad
def RN.spec {P : Program} {f : FuncId} (p : RN P f) : Spec P f where
 ev := fun W bs κ h args => Dr κ p.pre p.tm p.Φ W bs (ay h args)
 good := fun W bs κ E F h w K args hs hK hk hx hside => by
  rw [p.enters]
  cases hv : ay h args with
  | none => rw [hv] at hside; exact hside.elim
  | some q =>
   obtain ⟨as_, rs⟩ := q
   rw [hv] at hside
   have h0 : cv W (Out bs) w (Old W bs) := fun b hb hs' => ⟨hs.keeps.block b hb hs', hb, hs'⟩
   refine vZ hs hK hk (e := .obj [] (Ip W bs (p.Φ as_))) ((p.ok w (Old W bs) _ as_ (dE hs hv) (p.premono as_ _ _ _ _ h0 hside)).mono fun e w' he => ?_) rfl rfl
   obtain ⟨cs, rfl, hΦ, hkeep⟩ := he
   have hmem : ∀ b, b ∈ List.range' w.heap.size (w'.heap.size - w.heap.size) ↔ w.heap.size <= b /\ b < w'.heap.size := fun b => by
    rw [List.mem_range'_1]
    have := hkeep.size
    omega
   have hR : ∀ w3 : World, (∀ b ∈ List.range' w.heap.size (w'.heap.size - w.heap.size), w3.heap[b]? = w'.heap[b]?) -> Ip W bs (p.Φ as_) [] (dv cs) (List.range' w.heap.size (w'.heap.size - w.heap.size)) w3 := by
    intro w3 h3
    refine ⟨cs, rfl, fun W₂ S₂ hold hnew => p.mono as_ cs w' (Grow w (Old W bs)) W₂ S₂ (fun b hb hg => ?_) hΦ⟩
    by_cases hbw : b < w.heap.size
    ·obtain ⟨g1, g2⟩ := hg hbw
     obtain ⟨g3, g4⟩ := hold b g1 g2
     exact ⟨by rw [g3, hkeep.block b hbw (by simp), hs.keeps.block b g1 g2], g4⟩
    ·have hb' := (hmem b).2 ⟨by omega, hb⟩
     obtain ⟨g3, g4⟩ := hnew b hb'
     exact ⟨by rw [g3, h3 b hb'], g4⟩
   refine ⟨_, dv cs, List.range' w.heap.size (w'.heap.size - w.heap.size), rfl, fun E' => ⟨⟨hR w' fun _ _ => rfl, rfl⟩, hR⟩, fun b hb => (hmem b).1 hb, hkeep, ?_⟩
   simp only [Dr]
   rw [p.tmg (bg E (nk κ) (dv cs)), nk, ah]
 keys := fun W bs κ h K args hK hx hside => by
  cases hv : ay h args with
  | none => rw [hv] at hside; exact hside.elim
  | some q =>
   obtain ⟨as_, rs⟩ := q
   refine ⟨fun k hk => .inr ?_, fun q hq => ?_⟩
   ·rw [p.tmk _ k hk]
    exact aW κ
   ·simp only [Dr, List.mem_singleton] at hq
    subst hq
    refine ⟨.inr (aW κ), fun e he k hk => ?_⟩
    simp only [Option.some.injEq] at he
    subst he
    cases hk
 loc := fun W bs κ h h' args hside hr => by
  cases hv : ay h args with
  | none => rw [hv] at hside; exact hside.elim
  | some q =>
   obtain ⟨as_, rs⟩ := q
   rw [hv] at hr
   rw [cF hv hr]
theorem NR {P : Program} {f : FuncId} (p : RN P f) (W : World) (bs : List Nat) (κ : Nat) (h : Hp) (l : List SV) : p.spec.ev W bs κ h l = Dr κ p.pre p.tm p.Φ W bs (ay h l) := rfl
theorem Fy (κ : Nat) (pre : List AV -> World -> (Nat -> Prop) -> Prop) (tm : Nat -> SV) (Φ : List AV -> List Value -> World -> (Nat -> Prop) -> Prop) (W : World) (bs : List Nat) (as_ : List AV) (rs : List Nat) :
  Dr κ pre tm Φ W bs (some (as_, rs)) = ⟨pre as_ W (Out bs), tm (8 * κ), [(8 * κ, some (.obj [] (Ip W bs (Φ as_))))], none, [], rs⟩ := rfl
theorem oG (m : Nat -> Src) (l : List Value) : mf m (l.map .v) = l.map .v := by
 induction l with
 | nil => rfl
 | cons x r ih => simp [mf, wI, ih]
theorem a6 (m : Nat -> Src) (a b : List SV) : mf m (a ++ b) = mf m a ++ mf m b := by
 induction a with
 | nil => rfl
 | cons x r ih => simp [mf, ih]
section
variable {P : Program} {κ : Nat} {h : Hp}
def Yq (κ : Nat) (e : TypeId) (l c : Int) : Option Nat -> Option (List Value) -> Option Nat -> R
 | some sz, some zs, some by_ => ⟨0 <= l /\ l <= c /\ (by_ : Int) * c <= 281474976710656 /\ c <= 9223372036854775807 /\ zs.length = sz /\ 0 < sz, .hd (8 * κ), [(8 * κ, some (.row e sz l.toNat ((List.replicate l.toNat zs).flatten.map .v)))], none, [], []⟩
 | _, _, _ => .bad
def YW (P : Program) (κ : Nat) (l c : Int) : Option TypeDesc -> R
 | some (.slice e) => Yq κ e l c (ts P e) (tz P e) (oV P e)
 | _ => .bad
theorem Da (T : TypeId) (k k' : IntKind) (l c : Int) : ka P κ T [.v (.int k l), .v (.int k' c)] = YW P κ l c (P.underlying T) := by
 simp only [ka]; unfold YW
 rcases P.underlying T with _ | d
 ·rfl
 ·cases d <;> first | rfl | (rename_i e; simp only [Yq, nk]; rcases ts P e with _ | a <;> rcases tz P e with _ | b <;> rcases oV P e with _ | c <;> rfl)
theorem MH (l c : Int) (e : TypeId) : YW P κ l c (some (.slice e)) = Yq κ e l c (ts P e) (tz P e) (oV P e) := rfl
theorem O3 (e : TypeId) (l c : Int) (sz : Nat) (zs : List Value) (by_ : Nat) : Yq κ e l c (some sz) (some zs) (some by_) = ⟨0 <= l /\ l <= c /\ (by_ : Int) * c <= 281474976710656 /\ c <= 9223372036854775807 /\ zs.length = sz /\ 0 < sz, .hd (8 * κ), [(8 * κ, some (.row e sz l.toNat ((List.replicate l.toNat zs).flatten.map .v)))], none, [], []⟩ := rfl
def wz (ao : Option Addr) (a sz c : Nat) : Option Addr := if c = a then ao else ao.map (·.add (a * sz))
theorem yz (ao : Option Addr) (sz c : Nat) : wz ao 0 sz c = ao := by
 unfold wz
 split
 ·rfl
 ·cases ao <;> simp [Addr.add]
theorem eP.at {W : World} {S : Nat -> Prop} {ao : Option Addr} {vs : List Value} {a sz c n : Nat} (h : eP W S ao vs) (hl : vs.length = n * sz) (hn : n <= c) (ha : a <= n) : eP W S (wz ao a sz c) (vs.drop (a * sz)) := by
 unfold wz
 split
 ·left
  have : vs.length <= a * sz := by rw [hl]; exact Nat.mul_le_mul_right _ (by omega)
  simp [this]
 ·rcases h with h | ⟨b, o, rfl, h2⟩
  ·exact .inl (by simp [h])
  ·refine .inr ⟨b, o + a * sz, ?_, fun j hj => ?_⟩
   ·simp only [Option.map_some, Addr.add, Option.some.injEq]
    split
    ·rename_i h0; simp [h0]
    ·rfl
   ·simp only [List.length_drop] at hj
    have := h2 (a * sz + j) (by omega)
    rw [List.getElem_drop]
    rwa [Nat.add_assoc]
def Yg (ao : Option Addr) (c : Nat) (a b : Int) : Option Nat -> R
 | some sz => ⟨0 <= a /\ a <= b /\ b <= c, .v (.slice (wz ao a.toNat sz c) (b.toNat - a.toNat) (c - a.toNat)), [], none, [], []⟩
 | none => .bad
def WI (P : Program) (ao : Option Addr) (c : Nat) (a b : Int) : Option TypeDesc -> R
 | some (.slice e) => Yg ao c a b (ts P e)
 | _ => .bad
theorem lF (T : TypeId) (ao : Option Addr) (n c : Nat) (a b : Int) : kz P T ao n c a b = WI P ao c a b (P.underlying T) := by
 simp only [kz]; unfold WI
 rcases P.underlying T with _ | d
 ·rfl
 ·cases d <;> first | rfl | (rename_i e; simp only [Yg, R.fI, wz]; rcases ts P e with _ | a <;> rfl)
theorem Mr (ao : Option Addr) (c : Nat) (a b : Int) (e : TypeId) : WI P ao c a b (some (.slice e)) = Yg ao c a b (ts P e) := rfl
theorem RY (ao : Option Addr) (c : Nat) (a b : Int) (sz : Nat) : Yg ao c a b (some sz) = ⟨0 <= a /\ a <= b /\ b <= c, .v (.slice (wz ao a.toNat sz c) (b.toNat - a.toNat) (c - a.toNat)), [], none, [], []⟩ := rfl
theorem zi (T : TypeId) (ao : Option Addr) (n c : Nat) (k k' : IntKind) (a b : Int) : cQ P T true true false [.v (.slice ao n c), .v (.int k a), .v (.int k' b)] = WI P ao c a b (P.underlying T) := by
 rw [<- lF T ao n]; rfl
theorem A9 (T : TypeId) (ao : Option Addr) (n c : Nat) (k : IntKind) (a : Int) : cQ P T true false false [.v (.slice ao n c), .v (.int k a)] = WI P ao c a n (P.underlying T) := by
 rw [<- lF T ao n]; rfl
theorem zX (T : TypeId) (ao : Option Addr) (n c : Nat) (k : IntKind) (b : Int) : cQ P T false true false [.v (.slice ao n c), .v (.int k b)] = WI P ao c 0 b (P.underlying T) := by
 rw [<- lF T ao n]; rfl
end
end
section
def Zm := (ab @Da (ab @MH (ab @O3 (ab @yz (ab @Mr (ab @RY (ab @zi (ab @A9 (ab @zX (ab @NR @Fy))))))))))
end
section
open Go.ChangeShapes Go.WideShapes Go.ChangeAt Go.RowKit
section
variable {H : Type} {enc : TypeId × Value -> H} {P : Program}
theorem Oj {f : Func} {s : ChangeSpec} {apart fresh handsOn again : Bool} {W W' : World} {args : Array Value} {v : Value} {ds gs : List (DataW H)} {before pa pv : List MemPlace}
  (hW : DataW.Whole enc P f.params.toList s.vars apart W args.toList ds gs before)
  (hres : ∀ (b : Nat) (sp : Nat -> Bool) (hd : Bool), DataW.TrodAll enc P W' b sp hd f.resultTypes.toList (v.resultList f.resultTypes.size) (s.fn H (ds ++ gs)).results [])
  (hargs : ∀ sp : Nat -> Bool, (∀ p ∈ before, sp p.block = true) -> DataW.TrodAll enc P W' 0 sp true f.params.toList args.toList (s.fn H (ds ++ gs)).args pa)
  (hvars : ∀ sp : Nat -> Bool, (∀ p ∈ before, sp p.block = true) -> DataW.TrodVars enc P W' sp s.vars (s.fn H (ds ++ gs)).vars pv)
  (hps : before = pa ++ pv) (hk : W.keptBut W' (· ∈ before)) (hfz : ∀ a, a.block < W.heap.size -> W'.frozen? a = W.frozen? a)
  (hok : ∀ (j : Nat) (t : TypeId) (r : Value), f.resultTypes[j]? = some t -> (v.resultList f.resultTypes.size)[j]? = some r -> Value.okWide P W' .any 0 t r) :
  s.post enc P f apart fresh handsOn again W args v W' := by
 have hlt := hW.lt
 have hold : ∀ p ∈ before, (fun b => decide (b < W.heap.size)) p.block = true := fun p hp => by simpa using hlt p hp
 refine ⟨ds, gs, before, [], pa, pv, hW, hres _ _ _, hargs _ hold, hvars _ hold, World.keptBut_mono (fun p hp => ⟨hp, ?_⟩) hk, fun _ => ?_⟩
 ·rw [hps, List.mem_append] at hp
  exact Or.inr hp
 ·obtain ⟨_, _, _, _, _, hz, hn⟩ := hW
  refine ⟨hok, _, _, ([] ++ pa) ++ pv, ⟨[] ++ pa, pv, trodAll_append (hargs _ (fun _ _ => rfl)) (hres _ _ _), hvars _ (fun _ _ => rfl), rfl, ?_, ?_⟩, ?_⟩
  ·intro b off hp
   have hp' : MemPlace.cell b off ∈ before := by rw [hps]; simpa using hp
   rw [hfz _ (hlt _ hp')]
   exact hz b off hp'
  ·intro ha
   have := hn ha
   rw [hps] at this
   simpa using this
  ·intro p hp _
   rw [hps]
   simpa using hp
theorem od {W W' : World} : ∀ {ts : List TypeId} {vs : List Value} {ds : List (DataW H)} {ps : List MemPlace}, DataW.TrodAll enc P W 0 (fun _ => true) true ts vs ds ps -> (∀ p ∈ ps, W.sameAt W' p) -> DataW.TrodAll enc P W' 0 (fun _ => true) true ts vs ds ps
 | [], [], [], _, h, _ => h
 | t :: ts, v :: vs, d :: ds, ps, ⟨p, q, h1, h2, e⟩, hs => by
  subst e
  obtain ⟨n, hn⟩ := h1
  exact ⟨p, q, ⟨n, DataW.trod_carry n _ _ _ hn (fun x hx => hs x (List.mem_append_left _ hx))⟩, od h2 (fun x hx => hs x (List.mem_append_right _ hx)), rfl⟩
theorem OG {f : Func} {s : ChangeSpec} {tb : TypeId} (hl : laidOutB P = true) (hm : mapsRowed P = true)
  (hf : ((List.range P.types.size).all fun t => match P.underlying t with | some (.slice e) => decide (0 < P.cellsOf e) | _ => true) = true)
  (hT : f.params.all (fun t => decide (t < P.types.size)) = true) (hrt : f.resultTypes = #[tb]) (hb : P.underlying tb = some .bool) (hvs : s.vars = []) {W W' : World} {args : Array Value} {ds gs : List (DataW H)} {before : List MemPlace}
  (hW : DataW.Whole enc P f.params.toList s.vars false W args.toList ds gs before) (hres : (s.fn H (ds ++ gs)).results = [.lit (.bool true)]) (hargs : (s.fn H (ds ++ gs)).args = ds) (hv : (s.fn H (ds ++ gs)).vars = [])
  (hk : ai W [] W') : s.post enc P f false true false false W args (.bool true) W' := by
 have hb' := hk.below
 have hW' := hW
 obtain ⟨p, q, hA, hV, rfl, hfz, hnd⟩ := hW
 have hlt := hW'.lt
 have hq : q = [] := by rw [hvs] at hV; exact (trodVars_none hV).2
 subst hq
 refine Oj (pa := p) (pv := []) hW' (fun _ _ _ => ?_) (fun sp hsp => ?_) (fun sp hsp => ?_) rfl (hb'.frame _) (fun ad hlt => hb'.frozen hlt) ?_
 ·rw [hrt, hres]
  exact trodAll_cons_mk (shut_bool hb _) trodAll_mk0
 ·rw [hargs]
  refine DataW.TrodAll.respare (kids_rows hl hm) (slices_full_of P hf) (fun t ht => ?_) (od hA fun x hx => hb'.same (hlt x (by simpa using hx))) (fun x hx => hsp x (by simpa using hx))
  rw [Array.all_eq_true] at hT
  obtain ⟨i, hi, he⟩ := Array.mem_iff_getElem.1 (Array.mem_toList_iff.1 ht)
  have := hT i hi
  rw [he] at this
  simpa using this
 ·rw [hvs, hv]; rfl
 ·exact ok_one hrt rfl (okWide_bool_mk hb _)
theorem yC {W : World} {t e : TypeId} {c : Nat} {v : Value} {d : DataW H} {p : List MemPlace} (ht : P.underlying t = some (.slice e)) (hc : P.cellsOf e = c) (hok : ∃ a len cap, v = .slice a len cap) (h : DataW.Trod enc P W 0 (fun _ => true) true t v d p) :
  ∃ ao n cap m, ∃ (C : Nat -> List Value) (D : Nat -> DataW H) (rest : List (DataW H)), v = .slice ao n cap /\ ((n = 0 /\ d = .nil) \/ d = .slice ((List.range n).map D) rest) /\
   (∀ i, i < n -> (C i).length = c /\ ∃ pl, DataW.trod enc P W 0 (fun _ => true) true m e (C i) = some (D i, pl)) /\ kn W ao ((List.range n).flatMap C) := by
 obtain ⟨a, len, cap, rfl⟩ := hok
 obtain ⟨fuel, h⟩ := h
 rcases Go.Deep.open_slice ht h with ⟨h1, h2⟩ | ⟨a', len', cap', m, n, D, Pl, h1, hb, hl, hm, hmm, hx, hi⟩
 ·simp only [Value.cells, List.cons.injEq, and_true] at h1
  simp only [Prod.mk.injEq] at h2
  cases h1
  exact ⟨none, 0, 0, 0, fun _ => [], fun _ => .nil, [], rfl, .inl ⟨rfl, h2.1⟩, fun i hi => by omega, .inl rfl⟩
 ·simp only [Value.cells, List.cons.injEq, and_true] at h1
  cases h1
  simp only [Prod.mk.injEq] at hx
  have hm' : m = cap := by simpa using hmm
  subst hm'
  have hC : ∀ i, i < len -> ∃ cs : List Value, cs.length = c /\ (∀ j, j < c -> W.cell? (a'.add (i * c + j)) = cs[j]?) /\ DataW.trod enc P W 0 (fun _ => true) true n e cs = some (D i, Pl i) := fun i hil => by
   obtain ⟨cs, h1, h2⟩ := hi i (by omega)
   obtain ⟨_, h3, h4⟩ := World.cells?_some h1
   rw [hc] at h3 h4
   refine ⟨cs, h3, fun j hj => ?_, h2⟩
   have := h4 j hj
   rwa [Go.Deep.add_add] at this
  obtain ⟨C, hC⟩ := Go.Deep.choose_lt hC
  refine ⟨some a', len, m, n, C, D, _, rfl, .inr hx.1, fun i hil => ⟨(hC i hil).1, Pl i, (hC i hil).2.2⟩, ?_⟩
  have hlen : ∀ k, k <= len -> ((List.range k).flatMap C).length = k * c := fun k => by
   induction k with
   | zero => intro _; simp
   | succ k ih =>
    intro hk
    rw [List.range_succ, List.flatMap_append, List.length_append, ih (by omega)]
    simp [(hC k (by omega)).1, Nat.succ_mul]
  have hget : ∀ k, k <= len -> ∀ j (hj : j < ((List.range k).flatMap C).length), W.cell? (a'.add j) = some ((List.range k).flatMap C)[j] := fun k => by
   induction k with
   | zero => intro _ j hj; simp at hj
   | succ k ih =>
    intro hk j hj
    have hf : (List.range (k + 1)).flatMap C = (List.range k).flatMap C ++ C k := by rw [List.range_succ, List.flatMap_append]; simp
    have hl := hlen k (by omega)
    simp only [hf] at hj ⊢
    by_cases hjk : j < k * c
    ·rw [List.getElem_append_left (by omega)]
     exact ih (by omega) j (by omega)
    ·rw [List.getElem_append_right (by omega)]
     have h1 := (hC k (by omega)).1
     simp only [List.length_append, hl, h1] at hj
     have := (hC k (by omega)).2.1 (j - k * c) (by omega)
     rw [show k * c + (j - k * c) = j by omega] at this
     rw [this]
     simp only [hl]
     rw [List.getElem?_eq_getElem]
  by_cases hz : (List.range len).flatMap C = []
  ·exact .inl hz
  ·have h0 := hget len (Nat.le_refl _) 0 (List.length_pos_iff.2 hz)
   have hsp := World.cell?_spot h0
   obtain ⟨b, o, sp⟩ := a'
   have hsp' : sp = none := by simpa [Addr.add] using hsp
   subst hsp'
   refine .inr ⟨b, o, rfl, fun j hj => ?_⟩
   have := hget len (Nat.le_refl _) j hj
   rwa [Addr.add_lit] at this
end
end
section
open Go.RowKit
section
variable {P : Program} {W : World} {bs : List Nat} {κ : Nat} {E : Nat -> Value} {F : Nat -> List Nat} {h : Nat -> Option bm} {w : World} {K : Nat -> Prop}
def Pp (u : Value) : AV -> List Nat
 | .val _ => []
 | .row _ _ _ _ => u.ownBlock.toList
def rO : List Value -> List AV -> List Nat
 | u :: us, a :: as_ => Pp u a ++ rO us as_
 | _, _ => []
def bz (w : World) (u : Value) (fp : List Nat) (T : TypeId) (fs : List AV) : Prop :=
 ∃ b us, u = .pointer (some ⟨b, 0, none⟩) /\ w.heap[b]? = some (.cells us.toArray T (0, 0)) /\ eD w us fs /\ fp = b :: rO us fs /\ fp.Nodup
theorem Rs (hs : al W bs E F h w) {x : SV} {a : AV} {r : List Nat} (hv : cg h x = some (a, r)) : Pp (den E x) a = r.flatMap F /\ ∀ k ∈ r, (∃ e, h k = some e) /\ ∀ k' ∈ r, k' = k := by
 cases x with
 | v x => simp [cg] at hv; obtain ⟨rfl, rfl⟩ := hv; exact ⟨rfl, by simp⟩
 | agg l =>
  simp only [cg, Option.map_eq_some_iff, Prod.mk.injEq] at hv
  obtain ⟨vs, h1, rfl, rfl⟩ := hv
  exact ⟨rfl, by simp⟩
 | hd k =>
  simp only [cg] at hv
  cases hk : h k with
  | none => rw [hk] at hv; simp [iM] at hv
  | some e =>
   cases e with
   | row T s n us =>
    rw [hk] at hv
    simp only [iM, Option.map_eq_some_iff, Prod.mk.injEq] at hv
    obtain ⟨vs, h1, rfl, rfl⟩ := hv
    have := hs.ent k _ hk
    refine ⟨?_, fun k' hk' => ?_⟩
    ·simp only [Pp, den, iG (db this)]
     simp [this.2]
    ·simp only [List.mem_singleton] at hk'
     subst hk'
     exact ⟨⟨_, hk⟩, by simp⟩
   | cells T vs => rw [hk] at hv; simp [iM] at hv
   | obj d R => rw [hk] at hv; simp [iM] at hv
 | own k o => simp [cg] at hv
 | tup l => simp [cg] at hv
 | ifc t x => simp [cg] at hv
 | part k i => simp [cg] at hv
 | fn f a c => simp [cg] at hv
theorem bO (hs : al W bs E F h w) : ∀ {l : List SV} {as_ : List AV} {r : List Nat}, ay h l = some (as_, r) -> rO (an E l) as_ = r.flatMap F /\ ∀ k ∈ r, ∃ e, h k = some e
 | [], as_, r, hv => by simp [ay] at hv; obtain ⟨rfl, rfl⟩ := hv; exact ⟨rfl, by simp⟩
 | x :: l, as_, r, hv => by
  simp only [ay] at hv
  cases h1 : cg h x with
  | none => rw [h1] at hv; simp [jT] at hv
  | some p =>
   cases h2 : ay h l with
   | none => rw [h1, h2] at hv; simp [jT] at hv
   | some q =>
    obtain ⟨a, ra⟩ := p
    obtain ⟨as', rs⟩ := q
    rw [h1, h2] at hv
    simp only [jT, Option.some.injEq, Prod.mk.injEq] at hv
    obtain ⟨rfl, rfl⟩ := hv
    obtain ⟨g1, g2⟩ := Rs hs h1
    obtain ⟨g3, g4⟩ := bO hs h2
    refine ⟨by simp only [an, rO, g1, g3, List.flatMap_append], fun k hk => ?_⟩
    rcases List.mem_append.1 hk with hk | hk
    ·exact (g2 k hk).1
    ·exact g4 k hk
theorem vu (u : Value) : u.ownBlock.toList.Nodup := by cases u.ownBlock <;> simp
theorem Lk {u : Value} {fp : List Nat} {e : bm} (hE : ∀ d R, e ≠ .obj d R) (h : bn E u fp w e) : fp.Nodup := by
 cases e with
 | cells T vs => obtain ⟨b, _, h2, _⟩ := h; rw [h2]; simp
 | row T s n vs => rw [h.2]; exact vu u
 | obj d R => exact absurd rfl (hE d R)
theorem js {h : Hp} : ∀ {l : List SV} {as_ : List AV} {r : List Nat}, ay h l = some (as_, r) -> ∀ k ∈ r, ∃ T s n vs, h k = some (.row T s n vs)
 | [], as_, r, hv => by simp [ay] at hv; obtain ⟨rfl, rfl⟩ := hv; simp
 | x :: l, as_, r, hv => by
  simp only [ay] at hv
  cases h1 : cg h x with
  | none => rw [h1] at hv; simp [jT] at hv
  | some p =>
   cases h2 : ay h l with
   | none => rw [h1, h2] at hv; simp [jT] at hv
   | some q =>
    obtain ⟨a, ra⟩ := p
    obtain ⟨as', rs⟩ := q
    rw [h1, h2] at hv
    simp only [jT, Option.some.injEq, Prod.mk.injEq] at hv
    obtain ⟨rfl, rfl⟩ := hv
    intro k hk
    rcases List.mem_append.1 hk with hk | hk
    ·cases x with
     | hd j =>
      simp only [cg] at h1
      cases hj : h j with
      | none => rw [hj] at h1; simp [iM] at h1
      | some e =>
       cases e with
       | row T s n us =>
        rw [hj] at h1
        simp only [iM, Option.map_eq_some_iff, Prod.mk.injEq] at h1
        obtain ⟨vs, _, _, rfl⟩ := h1
        simp only [List.mem_singleton] at hk
        subst hk
        exact ⟨_, _, _, _, hj⟩
       | _ => rw [hj] at h1; simp [iM] at h1
     | v x => simp [cg] at h1; obtain ⟨_, rfl⟩ := h1; cases hk
     | agg l =>
      simp only [cg, Option.map_eq_some_iff, Prod.mk.injEq] at h1
      obtain ⟨_, _, _, rfl⟩ := h1
      cases hk
     | _ => simp [cg] at h1
    ·exact js h2 k hk
theorem ov (hs : al W bs E F h w) : ∀ {ks : List Nat}, ks.Nodup -> (∀ k ∈ ks, ∃ e, h k = some e /\ ∀ d R, e ≠ .obj d R) -> (ks.flatMap F).Nodup
 | [], _, _ => by simp
 | k :: r, hn, he => by
  rw [List.flatMap_cons, List.nodup_append]
  obtain ⟨e, h1, h2⟩ := he k (by simp)
  refine ⟨Lk h2 (hs.ent k e h1), ov hs (List.nodup_cons.1 hn).2 (fun j hj => he j (by simp [hj])), fun b hb c hc hbc => ?_⟩
  subst hbc
  obtain ⟨j, hj, hbj⟩ := List.mem_flatMap.1 hc
  obtain ⟨e2, h3, _⟩ := he j (by simp [hj])
  exact hs.apart k j e e2 (fun e' => (List.nodup_cons.1 hn).1 (e' ▸ hj)) h1 h3 b hb hbj
theorem eE (hs : al W bs E F h w) {k : Nat} {T : TypeId} {vs : List SV} {fs : List AV} {rs : List Nat} (hk : h k = some (.cells T vs)) (hv : ay h vs = some (fs, rs)) (hn : (k :: rs).Nodup) :
  bz w (E k) ((k :: rs).flatMap F) T fs := by
 obtain ⟨b, h1, h2, h3⟩ := hs.ent k _ hk
 obtain ⟨g1, _⟩ := bO hs hv
 refine ⟨b, an E vs, h1, h3, dE hs hv, by rw [List.flatMap_cons, h2, g1]; rfl, ov hs hn fun j hj => ?_⟩
 rcases List.mem_cons.1 hj with rfl | hj
 ·exact ⟨_, hk, fun d R e => by cases e⟩
 ·obtain ⟨T', s, n, us, hj'⟩ := js hv j hj
  exact ⟨_, hj', fun d R e => by cases e⟩
def aI : Nat -> List AV -> List SV
 | _, [] => []
 | k, .val v :: r => .v v :: aI (k + 1) r
 | k, .row _ _ _ _ :: r => .hd k :: aI (k + 1) r
def aS : Nat -> List AV -> List (Nat × bm)
 | _, [] => []
 | k, .val _ :: r => aS (k + 1) r
 | k, .row T s n vs :: r => (k, .row T s n (vs.map .v)) :: aS (k + 1) r
def cm : List (Nat × bm) -> List (Nat × Option bm)
 | [] => []
 | (k, e) :: r => (k, some e) :: cm r
theorem dw : ∀ {k : Nat} {fs : List AV}, ∀ p ∈ aS k fs, k <= p.1 /\ p.1 < k + fs.length /\ p.2.keys = []
 | _, [], p, hp => by cases hp
 | k, .val v :: r, p, hp => by
  have := dw (k := k + 1) (fs := r) p hp
  simp only [List.length_cons]
  exact ⟨by omega, by omega, this.2.2⟩
 | k, .row T s n vs :: r, p, hp => by
  rcases List.mem_cons.1 hp with rfl | hp
  ·simp [bm.keys, aO]
  ·have := dw (k := k + 1) (fs := r) p hp
   simp only [List.length_cons]
   exact ⟨by omega, by omega, this.2.2⟩
theorem cq : ∀ {k : Nat} {fs : List AV}, ∀ j ∈ ax (aI k fs), k <= j /\ j < k + fs.length
 | _, [], j, hj => by cases hj
 | k, .val v :: r, j, hj => by
  simp only [aI, ax, SV.keys, List.nil_append] at hj
  have := cq j hj
  simp only [List.length_cons]
  omega
 | k, .row T s n vs :: r, j, hj => by
  simp only [aI, ax, SV.keys, List.singleton_append, List.mem_cons] at hj
  simp only [List.length_cons]
  rcases hj with rfl | hj
  ·omega
  ·have := cq j hj
   omega
def fW : Nat -> List Value -> (Nat -> Value) -> Nat -> Value
 | _, [], E => E
 | k, u :: us, E => bg (fW (k + 1) us E) k u
def fR : Nat -> List Value -> List AV -> (Nat -> List Nat) -> Nat -> List Nat
 | k, u :: us, a :: as_, F => bg (fR (k + 1) us as_ F) k (Pp u a)
 | _, _, _, F => F
theorem ib : ∀ {k : Nat} {us : List Value} {E : Nat -> Value} {j : Nat}, (j < k \/ k + us.length <= j) -> fW k us E j = E j
 | _, [], _, _, _ => rfl
 | k, u :: us, E, j, h => by
  simp only [List.length_cons] at h
  simp only [fW]
  rw [ak _ _ (by omega)]
  exact ib (by omega)
theorem gF : ∀ {k : Nat} {us : List Value} {as_ : List AV} {F : Nat -> List Nat} {j : Nat}, (j < k \/ k + as_.length <= j) -> fR k us as_ F j = F j
 | k, u :: us, a :: as_, F, j, h => by
  simp only [List.length_cons] at h
  simp only [fR]
  rw [ak _ _ (by omega)]
  exact gF (by omega)
 | _, [], [], _, _, _ => rfl
 | _, [], _ :: _, _, _, _ => rfl
 | _, _ :: _, [], _, _, _ => rfl
theorem fJ : ∀ {us : List Value} {as_ : List AV}, eD w us as_ -> us.length = as_.length
 | [], [], _ => rfl
 | _ :: _, _ :: _, h => by simp [fJ h.2]
 | [], _ :: _, h => h.elim
 | _ :: _, [], h => h.elim
theorem eL : ∀ {k : Nat} {us : List Value} {fs : List AV} {E : Nat -> Value}, eD w us fs -> an (fW k us E) (aI k fs) = us
 | _, [], [], _, _ => rfl
 | k, u :: us, .val v :: fs, E, h => by
  obtain ⟨rfl, h2⟩ := h
  simp only [aI, an, den, fW]
  congr 1
  have : an (bg (fW (k + 1) us E) k u) (aI (k + 1) fs) = an (fW (k + 1) us E) (aI (k + 1) fs) := bG _ fun j hj => ak _ _ (by have := cq j hj; omega)
  rw [this]
  exact eL h2
 | k, u :: us, .row T s n vs :: fs, E, h => by
  obtain ⟨h1, h2⟩ := h
  simp only [aI, an, den, fW, ah]
  have hone : u.oneCell' = true := db (E := E) (fp := u.ownBlock.toList) (w := w) (e := .row T s n (vs.map .v)) ⟨by rw [aB]; exact h1, rfl⟩
  rw [iG hone]
  congr 1
  have : an (bg (fW (k + 1) us E) k u) (aI (k + 1) fs) = an (fW (k + 1) us E) (aI (k + 1) fs) := bG _ fun j hj => ak _ _ (by have := cq j hj; omega)
  rw [this]
  exact eL h2
 | _, [], _ :: _, _, h => h.elim
 | _, _ :: _, [], _, h => h.elim
theorem fQ : ∀ {k : Nat} {us : List Value} {fs : List AV} {E : Nat -> Value} {F : Nat -> List Nat} {p : Nat × bm}, eD w us fs -> p ∈ aS k fs ->
  ∀ E0 : Nat -> Value, bn E0 (fW k us E p.1) (fR k us fs F p.1) w p.2 /\ ∀ b ∈ fR k us fs F p.1, b ∈ rO us fs
 | _, [], [], _, _, p, _, hp => by cases hp
 | k, u :: us, .val v :: fs, E, F, p, h, hp => fun E0 => by
  have hk := dw (k := k + 1) (fs := fs) p hp
  simp only [fW, fR]
  rw [ak _ _ (by omega), ak _ _ (by omega)]
  obtain ⟨h1, h2⟩ := fQ (k := k + 1) (E := E) (F := F) h.2 hp E0
  exact ⟨h1, fun b hb => List.mem_append_right _ (h2 b hb)⟩
 | k, u :: us, .row T s n vs :: fs, E, F, p, h, hp => fun E0 => by
  rcases List.mem_cons.1 hp with rfl | hp
  ·simp only [fW, fR, ah]
   exact ⟨⟨by rw [aB]; exact h.1, rfl⟩, fun b hb => List.mem_append_left _ hb⟩
  ·have hk := dw (k := k + 1) (fs := fs) p hp
   simp only [fW, fR]
   rw [ak _ _ (by omega), ak _ _ (by omega)]
   obtain ⟨h1, h2⟩ := fQ (k := k + 1) (E := E) (F := F) h.2 hp E0
   exact ⟨h1, fun b hb => List.mem_append_right _ (h2 b hb)⟩
 | _, [], _ :: _, _, _, p, h, _ => h.elim
 | _, _ :: _, [], _, _, p, h, _ => h.elim
theorem my {k : Nat} {a : AV} {fs : List AV} {r : Nat × bm} (hr : r ∈ aS k (a :: fs)) (hrk : r.1 ≠ k) : r ∈ aS (k + 1) fs := by
 cases a with
 | val v => exact hr
 | row T s n vs =>
  rcases List.mem_cons.1 hr with rfl | hr
  ·exact absurd rfl hrk
  ·exact hr
theorem bD : ∀ {k : Nat} {us : List Value} {fs : List AV} {F : Nat -> List Nat} {r : Nat × bm}, us.length = fs.length -> r ∈ aS k fs -> ∀ b ∈ fR k us fs F r.1, b ∈ rO us fs
 | _, [], [], _, r, _, hr, _, _ => by cases hr
 | _, [], _ :: _, _, _, hl, _, _, _ => by simp at hl
 | _, _ :: _, [], _, _, hl, _, _, _ => by simp at hl
 | k, u :: us, a :: fs, F, r, hl, hr, b, hb => by
  simp only [rO, List.mem_append]
  simp only [fR] at hb
  by_cases hrk : r.1 = k
  ·rw [hrk, ah] at hb; exact .inl hb
  ·rw [ak _ _ hrk] at hb
   exact .inr (bD (by simpa using hl) (my hr hrk) b hb)
theorem eG : ∀ {k : Nat} {us : List Value} {fs : List AV} {F : Nat -> List Nat} {p q : Nat × bm}, (rO us fs).Nodup -> p ∈ aS k fs -> q ∈ aS k fs -> us.length = fs.length -> p.1 ≠ q.1 -> ∀ b ∈ fR k us fs F p.1, b ∉ fR k us fs F q.1
 | _, [], [], _, p, _, _, hp, _, _, _, _, _ => by cases hp
 | _, [], _ :: _, _, _, _, _, _, _, hl, _, _, _ => by simp at hl
 | _, _ :: _, [], _, _, _, _, _, _, hl, _, _, _ => by simp at hl
 | k, u :: us, a :: fs, F, p, q, hn, hp, hq, hl, hpq, b, hb => by
  have hl' : us.length = fs.length := by simpa using hl
  rw [show rO (u :: us) (a :: fs) = Pp u a ++ rO us fs from rfl, List.nodup_append] at hn
  obtain ⟨_, n2, n3⟩ := hn
  simp only [fR] at hb ⊢
  by_cases hpk : p.1 = k
  ·rw [hpk, ah] at hb
   have hqk : q.1 ≠ k := fun e => hpq (by rw [hpk, e])
   rw [ak _ _ hqk]
   intro hb'
   exact n3 b hb b (bD hl' (my hq hqk) b hb') rfl
  ·rw [ak _ _ hpk] at hb
   by_cases hqk : q.1 = k
   ·rw [hqk, ah]
    intro hb'
    exact n3 b hb' b (bD hl' (my hp hpk) b hb) rfl
   ·rw [ak _ _ hqk]
    exact eG n2 (my hp hpk) (my hq hqk) hl' hpq b hb
end
end
section
open Go.RowKit
inductive BOut where
 | ret (v : Value) (fs : List AV)
 | pan (c : List PanicEntry) (v : Value)
def fu (w : World) (u : Value) (fp : List Nat) (T : TypeId) (e : Ending) (w' : World) : BOut -> Prop
 | .ret v fs => e = .returned v /\ (∃ fp', bz w' u fp' T fs /\ (∀ b ∈ fp', b ∈ fp \/ w.heap.size <= b) /\ ∀ b ∈ fp', b < w'.heap.size) /\ ai w fp w'
 | .pan c _ => e = .panicked c /\ ai w fp w'
structure dz (P : Program) (f : FuncId) where
 T : TypeId
 pre : World -> List Nat -> List AV -> List AV -> Prop
 out : World -> List AV -> List AV -> BOut
 enters : ∀ args w, (callFunc f args).run P w = .ok (.enter f args) w
 ok : ∀ (W w : World) (bs : List Nat) (u : Value) (fp : List Nat) (us : List Value) (fs as_ : List AV), ai W bs w -> bz w u fp T fs -> (∀ b ∈ fp, b < w.heap.size) -> (∀ b ∈ fp, W.heap.size <= b \/ b ∈ bs) -> eD w us as_ -> pre W bs fs as_ ->
  Calls P f (u :: us).toArray w fun e w' => fu w u fp T e w' (out W fs as_)
def dI (rs : List Nat) : List (Nat × Option bm) := rs.map fun j => (j, none)
def fG (κ k : Nat) (T : TypeId) (pre : Prop) (rs rs' : List Nat) : BOut -> R
 | .ret v fs => ⟨pre /\ (k :: rs).Nodup /\ (∀ j ∈ rs', j ∉ k :: rs) /\ fs.length <= 8, .v v, dI rs ++ (cm (aS (8 * κ) fs) ++ [(k, some (.cells T (aI (8 * κ) fs)))]), none, [], k :: (rs ++ rs')⟩
 | .pan c v => ⟨pre /\ (k :: rs).Nodup /\ (∀ j ∈ rs', j ∉ k :: rs), .v v, [], some c, k :: rs, k :: (rs ++ rs')⟩
def gy (κ k : Nat) (T T' : TypeId) (pre : List AV -> List AV -> Prop) (out : List AV -> List AV -> BOut) (as_ : List AV) (rs' : List Nat) : Option (List AV × List Nat) -> R
 | some (fs, rs) => fG κ k T (T' = T /\ pre fs as_) rs rs' (out fs as_)
 | none => .bad
def e9 (h : Hp) (κ k : Nat) (T : TypeId) (pre : List AV -> List AV -> Prop) (out : List AV -> List AV -> BOut) : Option bm -> Option (List AV × List Nat) -> R
 | some (.cells T' vs), some (as_, rs') => gy κ k T T' pre out as_ rs' (ay h vs)
 | _, _ => .bad
def nT (h : Hp) (κ : Nat) (T : TypeId) (pre : List AV -> List AV -> Prop) (out : List AV -> List AV -> BOut) : List SV -> R
 | .own k 0 :: rest => e9 h κ k T pre out (h k) (ay h rest)
 | _ => .bad
section
variable {P : Program} {W : World} {bs : List Nat} {κ : Nat} {E : Nat -> Value} {F : Nat -> List Nat} {h : Nat -> Option bm} {w : World} {K : Nat -> Prop}
theorem cp {α : Type} (f : Nat -> α) : ∀ (a b : List (Nat × α)), aZ f (a ++ b) = aZ (aZ f a) b
 | [], _ => rfl
 | (k, x) :: r, b => by simp only [List.cons_append, aZ]; exact cp _ r b
theorem kI (h : Hp) : ∀ (rs : List Nat) (j : Nat), aZ h (dI rs) j = if j ∈ rs then none else h j
 | [], j => by simp [dI, aZ]
 | k :: r, j => by
  have : aZ h (dI (k :: r)) j = aZ (bg h k none) (dI r) j := rfl
  rw [this, kI]
  by_cases hj : j ∈ r
  ·simp [hj]
  ·by_cases hjk : j = k
   ·subst hjk; simp [hj, ah]
   ·simp [hj, hjk, ak _ _ hjk]
theorem jq : ∀ (L : List (Nat × Option bm)) (f : Hp) (j : Nat), (∀ p ∈ L, ∃ e, p.2 = some e) -> aZ f L j = match aZ (fun _ => none) L j with | some e => some e | none => f j
 | [], f, j, _ => rfl
 | (i, x) :: r, f, j, hL => by
  obtain ⟨e, he⟩ := hL (i, x) (by simp)
  simp only at he
  subst he
  have hr : ∀ p ∈ r, ∃ e, p.2 = some e := fun p hp => hL p (by simp [hp])
  simp only [aZ]
  rw [jq r (bg f i (some e)) j hr, jq r (bg (fun _ => none) i (some e)) j hr]
  cases aZ (fun _ => none) r j with
  | some y => rfl
  | none =>
   simp only
   by_cases hj : j = i
   ·subst hj; simp [ah]
   ·simp [ak _ _ hj]
theorem ej {L : List (Nat × bm)} {p : Nat × Option bm} : p ∈ cm L ↔ ∃ e, p = (p.1, some e) /\ (p.1, e) ∈ L := by
 induction L with
 | nil => simp [cm]
 | cons q r ih =>
  obtain ⟨k, e⟩ := q
  simp only [cm, List.mem_cons, ih]
  constructor
  ·rintro (rfl | ⟨e', h1, h2⟩)
   ·exact ⟨e, rfl, .inl rfl⟩
   ·exact ⟨e', h1, .inr h2⟩
  ·rintro ⟨e', h1, h2 | h2⟩
   ·left
    rw [h1]
    simp only [Prod.mk.injEq] at h2
    rw [h2.1, h2.2]
   ·exact .inr ⟨e', h1, h2⟩
theorem mL {w' : World} {k : Nat} {T : TypeId} {vs : List SV} {fs fs' : List AV} {rs fp' : List Nat} (hs : al W bs E F h w) (hK : bI K h) (hk : ∀ k, k / 8 = κ -> ¬ K k)
  (hkk : h k = some (.cells T vs)) (hv : ay h vs = some (fs, rs)) (hlen : fs'.length <= 8) (hn : (k :: rs).Nodup)
  (ho : bz w' (E k) fp' T fs') (h1 : ∀ b ∈ fp', b ∈ (k :: rs).flatMap F \/ w.heap.size <= b) (h2 : ∀ b ∈ fp', b < w'.heap.size) (hkeep : ai w ((k :: rs).flatMap F) w') :
  ∃ E' F', (∀ j, j / 8 ≠ κ -> E' j = E j) /\ al W bs E' F' (aZ h (dI rs ++ (cm (aS (8 * κ) fs') ++ [(k, some (.cells T (aI (8 * κ) fs')))]))) w' := by
 obtain ⟨b, us, hu, hb, hus, rfl, hnd⟩ := ho
 have hl := fJ hus
 have hKk : K k := (hK k _ hkk).1
 have hfr : ∀ j, 8 * κ <= j -> j < 8 * κ + 8 -> ¬ K j := fun j g1 g2 => hk j (by omega)
 have hkf : k < 8 * κ \/ 8 * κ + 8 <= k := by
  by_cases g1 : k < 8 * κ
  ·exact .inl g1
  ·by_cases g2 : 8 * κ + 8 <= k
   ·exact .inr g2
   ·exact absurd hKk (hfr k (by omega) (by omega))
 have hE : ∀ j, j / 8 ≠ κ -> fW (8 * κ) us E j = E j := fun j hj => ib (by omega)
 have hsome : ∀ p ∈ cm (aS (8 * κ) fs') ++ [(k, some (.cells T (aI (8 * κ) fs')))], ∃ e, p.2 = some e := fun p hp => by
  rcases List.mem_append.1 hp with hp | hp
  ·obtain ⟨e, he, _⟩ := ej.1 hp; exact ⟨e, by rw [he]⟩
  ·simp at hp; exact ⟨_, by rw [hp]⟩
 have hNm : ∀ j e, aZ (fun _ => none) (cm (aS (8 * κ) fs') ++ [(k, some (.cells T (aI (8 * κ) fs')))]) j = some e -> (j = k /\ e = .cells T (aI (8 * κ) fs')) \/ (j ≠ k /\ (j, e) ∈ aS (8 * κ) fs') := fun j e he => by
  rw [cp] at he
  simp only [aZ] at he
  by_cases hj : j = k
  ·subst hj; rw [ah] at he; cases he; exact .inl ⟨rfl, rfl⟩
  ·rw [ak _ _ hj] at he
   rcases kM (fun _ => (none : Option bm)) (k := j) (u := cm (aS (8 * κ) fs')) with ⟨x, hx, hx'⟩ | ⟨_, hx'⟩
   ·rw [hx'] at he
    subst he
    obtain ⟨e', h3, h4⟩ := ej.1 hx
    simp only [Prod.mk.injEq, true_and, Option.some.injEq] at h3
    subst h3
    exact .inr ⟨hj, h4⟩
   ·rw [hx'] at he; cases he
 have hNk : aZ (fun _ => none) (cm (aS (8 * κ) fs') ++ [(k, some (.cells T (aI (8 * κ) fs')))]) k = some (.cells T (aI (8 * κ) fs')) := by
  rw [cp]; simp [aZ, ah]
 have hb' : b ∉ rO us fs' := (List.nodup_cons.1 hnd).1
 have hnd' : (rO us fs').Nodup := (List.nodup_cons.1 hnd).2
 refine ⟨fW (8 * κ) us E, bg (fR (8 * κ) us fs' F) k [b], hE, ?_⟩
 refine hs.mK hK (k :: rs) (aZ (fun _ => none) (cm (aS (8 * κ) fs') ++ [(k, some (.cells T (aI (8 * κ) fs')))])) (fun j hj => ?_) (fun j hj => hE j fun e => hk j e hj) (fun j e he => ?_) (fun i j e e' hij hi hj c hc => ?_) (fun j x hx hj => ?_) (fun j => ?_) hkeep
 ·rcases List.mem_cons.1 hj with rfl | hj
  ·exact ⟨_, hkk⟩
  ·exact (bO hs hv).2 j hj
 ·rcases hNm j e he with ⟨rfl, rfl⟩ | ⟨hjk, hm⟩
  ·rw [ah, hE j fun e => hk j e hKk]
   refine ⟨⟨b, hu, rfl, by rw [eL hus]; exact hb⟩, fun c hc => ?_, fun c hc => h2 c (by simp at hc; simp [hc])⟩
   simp only [List.mem_singleton] at hc
   subst hc
   rcases h1 c (by simp) with g | g
   ·obtain ⟨i, hi, hci⟩ := List.mem_flatMap.1 g; exact .inl ⟨i, hi, hci⟩
   ·exact .inr g
  ·rw [ak _ _ hjk]
   obtain ⟨g1, g2⟩ := fQ (E := E) (F := F) hus hm (fW (8 * κ) us E)
   refine ⟨g1, fun c hc => ?_, fun c hc => h2 c (List.mem_cons_of_mem _ (g2 c hc))⟩
   rcases h1 c (List.mem_cons_of_mem _ (g2 c hc)) with g | g
   ·obtain ⟨i, hi, hci⟩ := List.mem_flatMap.1 g; exact .inl ⟨i, hi, hci⟩
   ·exact .inr g
 ·rcases hNm i e hi with ⟨rfl, rfl⟩ | ⟨hik, hmi⟩
  ·rcases hNm j e' hj with ⟨rfl, rfl⟩ | ⟨hjk, hmj⟩
   ·exact absurd rfl hij
   ·rw [ah] at hc
    rw [ak _ _ hjk]
    simp only [List.mem_singleton] at hc
    subst hc
    exact fun hc' => hb' (bD hl hmj c hc')
  ·rw [ak _ _ hik] at hc
   rcases hNm j e' hj with ⟨rfl, rfl⟩ | ⟨hjk, hmj⟩
   ·rw [ah]
    intro hc'
    simp only [List.mem_singleton] at hc'
    subst hc'
    exact hb' (bD hl hmi c hc)
   ·rw [ak _ _ hjk]
    exact eG hnd' hmi hmj hl hij c hc
 ·have hjk : j ≠ k := fun e => by rw [e, hNk] at hj; cases hj
  rw [ak _ _ hjk]
  have hKj := (hK j x hx).1
  by_cases g1 : j < 8 * κ
  ·exact gF (.inl g1)
  ·by_cases g2 : 8 * κ + 8 <= j
   ·exact gF (.inr (by omega))
   ·exact absurd hKj (hfr j (by omega) (by omega))
 ·rw [cp, jq _ _ _ hsome, kI]
  cases hN : aZ (fun _ => none) (cm (aS (8 * κ) fs') ++ [(k, some (.cells T (aI (8 * κ) fs')))]) j with
  | some e => rfl
  | none =>
   have hjk : j ≠ k := fun e => by rw [e, hNk] at hN; cases hN
   simp [hjk]
theorem s5 {fs : List AV} (hlen : fs.length <= 8) {j : Nat} {e : bm} (hm : (j, e) ∈ aS (8 * κ) fs) : j / 8 = κ /\ e.keys = [] := by
 have := dw _ hm
 exact ⟨by simp only at this; omega, this.2.2⟩
theorem pn (hK : bI K h) {l : List SV} {as_ : List AV} {r : List Nat} (hv : ay h l = some (as_, r)) : ∀ k ∈ r, K k := fun k hk => by
 obtain ⟨T, s, n, vs, h1⟩ := js hv k hk
 exact (hK k _ h1).1
end
def dz.spec {P : Program} {f : FuncId} (p : dz P f) : Spec P f where
 ev := fun W bs κ h args => nT h κ p.T (p.pre W bs) (p.out W) args
 good := fun W bs κ E F h w K args hs hK hk hx hside => by
  rw [p.enters]
  revert hside
  unfold nT
  split
  ·rename_i k rest
   cases hkk : h k with
   | none => exact fun hf => hf.elim
   | some e =>
    cases e with
    | row T s n vs => exact fun hf => hf.elim
    | obj d R => exact fun hf => hf.elim
    | cells T' vs =>
     cases hr : ay h rest with
     | none => exact fun hf => hf.elim
     | some q =>
      obtain ⟨as_, rs'⟩ := q
      simp only [e9]
      cases hv : ay h vs with
      | none => exact fun hf => hf.elim
      | some q =>
       obtain ⟨fs, rs⟩ := q
       simp only [gy]
       have hent := hs.ent k _ hkk
       obtain ⟨b, hu, _, _⟩ := hent
       have hden : den E (.own k 0) = E k := by simp [den, hu, base, cD]
       have call : ∀ hn : (k :: rs).Nodup, T' = p.T -> p.pre W bs fs as_ -> Calls P f (an E (.own k 0 :: rest)).toArray w fun e w' => fu w (E k) ((k :: rs).flatMap F) p.T e w' (p.out W fs as_) := fun hn hT hp => by
        subst hT
        have ho := eE hs hkk hv hn
        have := p.ok W w bs (E k) _ (an E rest) fs as_ hs.keeps ho (fun c hc => ?_) (fun c hc => ?_) (dE hs hr) hp
        ·simpa only [an, hden] using this
        ·obtain ⟨j, hj, hcj⟩ := List.mem_flatMap.1 hc
         rcases List.mem_cons.1 hj with rfl | hj
         ·exact hs.lt _ _ hkk c hcj
         ·obtain ⟨e, he⟩ := (bO hs hv).2 j hj
          exact hs.lt j e he c hcj
        ·obtain ⟨j, hj, hcj⟩ := List.mem_flatMap.1 hc
         rcases List.mem_cons.1 hj with rfl | hj
         ·exact hs.mine _ _ hkk c hcj
         ·obtain ⟨e, he⟩ := (bO hs hv).2 j hj
          exact hs.mine j e he c hcj
       cases hout : p.out W fs as_ with
       | ret v fs' =>
        simp only [fG]
        rintro ⟨⟨hT, hp⟩, hn, hd, hlen⟩
        have hc := call hn hT hp
        rw [hout] at hc
        subst hT
        refine hc.mono fun e w' he => ?_
        obtain ⟨rfl, ⟨fp', ho, h1, h2⟩, hkeep⟩ := he
        obtain ⟨E', F', hE', hs'⟩ := mL hs hK hk hkk hv hlen hn ho h1 h2 hkeep
        exact ⟨rfl, E', F', hE', rfl, hs'⟩
       | pan c _ =>
        simp only [fG]
        rintro ⟨⟨hT, hp⟩, hn, hd⟩
        have hc := call hn hT hp
        rw [hout] at hc
        refine hc.mono fun e w' he => ?_
        obtain ⟨rfl, hkeep⟩ := he
        refine ⟨rfl, F, ?_⟩
        refine hs.mK hK (k :: rs) (fun _ => none) (fun j hj => ?_) (fun _ _ => rfl) (fun j e he => by cases he) (fun i j e e' _ he => by cases he) (fun _ _ _ _ => rfl) (fun j => ?_) hkeep
        ·rcases List.mem_cons.1 hj with rfl | hj
         ·exact ⟨_, hkk⟩
         ·exact (bO hs hv).2 j hj
        ·simp only [dropKeys]
  ·exact fun hf => hf.elim
 keys := fun W bs κ h K args hK hx hside => by
  revert hside
  unfold nT
  split
  ·rename_i k rest
   cases hkk : h k with
   | none => exact fun hf => hf.elim
   | some e =>
    cases e with
    | row T s n vs => exact fun hf => hf.elim
    | obj d R => exact fun hf => hf.elim
    | cells T' vs =>
     cases hr : ay h rest with
     | none => exact fun hf => hf.elim
     | some q =>
      obtain ⟨as_, rs'⟩ := q
      simp only [e9]
      cases hv : ay h vs with
      | none => exact fun hf => hf.elim
      | some q =>
       obtain ⟨fs, rs⟩ := q
       simp only [gy]
       cases hout : p.out W fs as_ with
       | ret v fs' =>
        simp only [fG]
        rintro ⟨_, hn, hd, hlen⟩
        refine ⟨fun j hj => (by cases hj), fun q hq => ?_⟩
        simp only [List.mem_append, List.mem_singleton] at hq
        rcases hq with hq | hq | rfl
        ·simp only [dI, List.mem_map] at hq
         obtain ⟨j, hj, rfl⟩ := hq
         exact ⟨.inl (pn hK hv j hj), fun e he => by cases he⟩
        ·obtain ⟨e, h1, h2⟩ := ej.1 hq
         obtain ⟨h3, h4⟩ := s5 hlen h2
         refine ⟨.inr h3, fun e' he' j hj => ?_⟩
         rw [h1] at he'
         simp only [Option.some.injEq] at he'
         subst he'
         rw [h4] at hj
         cases hj
        ·refine ⟨.inl (hK k _ hkk).1, fun e' he' j hj => .inr ?_⟩
         simp only [Option.some.injEq] at he'
         subst he'
         have := cq j hj
         omega
       | pan c _ =>
        simp only [fG]
        rintro _
        exact ⟨fun j hj => (by cases hj), fun q hq => by cases hq⟩
  ·exact fun hf => hf.elim
 loc := fun W bs κ h h' args hside hr => by
  revert hside hr
  unfold nT
  split
  ·rename_i k rest
   cases hkk : h k with
   | none => exact fun hf => hf.elim
   | some e =>
    cases e with
    | row T s n vs => exact fun hf => hf.elim
    | obj d R => exact fun hf => hf.elim
    | cells T' vs =>
     cases hrr : ay h rest with
     | none => exact fun hf => hf.elim
     | some q =>
      obtain ⟨as_, rs'⟩ := q
      simp only [e9]
      cases hv : ay h vs with
      | none => exact fun hf => hf.elim
      | some q =>
       obtain ⟨fs, rs⟩ := q
       simp only [gy]
       have key : ∀ r : R, (∀ j ∈ r.reads, h' j = h j) -> r.reads = k :: (rs ++ rs') -> h' k = some (.cells T' vs) /\ ay h' rest = some (as_, rs') /\ ay h' vs = some (fs, rs) := fun r hr he => by
        rw [he] at hr
        exact ⟨by rw [hr k (by simp), hkk], cF hrr fun j hj => hr j (by simp [hj]), cF hv fun j hj => hr j (by simp [hj])⟩
       intro _ hr
       obtain ⟨g1, g2, g3⟩ := key _ hr (by cases p.out W fs as_ <;> rfl)
       rw [g1, g2]
       simp only [e9, g3, gy]
  ·exact fun hf => hf.elim
theorem Hc {P : Program} {f : FuncId} (p : dz P f) (W : World) (bs : List Nat) (κ : Nat) (h : Hp) (l : List SV) : p.spec.ev W bs κ h l = nT h κ p.T (p.pre W bs) (p.out W) l := rfl
theorem C0 (h : Hp) (κ k : Nat) (T : TypeId) (pre : List AV -> List AV -> Prop) (out : List AV -> List AV -> BOut) (rest : List SV) : nT h κ T pre out (.own k 0 :: rest) = e9 h κ k T pre out (h k) (ay h rest) := rfl
theorem wA (h : Hp) (κ k : Nat) (T T' : TypeId) (pre : List AV -> List AV -> Prop) (out : List AV -> List AV -> BOut) (vs : List SV) (as_ : List AV) (rs' : List Nat) : e9 h κ k T pre out (some (.cells T' vs)) (some (as_, rs')) = gy κ k T T' pre out as_ rs' (ay h vs) := rfl
theorem AG (κ k : Nat) (T T' : TypeId) (pre : List AV -> List AV -> Prop) (out : List AV -> List AV -> BOut) (as_ : List AV) (rs' : List Nat) (fs : List AV) (rs : List Nat) : gy κ k T T' pre out as_ rs' (some (fs, rs)) = fG κ k T (T' = T /\ pre fs as_) rs rs' (out fs as_) := rfl
theorem DA (κ k : Nat) (T : TypeId) (pre : Prop) (rs rs' : List Nat) (v : Value) (fs : List AV) : fG κ k T pre rs rs' (.ret v fs) = ⟨pre /\ (k :: rs).Nodup /\ (∀ j ∈ rs', j ∉ k :: rs) /\ fs.length <= 8, .v v, dI rs ++ (cm (aS (8 * κ) fs) ++ [(k, some (.cells T (aI (8 * κ) fs)))]), none, [], k :: (rs ++ rs')⟩ := rfl
theorem B5 (κ k : Nat) (T : TypeId) (pre : Prop) (rs rs' : List Nat) (c : List PanicEntry) (v : Value) : fG κ k T pre rs rs' (.pan c v) = ⟨pre /\ (k :: rs).Nodup /\ (∀ j ∈ rs', j ∉ k :: rs), .v v, [], some c, k :: rs, k :: (rs ++ rs')⟩ := rfl
theorem KW (k : IntKind) (n : Int) : qi .xor [.v (.int k n)] = ⟨True, .v (.int k (bX .xor k (if k.signed then -1 else k.max) n)), [], none, [], []⟩ := rfl
theorem KC : dI [] = [] := rfl
theorem EK (k : Nat) (r : List Nat) : dI (k :: r) = (k, none) :: dI r := rfl
theorem Mi (k : Nat) : aS k [] = [] := rfl
theorem LX (k : Nat) (v : Value) (r : List AV) : aS k (.val v :: r) = aS (k + 1) r := rfl
theorem K3 (k : Nat) (T s n : Nat) (vs : List Value) (r : List AV) : aS k (.row T s n vs :: r) = (k, .row T s n (vs.map .v)) :: aS (k + 1) r := rfl
theorem EZ (k : Nat) : aI k [] = [] := rfl
theorem Gl (k : Nat) (v : Value) (r : List AV) : aI k (.val v :: r) = .v v :: aI (k + 1) r := rfl
theorem FF (k : Nat) (T s n : Nat) (vs : List Value) (r : List AV) : aI k (.row T s n vs :: r) = .hd k :: aI (k + 1) r := rfl
theorem K8 : cm [] = [] := rfl
theorem Hs (k : Nat) (e : bm) (r : List (Nat × bm)) : cm ((k, e) :: r) = (k, some e) :: cm r := rfl
def σB (T : TypeId) (fs : List AV) (args : List Value) : St := ⟨1, bQ ((0, .is (.own 0 0)) :: oU args 1), bY ((0, .cells T (aI 1 fs)) :: aS 1 fs)⟩
theorem vt {k : Nat} {fs : List AV} {j : Nat} {e : bm} (h : bY (aS k fs) j = some e) : (j, e) ∈ aS k fs := eQ h
theorem vW {w : World} {nt m : Nat} {T : TypeId} {fs : List AV} {u : Value} {fp : List Nat} (us : Array Value) (hlen : fs.length <= 7) (ho : bz w u fp T fs) (hlt : ∀ b ∈ fp, b < w.heap.size) (hnt : us.size + 1 + m = nt) :
  Sat w fp nt ⟨[], [(0, u)]⟩ (σB T fs us.toList) { tmps := (#[u] ++ us) ++ Array.replicate m undef, defers := [] } w := by
 obtain ⟨b, vs, rfl, hb, hvs, rfl, hnd⟩ := ho
 have hl := fJ hvs
 have hb' : b ∉ rO vs fs := (List.nodup_cons.1 hnd).1
 have hnd' : (rO vs fs).Nodup := (List.nodup_cons.1 hnd).2
 have at' : ∀ j e, bY ((0, .cells T (aI 1 fs)) :: aS 1 fs) j = some e -> (j = 0 /\ e = .cells T (aI 1 fs)) \/ (j ≠ 0 /\ (j, e) ∈ aS 1 fs) := fun j e he => by
  simp only [bY] at he
  by_cases hj : j = 0
  ·subst hj; rw [ah] at he; cases he; exact .inl ⟨rfl, rfl⟩
  ·rw [ak _ _ hj] at he; exact .inr ⟨hj, vt he⟩
 have e0 : fW 1 vs (fun _ => .pointer (some ⟨b, 0, none⟩)) 0 = .pointer (some ⟨b, 0, none⟩) := ib (.inl (by omega))
 refine ⟨⟨fW 1 vs (fun _ => .pointer (some ⟨b, 0, none⟩)), bg (fR 1 vs fs (fun _ => [])) 0 [b], fun t => ?_, ⟨fun j e he => ?_, fun j e he c hc => ?_, fun j e he c hc => ?_, fun i j e e' hij hi hj c hc => ?_, ai.refl w _⟩, fun p hp => ?_⟩, ?_, rfl, fun p hp => ?_, fun t k hk => ?_, fun j e he => ?_⟩
 ·show fits _ (bQ ((0, .is (.own 0 0)) :: oU us.toList 1) t) _
  simp only [bQ, bg]
  split
  ·rename_i ht
   subst ht
   simp only [fits, den, e0, base, cD]
   rw [Array.getD_eq_getD_getElem?, Array.getElem?_append_left (by simp; omega), Array.getElem?_append_left (by simp)]
   rfl
  ·refine kQ _ us.toList 1 t (fun t => ((#[Value.pointer (some ⟨b, 0, none⟩)] ++ us) ++ Array.replicate m undef).getD t undef) fun j hj => ?_
   have hj' : j < us.size := by simpa using hj
   rw [Array.getD_eq_getD_getElem?, Array.getElem?_append_left (by simp; omega), Array.getElem?_append_right (by simp)]
   simp [Array.getElem?_eq_getElem hj']
 ·rcases at' j e he with ⟨rfl, rfl⟩ | ⟨hj, hm⟩
  ·exact ⟨b, e0, by rw [ah], by rw [eL hvs]; exact hb⟩
  ·rw [ak _ _ hj]
   exact (fQ hvs hm _).1
 ·rcases at' j e he with ⟨rfl, rfl⟩ | ⟨hj, hm⟩
  ·rw [ah] at hc; exact hlt c (by simp at hc; simp [hc])
  ·rw [ak _ _ hj] at hc; exact hlt c (List.mem_cons_of_mem _ (bD hl hm c hc))
 ·right
  rcases at' j e he with ⟨rfl, rfl⟩ | ⟨hj, hm⟩
  ·rw [ah] at hc; simp at hc; simp [hc]
  ·rw [ak _ _ hj] at hc; exact List.mem_cons_of_mem _ (bD hl hm c hc)
 ·rcases at' i e hi with ⟨rfl, rfl⟩ | ⟨hi0, hmi⟩
  ·rcases at' j e' hj with ⟨rfl, rfl⟩ | ⟨hj0, hmj⟩
   ·exact absurd rfl hij
   ·rw [ah] at hc
    rw [ak _ _ hj0]
    simp only [List.mem_singleton] at hc
    subst hc
    exact fun hc' => hb' (bD hl hmj c hc')
  ·rw [ak _ _ hi0] at hc
   rcases at' j e' hj with ⟨rfl, rfl⟩ | ⟨hj0, hmj⟩
   ·rw [ah]
    intro hc'
    simp only [List.mem_singleton] at hc'
    subst hc'
    exact hb' (bD hl hmi c hc)
   ·rw [ak _ _ hj0]
    exact eG hnd' hmi hmj hl hij c hc
 ·simp only [List.mem_singleton] at hp
  subst hp
  exact e0
 ·simp; omega
 ·simp only [List.mem_singleton] at hp
  subst hp
  show 0 / 8 < 1
  omega
 ·simp only [σB, bQ, bg] at hk
  split at hk
  ·simp [FV.keys, SV.keys] at hk; subst hk; show 0 / 8 < 1; omega
  ·rw [kN] at hk; cases hk
 ·rcases at' j e he with ⟨rfl, rfl⟩ | ⟨hj, hm⟩
  ·refine ⟨by show 0 / 8 < 1; omega, fun i hi => ?_⟩
   have := cq i hi
   show i / 8 < 1
   omega
  ·have := dw _ hm
   refine ⟨by show j / 8 < 1; simp only at this; omega, fun i hi => ?_⟩
   rw [this.2.2] at hi
   cases hi
theorem bL {P : Program} {f : FuncId} {fn : Func} {c : Code} {w : World} {nt : Nat} {T : TypeId} {u : Value} {fp : List Nat} {fs : List AV} {out : BOut} (us : Array Value) (rs : List ResultVar)
  (hlen : fs.length <= 7) (ho : bz w u fp T fs) (hlt : ∀ b ∈ fp, b < w.heap.size)
  (hf : P.funcs[f]? = some fn) (hb : fn.body = some c) (hrs : fn.results.toList = rs) (hnt : us.size + 1 + (fn.ntmps - (us.size + 1)) = nt)
  (h : Wp P w fp nt ⟨[], [(0, u)]⟩ c (Fin P rs (fun _ _ x h => ∃ v fs', out = .ret v fs' /\ (∀ E, den E x = v) /\ ∃ vs ks, h 0 = some (.cells T vs) /\ ay h vs = some (fs', ks) /\ (0 :: ks).Nodup) (fun c _ => ∃ v, out = .pan c v)) (σB T fs us.toList)) :
  Calls P f (#[u] ++ us) w fun e w' => fu w u fp T e w' out := by
 subst hrs
 have hsat := vW (nt := nt) (m := fn.ntmps - (us.size + 1)) us hlen ho hlt hnt
 have hsz : (#[u] ++ us).size = us.size + 1 := by simp; omega
 refine (jB hf hb (by rw [hsz]; exact hsat) h).mono fun e w' he => ?_
 cases e with
 | returned v' =>
  obtain ⟨W', bs', E, F, x, h', hx, ⟨v, fs', rfl, hd, vs, ks, h0, hv, hn⟩, rfl, hs, hp⟩ := he
  have hs' := hs.back hx
  have hE : E 0 = u := hp (0, u) (by simp)
  have ho' := eE hs' h0 hv hn
  rw [hE] at ho'
  refine ⟨by rw [hd E], ⟨_, ho', fun b hb => ?_, fun b hb => ?_⟩, hs'.keeps⟩
  ·obtain ⟨j, hj, hbj⟩ := List.mem_flatMap.1 hb
   have : ∃ e, h' j = some e := by
    rcases List.mem_cons.1 hj with rfl | hj
    ·exact ⟨_, h0⟩
    ·exact (bO hs' hv).2 j hj
   obtain ⟨e, he⟩ := this
   exact (hs'.mine j e he b hbj).symm
  ·obtain ⟨j, hj, hbj⟩ := List.mem_flatMap.1 hb
   have : ∃ e, h' j = some e := by
    rcases List.mem_cons.1 hj with rfl | hj
    ·exact ⟨_, h0⟩
    ·exact (bO hs' hv).2 j hj
   obtain ⟨e, he⟩ := this
   exact hs'.lt j e he b hbj
 | panicked c =>
  obtain ⟨W', bs', E, F, h', hx, ⟨_, rfl⟩, hs, hp⟩ := he
  exact ⟨rfl, (hs.back hx).keeps⟩
 | outgrown => exact he.elim
end
section
def Zj := (ab @KW (ab @Hc (ab @C0 (ab @wA (ab @AG (ab @DA (ab @B5 (ab @KC (ab @EK (ab @Mi (ab @LX (ab @K3 (ab @EZ (ab @Gl (ab @FF (ab @K8 @Hs))))))))))))))))
end
section
open Go.RowKit
theorem Xh : IntKind.i64.bits = 64 /\ IntKind.u64.bits = 64 /\ IntKind.u8.bits = 8 /\ IntKind.i32.bits = 32 /\ IntKind.u32.bits = 32 /\ IntKind.u16.bits = 16 := ⟨rfl, rfl, rfl, rfl, rfl, rfl⟩
structure Jr (P : Program) (f : FuncId) where
 pre : World -> List Nat -> List AV -> Prop
 res : World -> List AV -> Value
 ok : ∀ (W w : World) (bs : List Nat) (us : List Value) (as_ : List AV), ai W bs w -> eD w us as_ -> pre W bs as_ -> (callFunc f us.toArray).run P w = .ok (.value (res W as_)) w
def Jr.spec {P : Program} {f : FuncId} (p : Jr P f) : Spec P f where
 ev := fun W bs _ h args => Ce p.pre p.res W bs (ay h args)
 good := fun W bs κ E F h w K args hs hK hk hx hside => by
  cases hv : ay h args with
  | none => rw [hv] at hside; exact hside.elim
  | some q =>
   obtain ⟨as_, rs⟩ := q
   rw [hv] at hside
   rw [p.ok W w bs _ as_ hs.keeps (dE hs hv) hside]
   exact Good.pure hs rfl rfl rfl
 keys := fun W bs κ h K args hK hx hside => by
  cases hv : ay h args with
  | none => rw [hv] at hside; exact hside.elim
  | some q => exact aH.plain (fun k hk => by cases hk) rfl
 loc := fun W bs κ h h' args hside hr => by
  cases hv : ay h args with
  | none => rw [hv] at hside; exact hside.elim
  | some q =>
   obtain ⟨as_, rs⟩ := q
   rw [hv] at hr
   rw [cF hv hr]
theorem az {P : Program} {f : FuncId} (p : Jr P f) (W : World) (bs : List Nat) (κ : Nat) (h : Hp) (l : List SV) : p.spec.ev W bs κ h l = Ce p.pre p.res W bs (ay h l) := rfl
theorem YH : min 6 8 = 6 /\ min 6 64 = 6 /\ min 4 8 = 4 /\ min 1 64 = 1 /\ min 2 64 = 2 /\ min 4 64 = 4 /\ min 8 64 = 8 /\ min 16 64 = 16 /\ min 32 64 = 32 := by decide
section
variable {P : Program} {W : World} {bs : List Nat} {κ : Nat} {h : Hp} {Γ : Env P}
theorem AX (fn : Fn) (first cap : Array Operand) (l : List SV) : dB Γ W bs κ h (.makeFunc fn first cap) l = ⟨True, .fn fn (l.take first.size) (l.drop first.size), [], none, [], []⟩ := rfl
theorem tK (x : Operand) (xT T : TypeId) (ok : Bool) (l : List SV) : dB Γ W bs κ h (.typeAssert x xT T ok) l = ed P T ok l := rfl
theorem SY (as_ : Array Operand) (tys : Array TypeId) (l : List SV) : dB Γ W bs κ h (.call { callee := .builtin .min, args := as_, argTypes := tys }) l = oK l := rfl
theorem Ud (as_ : Array Operand) (tys : Array TypeId) (l : List SV) : dB Γ W bs κ h (.call { callee := .builtin .max, args := as_, argTypes := tys }) l = mU l := rfl
theorem Ft (f : FuncId) (first cap rest : List SV) : iX Γ W bs κ h (.fn (.func f) first cap :: rest) = lS Γ W bs κ h f (first ++ rest ++ cap) := rfl
theorem Q7 (f : Fn) (a c : List SV) : cu (.fn f a c) = true := rfl
theorem Et (f : Fn) (a c : List SV) : partsOf (.fn f a c) = [.fn f a c] := rfl
theorem E3 (f : Fn) (a c : Array Value) : cu (.v (.func f a c)) = true := rfl
theorem Bb (f : Fn) (a c : Array Value) : partsOf (.v (.func f a c)) = [.v (.func f a c)] := rfl
theorem wB : cu (.v .nilFunc) = true := rfl
theorem sy : partsOf (.v .nilFunc) = [.v .nilFunc] := rfl
def Y0 (k o : Nat) : Option (List SV) -> R
 | some vs => ⟨o < vs.length, .own k o, [], none, [], [k]⟩
 | none => .bad
theorem qD (k o : Nat) : da h [.own k o] = Y0 k o (b6 (h k)) := by
 simp only [da]; unfold Y0
 rcases b6 (h k) with _ | vs <;> rfl
theorem Rk (k o : Nat) (vs : List SV) : Y0 k o (some vs) = ⟨o < vs.length, .own k o, [], none, [], [k]⟩ := rfl
def Su (k o n : Nat) (i : Int) (vs : List SV) : Option Nat -> R
 | some sz => ⟨0 <= i /\ i < n /\ 1 < n /\ o < vs.length, .own k (o + i.toNat * sz), [], none, [], [k]⟩
 | none => .bad
def YL (P : Program) (k o : Nat) (i : Int) : Option TypeDesc -> Option (List SV) -> R
 | some (.array n e), some vs => Su k o n i vs (ts P e)
 | _, _ => .bad
theorem qB (T : TypeId) (k o : Nat) (ik : IntKind) (i : Int) : bo P h T [.own k o, .v (.int ik i)] = YL P k o i (P.underlying T) (b6 (h k)) := by
 simp only [bo]; unfold YL
 rcases P.underlying T with _ | d
 ·rfl
 ·rcases b6 (h k) with _ | vs
  ·cases d <;> rfl
  ·cases d <;> first | rfl | (rename_i n e; simp only [Su]; rcases ts P e with _ | sz <;> rfl)
theorem S3 (k o : Nat) (i : Int) (n : Nat) (e : TypeId) (vs : List SV) : YL P k o i (some (.array n e)) (some vs) = Su k o n i vs (ts P e) := rfl
theorem KA (k o n : Nat) (i : Int) (vs : List SV) (sz : Nat) : Su k o n i vs (some sz) = ⟨0 <= i /\ i < n /\ 1 < n /\ o < vs.length, .own k (o + i.toNat * sz), [], none, [], [k]⟩ := rfl
def WN (n : Nat) (i : Int) (l : List SV) : Option Nat -> Option Bool -> R
 | some sz, some true => ⟨0 <= i /\ i < n /\ i.toNat * sz + sz <= l.length, .agg ((l.drop (i.toNat * sz)).take sz), [], none, [], []⟩
 | some sz, some false => ⟨0 <= i /\ i < n /\ i.toNat * sz < l.length, l.getD (i.toNat * sz) (.v undef), [], none, [], []⟩
 | _, _ => .bad
def X3 (P : Program) (i : Int) (l : List SV) : Option TypeDesc -> R
 | some (.array n e) => WN n i l (ts P e) (ta P e)
 | _ => .bad
theorem zD (T : TypeId) (l : List SV) (ik : IntKind) (i : Int) : eF P T [.agg l, .v (.int ik i)] = X3 P i l (P.underlying T) := by
 simp only [eF]; unfold X3
 rcases P.underlying T with _ | d
 ·rfl
 ·cases d <;> first | rfl | (rename_i n e; simp only [WN]; rcases ts P e with _ | sz <;> rcases ta P e with _ | b <;> first | rfl | (cases b <;> simp [eu, R.fI]))
theorem wG (T : TypeId) (cs : Array Value) (ik : IntKind) (i : Int) : eF P T [.v (.agg cs), .v (.int ik i)] = X3 P i (cs.toList.map .v) (P.underlying T) := by
 simp only [eF]; unfold X3
 rcases P.underlying T with _ | d
 ·rfl
 ·cases d <;> first | rfl | (rename_i n e; simp only [WN]; rcases ts P e with _ | sz <;> rcases ta P e with _ | b <;> first | rfl | (cases b <;> simp [eu, R.fI]))
theorem Ty (i : Int) (l : List SV) (n : Nat) (e : TypeId) : X3 P i l (some (.array n e)) = WN n i l (ts P e) (ta P e) := rfl
theorem Ss (n : Nat) (i : Int) (l : List SV) (sz : Nat) : WN n i l (some sz) (some true) = ⟨0 <= i /\ i < n /\ i.toNat * sz + sz <= l.length, .agg ((l.drop (i.toNat * sz)).take sz), [], none, [], []⟩ := rfl
theorem Sj (n : Nat) (i : Int) (l : List SV) (sz : Nat) : WN n i l (some sz) (some false) = ⟨0 <= i /\ i < n /\ i.toNat * sz < l.length, l.getD (i.toNat * sz) (.v undef), [], none, [], []⟩ := rfl
def Yy (n : Int) : Option TypeDesc -> Option TypeDesc -> R
 | some _, some (.int k) => ⟨True, .v (.int k (k.wrap n)), [], none, [], []⟩
 | _, _ => .bad
theorem vI (src dst : TypeId) (k : IntKind) (n : Int) : dR P src dst [.v (.int k n)] = Yy n (P.underlying src) (P.underlying dst) := by
 simp only [dR]; unfold Yy
 rcases P.underlying src with _ | d <;> rcases P.underlying dst with _ | d' <;> first | rfl | (cases d' <;> rfl)
theorem Uo (n : Int) (d : TypeDesc) (k : IntKind) : Yy n (some d) (some (.int k)) = ⟨True, .v (.int k (k.wrap n)), [], none, [], []⟩ := rfl
theorem Eu (t : TypeId) (x : Value) : jS [.v (.iface t x)] = ⟨True, .v undef, [], some [{ v := .iface t x, recovered := false }], [], []⟩ := rfl
def YM (P : Program) (T : TypeId) (l : List SV) : Option (List Value) -> R
 | some vs => ⟨P.concrete T = true, .v (.iface T (.agg vs.toArray)), [], none, [], []⟩
 | none => ⟨P.concrete T = true, .ifc T (.agg l), [], none, [], []⟩
theorem Hv (T : TypeId) (l : List SV) : lL P T [.agg l] = YM P T l (cI l) := by
 simp only [lL, jF]; unfold YM
 rcases cI l with _ | vs <;> rfl
theorem Ns (T : TypeId) (l : List SV) (vs : List Value) : YM P T l (some vs) = ⟨P.concrete T = true, .v (.iface T (.agg vs.toArray)), [], none, [], []⟩ := rfl
def aK (T t : TypeId) (x : SV) (ok : Bool) : Option Bool -> Option Value -> R
 | some false, some z => match ok with
  | true => ⟨True, if t = T then .tup [x, .v (.bool true)] else .tup [.v z, .v (.bool false)], [], none, [], []⟩
  | false => ⟨t = T, x, [], none, [], []⟩
 | _, _ => .bad
theorem Cc (T t : TypeId) (x : Value) (ok : Bool) : ed P T ok [.v (.iface t x)] = aK T t (.v x) ok (isIface P T) (zv P T) := by
 simp only [ed]; unfold aK
 rcases isIface P T with _ | b
 ·rfl
 ·cases b <;> rcases zv P T with _ | z <;> first | rfl | (cases ok <;> rfl)
theorem Nl (T t : TypeId) (x : SV) (z : Value) : aK T t x false (some false) (some z) = ⟨t = T, x, [], none, [], []⟩ := rfl
theorem Us (T t : TypeId) (x : SV) (z : Value) : aK T t x true (some false) (some z) = ⟨True, if t = T then .tup [x, .v (.bool true)] else .tup [.v z, .v (.bool false)], [], none, [], []⟩ := rfl
def nK (ok : Bool) : Option Bool -> Option Value -> R
 | some false, some z => match ok with
  | true => ⟨True, .tup [.v z, .v (.bool false)], [], none, [], []⟩
  | false => .bad
 | _, _ => .bad
theorem wx (T : TypeId) (ok : Bool) : ed P T ok [.v .nilIface] = nK ok (isIface P T) (zv P T) := by
 simp only [ed]; unfold nK
 rcases isIface P T with _ | b
 ·rfl
 ·cases b <;> rcases zv P T with _ | z <;> first | rfl | (cases ok <;> rfl)
theorem SS (z : Value) : nK true (some false) (some z) = ⟨True, .tup [.v z, .v (.bool false)], [], none, [], []⟩ := rfl
def EE : Option TypeDesc -> Bool
 | some (.array _ _) => true
 | _ => false
theorem HD (n : Nat) (e : TypeId) : EE (some (.array n e)) = true := rfl
def AH (idx : List Nat) (args : List SV) (zs : List Value) : Option Nat -> R
 | some sz => Fz (pt sz (zs.map .v) (idx.zip args))
 | none => .bad
def Fk (P : Program) (idx : List Nat) (args : List SV) : Option (List Value) -> Option TypeDesc -> R
 | some zs, some (.array _ e) => AH idx args zs (ts P e)
 | _, _ => .bad
theorem A3 (T : TypeId) (idx : List Nat) (args : List SV) (ha : EE (P.underlying T) = true) : df P T idx args = Fk P idx args (tz P T) (P.underlying T) := by
 unfold EE at ha
 split at ha
 ·rename_i n e hu
  unfold df Fk
  rw [hu]
  cases tz P T with
  | none => rfl
  | some zs =>
   simp only [AH, pt, Fz]
   cases oW P T <;> cases ts P e with
   | none => rfl
   | some sz => cases cS (fun i => some (i * sz, sz)) (zs.map .v) (idx.zip args) <;> rfl
 ·cases ha
theorem EM (idx : List Nat) (args : List SV) (zs : List Value) (n : Nat) (e : TypeId) : Fk P idx args (some zs) (some (.array n e)) = AH idx args zs (ts P e) := rfl
theorem Co (idx : List Nat) (args : List SV) (zs : List Value) (sz : Nat) : AH idx args zs (some sz) = Fz (pt sz (zs.map .v) (idx.zip args)) := rfl
theorem Hr (a b : Int) : oK [.v (.int .i64 a), .v (.int .i64 b)] = ⟨True, .v (.int .i64 (if b < a then b else a)), [], none, [], []⟩ := rfl
theorem Fw (a b : Int) : mU [.v (.int .i64 a), .v (.int .i64 b)] = ⟨True, .v (.int .i64 (if a < b then b else a)), [], none, [], []⟩ := rfl
theorem Al (a b c : Int) : mU [.v (.int .i64 a), .v (.int .i64 b), .v (.int .i64 c)] = ⟨True, .v (.int .i64 (if (if a < b then b else a) < c then c else (if a < b then b else a))), [], none, [], []⟩ := rfl
end
open Classical in
noncomputable def dec {α : Type} (f : α -> Value) (v : Value) : Option α := if h : ∃ a, v = f a then some h.choose else none
theorem fA {α : Type} {f : α -> Value} {v : Value} {a : α} (h : dec f v = some a) : v = f a := by
 unfold dec at h
 split at h
 ·rename_i h1
  simp only [Option.some.injEq] at h
  rw [<- h]
  exact h1.choose_spec
 ·cases h
theorem cj {α : Type} {f : α -> Value} (hf : ∀ a b, f a = f b -> a = b) (a : α) : dec f (f a) = some a := by
 unfold dec
 have h1 : ∃ b, f a = f b := ⟨a, rfl⟩
 rw [dif_pos h1]
 exact congrArg some (hf _ _ h1.choose_spec).symm
section
variable {P : Program} (eqs : (T : TypeId) -> Option (EqSpec P T)) (h : Hp) (op : BinOp) (T : TypeId) (X Y : Operand)
theorem Kh (p : Prop) (b : Bool) (rd : List Nat) : dj .eql p b rd = ⟨p, .v (.bool b), [], none, [], rd⟩ := rfl
theorem LI (p : Prop) (b : Bool) (rd : List Nat) : dj .neq p b rd = ⟨p, .v (.bool (!b)), [], none, [], rd⟩ := rfl
theorem CV (k k' : IntKind) (a b : Int) : bE P eqs h op T X Y [.v (.int k a), .v (.int k' b)] = aP P eqs op T [.v (.int k a), .v (.int k' b)] := rfl
theorem C8 (a b : ByteArray) : bE P eqs h op T X Y [.v (.string a), .v (.string b)] = aP P eqs op T [.v (.string a), .v (.string b)] := rfl
theorem AT (a b : Bool) : bE P eqs h op T X Y [.v (.bool a), .v (.bool b)] = aP P eqs op T [.v (.bool a), .v (.bool b)] := rfl
theorem Ek (a b : List SV) : bE P eqs h op T X Y [.agg a, .agg b] = aP P eqs op T [.agg a, .agg b] := rfl
theorem FE (a : List SV) (b : Array Value) : bE P eqs h op T X Y [.agg a, .v (.agg b)] = aP P eqs op T [.agg a, .v (.agg b)] := rfl
theorem Hw (a : Array Value) (b : List SV) : bE P eqs h op T X Y [.v (.agg a), .agg b] = aP P eqs op T [.v (.agg a), .agg b] := rfl
theorem Hy (a b : Array Value) : bE P eqs h op T X Y [.v (.agg a), .v (.agg b)] = aP P eqs op T [.v (.agg a), .v (.agg b)] := rfl
theorem EV : bE P eqs h op T X Y [.v .nilIface, .v .nilIface] = dj op (isIface P T = some true /\ (ia X || ia Y) = true) true [] := rfl
theorem GZ (t : TypeId) (x : Value) : bE P eqs h op T X Y [.v .nilIface, .v (.iface t x)] = dj op (isIface P T = some true) false [] := rfl
theorem Ew (t : TypeId) (x : Value) : bE P eqs h op T X Y [.v (.iface t x), .v .nilIface] = dj op (isIface P T = some true) false [] := rfl
theorem Fg (t : TypeId) (x : SV) : bE P eqs h op T X Y [.v .nilIface, .ifc t x] = dj op (isIface P T = some true) false [] := rfl
theorem Gn (t : TypeId) (x : SV) : bE P eqs h op T X Y [.ifc t x, .v .nilIface] = dj op (isIface P T = some true) false [] := rfl
theorem Hg : bE P eqs h op T X Y [.v (.pointer none), .v (.pointer none)] = dj op (iH P T = some true) true [] := rfl
theorem G9 (a : Addr) : bE P eqs h op T X Y [.v (.pointer none), .v (.pointer (some a))] = dj op (iH P T = some true) false [] := rfl
theorem FU (a : Addr) : bE P eqs h op T X Y [.v (.pointer (some a)), .v (.pointer none)] = dj op (iH P T = some true) false [] := rfl
def CZ (P : Program) (op : BinOp) (T : TypeId) (k o : Nat) : Option (List SV) -> R
 | some vs => dj op (iH P T = some true /\ o < vs.length) false [k]
 | none => .bad
theorem G1 (k o : Nat) (vs : List SV) : CZ P op T k o (some vs) = dj op (iH P T = some true /\ o < vs.length) false [k] := rfl
theorem HY (k o : Nat) : bE P eqs h op T X Y [.own k o, .v (.pointer none)] = CZ P op T k o (b6 (h k)) := by
 simp only [bE]; unfold CZ; cases b6 (h k) <;> rfl
theorem Hu (k o : Nat) : bE P eqs h op T X Y [.v (.pointer none), .own k o] = CZ P op T k o (b6 (h k)) := by
 simp only [bE]; unfold CZ; cases b6 (h k) <;> rfl
theorem uE (v : Value) : ia (.const v) = true := rfl
theorem zH (t : Nat) : ia (.tmp t) = false := rfl
end
section
variable {P : Program} (h : Hp) (src dst : TypeId)
theorem Az (k : IntKind) (n : Int) : fy P h src dst [.v (.int k n)] = dR P src dst [.v (.int k n)] := rfl
theorem AW (s : ByteArray) : fy P h src dst [.v (.string s)] = dR P src dst [.v (.string s)] := rfl
theorem CI (k : Nat) : fy P h src dst [.hd k] = WM P src dst k (h k) := rfl
theorem Uv (k T n : Nat) (vs : List SV) : WM P src dst k (some (.row T 1 n vs)) = WL P k n (P.underlying src) (P.underlying dst) (jD vs) := rfl
theorem Rl (k n e : Nat) (ns : List Int) : WL P k n (some (.slice e)) (some .string) (some ns) = ⟨P.underlying e = some (.int .u8) /\ ns.length = n, .v (.string (eX ns)), [], none, [], [k]⟩ := rfl
theorem Hi : jD [] = some [] := rfl
theorem rE (n : Int) (r : List SV) : jD (.v (.int .u8 n) :: r) = (jD r).map (n :: ·) := rfl
theorem nc : ∀ ns : List Int, jD (ns.map fun n => SV.v (.int .u8 n)) = some ns
 | [] => rfl
 | n :: r => by rw [List.map_cons, rE, nc r]; rfl
end
end
section
def Zn := (ab @az (ab @AX (ab @tK (ab @SY (ab @Ud (ab @Ft (ab @Q7 (ab @Et (ab @E3 (ab @Bb (ab @wB (ab @sy (ab @qD (ab @Rk (ab @qB (ab @S3 (ab @KA (ab @zD (ab @wG (ab @Ty (ab @Ss (ab @Sj (ab @vI (ab @Uo (ab @Eu (ab @Hv (ab @Ns (ab @Cc (ab @Nl (ab @Us (ab @wx (ab @SS (ab @HD (ab @A3 (ab @EM (ab @Co (ab @Hr (ab @Fw @Al))))))))))))))))))))))))))))))))))))))
def Zo := ab @LK <| ab @FL <| ab @G0 <| ab @Q5 <| (ab @Kh (ab @LI (ab @CV (ab @C8 (ab @AT (ab @Ek (ab @FE (ab @Hw (ab @Hy (ab @EV (ab @GZ (ab @Ew (ab @Fg (ab @Gn (ab @Hg (ab @G9 (ab @FU (ab @G1 (ab @HY (ab @Hu (ab @uE (ab @zH (ab @Az (ab @AW (ab @CI (ab @Uv (ab @Rl (ab @Hi (ab @rE @nc)))))))))))))))))))))))))))))
end
section
open Go.RowKit
section
variable {P : Program} {fn : Func}
theorem Leaves.mono {tmps : Array Value} {R R' : Ending -> World -> Prop} (hr : ∀ e w, R e w -> R' e w) : ∀ (ds : List Deferred) (u : FrameMode) (w : World), Leaves P fn tmps R ds u w -> Leaves P fn tmps R' ds u w
 | [], .run, _, h => h.elim
 | [], .returning, _, h => by obtain ⟨v, h1, h2⟩ := h; exact ⟨v, h1, hr _ _ h2⟩
 | [], .panicking c, _, h => hr _ _ h
 | d :: ds, u, w, h => by
  obtain ⟨h0, fv, cap, f, args, h1, h2, h3⟩ := h
  refine ⟨h0, fv, cap, f, args, h1, h2, h3.mono fun e u' w' he => ?_⟩
  cases e with
  | returned v => exact Leaves.mono hr ds _ _ he
  | panicked c => exact Leaves.mono hr ds _ _ he
  | outgrown => exact hr _ _ he
theorem vh {R R' : Ending -> World -> Prop} (hr : ∀ e w, R e w -> R' e w) (e : Exit) (a : Act) (w : World) (h : bodyPostD P fn R e a w) : bodyPostD P fn R' e a w := by
 cases e with
 | normal => exact Leaves.mono hr _ _ _ h
 | ret => exact Leaves.mono hr _ _ _ h
 | panic c => exact Leaves.mono hr _ _ _ h
 | outgrown => exact hr _ _ h
 | exit i => exact h.elim
 | goto l => exact h.elim
theorem Ends.back {W W' : World} {bs bs' : List Nat} {pins : List (Nat × Value)} {Rr : World -> List Nat -> SV -> Hp -> Prop} {Rp : List PanicEntry -> Hp -> Prop} {e : Ending} {w : World} (he : Ext W bs W' bs') (h : Ends W' bs' pins Rr Rp e w) : Ends W bs pins Rr Rp e w := by
 cases e with
 | returned v => obtain ⟨W'', bs'', E, F, x, h', hx, r⟩ := h; exact ⟨W'', bs'', E, F, x, h', he.trans hx, r⟩
 | panicked c => obtain ⟨W'', bs'', E, F, h', hx, r⟩ := h; exact ⟨W'', bs'', E, F, h', he.trans hx, r⟩
 | outgrown => exact h.elim
def jY (P : Program) (fn : Func) (nt : Nat) (pins : List (Nat × Value)) (Rr : World -> List Nat -> SV -> Hp -> Prop) (Rp : List PanicEntry -> Hp -> Prop) (W : World) (bs : List Nat) (c : Code) (σ : St) : Prop :=
 ∀ a w, Sat W bs nt ⟨[], pins⟩ σ a w -> c.wp P (bodyPostD P fn (Ends W bs pins Rr Rp)) a w
variable {nt : Nat} {pins : List (Nat × Value)} {Rr : World -> List Nat -> SV -> Hp -> Prop} {Rp : List PanicEntry -> Hp -> Prop} {W : World} {bs : List Nat} {σ : St}
theorem LW {f : FuncId} {c : Code} {args : Array Value} {w : World} (hf : P.funcs[f]? = some fn) (hb : fn.body = some c)
  (hsat : Sat W bs nt ⟨[], pins⟩ σ { tmps := args ++ Array.replicate (fn.ntmps - args.size) undef, defers := [] } w)
  (h : jY P fn nt pins Rr Rp W bs c σ) : Calls P f args w (Ends W bs pins Rr Rp) := calls_of_wp_defers hf hb (h _ w hsat)
theorem mJ {W' : World} {bs' : List Nat} {σ' : St} {a : Act} {w : World} {ds : List Deferred} (hs : Sat W' bs' nt ⟨ds, pins⟩ σ' a w) (hx : Ext W bs W' bs') (hq : (gT P W' bs' σ' fn.results.toList).1 /\ Rr W' bs' (jE (gT P W' bs' σ' fn.results.toList).2) σ'.h) :
  ∃ v, (results fn a.tmps).run P w = .ok v w /\ Ends W bs pins Rr Rp (.returned v) w := by
 obtain ⟨E, F, hφ, hh, hp⟩ := hs.ex
 exact ⟨_, ie hφ hh hq.1, W', bs', E, F, _, _, hx, hq.2, rfl, hh, hp⟩
theorem jY.seq {x y : Code} (h : Wp P W bs nt ⟨[], pins⟩ x (Th (fun W' bs' σ' => jY P fn nt pins Rr Rp W' bs' y σ') (Fin P fn.results.toList Rr Rp)) σ) : jY P fn nt pins Rr Rp W bs (.seq x y) σ := fun a w hs =>
 wp_seq (wp_mono (h a w hs) fun e a' w' ⟨W', bs', σ', he, hq, hs'⟩ => by
  cases e with
  | normal => exact wp_mono (hq a' w' hs') fun e a w h => vh (fun e w => Ends.back he) e a w h
  | ret =>
   have hd := hs'.defers
   show Leaves P fn a'.tmps _ a'.defers .returning w'
   rw [hd]
   exact mJ hs' he hq
  | panic c =>
   have hd := hs'.defers
   show Leaves P fn a'.tmps _ a'.defers (.panicking c) w'
   rw [hd]
   obtain ⟨E, F, hφ, hh, hp⟩ := hs'.ex
   exact ⟨W', bs', E, F, _, he, hq, hh, hp⟩
  | exit i => exact hq.elim
  | goto l => exact hq.elim
  | outgrown => exact hq.elim)
theorem jY.wp {c : Code} (h : Wp P W bs nt ⟨[], pins⟩ c (Fin P fn.results.toList Rr Rp) σ) : jY P fn nt pins Rr Rp W bs c σ := fun a w hs =>
 wp_mono (h a w hs) fun e a' w' ⟨W', bs', σ', he, hq, hs'⟩ => by
  have hd := hs'.defers
  cases e with
  | normal => show Leaves P fn a'.tmps _ a'.defers .returning w'; rw [hd]; exact mJ hs' he hq
  | ret => show Leaves P fn a'.tmps _ a'.defers .returning w'; rw [hd]; exact mJ hs' he hq
  | panic c =>
   show Leaves P fn a'.tmps _ a'.defers (.panicking c) w'
   rw [hd]
   obtain ⟨E, F, hφ, hh, hp⟩ := hs'.ex
   exact ⟨W', bs', E, F, _, he, hq, hh, hp⟩
  | exit i => exact hq.elim
  | goto l => exact hq.elim
  | outgrown => exact hq.elim
def iY (w : World) : List Value -> List Nat -> List TypeId -> List (List Value) -> Prop
 | [], [], [], [] => True
 | u :: us, b :: bl, T :: Ts, vs :: vss => u = .pointer (some ⟨b, 0, none⟩) /\ w.heap[b]? = some (.cells vs.toArray T (0, 0)) /\ iY w us bl Ts vss
 | _, _, _, _ => False
def A1 (P : Program) : List TypeId -> List (List Value) -> List Value -> Prop
 | [], [], [] => True
 | T :: Ts, cs :: css, v :: vs => ((ts P T = some cs.length /\ ta P T = some true /\ v = .agg cs.toArray) \/ (ta P T = some false /\ cs = [v])) /\ A1 P Ts css vs
 | _, _, _ => False
def Ma : List Value -> Value
 | [v] => v
 | l => .tuple l.toArray
structure CatchC (P : Program) (f : FuncId) where
 Ts : List TypeId
 enters : ∀ args w, (callFunc f args).run P w = .ok (.enter f args) w
 pre : List (List Value) -> Value -> Prop
 out : List (List Value) -> Value -> List (List Value)
 bh : List (List Value) -> Value -> List Value
 vals_ok : ∀ vss pv, pre vss pv -> A1 P Ts (out vss pv) (bh vss pv)
 quiet : ∀ (w : World) (us : List Value), us.length = Ts.length -> CallsD P f us.toArray .returning w fun e u' w' => (∃ v, e = .returned v) /\ u' = .returning /\ ai w [] w'
 caught : ∀ (w : World) (us : List Value) (bl : List Nat) (vss : List (List Value)) (pv : Value), iY w us bl Ts vss -> bl.Nodup -> (∀ b ∈ bl, b < w.heap.size) -> pre vss pv ->
  CallsD P f us.toArray (.panicking [{ v := pv, recovered := false }]) w fun e u' w' => (∃ v, e = .returned v) /\ u' = .panicking [{ v := pv, recovered := true }] /\ ai w bl w' /\ iY w' us bl Ts (out vss pv)
def q6 : List Nat -> List TypeId -> List ResultVar
 | t :: tl, T :: Ts => .cell t T :: q6 tl Ts
 | _, _ => []
theorem iY.run {tmps : Array Value} {w : World} : ∀ {tl : List Nat} {us : List Value} {bl : List Nat} {Ts : List TypeId} {css : List (List Value)} {vs : List Value}, iY w us bl Ts css -> A1 P Ts css vs -> tl.map (fun t => tmps.getD t undef) = us ->
  ((q6 tl Ts).mapM (kp { tmps := tmps, defers := [] })).run P w = .ok vs w
 | [], us, bl, Ts, css, vs, h1, h2, h3 => by
  subst h3
  match bl, Ts, css, vs, h1, h2 with
  | [], [], [], [], _, _ => rfl
 | t :: tl, us, bl, Ts, css, vs, h1, h2, h3 => by
  subst h3
  match bl, Ts, css, vs, h1, h2 with
  | b :: bl, T :: Ts, cs :: css, v :: vs, h1, h2 =>
   obtain ⟨e1, e2, e3⟩ := h1
   obtain ⟨f1, f2⟩ := h2
   replace e1 : tmps.getD t undef = _ := e1
   have ih := iY.run (tmps := tmps) (tl := tl) e3 f2 rfl
   have one : (kp { tmps := tmps, defers := [] } (.cell t T)).run P w = .ok v w := by
    simp only [kp]
    rw [e1]
    have hc : ∀ j x, cs[j]? = some x -> w.cell? ⟨b, 0 + j, none⟩ = some x := fun j x hx => by
     simp [World.cell?, e2, hx]
    rcases f1 with ⟨g1, g2, rfl⟩ | ⟨g2, rfl⟩
    ·have := fE (P := P) (w := w) g1 g2 ⟨b, 0, none⟩ cs rfl (fun j x hx => by rw [Addr.add_lit]; exact hc j x hx)
     simpa [asAddr] using this
    ·have := fF (P := P) (w := w) g2 ⟨b, 0, none⟩ v (by simpa using hc 0 v rfl)
     simpa [asAddr] using this
   simp only [q6, List.mapM_cons]
   simp [one, ih]
theorem AY {tmps : Array Value} {w : World} {tl : List Nat} {us : List Value} {bl : List Nat} {Ts : List TypeId} {css : List (List Value)} {vs : List Value} (h1 : iY w us bl Ts css) (h2 : A1 P Ts css vs) (h3 : tl.map (fun t => tmps.getD t undef) = us)
  (hr : fn.results.toList = q6 tl Ts) : (results fn tmps).run P w = .ok (Ma vs) w := by
 have h4 := iY.run (P := P) (tmps := tmps) h1 h2 h3
 have h2 : results fn tmps = ((Functor.map List.toArray (fn.results.toList.mapM (kp { tmps := tmps, defers := [] }))) >>= fun (vs : Array Value) => (pure (if h : vs.size = 1 then vs[0] else .tuple vs) : Sem Value)) := by
  rw [<- Array.mapM_eq_mapM_toList]
  unfold results
  congr 1
 rw [h2, hr]
 simp only [map_eq_pure_bind, bind_assoc, pure_bind]
 simp [h4]
 match vs with
 | [] => simp [Ma]
 | [x] => simp [Ma]
 | x :: y :: r => simp [Ma]
def Ib (σ : St) : List Nat -> List Nat -> List TypeId -> List (List Value) -> Prop
 | [], [], [], [] => True
 | t :: tl, k :: ks, T :: Ts, vs :: vss => σ.φ t = .is (.own k 0) /\ σ.h k = some (.cells T (vs.map .v)) /\ Ib σ tl ks Ts vss
 | _, _, _, _ => False
def Ui {f : FuncId} (C : CatchC P f) (rs : List ResultVar) (tl ks : List Nat) (Rr : World -> List Nat -> SV -> Hp -> Prop) (Rp : List PanicEntry -> Hp -> Prop) : jX
 | .normal, W, bs, σ | .ret, W, bs, σ => (gT P W bs σ rs).1 /\ Rr W bs (jE (gT P W bs σ rs).2) σ.h
 | .panic c, W, bs, σ => ∃ pv vss, c = [{ v := pv, recovered := false }] /\ Ib σ tl ks C.Ts vss /\ C.pre vss pv /\ Rr W bs (.v (Ma (C.bh vss pv))) (dropKeys σ.h ks)
 | _, _, _, _ => False
def Jf (f : FuncId) (us : List Value) : Deferred := ⟨.fn (.func f) us.toArray, #[]⟩
theorem gm.tmp {E : Nat -> Value} {φ : Fr} {a : Act} {t : Nat} {x : SV} (h : gm E φ a) (ht : φ t = .is x) : a.tmps.getD t undef = den E x := by
 have := h t
 rw [ht] at this
 exact this
theorem uc {σ : St} {E : Nat -> Value} {F : Nat -> List Nat} {a : Act} {w : World} (hφ : gm E σ.φ a) (hh : al W bs E F σ.h w) : ∀ {tl ks : List Nat} {Ts : List TypeId} {vss : List (List Value)}, Ib σ tl ks Ts vss -> ks.Nodup ->
  iY w (ks.map E) (ks.flatMap F) Ts vss /\ tl.map (fun t => a.tmps.getD t undef) = ks.map E /\ (ks.flatMap F).Nodup /\ (∀ b ∈ ks.flatMap F, b < w.heap.size) /\ (∀ k ∈ ks, ∃ e, σ.h k = some e)
 | [], [], [], [], _, _ => ⟨trivial, rfl, List.nodup_nil, by simp, by simp⟩
 | t :: tl, k :: ks, T :: Ts, vs :: vss, h, hn => by
  obtain ⟨h1, h2, h3⟩ := h
  obtain ⟨hk, hn⟩ := List.nodup_cons.1 hn
  obtain ⟨i1, i2, i3, i4, i5⟩ := uc hφ hh h3 hn
  obtain ⟨b, hu, hF, hb⟩ := hh.ent k _ h2
  have hd : an E (vs.map .v) = vs := by
   rw [a7, List.map_map]
   exact (List.map_congr_left (fun _ _ => rfl)).trans (List.map_id vs)
  rw [hd] at hb
  have e1 : a.tmps.getD t undef = E k := by
   rw [hφ.tmp h1, den, hu]
   rfl
  refine ⟨?_, ?_, ?_, ?_, ?_⟩
  ·rw [List.map_cons, List.flatMap_cons, hF]
   exact ⟨hu, hb, i1⟩
  ·rw [List.map_cons, List.map_cons, e1, i2]
  ·rw [List.flatMap_cons, hF]
   refine List.nodup_cons.2 ⟨fun hm => ?_, i3⟩
   obtain ⟨j, hj, hbj⟩ := List.mem_flatMap.1 hm
   obtain ⟨e, he⟩ := i5 j hj
   exact hh.apart k j _ e (fun e' => hk (e' ▸ hj)) h2 he b (by rw [hF]; simp) hbj
  ·intro c hc
   rw [List.flatMap_cons] at hc
   rcases List.mem_append.1 hc with hc | hc
   ·exact hh.lt k _ h2 c hc
   ·exact i4 c hc
  ·intro j hj
   rcases List.mem_cons.1 hj with rfl | hj
   ·exact ⟨_, h2⟩
   ·exact i5 j hj
theorem ai.nil {W w w' : World} {bs : List Nat} (h : ai W bs w) (h' : ai w [] w') : ai W bs w' := h.trans h' fun b hb => by cases hb
theorem iY.keeps {w w' : World} (h : ai w [] w') : ∀ {us : List Value} {bl : List Nat} {Ts : List TypeId} {vss : List (List Value)}, iY w us bl Ts vss -> (∀ b ∈ bl, b < w.heap.size) -> iY w' us bl Ts vss
 | [], [], [], [], _, _ => trivial
 | u :: us, b :: bl, T :: Ts, vs :: vss, hl, hlt => ⟨hl.1, by rw [h.block b (hlt b (by simp)) (by simp)]; exact hl.2.1, iY.keeps h hl.2.2 fun c hc => hlt c (by simp [hc])⟩
theorem jY.defer {f : FuncId} (C : CatchC P f) (tl ks : List Nat) {id d : Nat} {y : Code} {T1 T2 : TypeId} {p1 p2 : String} {a1 a2 : Array Edge}
  (hks : ks.Nodup) (hrs : fn.results.toList = q6 tl C.Ts) (hd : d < nt) (hlen : tl.length = C.Ts.length) (hlen2 : ks.length = C.Ts.length)
  (hcap : ∀ p ∈ tl.zip ks, σ.φ p.1 = .is (.own p.2 0)) (hcel : ∀ k ∈ ks, ∃ T vs, σ.h k = some (.cells T vs))
  (h : ∀ us : List Value, us.length = C.Ts.length -> Wp P W bs nt ⟨[Jf f us], ks.zip us ++ pins⟩ y (Ui C fn.results.toList tl ks Rr Rp) ⟨σ.n + 2, bg σ.φ d .any, σ.h⟩) :
  jY P fn nt pins Rr Rp W bs (.seq (.region id #[{ dst := some d, op := .makeFunc (.func f) #[] (tl.map Operand.tmp).toArray, type := T1, pos := p1, after := a1, guard := none }, { dst := none, op := .defer { callee := .value (.tmp d), args := #[], argTypes := #[] }, type := T2, pos := p2, after := a2, guard := none }] false) y) σ := fun a w hs => by
 obtain ⟨E, F, hφ, hh, hp⟩ := hs.ex
 have hbl : ∀ k ∈ ks, ∃ b, E k = .pointer (some ⟨b, 0, none⟩) := fun k hk => by
  obtain ⟨T, vs, he⟩ := hcel k hk
  obtain ⟨b, hu, _⟩ := hh.ent k _ he
  exact ⟨b, hu⟩
 have htv : ∀ (tl ks : List Nat), tl.length = ks.length -> (∀ p ∈ tl.zip ks, σ.φ p.1 = .is (.own p.2 0)) -> (∀ k ∈ ks, ∃ b, E k = .pointer (some ⟨b, 0, none⟩)) -> tl.map (fun t => a.tmps.getD t undef) = ks.map E := by
  intro tl
  induction tl with
  | nil => intro ks hl _ _; cases ks with
   | nil => rfl
   | cons _ _ => cases hl
  | cons t tl ih =>
   intro ks hl hc hb
   cases ks with
   | nil => cases hl
   | cons k ks =>
    have e1 := hφ.tmp (hc (t, k) (by simp))
    obtain ⟨b, he⟩ := hb k (by simp)
    rw [List.map_cons, List.map_cons, e1, den, he, ih ks (by simpa using hl) (fun p hp => hc p (by simp [hp])) fun j hj => hb j (by simp [hj])]
    rfl
 have hmem : ∀ (tl ks : List Nat), tl.length = ks.length -> ∀ k ∈ ks, ∃ t ∈ tl, (t, k) ∈ tl.zip ks := by
  intro tl
  induction tl with
  | nil => intro ks hl k hk; cases ks with
   | nil => cases hk
   | cons _ _ => cases hl
  | cons t tl ih =>
   intro ks hl k hk
   cases ks with
   | nil => cases hk
   | cons j ks =>
    rcases List.mem_cons.1 hk with rfl | hk
    ·exact ⟨t, by simp, by simp⟩
    ·obtain ⟨t', h1, h2⟩ := ih ks (by simpa using hl) k hk
     exact ⟨t', by simp [h1], by simp [h2]⟩
 have htu : tl.map (fun t => a.tmps.getD t undef) = ks.map E := htv tl ks (by omega) hcap hbl
 have hs2 : Sat W bs nt ⟨[Jf f (ks.map E)], ks.zip (ks.map E) ++ pins⟩ ⟨σ.n + 2, bg σ.φ d .any, σ.h⟩ { tmps := a.tmps.setIfInBounds d (.func (.func f) #[] (ks.map E).toArray), defers := [Jf f (ks.map E)] } w := by
  refine ⟨⟨E, F, fun t => ?_, hh, fun p hp' => ?_⟩, by simp [hs.size], rfl, fun p hp' => ?_, fun t k hk => ?_, fun j e he => ?_⟩
  ·show fits E (bg σ.φ d .any t) ((a.tmps.setIfInBounds d (.func (.func f) #[] (ks.map E).toArray)).getD t undef)
   by_cases ht : t = d
   ·subst ht; rw [ah]; trivial
   ·rw [ak _ _ ht]
    have := hφ t
    rwa [show (a.tmps.setIfInBounds d (.func (.func f) #[] (ks.map E).toArray)).getD t undef = a.tmps.getD t undef from by
     rw [Array.getD_eq_getD_getElem?, Array.getD_eq_getD_getElem?, Array.getElem?_setIfInBounds_ne (fun e => ht e.symm)]]
  ·rcases List.mem_append.1 hp' with hp' | hp'
   ·have : ∀ (l : List Nat) (p : Nat × Value), p ∈ l.zip (l.map E) -> E p.1 = p.2 := by
     intro l
     induction l with
     | nil => intro p hp; cases hp
     | cons x l ih =>
      intro p hp
      rcases List.mem_cons.1 hp with rfl | hp
      ·rfl
      ·exact ih p hp
    exact this ks p hp'
   ·exact hp p hp'
  ·rcases List.mem_append.1 hp' with hp' | hp'
   ·have hk : p.1 ∈ ks := (List.of_mem_zip hp').1
    obtain ⟨t, _, ht⟩ := hmem tl ks (by omega) p.1 hk
    have := hs.fk t p.1 (by rw [hcap _ ht]; simp [FV.keys, SV.keys])
    show p.1 / 8 < σ.n + 2
    omega
   ·have := hs.pk p hp'
    show p.1 / 8 < σ.n + 2
    omega
  ·have hk : k ∈ (bg σ.φ d .any t).keys := hk
   by_cases ht : t = d
   ·subst ht; rw [ah] at hk; simp [FV.keys] at hk
   ·rw [ak _ _ ht] at hk
    have := hs.fk t k hk
    show k / 8 < σ.n + 2
    omega
  ·obtain ⟨h1, h2⟩ := hs.hk j e he
   exact ⟨by show j / 8 < σ.n + 2; omega, fun i hi => by have := h2 i hi; show i / 8 < σ.n + 2; omega⟩
 have h2 := h (ks.map E) (by simp [hlen2]) _ w hs2
 have hda : d < a.tmps.size := by rw [hs.size]; exact hd
 have hev : (List.map (a.eval ∘ Operand.tmp) tl) = ks.map E := by rw [<- htu]; rfl
 refine wp_seq (wp_region ?_)
 simp [wpOps, go_sem, Exit.then]
 left
 left
 rw [if_pos hda, hev, hs.defers]
 refine wp_mono h2 fun e a' w' ⟨W', bs', σ', he, hq, hs'⟩ => ?_
 have hds := hs'.defers
 have hlu : (ks.map E).length = C.Ts.length := by simp [hlen2]
 have still : ∀ {E' : Nat -> Value} {F' : Nat -> List Nat} {h' : Hp} {w'' : World}, al W' bs' E' F' h' w' -> bI (fun _ => True) h' -> ai w' [] w'' -> al W' bs' E' F' h' w'' := fun {E' F' h' w''} hh' hK hk =>
  hh'.mK hK [] (fun _ => none) (fun k hk => by cases hk) (fun _ _ => rfl) (fun j e he => by cases he) (fun i j e e' _ he => by cases he) (fun _ _ _ _ => rfl) (fun j => by simp) (by simpa using hk)
 have all : ∀ {h' : Hp}, bI (· / 8 < σ'.n) h' -> bI (fun _ => True) h' := fun hK j x hx => ⟨trivial, fun _ _ => trivial⟩
 have plain : ∀ hq' : (gT P W' bs' σ' fn.results.toList).1 /\ Rr W' bs' (jE (gT P W' bs' σ' fn.results.toList).2) σ'.h, Leaves P fn a'.tmps (Ends W bs pins Rr Rp) a'.defers .returning w' := fun hq' => by
  rw [hds]
  refine leaves_cons (f := f) (args := (ks.map E).toArray) (by simp) (by simp [go_sem, C.enters]) ?_
  refine (C.quiet w' _ hlu).mono fun e u' w'' ⟨⟨v, hv⟩, hu, hk⟩ => ?_
  subst hv
  subst hu
  obtain ⟨E', F', hφ', hh', hp'⟩ := hs'.ex
  have hh'' := still hh' (all hs'.hk) hk
  exact ⟨_, ie hφ' hh'' hq'.1, W', bs', E', F', _, _, he, hq'.2, rfl, hh'', fun p hp => hp' p (List.mem_append_right _ hp)⟩
 cases e with
 | normal => exact plain hq
 | ret => exact plain hq
 | exit i => exact hq.elim
 | goto l => exact hq.elim
 | outgrown => exact hq.elim
 | panic c =>
  obtain ⟨pv, vss, rfl, hcap', hpre, hR⟩ := hq
  show Leaves P fn a'.tmps (Ends W bs pins Rr Rp) a'.defers (.panicking _) w'
  rw [hds]
  refine leaves_cons (f := f) (args := (ks.map E).toArray) (by simp) (by simp [go_sem, C.enters]) ?_
  obtain ⟨E', F', hφ', hh', hp'⟩ := hs'.ex
  obtain ⟨g1, g2, g3, g4, g5⟩ := uc hφ' hh' hcap' hks
  have hEE : ks.map E' = ks.map E := by
   refine List.map_congr_left fun k hk => ?_
   have : ∀ (l : List Nat), k ∈ l -> (k, E k) ∈ l.zip (l.map E) := by
    intro l
    induction l with
    | nil => intro h; cases h
    | cons x l ih =>
     intro h
     rcases List.mem_cons.1 h with rfl | h
     ·simp
     ·simp [ih h]
   exact hp' (k, E k) (List.mem_append_left _ (this ks hk))
  rw [hEE] at g1 g2
  refine (C.caught w' _ _ vss pv g1 g3 g4 hpre).mono fun e u' w'' ⟨⟨v, hv⟩, hu, hk, hl⟩ => ?_
  subst hv
  subst hu
  have hrun := AY (P := P) (fn := fn) hl (C.vals_ok vss pv hpre) g2 hrs
  have hh'' : al W' bs' E' F' (dropKeys σ'.h ks) w'' :=
   hh'.mK (all hs'.hk) ks (fun _ => none) g5 (fun _ _ => rfl) (fun j e he => by cases he) (fun i j e e' _ he => by cases he) (fun _ _ _ _ => rfl) (fun j => by simp [dropKeys]) hk
  exact ⟨_, hrun, W', bs', E', F', _, _, he, hR, rfl, hh'', fun p hp => hp' p (List.mem_append_right _ hp)⟩
end
end
section
open Go.RowKit
def mz (j : Nat) : List TypeId -> List (Nat × FV)
 | [] => []
 | _ :: r => (j, .is (.own j 0)) :: mz (j + 1) r
def uw (j : Nat) : List TypeId -> List (List Value) -> List (Nat × bm)
 | T :: Ts, vs :: vss => (j, .cells T (vs.map .v)) :: uw (j + 1) Ts vss
 | _, _ => []
def Sr (h : Hp) : Nat -> List TypeId -> List (List Value) -> Prop
 | _, [], [] => True
 | j, T :: Ts, vs :: vss => h j = some (.cells T (vs.map .v)) /\ Sr h (j + 1) Ts vss
 | _, _, _ => False
def HZ (j : Nat) : List Value -> List (Nat × Value)
 | [] => []
 | u :: r => (j, u) :: HZ (j + 1) r
theorem ri {p : Nat × FV} : ∀ {j : Nat} {Ts : List TypeId}, p ∈ mz j Ts -> ∃ i, i < Ts.length /\ p = (j + i, .is (.own (j + i) 0))
 | j, [], h => by cases h
 | j, T :: r, h => by
  rcases List.mem_cons.1 h with rfl | h
  ·exact ⟨0, by simp, rfl⟩
  ·obtain ⟨i, h1, rfl⟩ := ri h
   exact ⟨i + 1, by simpa using h1, by rw [show j + 1 + i = j + (i + 1) by omega]⟩
theorem qY {p : Nat × bm} : ∀ {j : Nat} {Ts : List TypeId} {vss : List (List Value)}, p ∈ uw j Ts vss -> ∃ i T vs, Ts[i]? = some T /\ vss[i]? = some vs /\ p = (j + i, .cells T (vs.map .v))
 | j, [], vss, h => by cases vss <;> cases h
 | j, T :: r, [], h => by cases h
 | j, T :: r, vs :: vss, h => by
  rcases List.mem_cons.1 h with rfl | h
  ·exact ⟨0, T, vs, rfl, rfl, rfl⟩
  ·obtain ⟨i, T', vs', h1, h2, rfl⟩ := qY h
   exact ⟨i + 1, T', vs', by simpa using h1, by simpa using h2, by rw [show j + 1 + i = j + (i + 1) by omega]⟩
theorem tp {p : Nat × Value} : ∀ {j : Nat} {us : List Value}, p ∈ HZ j us -> ∃ i, us[i]? = some p.2 /\ p.1 = j + i
 | j, [], h => by cases h
 | j, u :: r, h => by
  rcases List.mem_cons.1 h with rfl | h
  ·exact ⟨0, rfl, rfl⟩
  ·obtain ⟨i, h1, h2⟩ := tp h
   exact ⟨i + 1, by simpa using h1, by omega⟩
section
variable {P : Program}
theorem iY.at {w : World} : ∀ {us : List Value} {bl : List Nat} {Ts : List TypeId} {vss : List (List Value)}, iY w us bl Ts vss -> ∀ {i : Nat} {T : TypeId} {vs : List Value}, Ts[i]? = some T -> vss[i]? = some vs ->
  ∃ b, bl[i]? = some b /\ us[i]? = some (.pointer (some ⟨b, 0, none⟩)) /\ w.heap[b]? = some (.cells vs.toArray T (0, 0))
 | u :: us, b :: bl, T :: Ts, vs :: vss, h, 0, T', vs', h1, h2 => by
  simp at h1 h2
  subst h1
  subst h2
  exact ⟨b, rfl, by rw [h.1]; rfl, h.2.1⟩
 | u :: us, b :: bl, T :: Ts, vs :: vss, h, i + 1, T', vs', h1, h2 => by
  simpa using h.2.2.at (i := i) (T := T') (vs := vs') (by simpa using h1) (by simpa using h2)
 | [], [], [], [], _, i, T, vs, h1, _ => by simp at h1
theorem iY.len {w : World} : ∀ {us : List Value} {bl : List Nat} {Ts : List TypeId} {vss : List (List Value)}, iY w us bl Ts vss -> us.length = Ts.length /\ bl.length = Ts.length /\ vss.length = Ts.length
 | [], [], [], [], _ => ⟨rfl, rfl, rfl⟩
 | u :: us, b :: bl, T :: Ts, vs :: vss, h => by
  obtain ⟨h1, h2, h3⟩ := iY.len h.2.2
  simp [h1, h2, h3]
theorem Cw (E : Nat -> Value) (vs : List Value) : an E (vs.map .v) = vs := by
 rw [a7, List.map_map]
 exact (List.map_congr_left (fun _ _ => rfl)).trans (List.map_id vs)
def σL (Ts : List TypeId) (vss : List (List Value)) : St := ⟨1, bQ (mz 0 Ts), bY (uw 0 Ts vss)⟩
theorem PQ {w : World} {nt m : Nat} {us : List Value} {bl : List Nat} {Ts : List TypeId} {vss : List (List Value)} (h : iY w us bl Ts vss) (hn : bl.Nodup) (hlt : ∀ b ∈ bl, b < w.heap.size) (h8 : us.length <= 7) (hnt : us.length + m = nt) :
  Sat w bl nt ⟨[], HZ 0 us⟩ (σL Ts vss) { tmps := us.toArray ++ Array.replicate m undef, defers := [] } w := by
 obtain ⟨l1, l2, l3⟩ := h.len
 have hF : ∀ {i : Nat} {b : Nat}, bl[i]? = some b -> ((bl[i]?).toList : List Nat) = [b] := fun h => by rw [h]; rfl
 refine ⟨⟨fun j => us.getD j undef, fun j => (bl[j]?).toList, fun t => ?_, ⟨fun j e he => ?_, fun j e he c hc => ?_, fun j e he c hc => ?_, fun i j e e' hij hi hj c hc => ?_, ai.refl w _⟩, fun p hp => ?_⟩, by simp; omega, rfl, fun p hp => ?_, fun t k hk => ?_, fun j e he => ?_⟩
 ·show fits _ (bQ (mz 0 Ts) t) _
  rcases je (L := mz 0 Ts) t with h0 | ⟨p, hp, h1, h2⟩
  ·rw [h0]; trivial
  ·rw [h2]
   obtain ⟨i, hi, rfl⟩ := ri hp
   simp only [Nat.zero_add] at h1
   subst h1
   have hti : i < Ts.length := hi
   obtain ⟨b, hb, hu, _⟩ := h.at (i := i) (List.getElem?_eq_getElem hti) (List.getElem?_eq_getElem (by omega : i < vss.length))
   simp only [Nat.zero_add, fits, den]
   rw [Array.getD_eq_getD_getElem?, Array.getElem?_append_left (by simp; omega)]
   simp [hu, base, cD]
 ·obtain ⟨i, T, vs, h1, h2, h3⟩ := qY (eQ he)
  simp only [Nat.zero_add, Prod.mk.injEq] at h3
  obtain ⟨rfl, rfl⟩ := h3
  obtain ⟨b, hb, hu, hh⟩ := h.at h1 h2
  exact ⟨b, by simp [hu], hF hb, by rw [Cw]; exact hh⟩
 ·simp only [Option.mem_toList] at hc
  exact hlt c (List.mem_of_getElem? hc)
 ·simp only [Option.mem_toList] at hc
  exact .inr (List.mem_of_getElem? hc)
 ·simp only [Option.mem_toList] at hc ⊢
  intro hc'
  have h1 := List.getElem?_eq_some_iff.1 hc
  have h2 := List.getElem?_eq_some_iff.1 hc'
  obtain ⟨a1, a2⟩ := h1
  obtain ⟨b1, b2⟩ := h2
  have hpw := List.pairwise_iff_getElem.1 hn
  rcases Nat.lt_or_gt_of_ne hij with hlt' | hlt'
  ·exact hpw i j a1 b1 hlt' (a2.trans b2.symm)
  ·exact hpw j i b1 a1 hlt' (b2.trans a2.symm)
 ·obtain ⟨i, h1, h2⟩ := tp hp
  simp only [Nat.zero_add] at h2
  rw [h2]
  simp [h1]
 ·obtain ⟨i, h1, h2⟩ := tp hp
  have := (List.getElem?_eq_some_iff.1 h1).1
  show p.1 / 8 < 1
  omega
 ·have hk : k ∈ (bQ (mz 0 Ts) t).keys := hk
  rcases je (L := mz 0 Ts) t with h0 | ⟨p, hp, h1, h2⟩
  ·rw [h0] at hk; simp [FV.keys] at hk
  ·rw [h2] at hk
   obtain ⟨i, hi, rfl⟩ := ri hp
   simp [FV.keys, SV.keys] at hk
   show k / 8 < 1
   omega
 ·obtain ⟨i, T, vs, h1, h2, h3⟩ := qY (eQ he)
  simp only [Nat.zero_add, Prod.mk.injEq] at h3
  obtain ⟨rfl, rfl⟩ := h3
  have := (List.getElem?_eq_some_iff.1 h1).1
  refine ⟨by show j / 8 < 1; omega, fun i hi => ?_⟩
  simp only [bm.keys, aO] at hi
  cases hi
theorem Sat.put {W : World} {bs : List Nat} {nt : Nat} {ds : Aux} {σ : St} {a : Act} {w : World} (h : Sat W bs nt ds σ a w) (t : Nat) (v : Value) (ht : t < nt) : Sat W bs nt ds ⟨σ.n, bg σ.φ t (.is (.v v)), σ.h⟩ (a.put (some t) v) w := by
 obtain ⟨⟨E, F, hf, hs, hp⟩, h1, h2, h3, h4, h5⟩ := h
 refine ⟨⟨E, F, fun s => ?_, hs, hp⟩, by simp [Act.put, h1], h2, h3, fun s k hk => ?_, h5⟩
 ·show fits E (bg σ.φ t (.is (.v v)) s) ((a.tmps.setIfInBounds t v).getD s undef)
  by_cases hst : s = t
  ·subst hst
   rw [ah, Array.getD_eq_getD_getElem?, Array.getElem?_setIfInBounds_self_of_lt (by omega)]
   rfl
  ·rw [ak _ _ hst, Array.getD_eq_getD_getElem?, Array.getElem?_setIfInBounds_ne (fun e => hst e.symm), <- Array.getD_eq_getD_getElem?]
   exact hf s
 ·have hk : k ∈ (bg σ.φ t (.is (.v v)) s).keys := hk
  by_cases hst : s = t
  ·subst hst; rw [ah] at hk; simp [FV.keys, SV.keys] at hk
  ·rw [ak _ _ hst] at hk; exact h4 s k hk
def σR (σ : St) (e x : Nat) (v : Value) : St := ⟨σ.n, bg (bg σ.φ e (.is (.v v))) x (.is (.v v)), σ.h⟩
theorem Sat.Vg {W : World} {bs : List Nat} {nt : Nat} {ds : Aux} {σ : St} {a : Act} {w : World} (h : Sat W bs nt ds σ a w) (e x : Nat) (v : Value) (he : e < nt) (hx : x < nt) : Sat W bs nt ds (σR σ e x v) ((a.put (some e) v).put (some x) v) w :=
 (h.put e v he).put x v hx
theorem Nh {w : World} {nt : Nat} {tmps : Array Value} (h : tmps.size = nt) : Sat w [] nt ⟨[], []⟩ ⟨1, bQ [], bY []⟩ { tmps := tmps, defers := [] } w := by
 refine ⟨⟨fun _ => undef, fun _ => [], fun _ => trivial, ⟨fun j e he => ?_, fun j e he => ?_, fun j e he => ?_, fun i j e e' _ he => ?_, ai.refl w _⟩, fun p hp => ?_⟩, h, rfl, fun p hp => ?_, fun t k hk => ?_, fun j e he => ?_⟩
 ·cases he
 ·cases he
 ·cases he
 ·cases he
 ·cases hp
 ·cases hp
 ·simp [bQ, FV.keys] at hk
 ·cases he
theorem pO {f : FuncId} {fn : Func} {id e x : Nat} {T1 T2 : TypeId} {p1 p2 : String} {a1 a2 : Array Edge} {rest : Code} {nt : Nat} (w : World) (us : List Value)
  (hf : P.funcs[f]? = some fn) (hb : fn.body = some (.seq (.region id #[{ dst := some e, op := .call { callee := .builtin .recover, args := #[], argTypes := #[] }, type := T1, pos := p1, after := a1, guard := none }, { dst := some x, op := .assign (.tmp e), type := T2, pos := p2, after := a2, guard := none }] false) rest))
  (hr : fn.results.toList = []) (he : e < nt) (hx : x < nt) (hnt : us.length + (fn.ntmps - us.length) = nt)
  (h : Wp P w [] nt ⟨[], []⟩ rest (Fin P [] (fun _ _ _ _ => True) (fun _ _ => False)) (σR ⟨1, bQ [], bY []⟩ e x .nilIface)) :
  CallsD P f us.toArray .returning w fun e u' w' => (∃ v, e = .returned v) /\ u' = .returning /\ ai w [] w' := by
 refine callsD_of_wpS hf hb fun c₀ cs hu => wpS_seq (wpS_region ?_)
 have hs0 : Sat w [] nt ⟨[], []⟩ ⟨1, bQ [], bY []⟩ { tmps := us.toArray ++ Array.replicate (fn.ntmps - us.length) undef, defers := [] } w :=
  Nh (by simp; omega)
 have hs1 := hs0.Vg e x .nilIface he hx
 have h1 := h _ w hs1
 simp [wpOpsS, go_sem, recoverD, hu, Exit.thenS]
 rw [if_pos (by omega)]
 have hc : ∀ u, c₀.mode = u -> c₀ :: cs = { c₀ with mode := u } :: cs := fun u hu => by subst hu; rfl
 refine wpS_of_wp (wp_mono h1 fun e' a' w' ⟨W', bs', σ', hx', hq, hs'⟩ => ?_)
 obtain ⟨⟨E, F, hφ, hh, _⟩, _, hd, _⟩ := hs'
 have fin : a'.defers = [] /\ ∃ u', c₀ :: cs = { c₀ with mode := u' } :: cs /\ ∃ v, (results fn a'.tmps).run P w' = .ok v w' /\ (∃ v', Ending.returned v = .returned v') /\ u' = .returning /\ ai w [] w' :=
  ⟨hd, _, hc _ hu, _, ie hφ hh (by rw [hr]; trivial), ⟨_, rfl⟩, rfl, (hh.back hx').keeps⟩
 cases e' with
 | normal => exact fin
 | ret => exact fin
 | panic c => exact hq.elim
 | exit i => exact hq.elim
 | goto l => exact hq.elim
 | outgrown => exact hq.elim
theorem xz {W : World} {bs : List Nat} {E : Nat -> Value} {F : Nat -> List Nat} {h : Hp} {w : World} (hh : al W bs E F h w) : ∀ {j : Nat} {us : List Value} {bl : List Nat} {Ts : List TypeId} {vss : List (List Value)} {w0 : World} {vs0 : List (List Value)}, iY w0 us bl Ts vs0 -> Sr h j Ts vss -> (∀ p ∈ HZ j us, E p.1 = p.2) -> iY w us bl Ts vss
 | j, [], [], [], [], w0, [], _, _, _ => trivial
 | j, u :: us, b :: bl, T :: Ts, vs :: vss, w0, v0 :: vs0, hl, hc, hp => by
  obtain ⟨h1, h2⟩ := hc
  obtain ⟨b', hu, hF, hb⟩ := hh.ent j _ h1
  have e1 := hp (j, u) (by simp [HZ])
  simp only at e1
  rw [e1, hl.1] at hu
  simp only [Value.pointer.injEq, Option.some.injEq, Addr.mk.injEq, and_true] at hu
  subst hu
  rw [Cw] at hb
  exact ⟨hl.1, hb, xz hh hl.2.2 h2 fun p hp' => hp p (by simp [HZ, hp'])⟩
 | j, [], [], [], _ :: _, w0, [], _, hc, _ => hc.elim
 | j, u :: us, b :: bl, T :: Ts, [], w0, v0 :: vs0, _, hc, _ => hc.elim
theorem oh {f : FuncId} {fn : Func} {id e x : Nat} {T1 T2 : TypeId} {p1 p2 : String} {a1 a2 : Array Edge} {rest : Code} {nt : Nat} {w : World} {us : List Value} {bl : List Nat} {Ts : List TypeId} {vss : List (List Value)} {pv : Value} {out : List (List Value)}
  (hf : P.funcs[f]? = some fn) (hb : fn.body = some (.seq (.region id #[{ dst := some e, op := .call { callee := .builtin .recover, args := #[], argTypes := #[] }, type := T1, pos := p1, after := a1, guard := none }, { dst := some x, op := .assign (.tmp e), type := T2, pos := p2, after := a2, guard := none }] false) rest))
  (hr : fn.results.toList = []) (he : e < nt) (hx : x < nt) (hnt : us.length + (fn.ntmps - us.length) = nt) (hl : iY w us bl Ts vss) (hn : bl.Nodup) (hlt : ∀ b ∈ bl, b < w.heap.size) (h8 : us.length <= 7)
  (h : ∀ us : List Value, us.length = Ts.length -> Wp P w bl nt ⟨[], HZ 0 us⟩ rest (Fin P [] (fun _ _ _ h => Sr h 0 Ts out) (fun _ _ => False)) (σR (σL Ts vss) e x pv)) :
  CallsD P f us.toArray (.panicking [{ v := pv, recovered := false }]) w fun e u' w' => (∃ v, e = .returned v) /\ u' = .panicking [{ v := pv, recovered := true }] /\ ai w bl w' /\ iY w' us bl Ts out := by
 refine callsD_of_wpS hf hb fun c₀ cs hu => wpS_seq (wpS_region ?_)
 have hs1 := (PQ hl hn hlt h8 hnt).Vg e x pv he hx
 have h1 := h us hl.len.1 _ w hs1
 simp [wpOpsS, go_sem, recoverD, hu, Exit.thenS]
 rw [if_pos (by omega)]
 refine wpS_of_wp (wp_mono h1 fun e' a' w' ⟨W', bs', σ', hx', hq, hs'⟩ => ?_)
 obtain ⟨⟨E, F, hφ, hh, hp⟩, _, hd, _⟩ := hs'
 have fin : ((gT P W' bs' σ' []).1 /\ Sr σ'.h 0 Ts out) -> a'.defers = [] /\ ∃ u', { c₀ with mode := .panicking [{ v := pv, recovered := true }] } :: cs = { c₀ with mode := u' } :: cs /\ ∃ v, (results fn a'.tmps).run P w' = .ok v w' /\ (∃ v', Ending.returned v = .returned v') /\ u' = .panicking [{ v := pv, recovered := true }] /\ ai w bl w' /\ iY w' us bl Ts out := fun hq =>
  ⟨hd, _, rfl, _, ie hφ hh (by rw [hr]; trivial), ⟨_, rfl⟩, rfl, (hh.back hx').keeps, xz hh hl hq.2 hp⟩
 cases e' with
 | normal => exact fin hq
 | ret => exact fin hq
 | panic c => exact hq.elim
 | exit i => exact hq.elim
 | goto l => exact hq.elim
 | outgrown => exact hq.elim
end
section
variable {P : Program} {fn : Func} {nt : Nat} {pins : List (Nat × Value)} {Rr : World -> List Nat -> SV -> Hp -> Prop} {Rp : List PanicEntry -> Hp -> Prop} {W : World} {bs : List Nat} {σ : St}
theorem sw {f : FuncId} {c : Code} {args : Array Value} {w : World} {v : Value} (hf : P.funcs[f]? = some fn) (hb : fn.body = some c) (hnt : args.size + (fn.ntmps - args.size) = nt)
  (h : jY P fn nt [] (fun _ _ x _ => ∀ E, den E x = v) (fun _ _ => False) w [] c (σ0 args.toList)) : Calls P f args w fun e w' => e = .returned v /\ ai w [] w' := by
 refine (LW hf hb (nB args hnt) h).mono fun e w' he => ?_
 cases e with
 | returned u =>
  obtain ⟨W', bs', E, F, x, h, hx, hR, rfl, hs, _⟩ := he
  exact ⟨by rw [hR E], hx.Dx hs.keeps⟩
 | panicked c => obtain ⟨_, _, _, _, _, _, hf, _⟩ := he; exact hf.elim
 | outgrown => exact he.elim
theorem jY.seq' {rs : List ResultVar} (hrs : fn.results.toList = rs) {x y : Code} (h : Wp P W bs nt ⟨[], pins⟩ x (Th (fun W' bs' σ' => jY P fn nt pins Rr Rp W' bs' y σ') (Fin P rs Rr Rp)) σ) : jY P fn nt pins Rr Rp W bs (.seq x y) σ := by
 subst hrs; exact jY.seq h
theorem jY.PY {rs : List ResultVar} (hr : fn.results.toList = rs) {f : FuncId} (C : CatchC P f) (tl ks : List Nat) {id d : Nat} {y : Code} {T1 T2 : TypeId} {p1 p2 : String} {a1 a2 : Array Edge} {caps : Array Operand}
  (hcaps : caps = (tl.map Operand.tmp).toArray) (hks : ks.Nodup) (hrs : rs = q6 tl C.Ts) (hd : d < nt) (hlen : tl.length = C.Ts.length) (hlen2 : ks.length = C.Ts.length)
  (hcap : ∀ p ∈ tl.zip ks, σ.φ p.1 = .is (.own p.2 0)) (hcel : ∀ k ∈ ks, ∃ T vs, σ.h k = some (.cells T vs))
  (h : ∀ us : List Value, us.length = C.Ts.length -> Wp P W bs nt ⟨[Jf f us], ks.zip us ++ pins⟩ y (Ui C rs tl ks Rr Rp) ⟨σ.n + 2, bg σ.φ d .any, σ.h⟩) :
  jY P fn nt pins Rr Rp W bs (.seq (.region id #[{ dst := some d, op := .makeFunc (.func f) #[] caps, type := T1, pos := p1, after := a1, guard := none }, { dst := none, op := .defer { callee := .value (.tmp d), args := #[], argTypes := #[] }, type := T2, pos := p2, after := a2, guard := none }] false) y) σ := by
 subst hcaps
 subst hr
 exact jY.defer C tl ks hks hrs hd hlen hlen2 hcap hcel h
variable {f : FuncId} (C : CatchC P f) (rs : List ResultVar) (tl ks : List Nat)
theorem kB : Ui C rs tl ks Rr Rp .ret W bs σ = ((gT P W bs σ rs).1 /\ Rr W bs (jE (gT P W bs σ rs).2) σ.h) := rfl
theorem jr (c : List PanicEntry) : Ui C rs tl ks Rr Rp (.panic c) W bs σ = ∃ pv vss, c = [{ v := pv, recovered := false }] /\ Ib σ tl ks C.Ts vss /\ C.pre vss pv /\ Rr W bs (.v (Ma (C.bh vss pv))) (dropKeys σ.h ks) := rfl
end
end
section
open Go.RowKit
mutual
def nr (k : Nat) (u : Value) : SV -> SV
 | .v x => .v x
 | .own j o => bif j == k then .v (cD (base u) o) else .own j o
 | .hd j => bif j == k then .v (hv u) else .hd j
 | .agg l => .agg (rv k u l)
 | .tup l => .tup (rv k u l)
 | .ifc t x => .ifc t (nr k u x)
 | .part j i => bif j == k then .v (hv (C9 u i)) else .part j i
 | .fn f a c => .fn f (rv k u a) (rv k u c)
def rv (k : Nat) (u : Value) : List SV -> List SV
 | [] => []
 | x :: r => nr k u x :: rv k u r
end
mutual
theorem tj {E : Nat -> Value} {k : Nat} : ∀ x : SV, den E (nr k (E k) x) = den E x
 | .v x => rfl
 | .own j o => by
  simp only [nr]
  by_cases hj : j = k
  ·subst hj; simp [den]
  ·have : (j == k) = false := by simp [hj]
   simp [this]
 | .hd j => by
  simp only [nr]
  by_cases hj : j = k
  ·subst hj; simp [den]
  ·have : (j == k) = false := by simp [hj]
   simp [this]
 | .agg l => by simp only [nr, den]; rw [jL l]
 | .tup l => by simp only [nr, den]; rw [jL l]
 | .ifc t x => by simp only [nr, den]; rw [tj x]
 | .part j i => by
  simp only [nr]
  by_cases hj : j = k
  ·subst hj; simp [den]
  ·have : (j == k) = false := by simp [hj]
   simp [this]
 | .fn f a c => by simp only [nr, den]; rw [jL a, jL c]
theorem jL {E : Nat -> Value} {k : Nat} : ∀ l : List SV, an E (rv k (E k) l) = an E l
 | [] => rfl
 | x :: r => by simp only [rv, an]; rw [tj x, jL r]
end
mutual
theorem mG {k : Nat} {u : Value} {j : Nat} : ∀ x : SV, j ∈ (nr k u x).keys -> j ∈ x.keys /\ j ≠ k
 | .v x, h => by simp [nr, SV.keys] at h
 | .own i o, h => by
  simp only [nr] at h
  by_cases hi : i = k
  ·subst hi; simp [SV.keys] at h
  ·have : (i == k) = false := by simp [hi]
   simp only [this, cond_false, SV.keys, List.mem_singleton] at h ⊢
   exact ⟨h, h ▸ hi⟩
 | .hd i, h => by
  simp only [nr] at h
  by_cases hi : i = k
  ·subst hi; simp [SV.keys] at h
  ·have : (i == k) = false := by simp [hi]
   simp only [this, cond_false, SV.keys, List.mem_singleton] at h ⊢
   exact ⟨h, h ▸ hi⟩
 | .agg l, h => by simp only [nr, SV.keys] at h ⊢; exact ft l h
 | .tup l, h => by simp only [nr, SV.keys] at h ⊢; exact ft l h
 | .ifc t x, h => by simp only [nr, SV.keys] at h ⊢; exact mG x h
 | .part i o, h => by
  simp only [nr] at h
  by_cases hi : i = k
  ·subst hi; simp [SV.keys] at h
  ·have : (i == k) = false := by simp [hi]
   simp only [this, cond_false, SV.keys, List.mem_singleton] at h ⊢
   exact ⟨h, h ▸ hi⟩
 | .fn f a c, h => by
  simp only [nr, SV.keys, List.mem_append] at h ⊢
  rcases h with h | h
  ·exact ⟨.inl (ft a h).1, (ft a h).2⟩
  ·exact ⟨.inr (ft c h).1, (ft c h).2⟩
theorem ft {k : Nat} {u : Value} {j : Nat} : ∀ l : List SV, j ∈ ax (rv k u l) -> j ∈ ax l /\ j ≠ k
 | [], h => by simp [rv, ax] at h
 | x :: r, h => by
  simp only [rv, ax, List.mem_append] at h ⊢
  rcases h with h | h
  ·exact ⟨.inl (mG x h).1, (mG x h).2⟩
  ·exact ⟨.inr (ft r h).1, (ft r h).2⟩
end
def Ul (k : Nat) (u : Value) : FV -> FV
 | .is x => .is (nr k u x)
 | .cnd b x => .cnd b (nr k u x)
 | .any => .any
def R1 (k : Nat) (u : Value) : bm -> bm
 | .cells T vs => .cells T (rv k u vs)
 | .row T s n vs => .row T s n (rv k u vs)
 | .obj d R => .obj d R
def MZ (k : Nat) (u : Value) (φ : Fr) : Fr := fun t => Ul k u (φ t)
def Ic (k : Nat) (u : Value) (h : Hp) : Hp := fun j => bif j == k then none else (h j).map (R1 k u)
theorem QR {E : Nat -> Value} {k : Nat} {f : FV} {u : Value} (h : fits E f u) : fits E (Ul k (E k) f) u := by
 cases f with
 | is x => simpa [Ul, fits, tj] using h
 | cnd b x => simpa [Ul, fits, tj] using h
 | any => trivial
theorem Nx {k : Nat} {u : Value} {f : FV} {j : Nat} (h : j ∈ (Ul k u f).keys) : j ∈ f.keys /\ j ≠ k := by
 cases f with
 | is x => exact mG x h
 | cnd b x =>
  cases b with
  | false => cases h
  | true => exact mG x h
 | any => cases h
theorem TG {E : Nat -> Value} {k : Nat} {e : bm} {u : Value} {fp : List Nat} {w : World} (h : bn E u fp w e) : bn E u fp w (R1 k (E k) e) := by
 cases e with
 | cells T vs => simpa [R1, bn, jL] using h
 | row T s n vs => simpa [R1, bn, jL] using h
 | obj d R => exact h
theorem Qn {k : Nat} {u : Value} {e : bm} {j : Nat} (h : j ∈ (R1 k u e).keys) : j ∈ e.keys /\ j ≠ k := by
 cases e with
 | cells T vs => exact ft vs h
 | row T s n vs => exact ft vs h
 | obj d R => cases h
theorem kH {k : Nat} {u : Value} {h : Hp} {j : Nat} {e : bm} (hh : Ic k u h j = some e) : j ≠ k /\ ∃ e0, h j = some e0 /\ e = R1 k u e0 := by
 unfold Ic at hh
 by_cases hj : j = k
 ·subst hj; simp at hh
 ·have : (j == k) = false := by simp [hj]
  rw [this, cond_false, Option.map_eq_some_iff] at hh
  obtain ⟨e0, h1, h2⟩ := hh
  exact ⟨hj, e0, h1, h2.symm⟩
theorem Sat.DN {W : World} {bs : List Nat} {nt : Nat} {ds : Aux} {σ : St} {a : Act} {w : World} (k : Nat) (hsat : Sat W bs nt ds σ a w) :
  ∃ E F bs', Ext W bs w bs' /\ al W bs E F σ.h w /\ (∀ e, σ.h k = some e -> ∀ b ∈ F k, b ∉ bs') /\ Sat w bs' nt ds ⟨σ.n, MZ k (E k) σ.φ, Ic k (E k) σ.h⟩ a w := by
 classical
 obtain ⟨⟨E, F, hφ, hs, hp⟩, hsz, hdf, hpk, hfk, hhk⟩ := hsat
 have hmem : ∃ bs' : List Nat, ∀ b, b ∈ bs' ↔ ∃ j e, j ≠ k /\ σ.h j = some e /\ b ∈ F j := by
  refine ⟨(List.range (8 * σ.n)).flatMap fun j => if j = k \/ σ.h j = none then [] else F j, fun b => ?_⟩
  rw [List.mem_flatMap]
  constructor
  ·rintro ⟨j, _, hb⟩
   split at hb
   ·cases hb
   ·rename_i hn
    have h1 : j ≠ k := fun e => hn (.inl e)
    have h2 : σ.h j ≠ none := fun e => hn (.inr e)
    obtain ⟨e, he⟩ := Option.ne_none_iff_exists'.1 h2
    exact ⟨j, e, h1, he, hb⟩
  ·rintro ⟨j, e, hj, he, hb⟩
   have := (hhk j e he).1
   refine ⟨j, List.mem_range.2 (by omega), ?_⟩
   rw [if_neg (by rw [he]; simp [hj])]
   exact hb
 obtain ⟨bs', hmem⟩ := hmem
 have hx : Ext W bs w bs' := ⟨hs.keeps, fun b hb => by
  obtain ⟨j, e, _, he, hbj⟩ := (hmem b).1 hb
  exact hs.mine j e he b hbj⟩
 refine ⟨E, F, bs', hx, hs, fun e he b hb hb' => ?_, ?_⟩
 ·obtain ⟨j, e2, hj, he2, hbj⟩ := (hmem b).1 hb'
  exact hs.apart k j e e2 (Ne.symm hj) he he2 b hb hbj
 ·refine ⟨⟨E, F, fun t => QR (hφ t), ⟨fun j e he => ?_, fun j e he b hb => ?_, fun j e he b hb => ?_, fun i j e e' hij hi hj b hb => ?_, ai.refl w _⟩, hp⟩, hsz, hdf, hpk, fun t j hj => hfk t j (Nx hj).1, fun j e he => ?_⟩
  ·obtain ⟨hj, e0, h1, rfl⟩ := kH he; exact TG (hs.ent j e0 h1)
  ·obtain ⟨hj, e0, h1, rfl⟩ := kH he; exact hs.lt j e0 h1 b hb
  ·obtain ⟨hj, e0, h1, rfl⟩ := kH he; exact .inr ((hmem b).2 ⟨j, e0, hj, h1, hb⟩)
  ·obtain ⟨_, e0, h1, rfl⟩ := kH hi
   obtain ⟨_, e1, h2, rfl⟩ := kH hj
   exact hs.apart i j e0 e1 hij h1 h2 b hb
  ·obtain ⟨hj, e0, h1, rfl⟩ := kH he
   exact ⟨(hhk j e0 h1).1, fun i hi => (hhk j e0 h1).2 i (Qn hi).1⟩
def Eg (nt : Nat) (ds : Aux) (X : World -> List Nat -> St -> Prop) : Prop := ∀ W bs σ, (∀ a w, Sat W bs nt ds σ a w -> ∃ W' bs' σ', Ext W bs W' bs' /\ X W' bs' σ' /\ Sat W' bs' nt ds σ' a w) -> X W bs σ
theorem Wp.V1 {P : Program} {nt : Nat} {ds : Aux} {c : Code} {Q : jX} : Eg nt ds (fun W bs σ => Wp P W bs nt ds c Q σ) := fun W bs σ h a w hs => by
 obtain ⟨W', bs', σ', hx, hX, hs'⟩ := h a w hs
 exact wp_mono (hX a w hs') fun e' a' w' hh' => nC hx hh'
def Pw (nt : Nat) (ds : Aux) (W : World) (bs : List Nat) (σ : St) (Q : World -> List Nat -> St -> Prop) : Prop :=
 ∀ a w, Sat W bs nt ds σ a w -> ∃ W' bs' σ', Ext W bs W' bs' /\ Q W' bs' σ' /\ Sat W' bs' nt ds σ' a w
theorem Pw.V1 {nt : Nat} {ds : Aux} {Q : World -> List Nat -> St -> Prop} : Eg nt ds (fun W bs σ => Pw nt ds W bs σ Q) := fun W bs σ h a w hs => by
 obtain ⟨W', bs', σ', hx, hX, hs'⟩ := h a w hs
 obtain ⟨W2, bs2, σ2, hx2, hq, hs2⟩ := hX a w hs'
 exact ⟨W2, bs2, σ2, hx.trans hx2, hq, hs2⟩
theorem Pw.here {nt : Nat} {ds : Aux} {Q : World -> List Nat -> St -> Prop} {W : World} {bs : List Nat} {σ : St} (h : Q W bs σ) : Pw nt ds W bs σ Q := fun a w hs => ⟨W, bs, σ, Ext.refl W bs, h, hs⟩
def Mo (nt : Nat) (ds : Aux) (Q : jX) : jX
 | .normal, W, bs, σ => Pw nt ds W bs σ (Q .normal)
 | e, W, bs, σ => Q e W bs σ
theorem ei {nt : Nat} {ds : Aux} {Q : jX} {W : World} {bs : List Nat} {σ : St} (h : Pw nt ds W bs σ (Q .normal)) : Mo nt ds Q .normal W bs σ := h
theorem Wp.more {P : Program} {W : World} {bs : List Nat} {nt : Nat} {ds : Aux} {c : Code} {Q : jX} {σ : St} (h : Wp P W bs nt ds c (Mo nt ds Q) σ) : Wp P W bs nt ds c Q σ := fun a w hs =>
 wp_mono (h a w hs) fun e a' w' ⟨W', bs', σ', he, hq, hs'⟩ => by
  cases e with
  | normal =>
   obtain ⟨W2, bs2, σ2, hx2, hq2, hs2⟩ := hq a' w' hs'
   exact ⟨W2, bs2, σ2, he.trans hx2, hq2, hs2⟩
  | _ => exact ⟨W', bs', σ', he, hq, hs'⟩
section
variable {nt : Nat} {ds : Aux} {X : World -> List Nat -> St -> Prop} {W : World} {bs : List Nat} {σ : St}
theorem Eg.DN (hX : Eg nt ds X) (k : Nat)
  (h : ∀ W' bs' E F, Ext W bs W' bs' -> al W bs E F σ.h W' -> (∀ e, σ.h k = some e -> ∀ b ∈ F k, b ∉ bs') -> X W' bs' ⟨σ.n, MZ k (E k) σ.φ, Ic k (E k) σ.h⟩) : X W bs σ :=
 hX W bs σ fun a w hs => by
  obtain ⟨E, F, bs', hx, hh, hb, hs'⟩ := hs.DN k
  exact ⟨w, bs', _, hx, h w bs' E F hx hh hb, hs'⟩
end
structure FK where
 Φ : List Value -> World -> (Nat -> Prop) -> Prop
 mono : ∀ {cs : List Value} {W : World} {S : Nat -> Prop} {W' : World} {S' : Nat -> Prop}, cv W S W' S' -> Φ cs W S -> Φ cs W' S'
def fg (G : Nat -> Prop) (bs : List Nat) : Nat -> Prop := fun b => G b /\ b ∉ bs
theorem fg.out {G : Nat -> Prop} {bs : List Nat} {b : Nat} (h : fg G bs b) : Out bs b := h.2
def Up (G : Nat -> Prop) (W : World) (bs : List Nat) : Prop := ∀ b, W.heap.size <= b \/ b ∈ bs -> G b
theorem Up.ext {G : Nat -> Prop} {W W' : World} {bs bs' : List Nat} (h : Up G W bs) (hx : Ext W bs W' bs') : Up G W' bs' := fun b hb =>
 hb.elim (fun h1 => h b (.inl (Nat.le_trans hx.keeps.size h1))) fun h1 => h b (hx.sub b h1)
theorem Up.true (W : World) (bs : List Nat) : Up (fun _ => True) W bs := fun _ _ => trivial
theorem Ext.Bf {G : Nat -> Prop} {W W' : World} {bs bs' : List Nat} (h : Ext W bs W' bs') : cv W (fg G bs) W' (fg G bs') := fun b hb hs =>
 ⟨h.keeps.block b hb hs.2, hs.1, fun hb' => (h.sub b hb').elim (fun h1 => absurd h1 (Nat.not_le.2 hb)) hs.2⟩
def iF (G : Nat -> Prop) (W : World) (bs : List Nat) (Φ : FK) : List Value -> Value -> List Nat -> World -> Prop := fun _ u fp w =>
 (∀ b ∈ fp, G b) /\ ∃ cs, u = dv cs /\ ∀ W₂ S₂, (∀ b, b < W.heap.size -> fg G bs b -> W₂.heap[b]? = W.heap[b]? /\ S₂ b) -> (∀ b ∈ fp, W₂.heap[b]? = w.heap[b]? /\ S₂ b) -> Φ.Φ cs W₂ S₂
section
variable {nt : Nat} {ds : Aux} {X : World -> List Nat -> St -> Prop} {W : World} {bs : List Nat} {σ : St}
theorem Eg.gK (hX : Eg nt ds X) (k : Nat) {G : Nat -> Prop} {W0 : World} {bs0 : List Nat} {Φ : FK} (hk : σ.h k = some (.obj [] (iF G W0 bs0 Φ))) (h0 : cv W0 (fg G bs0) W (fg G bs))
  (h : ∀ W' bs' cs, Ext W bs W' bs' -> Φ.Φ cs W' (fg G bs') -> X W' bs' ⟨σ.n, MZ k (dv cs) σ.φ, Ic k (dv cs) σ.h⟩) : X W bs σ := by
 refine hX.DN k fun W' bs' E F hx hs hb => ?_
 obtain ⟨⟨⟨hG, cs, h1, h2⟩, _⟩, _⟩ := hs.ent k _ hk
 rw [h1]
 refine h W' bs' cs hx (h2 W' (fg G bs') (fun b hlt hr => ?_) fun b hbk => ⟨rfl, hG b hbk, hb _ hk b hbk⟩)
 obtain ⟨g1, g2⟩ := h0 b hlt hr
 have hlt' : b < W.heap.size := by
  by_cases hW : b < W.heap.size
  ·exact hW
  ·have : W.heap[b]? = none := by simp; omega
   rw [this] at g1
   have h3 : W0.heap[b]? = some W0.heap[b] := Array.getElem?_eq_getElem hlt
   rw [h3] at g1
   cases g1
 obtain ⟨g3, g4⟩ := hx.Bf b hlt' g2
 exact ⟨g3.trans g1, g4⟩
theorem Eg.l7 (hX : Eg nt ds X) (k : Nat) {T : TypeId} {vs : List SV} {us : List Value} (hk : σ.h k = some (.cells T vs)) (hv : ∀ E, an E vs = us)
  (h : ∀ W' bs' b, Ext W bs W' bs' -> b ∉ bs' -> (W.heap.size <= b \/ b ∈ bs) -> W'.heap[b]? = some (.cells us.toArray T (0, 0)) -> X W' bs' ⟨σ.n, MZ k (.pointer (some ⟨b, 0, none⟩)) σ.φ, Ic k (.pointer (some ⟨b, 0, none⟩)) σ.h⟩) : X W bs σ := by
 refine hX.DN k fun W' bs' E F hx hs hb => ?_
 obtain ⟨b, h1, h2, h3⟩ := hs.ent k _ hk
 rw [h1]
 have hbF : b ∈ F k := by rw [h2]; simp
 exact h W' bs' b hx (hb _ hk b hbF) (hs.mine k _ hk b hbF) (by rw [h3, hv E])
theorem Eg.kf (hX : Eg nt ds X) (k : Nat) {T : TypeId} {s n : Nat} {vs : List SV} {us : List Value} (hk : σ.h k = some (.row T s n vs)) (hv : ∀ E, an E vs = us)
  (h : ∀ W' bs' ao c', Ext W bs W' bs' -> eP W' (UM W bs bs') ao us -> n <= c' -> X W' bs' ⟨σ.n, MZ k (.slice ao n c') σ.φ, Ic k (.slice ao n c') σ.h⟩) : X W bs σ := by
 refine hX.DN k fun W' bs' E F hx hs hb => ?_
 obtain ⟨ao, c', h1, h2, h3⟩ := Sx hs hk fun b hbk => hb _ hk b hbk
 rw [h1]
 rw [hv E] at h2
 exact h W' bs' ao c' hx h2 h3
end
section
variable {P : Program} {W : World} {bs : List Nat} {nt : Nat} {ds : Aux} {c : Code} {Q : jX} {σ : St}
theorem Wp.gK (k : Nat) {G : Nat -> Prop} {W0 : World} {bs0 : List Nat} {Φ : FK} (hk : σ.h k = some (.obj [] (iF G W0 bs0 Φ))) (h0 : cv W0 (fg G bs0) W (fg G bs))
  (h : ∀ W' bs' cs, Ext W bs W' bs' -> Φ.Φ cs W' (fg G bs') -> Wp P W' bs' nt ds c Q ⟨σ.n, MZ k (dv cs) σ.φ, Ic k (dv cs) σ.h⟩) : Wp P W bs nt ds c Q σ :=
 Eg.gK Wp.V1 k hk h0 h
theorem Wp.l7 (k : Nat) {T : TypeId} {vs : List SV} {us : List Value} (hk : σ.h k = some (.cells T vs)) (hv : ∀ E, an E vs = us)
  (h : ∀ W' bs' b, Ext W bs W' bs' -> b ∉ bs' -> (W.heap.size <= b \/ b ∈ bs) -> W'.heap[b]? = some (.cells us.toArray T (0, 0)) -> Wp P W' bs' nt ds c Q ⟨σ.n, MZ k (.pointer (some ⟨b, 0, none⟩)) σ.φ, Ic k (.pointer (some ⟨b, 0, none⟩)) σ.h⟩) : Wp P W bs nt ds c Q σ :=
 Eg.l7 Wp.V1 k hk hv h
theorem Wp.kf (k : Nat) {T : TypeId} {s n : Nat} {vs : List SV} {us : List Value} (hk : σ.h k = some (.row T s n vs)) (hv : ∀ E, an E vs = us)
  (h : ∀ W' bs' ao c', Ext W bs W' bs' -> eP W' (UM W bs bs') ao us -> n <= c' -> Wp P W' bs' nt ds c Q ⟨σ.n, MZ k (.slice ao n c') σ.φ, Ic k (.slice ao n c') σ.h⟩) : Wp P W bs nt ds c Q σ :=
 Eg.kf Wp.V1 k hk hv h
variable {R : World -> List Nat -> St -> Prop}
theorem Pw.gK (k : Nat) {G : Nat -> Prop} {W0 : World} {bs0 : List Nat} {Φ : FK} (hk : σ.h k = some (.obj [] (iF G W0 bs0 Φ))) (h0 : cv W0 (fg G bs0) W (fg G bs))
  (h : ∀ W' bs' cs, Ext W bs W' bs' -> Φ.Φ cs W' (fg G bs') -> Pw nt ds W' bs' ⟨σ.n, MZ k (dv cs) σ.φ, Ic k (dv cs) σ.h⟩ R) : Pw nt ds W bs σ R :=
 Eg.gK Pw.V1 k hk h0 h
theorem Pw.l7 (k : Nat) {T : TypeId} {vs : List SV} {us : List Value} (hk : σ.h k = some (.cells T vs)) (hv : ∀ E, an E vs = us)
  (h : ∀ W' bs' b, Ext W bs W' bs' -> b ∉ bs' -> (W.heap.size <= b \/ b ∈ bs) -> W'.heap[b]? = some (.cells us.toArray T (0, 0)) -> Pw nt ds W' bs' ⟨σ.n, MZ k (.pointer (some ⟨b, 0, none⟩)) σ.φ, Ic k (.pointer (some ⟨b, 0, none⟩)) σ.h⟩ R) : Pw nt ds W bs σ R :=
 Eg.l7 Pw.V1 k hk hv h
theorem Pw.kf (k : Nat) {T : TypeId} {s n : Nat} {vs : List SV} {us : List Value} (hk : σ.h k = some (.row T s n vs)) (hv : ∀ E, an E vs = us)
  (h : ∀ W' bs' ao c', Ext W bs W' bs' -> eP W' (UM W bs bs') ao us -> n <= c' -> Pw nt ds W' bs' ⟨σ.n, MZ k (.slice ao n c') σ.φ, Ic k (.slice ao n c') σ.h⟩ R) : Pw nt ds W bs σ R :=
 Eg.kf Pw.V1 k hk hv h
end
theorem cell_of {W : World} {b : Nat} {us : List Value} {T : TypeId} (h : W.heap[b]? = some (.cells us.toArray T (0, 0))) (j : Nat) (hj : j < us.length) : W.cell? ⟨b, j, none⟩ = some us[j] := by
 simp only [World.cell?, h]
 simp [List.getElem?_eq_getElem hj]
theorem T4 (k : Nat) (u : Value) (φ : Fr) (t : Nat) : MZ k u φ t = Ul k u (φ t) := rfl
theorem TO (k : Nat) (u : Value) (h : Hp) (j : Nat) : Ic k u h j = bif j == k then none else (h j).map (R1 k u) := rfl
theorem VR (k : Nat) (u : Value) (x : SV) : Ul k u (.is x) = .is (nr k u x) := rfl
theorem S8 (k : Nat) (u : Value) (b : Bool) (x : SV) : Ul k u (.cnd b x) = .cnd b (nr k u x) := rfl
theorem SD (k : Nat) (u : Value) : Ul k u .any = .any := rfl
theorem MV (k : Nat) (u : Value) (T : TypeId) (vs : List SV) : R1 k u (.cells T vs) = .cells T (rv k u vs) := rfl
theorem T7 (k : Nat) (u : Value) (T : TypeId) (s n : Nat) (vs : List SV) : R1 k u (.row T s n vs) = .row T s n (rv k u vs) := rfl
theorem Sg (k : Nat) (u : Value) (d : List Value) (R : List Value -> Value -> List Nat -> World -> Prop) : R1 k u (.obj d R) = .obj d R := rfl
theorem XU (k : Nat) (u x : Value) : nr k u (.v x) = .v x := rfl
theorem SK (k : Nat) (u : Value) (j o : Nat) : nr k u (.own j o) = bif j == k then .v (cD (base u) o) else .own j o := rfl
theorem Wq (k : Nat) (u : Value) (j : Nat) : nr k u (.hd j) = bif j == k then .v (hv u) else .hd j := rfl
theorem Pf (k : Nat) (u : Value) (j i : Nat) : nr k u (.part j i) = bif j == k then .v (hv (C9 u i)) else .part j i := rfl
theorem UF (k : Nat) (u : Value) (l : List SV) : nr k u (.agg l) = .agg (rv k u l) := rfl
theorem S2 (k : Nat) (u : Value) (l : List SV) : nr k u (.tup l) = .tup (rv k u l) := rfl
theorem SG (k : Nat) (u : Value) (t : TypeId) (x : SV) : nr k u (.ifc t x) = .ifc t (nr k u x) := rfl
theorem V4 (k : Nat) (u : Value) (f : Fn) (a c : List SV) : nr k u (.fn f a c) = .fn f (rv k u a) (rv k u c) := rfl
theorem UA (k : Nat) (u : Value) : rv k u [] = [] := rfl
theorem RH (k : Nat) (u : Value) (x : SV) (r : List SV) : rv k u (x :: r) = nr k u x :: rv k u r := rfl
theorem QB (k : Nat) (u : Value) (l : List Value) : rv k u (l.map .v) = l.map .v := by
 induction l with
 | nil => rfl
 | cons x r ih => simp [rv, nr, ih]
theorem GP (k : Nat) (u : Value) (a b : List SV) : rv k u (a ++ b) = rv k u a ++ rv k u b := by
 induction a with
 | nil => rfl
 | cons x r ih => simp [rv, ih]
theorem Wo (k : IntKind) (n : Int) : hv (.int k n) = .int k n := rfl
theorem TC (b : Bool) : hv (.bool b) = .bool b := rfl
theorem Wc (s : ByteArray) : hv (.string s) = .string s := rfl
theorem Uf (f : Fn) (a c : Array Value) : hv (.func f a c) = .func f a c := rfl
theorem NC (ao : Option Addr) (n c : Nat) : hv (.slice ao n c) = .slice ao n c := rfl
theorem V9 (a : Option Addr) : hv (.pointer a) = .pointer a := rfl
theorem Nz (t : TypeId) (x : Value) : hv (.iface t x) = .iface t x := rfl
theorem NO (a : Addr) : base (.pointer (some a)) = some a := rfl
theorem HM (a : Addr) (n c : Nat) : base (.slice (some a) n c) = some a := rfl
theorem Hx (a : Addr) (o : Nat) : cD (some a) o = .pointer (some ⟨a.block, a.off + o, none⟩) := rfl
def YZ := ab @T4 <| ab @TO <| ab @VR <| ab @S8 <| ab @SD <| ab @MV <| ab @T7 <| ab @Sg <| ab @XU <| ab @SK <| ab @Wq <| ab @Pf <| ab @UF <| ab @S2 <| ab @SG <| ab @V4 <| ab @UA <| ab @RH <| ab @QB <| ab @GP <| ab @Wo <| ab @TC <| ab @Wc <| ab @Uf <| ab @NC <| ab @V9 <| ab @Nz <| ab @NO <| ab @HM <| ab @Hx @AB
end
end Go.LE
