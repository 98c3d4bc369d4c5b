/-
 Part 2 of the proof (packed).
-/
import Derived.Test.YtnemkecffmdlnaaGreatDoorA1
import Derived.Deep.LoopGhost
import Derived.Test.YtnemkecffmdlnaaGreatDoorProg
import Derived.WalkKit
import Derived.ProofKit
import Derived.OpenShut
import Derived.JoinedCond
import Derived.Lib.SmallJoins
import Derived.ReadAgain
import Derived.Deep.Slices
import Derived.Deep.Strs
import Derived.Defers
import Derived.Recover
set_option linter.unusedSimpArgs false
set_option linter.unusedVariables false
set_option linter.defProp false
namespace Go.LE
section
open Go.RowKit
structure Ext (W : World) (bs : List Nat) (W' : World) (bs' : List Nat) : Prop where
 keeps : ai W bs W'
 sub : ∀ b ∈ bs', W.heap.size <= b \/ b ∈ bs
theorem Ext.refl (W : World) (bs : List Nat) : Ext W bs W bs := ⟨ai.refl W bs, fun _ h => .inr h⟩
theorem Ext.trans {W W' W'' : World} {bs bs' bs'' : List Nat} (h : Ext W bs W' bs') (h' : Ext W' bs' W'' bs'') : Ext W bs W'' bs'' :=
 ⟨h.keeps.trans h'.keeps fun b hb hlt => (h.sub b hb).resolve_left (by omega), fun b hb => (h'.sub b hb).elim (fun h1 => .inl (Nat.le_trans h.keeps.size h1)) fun h1 => h.sub b h1⟩
theorem Ext.BY {W W' w : World} {bs bs' : List Nat} (h : Ext W bs W' bs') (h' : ai W' bs' w) : ai W bs w :=
 h.keeps.trans h' fun b hb hlt => (h.sub b hb).resolve_left (by omega)
theorem ak.back {W W' w : World} {bs bs' : List Nat} {E : Nat -> Value} {F : Nat -> List Nat} {h : Hp} (he : Ext W bs W' bs') (hs : ak W' bs' E F h w) : ak W bs E F h w :=
 ⟨hs.ent, hs.lt, fun k e hk b hb => (hs.mine k e hk b hb).elim (fun h1 => .inl (Nat.le_trans he.keeps.size h1)) fun h1 => he.sub b h1, hs.apart, he.BY hs.keeps⟩
theorem Sat.back {W W' : World} {bs bs' : List Nat} {nt : Nat} {ds : Aux} {σ : St} {a : Act} {w : World} (he : Ext W bs W' bs') (h : Sat W' bs' nt ds σ a w) : Sat W bs nt ds σ a w := by
 obtain ⟨⟨E, F, hf, hs, hp⟩, h1, h2, h3, h4, h5⟩ := h
 exact ⟨⟨E, F, hf, hs.back he, hp⟩, h1, h2, h3, h4, h5⟩
abbrev jU := Exit -> World -> List Nat -> St -> Prop
def Wp (P : Program) (W : World) (bs : List Nat) (nt : Nat) (ds : Aux) (c : Code) (Q : jU) (σ : St) : Prop :=
 ∀ a w, Sat W bs nt ds σ a w -> c.wp P (fun e a' w' => ∃ W' bs' σ', Ext W bs W' bs' /\ Q e W' bs' σ' /\ Sat W' bs' nt ds σ' a' w') a w
def Le (W : World) (bs : List Nat) (nt : Nat) (ds : Aux) (σ σ' : St) : Prop := ∀ a w, Sat W bs nt ds σ a w -> Sat W bs nt ds σ' a w
def Th (next : World -> List Nat -> St -> Prop) (Q : jU) : jU
 | .normal, W, bs, σ => next W bs σ
 | e, W, bs, σ => Q e W bs σ
def Bl (id : Nat) (Q : jU) : jU
 | .exit id', W, bs, σ => if id' = id then Q .normal W bs σ else Q (.exit id') W bs σ
 | e, W, bs, σ => Q e W bs σ
section
variable {next : World -> List Nat -> St -> Prop} {Q : jU} {W : World} {bs : List Nat} {σ : St}
theorem eH (h : next W bs σ) : Th next Q .normal W bs σ := h
theorem ln (h : Q .ret W bs σ) : Th next Q .ret W bs σ := h
theorem iJ {i : Nat} (h : Q (.exit i) W bs σ) : Th next Q (.exit i) W bs σ := h
theorem gf {c : List PanicEntry} (h : Q (.panic c) W bs σ) : Th next Q (.panic c) W bs σ := h
theorem eO {id : Nat} (h : Q .normal W bs σ) : Bl id Q .normal W bs σ := h
theorem ld {id : Nat} (h : Q .ret W bs σ) : Bl id Q .ret W bs σ := h
theorem fW {id : Nat} {c : List PanicEntry} (h : Q (.panic c) W bs σ) : Bl id Q (.panic c) W bs σ := h
theorem iM {id : Nat} (h : Q .normal W bs σ) : Bl id Q (.exit id) W bs σ := by simpa [Bl] using h
theorem dG {id i : Nat} (hn : i ≠ id) (h : Q (.exit i) W bs σ) : Bl id Q (.exit i) W bs σ := by simpa [Bl, hn] using h
end
section
variable {P : Program} {W : World} {bs : List Nat} {nt : Nat} {ds : Aux} {Q : jU} {σ : St}
theorem nw {W W' : World} {bs bs' : List Nat} {e : Exit} {a : Act} {w : World} {Q : jU} (he : Ext W bs W' bs') (h : ∃ W'' bs'' σ', Ext W' bs' W'' bs'' /\ Q e W'' bs'' σ' /\ Sat W'' bs'' nt ds σ' a w) :
  ∃ W'' bs'' σ', Ext W bs W'' bs'' /\ Q e W'' bs'' σ' /\ Sat W'' bs'' nt ds σ' a w := by
 obtain ⟨W'', bs'', σ', h1, h2, h3⟩ := h
 exact ⟨W'', bs'', σ', he.trans h1, h2, h3⟩
theorem Wp.mono {c : Code} {Q' : jU} (h : Wp P W bs nt ds c Q σ) (hq : ∀ e W bs σ, Q e W bs σ -> Q' e W bs σ) : Wp P W bs nt ds c Q' σ :=
 fun a w hs => wp_mono (h a w hs) fun e _ _ ⟨W', bs', σ', he, hq', hs'⟩ => ⟨W', bs', σ', he, hq _ _ _ _ hq', hs'⟩
theorem Wp.Wq {c : Code} {σ' : St} (hle : Le W bs nt ds σ σ') (h : Wp P W bs nt ds c Q σ') : Wp P W bs nt ds c Q σ :=
 fun a w hs => h a w (hle a w hs)
theorem Wp.skip (h : Q .normal W bs σ) : Wp P W bs nt ds .skip Q σ := fun a w hs => wp_skip ⟨W, bs, σ, Ext.refl W bs, h, hs⟩
theorem Wp.exit {id : Nat} (h : Q (.exit id) W bs σ) : Wp P W bs nt ds (.exit id) Q σ := fun a w hs => wp_exit ⟨W, bs, σ, Ext.refl W bs, h, hs⟩
theorem Wp.goto {l : Nat} (h : Q (.goto l) W bs σ) : Wp P W bs nt ds (.goto l) Q σ := fun a w hs => wp_goto ⟨W, bs, σ, Ext.refl W bs, h, hs⟩
theorem Wp.ret (h : Q .ret W bs σ) : Wp P W bs nt ds .ret Q σ := fun a w hs => wp_ret ⟨W, bs, σ, Ext.refl W bs, h, hs⟩
theorem Wp.seq {x y : Code} (h : Wp P W bs nt ds x (Th (fun W bs σ => Wp P W bs nt ds y Q σ) Q) σ) : Wp P W bs nt ds (.seq x y) Q σ := fun a w hs =>
 wp_seq (wp_mono (h a w hs) fun e a' w' ⟨W', bs', σ', he, hq, hs'⟩ => by
  cases e with
  | normal => exact wp_mono (hq a' w' hs') fun e'' a'' w'' hh => nw he hh
  | _ => exact ⟨W', bs', σ', he, hq, hs'⟩)
theorem Wp.block {id : Nat} {c : Code} (h : Wp P W bs nt ds c (Bl id Q) σ) : Wp P W bs nt ds (.block id c) Q σ := fun a w hs =>
 wp_block (wp_mono (h a w hs) fun e a' w' ⟨W', bs', σ', he, hq, hs'⟩ => by
  cases e with
  | exit i =>
   simp only [Bl] at hq
   simp only [Exit.inBlock]
   split
   ·rename_i hi; rw [if_pos hi] at hq; exact ⟨W', bs', σ', he, hq, hs'⟩
   ·rename_i hi; rw [if_neg hi] at hq; exact ⟨W', bs', σ', he, hq, hs'⟩
  | _ => exact ⟨W', bs', σ', he, hq, hs'⟩)
theorem Wp.cond {c : Operand} {x y : Code} {b : Bool} {p : Prop} (hc : kX σ.φ true c = (p, .v (.bool b))) (hp : p)
  (ht : b = true -> Wp P W bs nt ds x Q σ) (hf : b = false -> Wp P W bs nt ds y Q σ) : Wp P W bs nt ds (.cond c x y) Q σ := fun a w hs => by
 obtain ⟨E, F, hφ, hh, _⟩ := hs.ex
 have : a.eval c = .bool b := by
  rw [pn hφ rfl (by rw [hc]; exact hp), hc]
  rfl
 exact wp_cond_split this (fun hb => ht hb a w hs) (fun hb => hf hb a w hs)
theorem Wp.HE (Γ : Env P) {id : Nat} {d : Bool} {ops : Array Oper} {g : RG} (hm : P.follows .mixedOrders = true)
  (hg : lX Γ W bs nt ops ops.toList σ.n σ.φ σ.h = g) (hside : g.side) (hd : d = true -> lP ops = true /\ lJ ops g.fx = true)
  (hQ : (∀ x ∈ g.pans, x = none) -> Q .normal W bs ⟨g.n, g.φ, g.h⟩) (hP : ∀ c, some c ∈ g.pans -> Q (.panic c) W bs ⟨σ.n, qB ops σ.φ, dropKeys σ.h g.lost⟩) :
  Wp P W bs nt ds (.region id ops d) Q σ := fun a w hs =>
 KW Γ hm hs hg hside hd (fun hn a' w' hs' => ⟨W, bs, _, Ext.refl W bs, hQ hn, hs'⟩) (fun c hc a' w' hs' => ⟨W, bs, _, Ext.refl W bs, hP c hc, hs'⟩)
theorem Wp.region (Γ : Env P) {id : Nat} {d : Bool} {ops : Array Oper} {g : RG} (hm : P.follows .mixedOrders = true)
  (hg : lX Γ W bs nt ops ops.toList σ.n σ.φ σ.h = g) (hside : g.side) (hd : d = true -> lP ops = true /\ lJ ops g.fx = true)
  (hQ : Q .normal W bs ⟨g.n, g.φ, g.h⟩) (hP : ∀ c, some c ∈ g.pans -> Q (.panic c) W bs ⟨σ.n, qB ops σ.φ, dropKeys σ.h g.lost⟩) :
  Wp P W bs nt ds (.region id ops d) Q σ := Wp.HE Γ hm hg hside hd (fun _ => hQ) hP
theorem H9 {α : Type} {l : List (Option α)} {c : α} (h : l.filter Option.isSome = [some c]) : some c ∈ l /\ ∀ x, some x ∈ l -> x = c := by
 have h1 : some c ∈ l.filter Option.isSome := by rw [h]; simp
 refine ⟨(List.mem_filter.1 h1).1, fun x hx => ?_⟩
 have : some x ∈ l.filter Option.isSome := List.mem_filter.2 ⟨hx, rfl⟩
 rw [h] at this
 simpa using this
theorem Wp.nA (Γ : Env P) {id : Nat} {ops : Array Oper} {side : Prop} {lost : List Nat} {c : List PanicEntry} (hm : P.follows .mixedOrders = true)
  (hg : uc Γ W bs nt ops ops.toList σ.n σ.φ σ.h = ⟨side, some c, lost⟩) (hside : side)
  (hQ : Q (.panic c) W bs ⟨σ.n, qB ops σ.φ, dropKeys σ.h lost⟩) : Wp P W bs nt ds (.region id ops false) Q σ := fun a w hs =>
 FY Γ hs hg hside fun a' w' hs' => ⟨W, bs, _, Ext.refl W bs, hQ, hs'⟩
theorem Wp.Ho (Γ : Env P) {id : Nat} {ops : Array Oper} {side : Prop} {n : Nat} {φ : Fr} {h : Hp} {pans : List (Option (List PanicEntry))} {lost : List Nat} {fx : List (List Nat × List Nat)} {c : List PanicEntry} (hm : P.follows .mixedOrders = true)
  (hg : lX Γ W bs nt ops ops.toList σ.n σ.φ σ.h = ⟨side, n, φ, h, pans, lost, fx⟩) (hp : pans.filter Option.isSome = [some c]) (hd : (lP ops && lJ ops fx) = true) (hside : side)
  (hQ : Q (.panic c) W bs ⟨σ.n, qB ops σ.φ, dropKeys σ.h lost⟩) : Wp P W bs nt ds (.region id ops true) Q σ :=
 Wp.HE Γ hm hg hside (fun _ => by rw [Bool.and_eq_true] at hd; exact hd) (fun hn => by cases hn _ (H9 hp).1) fun c' hc' => by rw [(H9 hp).2 c' hc']; exact hQ
theorem Wp.iA (Γ : Env P) {id : Nat} {ops : Array Oper} {y : Code} {side : Prop} {lost : List Nat} {c : List PanicEntry} (hm : P.follows .mixedOrders = true)
  (hg : uc Γ W bs nt ops ops.toList σ.n σ.φ σ.h = ⟨side, some c, lost⟩) (hside : side)
  (hQ : Q (.panic c) W bs ⟨σ.n, qB ops σ.φ, dropKeys σ.h lost⟩) : Wp P W bs nt ds (.seq (.region id ops false) y) Q σ :=
 Wp.seq (Wp.nA Γ hm hg hside hQ)
theorem Wp.ny (Γ : Env P) {id : Nat} {ops : Array Oper} {y : Code} {side : Prop} {n : Nat} {φ : Fr} {h : Hp} {pans : List (Option (List PanicEntry))} {lost : List Nat} {fx : List (List Nat × List Nat)} (hm : P.follows .mixedOrders = true)
  (hg : lX Γ W bs nt ops ops.toList σ.n σ.φ σ.h = ⟨side, n, φ, h, pans, lost, fx⟩) (hp : pans.all Option.isNone = true) (hside : side)
  (hQ : Wp P W bs nt ds y Q ⟨n, φ, h⟩) : Wp P W bs nt ds (.seq (.region id ops false) y) Q σ :=
 Wp.seq (Wp.region Γ hm hg hside (fun hd => by cases hd) hQ fun c hc => by rw [List.all_eq_true] at hp; have := hp _ hc; cases this)
theorem Wp.Uv (Γ : Env P) {id : Nat} {ops : Array Oper} {y : Code} {side : Prop} {n : Nat} {φ : Fr} {h : Hp} {pans : List (Option (List PanicEntry))} {lost : List Nat} {fx : List (List Nat × List Nat)} (hm : P.follows .mixedOrders = true)
  (hg : lX Γ W bs nt ops ops.toList σ.n σ.φ σ.h = ⟨side, n, φ, h, pans, lost, fx⟩) (hp : pans.all Option.isNone = true) (hd : (lP ops && lJ ops fx) = true) (hside : side)
  (hQ : Wp P W bs nt ds y Q ⟨n, φ, h⟩) : Wp P W bs nt ds (.seq (.region id ops true) y) Q σ :=
 Wp.seq (Wp.region Γ hm hg hside (fun _ => by rw [Bool.and_eq_true] at hd; exact hd) hQ fun c hc => by rw [List.all_eq_true] at hp; have := hp _ hc; cases this)
theorem Wp.At (Γ : Env P) {id : Nat} {ops : Array Oper} {side : Prop} {n : Nat} {φ : Fr} {h : Hp} {pans : List (Option (List PanicEntry))} {lost : List Nat} {fx : List (List Nat × List Nat)} (hm : P.follows .mixedOrders = true)
  (hg : lX Γ W bs nt ops ops.toList σ.n σ.φ σ.h = ⟨side, n, φ, h, pans, lost, fx⟩) (hp : pans.all Option.isNone = true) (hside : side)
  (hQ : Q .normal W bs ⟨n, φ, h⟩) : Wp P W bs nt ds (.region id ops false) Q σ :=
 Wp.region Γ hm hg hside (fun hd => by cases hd) hQ fun c hc => by rw [List.all_eq_true] at hp; have := hp _ hc; cases this
theorem Wp.T8 (Γ : Env P) {id : Nat} {ops : Array Oper} {side : Prop} {n : Nat} {φ : Fr} {h : Hp} {pans : List (Option (List PanicEntry))} {lost : List Nat} {fx : List (List Nat × List Nat)} (hm : P.follows .mixedOrders = true)
  (hg : lX Γ W bs nt ops ops.toList σ.n σ.φ σ.h = ⟨side, n, φ, h, pans, lost, fx⟩) (hp : pans.all Option.isNone = true) (hd : (lP ops && lJ ops fx) = true) (hside : side)
  (hQ : Q .normal W bs ⟨n, φ, h⟩) : Wp P W bs nt ds (.region id ops true) Q σ :=
 Wp.region Γ hm hg hside (fun _ => by rw [Bool.and_eq_true] at hd; exact hd) hQ fun c hc => by rw [List.all_eq_true] at hp; have := hp _ hc; cases this
theorem Wp.loop {c : Code} {ι : Type} (I : ι -> St) (ok : ι -> Prop) (μ : ι -> Nat) (p0 : ι) (hle : Le W bs nt ds σ (I p0)) (h0 : ok p0)
  (round : ∀ p, ok p -> Wp P W bs nt ds c (Th (fun W' bs' σ' => ∃ p', ok p' /\ μ p' < μ p /\ Le W' bs' nt ds σ' (I p')) Q) (I p)) : Wp P W bs nt ds (.loop c) Q σ := fun a w hs =>
 wp_loop_ghost (fun n a w => ∃ p, ok p /\ μ p = n /\ Sat W bs nt ds (I p) a w) (μ p0) ⟨p0, h0, rfl, hle a w hs⟩ fun n a w ⟨p, hp, hn, hsat⟩ =>
  wp_mono (round p hp a w hsat) fun e a' w' ⟨W', bs', σ', he, hq, hs'⟩ => by
   cases e with
   | normal =>
    obtain ⟨p', hp', hlt, hle'⟩ := hq
    exact ⟨μ p', hn ▸ hlt, p', hp', rfl, Sat.back he (hle' a' w' hs')⟩
   | _ => exact ⟨W', bs', σ', he, hq, hs'⟩
theorem Wp.xR {c : Code} {ι : Type} (I : ι -> St) (V : ι -> World) (B : ι -> List Nat) (ok : ι -> Prop) (μ : ι -> Nat) (p0 : ι) (hV : V p0 = W) (hB : B p0 = bs) (hle : Le W bs nt ds σ (I p0)) (h0 : ok p0)
  (round : ∀ p, ok p -> Ext W bs (V p) (B p) -> Wp P (V p) (B p) nt ds c (Th (fun W' bs' σ' => ∃ p', ok p' /\ μ p' < μ p /\ V p' = W' /\ B p' = bs' /\ Le W' bs' nt ds σ' (I p')) Q) (I p)) : Wp P W bs nt ds (.loop c) Q σ := fun a w hs =>
 wp_loop_ghost (fun n a w => ∃ p, ok p /\ μ p = n /\ Ext W bs (V p) (B p) /\ Sat (V p) (B p) nt ds (I p) a w) (μ p0) ⟨p0, h0, rfl, by rw [hV, hB]; exact Ext.refl W bs, by rw [hV, hB]; exact hle a w hs⟩ fun n a w ⟨p, hp, hn, hx, hsat⟩ =>
  wp_mono (round p hp hx a w hsat) fun e a' w' ⟨W', bs', σ', he, hq, hs'⟩ => by
   cases e with
   | normal =>
    obtain ⟨p', hp', hlt, rfl, rfl, hle'⟩ := hq
    exact ⟨μ p', hn ▸ hlt, p', hp', rfl, hx.trans he, hle' a' w' hs'⟩
   | _ => exact ⟨W', bs', σ', hx.trans he, hq, hs'⟩
inductive Src where
 | key (k : Nat)
 | nil
def jL : Value := .slice none 0 0
mutual
def wD (m : Nat -> Src) : SV -> SV
 | .v x => .v x
 | .own k o => match m k with | .key j => .own j o | .nil => .v .nilIface
 | .hd k => match m k with | .key j => .hd j | .nil => .v jL
 | .agg l => .agg (lT m l)
 | .tup l => .tup (lT m l)
 | .ifc t x => .ifc t (wD m x)
 | .part k i => match m k with | .key j => .part j i | .nil => .v .nilIface
 | .fn f a c => .fn f (lT m a) (lT m c)
def lT (m : Nat -> Src) : List SV -> List SV
 | [] => []
 | x :: r => wD m x :: lT m r
end
def vt (E : Nat -> Value) (m : Nat -> Src) (k : Nat) : Value := match m k with | .key j => E j | .nil => jL
def wo (F : Nat -> List Nat) (m : Nat -> Src) (k : Nat) : List Nat := match m k with | .key j => F j | .nil => []
mutual
theorem nc (E : Nat -> Value) (m : Nat -> Src) : ∀ x : SV, den E (wD m x) = den (vt E m) x
 | .v x => rfl
 | .own k o => by
  simp only [wD, den, vt]
  cases m k <;> rfl
 | .hd k => by
  simp only [wD, den, vt]
  cases m k <;> rfl
 | .agg l => by simp only [wD, den, ju E m l]
 | .tup l => by simp only [wD, den, ju E m l]
 | .ifc t x => by simp only [wD, den, nc E m x]
 | .part k i => by
  simp only [wD, den, vt]
  cases m k <;> rfl
 | .fn f a c => by simp only [wD, den, ju E m a, ju E m c]
theorem ju (E : Nat -> Value) (m : Nat -> Src) : ∀ l : List SV, an E (lT m l) = an (vt E m) l
 | [] => rfl
 | x :: r => by simp only [lT, an, nc E m x, ju E m r]
end
def Cd (m : Nat -> Src) : bm -> bm
 | .cells T vs => .cells T (lT m vs)
 | .row T s n vs => .row T s n (lT m vs)
 | .obj d R => .obj d R
theorem Fg {E : Nat -> Value} {m : Nat -> Src} {u : Value} {fp : List Nat} {w : World} {e : bm} (h : bn E u fp w (Cd m e)) : bn (vt E m) u fp w e := by
 cases e with
 | cells T vs => simpa [bn, Cd, ju] using h
 | row T s n vs => simpa [bn, Cd, ju] using h
 | obj d R => exact h
def bV : List (Nat × FV) -> Fr
 | [] => fun _ => .any
 | (t, x) :: r => bg (bV r) t x
def cd : List (Nat × bm) -> Hp
 | [] => fun _ => none
 | (k, e) :: r => bg (cd r) k (some e)
def D4 (m : Nat -> Src) : FV -> FV -> Prop
 | .is x, .is y => x = wD m y
 | .cnd b x, .cnd c y => b = c /\ (b = true -> x = wD m y)
 | .is x, .cnd c y => c = true /\ x = wD m y
 | .cnd b x, .is y => b = true /\ x = wD m y
 | _, .any => True
 | .any, _ => False
theorem KC {E : Nat -> Value} {m : Nat -> Src} {x y : FV} {u : Value} (hle : D4 m x y) (hf : fits E x u) : fits (vt E m) y u := by
 cases x with
 | is x =>
  cases y with
  | is y => simp only [D4] at hle; simp only [fits] at hf ⊢; rw [hf, hle, nc]
  | cnd c y => obtain ⟨rfl, hle⟩ := hle; simp only [fits, cond_true] at hf ⊢; rw [hf, hle, nc]
  | any => trivial
 | cnd b x =>
  cases y with
  | is y => obtain ⟨rfl, hle⟩ := hle; simp only [fits, cond_true] at hf ⊢; rw [hf, hle, nc]
  | cnd c y =>
   obtain ⟨rfl, hle⟩ := hle
   cases b with
   | false => exact hf
   | true => simp only [fits, cond_true] at hf ⊢; rw [hf, hle rfl, nc]
  | any => trivial
 | any => cases y <;> first | trivial | exact hle.elim
def E4 (m : Nat -> Src) (φ : Fr) : List (Nat × FV) -> Prop
 | [] => True
 | (t, x) :: r => D4 m (φ t) x /\ E4 m φ r
def re (m : Nat -> Src) (h : Hp) (k : Nat) (e : bm) : Prop := match m k with
 | .key j => h j = some (Cd m e)
 | .nil => match e with
  | .row _ sz n vs => 0 < sz /\ n = 0 /\ vs = []
  | _ => False
def F9 (m : Nat -> Src) (h : Hp) : List (Nat × bm) -> Prop
 | [] => True
 | (k, e) :: r => re m h k e /\ F9 m h r
def gO (m : Nat -> Src) : List (Nat × bm) -> List Nat
 | [] => []
 | (k, _) :: r => (match m k with | .key j => [j] | .nil => []) ++ gO m r
def Qg (n : Nat) (L : List (Nat × FV)) (H : List (Nat × bm)) : Prop :=
 (∀ p ∈ L, ∀ k ∈ p.2.keys, k / 8 < n) /\ (∀ p ∈ H, p.1 / 8 < n /\ ∀ k ∈ p.2.keys, k / 8 < n)
theorem jb {L : List (Nat × FV)} (t : Nat) : bV L t = .any \/ ∃ p ∈ L, p.1 = t /\ bV L t = p.2 := by
 induction L with
 | nil => exact .inl rfl
 | cons p r ih =>
  by_cases ht : t = p.1
  ·exact .inr ⟨p, by simp, ht.symm, by simp [bV, bg, ht]⟩
  ·rcases ih with ih | ⟨q, hq, h1, h2⟩
   ·exact .inl (by simp [bV, bg, ht, ih])
   ·exact .inr ⟨q, by simp [hq], h1, by simp [bV, bg, ht, h2]⟩
theorem eL {H : List (Nat × bm)} {k : Nat} {e : bm} (h : cd H k = some e) : (k, e) ∈ H := by
 induction H with
 | nil => cases h
 | cons p r ih =>
  by_cases ht : k = p.1
  ·simp [cd, bg, ht] at h; subst h; simp [ht]
  ·simp [cd, bg, ht] at h; simp [ih h]
theorem CJ {m : Nat -> Src} {φ : Fr} : ∀ {L : List (Nat × FV)}, E4 m φ L -> ∀ p ∈ L, D4 m (φ p.1) p.2
 | _ :: _, h, p, hp => by
  rcases List.mem_cons.1 hp with rfl | hp
  ·exact h.1
  ·exact CJ h.2 p hp
theorem AK {m : Nat -> Src} {h : Hp} : ∀ {H : List (Nat × bm)}, F9 m h H -> ∀ p ∈ H, re m h p.1 p.2
 | _ :: _, h, p, hp => by
  rcases List.mem_cons.1 hp with rfl | hp
  ·exact h.1
  ·exact AK h.2 p hp
theorem mj {m : Nat -> Src} {k : Nat} : ∀ {H : List (Nat × bm)}, ∀ y ∈ H, m y.1 = .key k -> k ∈ gO m H
 | z :: t, y, hy, hk => by
  simp only [gO, List.mem_append]
  rcases List.mem_cons.1 hy with rfl | hy
  ·left; rw [hk]; simp
  ·right; exact mj y hy hk
theorem tJ {m : Nat -> Src} : ∀ {H : List (Nat × bm)}, (gO m H).Nodup -> ∀ p ∈ H, ∀ q ∈ H, p.1 ≠ q.1 -> ∀ i j, m p.1 = .key i -> m q.1 = .key j -> i ≠ j
 | [], _, p, hp, _, _, _, _, _, _, _ => by cases hp
 | x :: r, hn, p, hp, q, hq, hpq, i, j, hi, hj => by
  simp only [gO] at hn
  rcases List.mem_cons.1 hp with rfl | hp'
  ·rcases List.mem_cons.1 hq with rfl | hq'
   ·exact absurd rfl hpq
   ·rw [hi] at hn
    intro hij
    subst hij
    exact (List.nodup_append.1 hn).2.2 i (by simp) i (mj q hq' hj) rfl
  ·rcases List.mem_cons.1 hq with rfl | hq'
   ·rw [hj] at hn
    intro hij
    subst hij
    exact (List.nodup_append.1 hn).2.2 i (by simp) i (mj p hp' hi) rfl
   ·exact tJ (List.nodup_append.1 hn).2.1 p hp' q hq' hpq i j hi hj
theorem Le.mk (m : Nat -> Src) {n' : Nat} {L : List (Nat × FV)} {H : List (Nat × bm)} (hk : Qg n' L H) (hf : E4 m σ.φ L) (hh : F9 m σ.h H) (hn : (gO m H).Nodup) (hpn : ∀ p ∈ ds.pins, m p.1 = .key p.1 /\ p.1 / 8 < n') :
  Le W bs nt ds σ ⟨n', bV L, cd H⟩ := by
 rintro a w ⟨⟨E, F, hφ, hs, hp⟩, hsz, hdf, _, _, _⟩
 have at' : ∀ k e, cd H k = some e -> re m σ.h k e := fun k e he => AK hh _ (eL he)
 have key : ∀ k e j, cd H k = some e -> m k = .key j -> σ.h j = some (Cd m e) := fun k e j he hj => by
  have := at' k e he
  simpa only [re, hj] using this
 refine ⟨⟨vt E m, wo F m, fun t => ?_, ⟨fun k e he => ?_, fun k e he b hb => ?_, fun k e he b hb => ?_, fun k k' e e' hne he he' b hb => ?_, hs.keeps⟩, fun p hpp => ?_⟩, hsz, hdf, fun p hpp => (hpn p hpp).2, fun t k hk' => ?_, fun k e he => ?_⟩
 ·rcases jb (L := L) t with h | ⟨p, hp, rfl, h⟩
  ·simp only [h]; trivial
  ·simp only [h]; exact KC (CJ hf p hp) (hφ p.1)
 ·cases hm : m k with
  | key j =>
   simp only [vt, wo, hm]
   exact Fg (hs.ent j _ (key k e j he hm))
  | nil =>
   have := at' k e he
   simp only [re, hm] at this
   cases e with
   | row T s n vs =>
    obtain ⟨h0, rfl, rfl⟩ := this
    simp only [vt, wo, hm]
    exact ⟨⟨by simp [an], .inl ⟨rfl, rfl⟩⟩, rfl⟩
   | cells T vs => exact this.elim
   | obj d R => exact this.elim
 ·cases hm : m k with
  | key j => simp only [wo, hm] at hb; exact hs.lt j _ (key k e j he hm) b hb
  | nil => simp only [wo, hm] at hb; cases hb
 ·cases hm : m k with
  | key j => simp only [wo, hm] at hb; exact hs.mine j _ (key k e j he hm) b hb
  | nil => simp only [wo, hm] at hb; cases hb
 ·cases hm : m k with
  | nil => simp only [wo, hm] at hb; cases hb
  | key i =>
   cases hm' : m k' with
   | nil => simp only [wo, hm']; simp
   | key j =>
    simp only [wo, hm, hm'] at hb ⊢
    exact hs.apart i j _ _ (tJ hn _ (eL he) _ (eL he') hne i j hm hm') (key k e i he hm) (key k' e' j he' hm') b hb
 ·simp only [vt, (hpn p hpp).1]; exact hp p hpp
 ·rcases jb (L := L) t with h | ⟨p, hp, _, h⟩
  ·simp only [h] at hk'; cases hk'
  ·simp only [h] at hk'; exact hk.1 p hp k hk'
 ·exact hk.2 _ (eL he)
end
end
section
open Go.RowKit
section
variable {P : Program} {W : World} {bs : List Nat} {nt : Nat} {ds : Aux} {σ : St}
theorem MK {E : Nat -> Value} {F : Nat -> List Nat} {h : Nat -> Option bm} {w : World} {T : TypeId} {k o : Nat} (hs : ak W bs E F h w) (hside : (cZ P W bs h T [.own k o]).side) :
  ∃ a, den E (.own k o) = .pointer (some a) /\ (loadVar T a).run P w = .ok (den E (cZ P W bs h T [.own k o]).val) w := by
 revert hside
 simp only [cZ]
 split
 ·rename_i sz vs hsz hag hvs
  rintro ⟨hlen, hpos⟩
  obtain ⟨b, hb, hcells⟩ := eP hs hvs (by omega)
  have hrun : (loadVar T ⟨b, 0 + o, none⟩).run P w = .ok (.agg (((an E vs).drop o).take sz).toArray) w := by
   refine fA hsz hag _ _ (by simp [aA]; omega) fun j v hj => ?_
   have hjl : j < sz := by
    have := (List.getElem?_eq_some_iff.1 hj).1
    simp at this; omega
   rw [Addr.add_lit, Nat.zero_add, hcells (o + j) (by omega)]
   rw [List.getElem?_take, if_pos hjl, List.getElem?_drop] at hj
   rw [hj]; rfl
  refine ⟨⟨b, 0 + o, none⟩, by simp [den, hb, cx], ?_⟩
  rw [hrun]
  simp [den, a6, List.map_take, List.map_drop]
 ·rename_i sz vs hsz hag hvs
  intro hlen
  obtain ⟨b, hb, hcells⟩ := eP hs hvs (Nat.zero_lt_of_lt hlen)
  have hrun := fz (w := w) hag ⟨b, 0 + o, none⟩ ((an E vs)[o]?.getD undef) (by rw [Nat.zero_add]; exact hcells o hlen)
  refine ⟨⟨b, 0 + o, none⟩, by simp [den, hb, cx], ?_⟩
  rw [hrun, mQ]
 ·exact fun hf => hf.elim
def je (P : Program) (W : World) (bs : List Nat) (σ : St) : ResultVar -> Prop × SV
 | .tmp t => match σ.φ t with
  | .is x => (True, x)
  | .cnd b x => (b = true, x)
  | .any => (False, .v undef)
 | .cell t T => match σ.φ t with
  | .is (.own k o) => ((cZ P W bs σ.h T [.own k o]).side, (cZ P W bs σ.h T [.own k o]).val)
  | _ => (False, .v undef)
def gK (P : Program) (W : World) (bs : List Nat) (σ : St) : List ResultVar -> Prop × List SV
 | [] => (True, [])
 | r :: l => ((je P W bs σ r).1 /\ (gK P W bs σ l).1, (je P W bs σ r).2 :: (gK P W bs σ l).2)
def jz : List SV -> SV
 | [x] => x
 | l => .tup l
def Fin (P : Program) (rs : List ResultVar) (R : World -> List Nat -> SV -> Hp -> Prop) (RP : List PanicEntry -> Hp -> Prop) : jU
 | .normal, W, bs, σ | .ret, W, bs, σ => (gK P W bs σ rs).1 /\ R W bs (jz (gK P W bs σ rs).2) σ.h
 | .panic c, _, _, σ => RP c σ.h
 | _, _, _, _ => False
def Ends (W : World) (bs : List Nat) (pins : List (Nat × Value)) (R : World -> List Nat -> SV -> Hp -> Prop) (RP : List PanicEntry -> Hp -> Prop) : Ending -> World -> Prop
 | .returned v, w' => ∃ W' bs' E F x h, Ext W bs W' bs' /\ R W' bs' x h /\ v = den E x /\ ak W' bs' E F h w' /\ ∀ p ∈ pins, E p.1 = p.2
 | .panicked c, w' => ∃ W' bs' E F h, Ext W bs W' bs' /\ RP c h /\ ak W' bs' E F h w' /\ ∀ p ∈ pins, E p.1 = p.2
 | .outgrown, _ => False
def ke (a : Act) : ResultVar -> Sem Value
 | .tmp t => pure (a.tmps.getD t undef)
 | .cell x t => do loadVar t (<- asAddr (a.tmps.getD x undef))
theorem GX {E : Nat -> Value} {F : Nat -> List Nat} {a : Act} {w : World} (hφ : fS E σ.φ a) (hs : ak W bs E F σ.h w) (r : ResultVar) (hr : (je P W bs σ r).1) :
  (ke a r).run P w = .ok (den E (je P W bs σ r).2) w := by
 cases r with
 | tmp t =>
  have := hφ t
  simp only [je, ke] at hr ⊢
  revert hr this
  cases σ.φ t with
  | is x => intro _ h; simp only [fits] at h; rw [h]; rfl
  | cnd b x =>
   intro hb h
   simp only at hb
   subst hb
   simp only [fits, cond_true] at h
   rw [h]; rfl
  | any => exact fun hf _ => hf.elim
 | cell t T =>
  have := hφ t
  simp only [je, ke] at hr ⊢
  revert hr this
  split
  ·rename_i k o hk
   intro hr h
   rw [hk] at h
   simp only [fits] at h
   obtain ⟨ad, h1, h2⟩ := MK hs hr
   rw [h, h1]
   simpa [asAddr] using h2
  ·exact fun hf _ => hf.elim
theorem Cc {E : Nat -> Value} {F : Nat -> List Nat} {a : Act} {w : World} (hφ : fS E σ.φ a) (hs : ak W bs E F σ.h w) : ∀ (l : List ResultVar), (gK P W bs σ l).1 ->
  (l.mapM (ke a)).run P w = .ok (an E (gK P W bs σ l).2) w
 | [], _ => rfl
 | r :: l, h => by
  have h1 := GX hφ hs r h.1
  have h2 := Cc hφ hs l h.2
  rw [List.mapM_cons]
  simp [h1, h2, gK, an]
theorem gS {E : Nat -> Value} {F : Nat -> List Nat} {a : Act} {w : World} {fn : Func} (hφ : fS E σ.φ a) (hs : ak W bs E F σ.h w) (h : (gK P W bs σ fn.results.toList).1) :
  (results fn a.tmps).run P w = .ok (den E (jz (gK P W bs σ fn.results.toList).2)) w := by
 have h1 := Cc hφ hs fn.results.toList h
 have h2 : results fn a.tmps = ((Functor.map List.toArray (fn.results.toList.mapM (ke a))) >>= fun (vs : Array Value) => (pure (if h : vs.size = 1 then vs[0] else .tuple vs) : Sem Value)) := by
  rw [<- Array.mapM_eq_mapM_toList]
  unfold results
  congr 1
 rw [h2]
 have : ((Functor.map List.toArray (fn.results.toList.mapM (ke a))) >>= fun (vs : Array Value) => (pure (if h : vs.size = 1 then vs[0] else .tuple vs) : Sem Value)).run P w =
   .ok (den E (jz (gK P W bs σ fn.results.toList).2)) w := by
  simp only [map_eq_pure_bind, bind_assoc, pure_bind]
  simp [h1]
  generalize (gK P W bs σ fn.results.toList).2 = l
  match l with
  | [] => simp [an, jz, den]
  | [x] => simp [an, jz]
  | x :: y :: r => simp [an, jz, den]
 exact this
theorem jv {f : FuncId} {fn : Func} {c : Code} {args : Array Value} {w : World} {pins : List (Nat × Value)} {R : World -> List Nat -> SV -> Hp -> Prop} {RP : List PanicEntry -> Hp -> Prop}
  (hf : P.funcs[f]? = some fn) (hb : fn.body = some c)
  (hsat : Sat W bs nt ⟨[], pins⟩ σ { tmps := args ++ Array.replicate (fn.ntmps - args.size) undef, defers := [] } w)
  (h : Wp P W bs nt ⟨[], pins⟩ c (Fin P fn.results.toList R RP) σ) :
  Calls P f args w (Ends W bs pins R RP) := by
 refine calls_of_wp hf hb (wp_mono (h _ w hsat) fun e a' w' ⟨W', bs', σ', hx, hq, hs'⟩ => ?_)
 obtain ⟨⟨E, F, hφ, hh, hp⟩, hsz, hdf, _⟩ := hs'
 have ret : (gK P W' bs' σ' fn.results.toList).1 /\ R W' bs' (jz (gK P W' bs' σ' fn.results.toList).2) σ'.h -> a'.defers = [] /\ ∃ v, (results fn a'.tmps).run P w' = .ok v w' /\ Ends W bs pins R RP (.returned v) w' :=
  fun hq => ⟨hdf, _, gS hφ hh hq.1, W', bs', E, F, _, _, hx, hq.2, rfl, hh, hp⟩
 cases e with
 | normal => exact ret hq
 | ret => exact ret hq
 | panic ch => exact ⟨hdf, W', bs', E, F, _, hx, hq, hh, hp⟩
 | exit i => exact hq.elim
 | goto l => exact hq.elim
 | outgrown => exact hq.elim
theorem qk {κ : Nat} {E : Nat -> Value} {F : Nat -> List Nat} {h : Hp} {w : World} {f : FuncId} {args : Array Value} {r : R} {v : Value} (hs : ak W bs E F h w)
  (hc : Calls P f args w fun e w' => e = .returned v /\ ai w [] w') (hv : v = den E r.val) (hu : r.bg = []) (hp : r.pan = none) :
  Good P W bs κ E h r (.ok (.enter f args) w) := by
 refine hc.mono fun e w' he => ?_
 obtain ⟨rfl, hk⟩ := he
 exact ⟨hp, E, F, fun _ _ => rfl, hv, by rw [hu]; exact hs.grow hk⟩
theorem ub {κ : Nat} {E : Nat -> Value} {F : Nat -> List Nat} {h : Hp} {w : World} {K : Nat -> Prop} {f : FuncId} {args : Array Value} {r : R} {e : bm} (hs : ak W bs E F h w)
  (hK : bI K h) (hk : ∀ k, k / 8 = κ -> ¬ K k)
  (hc : Calls P f args w fun en w' => ∃ v u fp, en = .returned v /\ (∀ E', bn E' u fp w' e) /\ (∀ b ∈ fp, w.heap.size <= b /\ b < w'.heap.size) /\ ai w [] w' /\ v = den (bg E (nk κ) u) r.val)
  (hu : r.bg = [(nk κ, some e)]) (hp : r.pan = none) :
  Good P W bs κ E h r (.ok (.enter f args) w) := by
 refine hc.mono fun en w' he => ?_
 obtain ⟨v, u, fp, rfl, hent, hfp, hkeep, hv⟩ := he
 refine ⟨hp, bg E (nk κ) u, bg F (nk κ) fp, fun k hk' => aj _ _ fun e => hk' (by subst e; exact aW κ), hv, ?_⟩
 rw [hu]
 exact hs.new hK (hk _ (aW κ)) (hent _) hfp hkeep
theorem CV {κ k : Nat} {E : Nat -> Value} {F : Nat -> List Nat} {h : Hp} {w : World} {f : FuncId} {args : Array Value} {r : R} {e e' : bm} (hs : ak W bs E F h w)
  (hk : h k = some e)
  (hc : Calls P f args w fun en w' => ∃ v fp, en = .returned v /\ bn E (E k) fp w' e' /\ (∀ b ∈ fp, b ∈ F k \/ w.heap.size <= b) /\ (∀ b ∈ fp, b < w'.heap.size) /\ ai w (F k) w' /\ v = den E r.val)
  (hu : r.bg = [(k, some e')]) (hp : r.pan = none) :
  Good P W bs κ E h r (.ok (.enter f args) w) := by
 refine hc.mono fun en w' he => ?_
 obtain ⟨v, fp, rfl, hent, hfp, hlt, hkeep, hv⟩ := he
 refine ⟨hp, E, bg F k fp, fun _ _ => rfl, hv, ?_⟩
 rw [hu]
 exact hs.Xf hk hent hfp hlt hkeep
end
end
section
open Go.RowKit
section
variable {P : Program} {W : World} {bs : List Nat} {nt : Nat} {ds : Aux} {σ : St} {ops : Array Oper} (Γ : Env P)
def WZ (dst : Option Nat) (r : List Oper) (κ : Nat) (φ : Fr) (h : Hp) (s : S) : RG :=
 B8 s (lX Γ W bs nt ops r (κ + 1) (nz φ dst s.fv) (aY h s.bg))
theorem R3 (κ : Nat) (φ : Fr) (h : Hp) : lX Γ W bs nt ops [] κ φ h = ⟨True, κ, φ, h, [], [], []⟩ := rfl
theorem Na (o : Oper) (r : List Oper) (κ : Nat) (φ : Fr) (h : Hp) : lX Γ W bs nt ops (o :: r) κ φ h = WZ (W := W) (bs := bs) (nt := nt) (ops := ops) Γ o.dst r κ φ h (step Γ W bs nt ops κ φ h o) := rfl
theorem TG (dst : Option Nat) (r : List Oper) (κ : Nat) (φ : Fr) (h : Hp) (side : Prop) (fv : FV) (u : List (Nat × Option bm)) (pan : Option (List PanicEntry)) (pupd reads uk : List Nat) :
  WZ (W := W) (bs := bs) (nt := nt) (ops := ops) Γ dst r κ φ h ⟨side, fv, u, pan, pupd, reads, uk⟩ = B8 ⟨side, fv, u, pan, pupd, reads, uk⟩ (lX Γ W bs nt ops r (κ + 1) (nz φ dst fv) (aY h u)) := rfl
theorem Rd (side side' : Prop) (n : Nat) (fv : FV) (u : List (Nat × Option bm)) (pan : Option (List PanicEntry)) (pupd reads uk lost : List Nat) (φ : Fr) (h : Hp) (pans : List (Option (List PanicEntry))) (fx : List (List Nat × List Nat)) :
  B8 ⟨side, fv, u, pan, pupd, reads, uk⟩ ⟨side', n, φ, h, pans, lost, fx⟩ = ⟨side /\ side', n, φ, h, pan :: pans, uk ++ pupd ++ lost, (uk, reads) :: fx⟩ := rfl
def N3 (Γ : Env P) (dst : Option Nat) (r : List Oper) (κ : Nat) (φ : Fr) (h : Hp) (s : S) : RP := match s.pan with
 | some c => ⟨s.side, some c, s.uk ++ s.pupd⟩
 | none => Dn s (uc Γ W bs nt ops r (κ + 1) (nz φ dst s.fv) (aY h s.bg))
theorem Kv (o : Oper) (r : List Oper) (κ : Nat) (φ : Fr) (h : Hp) : uc Γ W bs nt ops (o :: r) κ φ h = N3 (W := W) (bs := bs) (nt := nt) (ops := ops) Γ o.dst r κ φ h (step Γ W bs nt ops κ φ h o) := rfl
theorem Ex (dst : Option Nat) (r : List Oper) (κ : Nat) (φ : Fr) (h : Hp) (side : Prop) (fv : FV) (u : List (Nat × Option bm)) (c : List PanicEntry) (pupd reads uk : List Nat) :
  N3 (W := W) (bs := bs) (nt := nt) (ops := ops) Γ dst r κ φ h ⟨side, fv, u, some c, pupd, reads, uk⟩ = ⟨side, some c, uk ++ pupd⟩ := rfl
theorem Gw (dst : Option Nat) (r : List Oper) (κ : Nat) (φ : Fr) (h : Hp) (side : Prop) (fv : FV) (u : List (Nat × Option bm)) (pupd reads uk : List Nat) :
  N3 (W := W) (bs := bs) (nt := nt) (ops := ops) Γ dst r κ φ h ⟨side, fv, u, none, pupd, reads, uk⟩ = Dn ⟨side, fv, u, none, pupd, reads, uk⟩ (uc Γ W bs nt ops r (κ + 1) (nz φ dst fv) (aY h u)) := rfl
theorem Oh (side side' : Prop) (fv : FV) (u : List (Nat × Option bm)) (pan : Option (List PanicEntry)) (pupd reads uk lost : List Nat) (c : Option (List PanicEntry)) :
  Dn ⟨side, fv, u, pan, pupd, reads, uk⟩ ⟨side', c, lost⟩ = ⟨side /\ side', c, uk ++ pupd ++ lost⟩ := rfl
def cH : Op -> Bool
 | .pick _ _ _ => true
 | _ => false
theorem Jr :
  (∀ (x : Operand), cH (.move x) = false) /\
  (∀ (x : Operand), cH (.assign x) = false) /\
  (∀ (elem : TypeId), cH (.alloc elem) = false) /\
  (∀ (elem : TypeId) (v : Operand), cH (.box elem v) = false) /\
  (∀ (t : TypeId) (parts : Array (Nat × Operand)), cH (.build t parts) = false) /\
  (∀ (t : TypeId) (len : Nat) (parts : Array (Nat × Operand)), cH (.buildSlice t len parts) = false) /\
  (∀ (t : TypeId) (addr : Operand), cH (.load t addr) = false) /\
  (∀ (t : TypeId) (addr val : Operand), cH (.store t addr val) = false) /\
  (∀ (x : Operand), cH (.nilCheck x) = false) /\
  (∀ (op : BinOp) (xType : TypeId) (x y : Operand) (yType : TypeId), cH (.binOp op xType x y yType) = false) /\
  (∀ (op : UnOp) (xType : TypeId) (x : Operand), cH (.unOp op xType x) = false) /\
  (∀ (src dst : TypeId) (x : Operand), cH (.convert src dst x) = false) /\
  (∀ (xType : TypeId) (x : Operand), cH (.makeInterface xType x) = false) /\
  (∀ (fn : Fn) (first captured : Array Operand), cH (.makeFunc fn first captured) = false) /\
  (∀ (t : TypeId) (len cap : Operand), cH (.makeSlice t len cap) = false) /\
  (∀ (xType : TypeId) (x : Operand) (low high max : Option Operand), cH (.slice xType x low high max) = false) /\
  (∀ (xType : TypeId) (x : Operand) (field : Nat), cH (.fieldAddr xType x field) = false) /\
  (∀ (xType : TypeId) (x : Operand) (field : Nat), cH (.field xType x field) = false) /\
  (∀ (xType : TypeId) (x index : Operand), cH (.indexAddr xType x index) = false) /\
  (∀ (xType : TypeId) (x index : Operand), cH (.index xType x index) = false) /\
  (∀ (x : Operand) (xType asserted : TypeId) (commaOk : Bool), cH (.typeAssert x xType asserted commaOk) = false) /\
  (∀ (tuple : Operand) (index : Nat), cH (.extract tuple index) = false) /\
  (∀ (c : Call), cH (.call c) = false) /\
  (∀ (x : Operand), cH (.panic x) = false) := by
 refine ⟨?_, ?_, ?_, ?_, ?_, ?_, ?_, ?_, ?_, ?_, ?_, ?_, ?_, ?_, ?_, ?_, ?_, ?_, ?_, ?_, ?_, ?_, ?_, ?_⟩ <;> (intros; rfl)
def rf (nt : Nat) : Option Nat -> Prop
 | some d => d < nt
 | none => True
theorem Cf (d : Option Nat) : (∀ i, d = some i -> i < nt) = rf nt d := by
 cases d <;> simp [rf]
def I1 (nt : Nat) (dst : Option Nat) (un : Bool) (p : Prop) (b : Bool) (q : Prop) (r : R) : S :=
 ⟨p /\ q /\ (b = true -> r.side) /\ rf nt dst, pA un b r.val, bif b then r.bg else [], bif b then r.pan else none, r.pupd, r.reads, b6 r.bg⟩
def IN (W : World) (bs : List Nat) (nt : Nat) (κ : Nat) (h : Hp) (dst : Option Nat) (un : Bool) (op : Op) (p : Prop) (b : Bool) (e : Prop × List SV) : S :=
 I1 nt dst un p b e.1 (dx Γ W bs κ h op e.2)
def stepG (W : World) (bs : List Nat) (nt : Nat) (κ : Nat) (φ : Fr) (h : Hp) (dst : Option Nat) (un : Bool) (op : Op) (g : Prop × Bool) : S :=
 IN Γ W bs nt κ h dst un op g.1 g.2 (lR φ g.2 op.operands.toList)
theorem R1 (κ : Nat) (φ : Fr) (h : Hp) (dst : Option Nat) (op : Op) (ty : TypeId) (pos : String) (after : Array Edge) (guard : Option (Nat × Bool)) (hop : cH op = false) :
  step Γ W bs nt ops κ φ h ⟨dst, op, ty, pos, after, guard⟩ = stepG Γ W bs nt κ φ h dst guard.isNone op (gE φ ops guard) := by
 rw [dH Γ (by rintro c x y rfl; cases hop)]
 simp only [stepG, IN, I1, Cf]
theorem P2 (κ : Nat) (φ : Fr) (h : Hp) (dst : Option Nat) (un : Bool) (op : Op) (p : Prop) (b : Bool) :
  stepG Γ W bs nt κ φ h dst un op (p, b) = IN Γ W bs nt κ h dst un op p b (lR φ b op.operands.toList) := rfl
theorem Pf (κ : Nat) (h : Hp) (dst : Option Nat) (un : Bool) (op : Op) (p : Prop) (b : Bool) (q : Prop) (l : List SV) :
  IN Γ W bs nt κ h dst un op p b (q, l) = I1 nt dst un p b q (dx Γ W bs κ h op l) := rfl
theorem NZ (dst : Option Nat) (un : Bool) (p : Prop) (b : Bool) (q side : Prop) (val : SV) (u : List (Nat × Option bm)) (pan : Option (List PanicEntry)) (pupd reads : List Nat) :
  I1 nt dst un p b q ⟨side, val, u, pan, pupd, reads⟩ = ⟨p /\ q /\ (b = true -> side) /\ rf nt dst, pA un b val, bif b then u else [], bif b then pan else none, pupd, reads, b6 u⟩ := rfl
def zh (nt : Nat) (φ : Fr) (dst : Option Nat) (un : Bool) (x y : Operand) (p : Prop) (g : Bool) : Prop × SV -> S
 | (q, .v (.bool cb)) => ⟨p /\ q /\ (cb = true -> (kX φ (g && cb) x).1) /\ (cb = false -> (kX φ (g && !cb) y).1) /\ rf nt dst, pA un g (q9 cb (kX φ (g && cb) x).2 (kX φ (g && !cb) y).2), [], none, [], [], []⟩
 | _ => ⟨False, .any, [], none, [], [], []⟩
def Oo (nt : Nat) (φ : Fr) (dst : Option Nat) (un : Bool) (c x y : Operand) (g : Prop × Bool) : S := zh nt φ dst un x y g.1 g.2 (kX φ g.2 c)
theorem JV (κ : Nat) (φ : Fr) (h : Hp) (dst : Option Nat) (c x y : Operand) (ty : TypeId) (pos : String) (after : Array Edge) (guard : Option (Nat × Bool)) :
  step Γ W bs nt ops κ φ h ⟨dst, .pick c x y, ty, pos, after, guard⟩ = Oo nt φ dst guard.isNone c x y (gE φ ops guard) := by
 simp only [step, Oo, Cf]
 split
 ·rename_i cb hcb
  rw [show kX φ (gE φ ops guard).2 c = ((kX φ (gE φ ops guard).2 c).1, .v (.bool cb)) from by rw [<- hcb]]
  rfl
 ·rename_i hn
  unfold zh
  split
  ·rename_i q cb he
   exact absurd (by rw [he]) (hn cb)
  ·rfl
theorem Pp (φ : Fr) (dst : Option Nat) (un : Bool) (c x y : Operand) (p : Prop) (g : Bool) : Oo nt φ dst un c x y (p, g) = zh nt φ dst un x y p g (kX φ g c) := rfl
theorem L6 (φ : Fr) (dst : Option Nat) (un : Bool) (x y : Operand) (p q : Prop) (g cb : Bool) : zh nt φ dst un x y p g (q, .v (.bool cb)) =
  ⟨p /\ q /\ (cb = true -> (kX φ (g && cb) x).1) /\ (cb = false -> (kX φ (g && !cb) y).1) /\ rf nt dst, pA un g (q9 cb (kX φ (g && cb) x).2 (kX φ (g && !cb) y).2), [], none, [], [], []⟩ := rfl
def XL (w : Bool) : FV -> Prop × SV
 | .is x => (True, x)
 | .cnd b x => (w = true -> b = true, x)
 | .any => (w = false, .v undef)
theorem T4 (φ : Fr) (w : Bool) (t : Nat) : kX φ w (.tmp t) = XL w (φ t) := by
 simp only [kX, XL]; cases φ t <;> rfl
theorem Vk (w : Bool) (x : SV) : XL w (.is x) = (True, x) := rfl
theorem Tp (w b : Bool) (x : SV) : XL w (.cnd b x) = (w = true -> b = true, x) := rfl
theorem I5 (φ : Fr) (w : Bool) (v : Value) : kX φ w (.const v) = (True, .v v) := rfl
theorem GF (φ : Fr) (w : Bool) (g : Nat) : kX φ w (.global g) = (True, .v (.pointer (some ⟨g, 0, none⟩))) := rfl
theorem NC (φ : Fr) (w : Bool) (f : Nat) : kX φ w (.func f) = (True, .v (.func (.func f) #[] #[])) := rfl
def Yt : Prop × SV -> Prop × List SV -> Prop × List SV := fun a b => (a.1 /\ b.1, a.2 :: b.2)
theorem Tb (φ : Fr) (w : Bool) : lR φ w [] = (True, []) := rfl
theorem QH (φ : Fr) (w : Bool) (o : Operand) (r : List Operand) : lR φ w (o :: r) = Yt (kX φ w o) (lR φ w r) := rfl
theorem U1 (p q : Prop) (x : SV) (l : List SV) : Yt (p, x) (q, l) = (p /\ q, x :: l) := rfl
def Nc (want : Bool) : FV -> Prop × Bool
 | .is (.v (.bool b)) => (True, b == want)
 | .cnd c (.v (.bool b)) => (True, c && (b == want))
 | _ => (False, false)
def Vm (φ : Fr) (want : Bool) : Option Nat -> Prop × Bool
 | some d => Nc want (φ d)
 | none => (False, false)
theorem PD (φ : Fr) : gE φ ops none = (True, true) := rfl
theorem Qr (φ : Fr) (j : Nat) (want : Bool) : gE φ ops (some (j, want)) = Vm φ want ((ops[j]?).bind (·.dst)) := by
 simp only [gE, Vm]
 cases (ops[j]?).bind (·.dst) with
 | none => rfl
 | some d => simp only [Nc]; split <;> simp_all
theorem JL (φ : Fr) (want : Bool) (d : Nat) : Vm φ want (some d) = Nc want (φ d) := rfl
theorem S8 (want b : Bool) : Nc want (.is (.v (.bool b))) = (True, b == want) := rfl
theorem Nk (want b c : Bool) : Nc want (.cnd c (.v (.bool b))) = (True, c && (b == want)) := rfl
theorem T3 (w : Bool) (x : SV) : pA true w x = .is x := rfl
theorem Vx (w : Bool) (x : SV) : pA false w x = .cnd w x := rfl
theorem DL (c a b : Bool) : q9 c (.v (.bool a)) (.v (.bool b)) = .v (.bool (bif c then a else b)) := rfl
theorem Pr {α : Type} (f : Nat -> α) (k : Nat) (x : α) (j : Nat) : bg f k x j = if j = k then x else f j := rfl
theorem Mj (φ : Fr) (d : Nat) (x : FV) : nz φ (some d) x = bg φ d x := rfl
theorem JQ (φ : Fr) (x : FV) : nz φ none x = φ := rfl
theorem OR {α : Type} (f : Nat -> α) : aY f [] = f := rfl
theorem JN {α : Type} (f : Nat -> α) (k : Nat) (x : α) (r : List (Nat × α)) : aY f ((k, x) :: r) = aY (bg f k x) r := rfl
theorem SA (t : Nat) : bV [] t = .any := rfl
theorem Ox (t k : Nat) (x : FV) (r : List (Nat × FV)) : bV ((k, x) :: r) t = if t = k then x else bV r t := rfl
theorem SS (t : Nat) : cd [] t = none := rfl
theorem QD (t k : Nat) (x : bm) (r : List (Nat × bm)) : cd ((k, x) :: r) t = if t = k then some x else cd r t := rfl
theorem Gi (n d : Nat) : rf n (some d) = (d < n) := rfl
theorem Gh (n : Nat) : rf n none = True := rfl
section
variable {κ : Nat} {h : Hp}
theorem PA (o : Operand) (x : SV) : dx Γ W bs κ h (.move o) [x] = .ok x := rfl
theorem E3 (o : Operand) (x : SV) : dx Γ W bs κ h (.assign o) [x] = .ok x := rfl
theorem JP (T : TypeId) : dx Γ W bs κ h (.alloc T) [] = gm P κ T := rfl
theorem Tz (T : TypeId) (o : Operand) (l : List SV) : dx Γ W bs κ h (.box T o) l = qG κ T l := rfl
theorem Lu (T : TypeId) (ps : Array (Nat × Operand)) (l : List SV) : dx Γ W bs κ h (.build T ps) l = cU P T (ps.toList.map (·.1)) l := rfl
theorem sX (T : TypeId) (n : Nat) (ps : Array (Nat × Operand)) (l : List SV) : dx Γ W bs κ h (.buildSlice T n ps) l = bj P κ T n (ps.toList.map (·.1)) l := rfl
theorem PO (T : TypeId) (o : Operand) (l : List SV) : dx Γ W bs κ h (.load T o) l = cZ P W bs h T l := rfl
theorem Kh (T : TypeId) (o o' : Operand) (l : List SV) : dx Γ W bs κ h (.store T o o') l = fX P h T l := rfl
theorem yH (o : Operand) (l : List SV) : dx Γ W bs κ h (.nilCheck o) l = cP h l := rfl
theorem Ma (op : BinOp) (T : TypeId) (x y : Operand) (r : TypeId) (l : List SV) : dx Γ W bs κ h (.binOp op T x y r) l = bF P Γ.eqs h op T x y l := rfl
theorem N1 (op : UnOp) (T : TypeId) (x : Operand) (l : List SV) : dx Γ W bs κ h (.unOp op T x) l = pF op l := rfl
theorem AA (a b : TypeId) (x : Operand) (l : List SV) : dx Γ W bs κ h (.convert a b x) l = fy P h a b l := rfl
theorem wq (T : TypeId) (x y : Operand) (l : List SV) : dx Γ W bs κ h (.makeSlice T x y) l = j5 P κ T l := rfl
theorem KE (x : Operand) (l : List SV) : dx Γ W bs κ h (.panic x) l = jM l := rfl
theorem pt (T : TypeId) (o : Operand) (l : List SV) : dx Γ W bs κ h (.makeInterface T o) l = lz P T l := rfl
theorem Mh (T : TypeId) (o : Operand) (lo hi mx : Option Operand) (l : List SV) : dx Γ W bs κ h (.slice T o lo hi mx) l = dX P κ h T lo.isSome hi.isSome mx.isSome l := rfl
theorem EG (T : TypeId) (lo hi mx : Bool) (x : Value) (r : List SV) : dX P κ h T lo hi mx (.v x :: r) = cL P T lo hi mx (.v x :: r) := rfl
theorem vO (T : TypeId) (o : Operand) (f : Nat) (l : List SV) : dx Γ W bs κ h (.fieldAddr T o f) l = b8 P h T f l := rfl
theorem Jg (T : TypeId) (o : Operand) (f : Nat) (l : List SV) : dx Γ W bs κ h (.field T o f) l = fh P T f l := rfl
theorem vG (T : TypeId) (o i : Operand) (l : List SV) : dx Γ W bs κ h (.indexAddr T o i) l = bo P h T l := rfl
theorem Ky (T : TypeId) (o i : Operand) (l : List SV) : dx Γ W bs κ h (.index T o i) l = et P T l := rfl
theorem BN (o : Operand) (i : Nat) (l : List SV) : dx Γ W bs κ h (.extract o i) l = dK i l := rfl
theorem T5 (as_ : Array Operand) (T : TypeId) (l : List SV) : dx Γ W bs κ h (.call { callee := .builtin .len, args := as_, argTypes := #[T] }) l = gI P h T l := rfl
theorem DS (as_ : Array Operand) (tys : Array TypeId) (l : List SV) : dx Γ W bs κ h (.call { callee := .builtin .append, args := as_, argTypes := tys }) l = eg P W bs κ h tys.toList l := rfl
theorem OL (f : Operand) (as_ : Array Operand) (tys : Array TypeId) (l : List SV) : dx Γ W bs κ h (.call { callee := .value f, args := as_, argTypes := tys }) l = iG Γ W bs κ h l := rfl
theorem EA (f : Operand) (n : String) (as_ : Array Operand) (tys : Array TypeId) (l : List SV) : dx Γ W bs κ h (.call { callee := .invoke f n, args := as_, argTypes := tys }) l = gC Γ W bs κ h n l := rfl
theorem K7 (f : FuncId) (first cap : Array Value) (rest : List SV) : iG Γ W bs κ h (.v (.func (.func f) first cap) :: rest) = lk Γ W bs κ h f (first.toList.map .v ++ rest ++ cap.toList.map .v) := rfl
end
theorem Xh (k : Nat) (e : bm) (x : SV) : R.new k e x = ⟨True, x, [(k, some e)], none, [], []⟩ := rfl
theorem X8 (x : SV) : R.ok x = ⟨True, x, [], none, [], []⟩ := rfl
theorem Wu (p : Prop) (x : SV) : R.fF p x = ⟨p, x, [], none, [], []⟩ := rfl
theorem Xq (n : Nat) : nk n = 8 * n := rfl
theorem JM {α : Type} : b6 ([] : List (Nat × α)) = [] := rfl
theorem DT {α : Type} (k : Nat) (x : α) (r : List (Nat × α)) : b6 ((k, x) :: r) = k :: b6 r := rfl
theorem AG (l : List SV) : partsOf (.agg l) = l := rfl
theorem zI (cs : Array Value) : partsOf (.v (.agg cs)) = cs.toList.map .v := rfl
theorem CK (k : IntKind) (n : Int) : partsOf (.v (.int k n)) = [.v (.int k n)] := rfl
theorem uP (b : ByteArray) : partsOf (.v (.string b)) = [.v (.string b)] := rfl
theorem yz (b : Bool) : partsOf (.v (.bool b)) = [.v (.bool b)] := rfl
theorem vU (a : Option Addr) (n c : Nat) : partsOf (.v (.slice a n c)) = [.v (.slice a n c)] := rfl
theorem sd (a : Option Addr) : partsOf (.v (.pointer a)) = [.v (.pointer a)] := rfl
theorem wz (t : TypeId) (x : Value) : partsOf (.v (.iface t x)) = [.v (.iface t x)] := rfl
theorem qp : partsOf (.v .nilIface) = [.v .nilIface] := rfl
theorem CF (k o : Nat) : partsOf (.own k o) = [.own k o] := rfl
theorem FB (k : Nat) : partsOf (.hd k) = [.hd k] := rfl
theorem zy (k i : Nat) : partsOf (.part k i) = [.part k i] := rfl
theorem AD (t : TypeId) (x : SV) : partsOf (.ifc t x) = [.ifc t x] := rfl
theorem Lz (k : IntKind) (n : Int) : cq (.v (.int k n)) = true := rfl
theorem zw (b : ByteArray) : cq (.v (.string b)) = true := rfl
theorem GN (b : Bool) : cq (.v (.bool b)) = true := rfl
theorem C8 (a : Option Addr) (n c : Nat) : cq (.v (.slice a n c)) = true := rfl
theorem wx (a : Option Addr) : cq (.v (.pointer a)) = true := rfl
theorem Dk (t : TypeId) (x : Value) : cq (.v (.iface t x)) = true := rfl
theorem ui : cq (.v .nilIface) = true := rfl
theorem Lb (k o : Nat) : cq (.own k o) = true := rfl
theorem MQ (k : Nat) : cq (.hd k) = true := rfl
theorem DE (k i : Nat) : cq (.part k i) = true := rfl
theorem LN (t : TypeId) (x : SV) : cq (.ifc t x) = true := rfl
theorem Da (T : TypeId) (vs : List SV) : bW (some (.cells T vs)) = some vs := rfl
theorem JJ (T : TypeId) (s n : Nat) (vs : List SV) : bW (some (.row T s n vs)) = some vs := rfl
theorem yr (T : TypeId) (vs : List SV) (o : Nat) (ps : List SV) : mB (some (.cells T vs)) o ps = some (.cells T (ae vs o ps)) := rfl
theorem GY (T : TypeId) (s n : Nat) (vs : List SV) (o : Nat) (ps : List SV) : mB (some (.row T s n vs)) o ps = some (.row T s n (ae vs o ps)) := rfl
section
variable {κ : Nat} {h : Hp}
def Gg (κ : Nat) (T : TypeId) : Option (List Value) -> R
 | some zs => ⟨True, .own (8 * κ) 0, [(8 * κ, some (.cells T (zs.map .v)))], none, [], []⟩
 | none => .bad
theorem AE (T : TypeId) : gm P κ T = Gg κ T (tz P T) := by simp only [gm]; unfold Gg; cases tz P T <;> rfl
theorem AW (T : TypeId) (zs : List Value) : Gg κ T (some zs) = ⟨True, .own (8 * κ) 0, [(8 * κ, some (.cells T (zs.map .v)))], none, [], []⟩ := rfl
theorem LR (T : TypeId) (x : SV) : qG κ T [x] = ⟨True, .own (8 * κ) 0, [(8 * κ, some (.cells T (partsOf x)))], none, [], []⟩ := rfl
def G7 (o k : Nat) : Option Nat -> Option Bool -> Option (List SV) -> R
 | some sz, some true, some vs => ⟨o + sz <= vs.length /\ 0 < sz, .agg ((vs.drop o).take sz), [], none, [], [k]⟩
 | some _, some false, some vs => ⟨o < vs.length, vs.getD o (.v undef), [], none, [], [k]⟩
 | _, _, _ => .bad
theorem A2 (T : TypeId) (k o : Nat) : cZ P W bs h T [.own k o] = G7 o k (ts P T) (ta P T) (bW (h k)) := by
 simp only [cZ]; unfold G7
 rcases ts P T with _ | sz <;> rcases ta P T with _ | _ | _ <;> rcases bW (h k) with _ | vs <;> rfl
theorem L1 (o k sz : Nat) (vs : List SV) : G7 o k (some sz) (some true) (some vs) = ⟨o + sz <= vs.length /\ 0 < sz, .agg ((vs.drop o).take sz), [], none, [], [k]⟩ := rfl
theorem KV (o k sz : Nat) (vs : List SV) : G7 o k (some sz) (some false) (some vs) = ⟨o < vs.length, vs.getD o (.v undef), [], none, [], [k]⟩ := rfl
def Hv (W : World) (bs : List Nat) (b o : Nat) : Option Nat -> Option Bool -> R
 | some sz, some true => ⟨b ∉ bs /\ cM W b o sz, .agg (bA W b o sz), [], none, [], []⟩
 | some _, some false => ⟨b ∉ bs /\ (W.cell? ⟨b, o, none⟩).isSome = true, .v ((W.cell? ⟨b, o, none⟩).getD undef), [], none, [], []⟩
 | _, _ => .bad
theorem AT (T : TypeId) (b o : Nat) : cZ P W bs h T [.v (.pointer (some ⟨b, o, none⟩))] = Hv W bs b o (ts P T) (ta P T) := by
 simp only [cZ]; unfold Hv
 rcases ts P T with _ | sz <;> rcases ta P T with _ | _ | _ <;> rfl
theorem J1 (b o sz : Nat) : Hv W bs b o (some sz) (some true) = ⟨b ∉ bs /\ cM W b o sz, .agg (bA W b o sz), [], none, [], []⟩ := rfl
theorem Lc (b o sz : Nat) : Hv W bs b o (some sz) (some false) = ⟨b ∉ bs /\ (W.cell? ⟨b, o, none⟩).isSome = true, .v ((W.cell? ⟨b, o, none⟩).getD undef), [], none, [], []⟩ := rfl
theorem Ch (b o : Nat) : bA W b o 0 = [] := rfl
theorem CU (b o n : Nat) : bA W b o (n + 1) = .v ((W.cell? ⟨b, o, none⟩).getD undef) :: bA W b (o + 1) n := rfl
theorem BI (b o : Nat) : cM W b o 0 = True := rfl
theorem Dc (b o n : Nat) : cM W b o (n + 1) = ((W.cell? ⟨b, o, none⟩).isSome = true /\ cM W b (o + 1) n) := rfl
def EF (e : Option bm) (k o : Nat) (x : SV) : Option Nat -> Option (List SV) -> R
 | some sz, some vs => ⟨(partsOf x).length = sz /\ o + sz <= vs.length /\ (0 < sz \/ XD e = true) /\ (partsOf x).all cq = true, .v undef, [(k, mB e o (partsOf x))], none, [], [k]⟩
 | _, _ => .bad
theorem yG (T : TypeId) (k o : Nat) (x : SV) : fX P h T [.own k o, x] = EF (h k) k o x (ts P T) (bW (h k)) := by
 simp only [fX]; unfold EF
 rcases ts P T with _ | sz <;> rcases bW (h k) with _ | vs <;> rfl
theorem Cr (e : Option bm) (k o sz : Nat) (x : SV) (vs : List SV) : EF e k o x (some sz) (some vs) = ⟨(partsOf x).length = sz /\ o + sz <= vs.length /\ (0 < sz \/ XD e = true) /\ (partsOf x).all cq = true, .v undef, [(k, mB e o (partsOf x))], none, [], [k]⟩ := rfl
theorem L3 (T : TypeId) (vs : List SV) : XD (some (.cells T vs)) = true := rfl
def Yr (k o : Nat) : Option (Nat × Nat × Bool) -> Option (List SV) -> R
 | some (off, sz, _), some vs => ⟨0 < sz /\ o < vs.length, .own k (o + off), [], none, [], [k]⟩
 | _, _ => .bad
theorem pW (T : TypeId) (f k o : Nat) : b8 P h T f [.own k o] = Yr k o (tf P T f) (bW (h k)) := by
 simp only [b8]; unfold Yr
 rcases tf P T f with _ | ⟨a, b, c⟩ <;> rcases bW (h k) with _ | vs <;> rfl
theorem Ql (k o off sz : Nat) (ag : Bool) (vs : List SV) : Yr k o (some (off, sz, ag)) (some vs) = ⟨0 < sz /\ o < vs.length, .own k (o + off), [], none, [], [k]⟩ := rfl
def X5 (b o : Nat) : Option (Nat × Nat × Bool) -> R
 | some (off, sz, _) => ⟨0 < sz, .v (.pointer (some ⟨b, o + off, none⟩)), [], none, [], []⟩
 | _ => .bad
theorem qu (T : TypeId) (f b o : Nat) : b8 P h T f [.v (.pointer (some ⟨b, o, none⟩))] = X5 b o (tf P T f) := by
 simp only [b8]; unfold X5
 rcases tf P T f with _ | ⟨a, b, c⟩ <;> rfl
theorem Po (b o off sz : Nat) (ag : Bool) : X5 b o (some (off, sz, ag)) = ⟨0 < sz, .v (.pointer (some ⟨b, o + off, none⟩)), [], none, [], []⟩ := rfl
def qM (l : List SV) : Option (Nat × Nat × Bool) -> R
 | some (off, sz, ag) => ed ag off sz l
 | none => .bad
theorem zk (T : TypeId) (f : Nat) (l : List SV) : fh P T f [.agg l] = qM l (tf P T f) := by
 simp only [fh]; unfold qM
 rcases tf P T f with _ | ⟨a, b, c⟩ <;> rfl
theorem vL (T : TypeId) (f : Nat) (cs : Array Value) : fh P T f [.v (.agg cs)] = qM (cs.toList.map .v) (tf P T f) := by
 simp only [fh]; unfold qM
 rcases tf P T f with _ | ⟨a, b, c⟩ <;> rfl
theorem FU (l : List SV) (off sz : Nat) : qM l (some (off, sz, true)) = ⟨off + sz <= l.length, .agg ((l.drop off).take sz), [], none, [], []⟩ := rfl
theorem Fk (l : List SV) (off sz : Nat) : qM l (some (off, sz, false)) = ⟨off < l.length, l.getD off (.v undef), [], none, [], []⟩ := rfl
theorem uo (i : Nat) (l : List SV) : dK i [.tup l] = ⟨i < l.length, l.getD i (.v undef), [], none, [], []⟩ := rfl
theorem r9 (i : Nat) (vs : Array Value) : dK i [.v (.tuple vs)] = ⟨i < vs.size, .v (vs.getD i undef), [], none, [], []⟩ := rfl
theorem FF (eqs : (T : TypeId) -> Option (EqSpec P T)) (T : TypeId) (k k' : IntKind) (a b : Int) : aP P eqs .shl T [.v (.int k a), .v (.int k' b)] = ⟨0 <= b, .v (.int k (k.wrap (a * 2 ^ (min b.toNat k.bits)))), [], none, [], []⟩ := rfl
theorem Fb (eqs : (T : TypeId) -> Option (EqSpec P T)) (T : TypeId) (k k' : IntKind) (a b : Int) : aP P eqs .shr T [.v (.int k a), .v (.int k' b)] = ⟨0 <= b, .v (.int k (a.fdiv (2 ^ (min b.toNat k.bits)))), [], none, [], []⟩ := rfl
theorem GG (eqs : (T : TypeId) -> Option (EqSpec P T)) (T : TypeId) (k : IntKind) (a b : Int) :
  aP P eqs .add T [.v (.int k a), .v (.int k b)] = ⟨True, .v (.int k (k.wrap (a + b))), [], none, [], []⟩ /\
  aP P eqs .sub T [.v (.int k a), .v (.int k b)] = ⟨True, .v (.int k (k.wrap (a - b))), [], none, [], []⟩ /\
  aP P eqs .mul T [.v (.int k a), .v (.int k b)] = ⟨True, .v (.int k (k.wrap (a * b))), [], none, [], []⟩ /\
  aP P eqs .quo T [.v (.int k a), .v (.int k b)] = ⟨b ≠ 0, .v (.int k (k.wrap (a.tdiv b))), [], none, [], []⟩ /\
  aP P eqs .rem T [.v (.int k a), .v (.int k b)] = ⟨b ≠ 0, .v (.int k (a.tmod b)), [], none, [], []⟩ /\
  aP P eqs .and T [.v (.int k a), .v (.int k b)] = ⟨True, .v (.int k (bU .and k a b)), [], none, [], []⟩ /\
  aP P eqs .or T [.v (.int k a), .v (.int k b)] = ⟨True, .v (.int k (bU .or k a b)), [], none, [], []⟩ /\
  aP P eqs .xor T [.v (.int k a), .v (.int k b)] = ⟨True, .v (.int k (bU .xor k a b)), [], none, [], []⟩ /\
  aP P eqs .eql T [.v (.int k a), .v (.int k b)] = ⟨True, .v (.bool (decide (a = b))), [], none, [], []⟩ /\
  aP P eqs .neq T [.v (.int k a), .v (.int k b)] = ⟨True, .v (.bool (!decide (a = b))), [], none, [], []⟩ /\
  aP P eqs .lss T [.v (.int k a), .v (.int k b)] = ⟨True, .v (.bool (decide (a < b))), [], none, [], []⟩ /\
  aP P eqs .leq T [.v (.int k a), .v (.int k b)] = ⟨True, .v (.bool (decide (a <= b))), [], none, [], []⟩ /\
  aP P eqs .gtr T [.v (.int k a), .v (.int k b)] = ⟨True, .v (.bool (decide (b < a))), [], none, [], []⟩ /\
  aP P eqs .geq T [.v (.int k a), .v (.int k b)] = ⟨True, .v (.bool (decide (b <= a))), [], none, [], []⟩ := by
 simp [aP, wv, R.fF]
theorem GU (eqs : (T : TypeId) -> Option (EqSpec P T)) (T : TypeId) (a b : ByteArray) :
  aP P eqs .add T [.v (.string a), .v (.string b)] = ⟨a.size + b.size <= 9223372036854775807, .v (.string (a ++ b)), [], none, [], []⟩ /\
  aP P eqs .eql T [.v (.string a), .v (.string b)] = ⟨True, .v (.bool (decide (a = b))), [], none, [], []⟩ /\
  aP P eqs .neq T [.v (.string a), .v (.string b)] = ⟨True, .v (.bool (!decide (a = b))), [], none, [], []⟩ /\
  aP P eqs .lss T [.v (.string a), .v (.string b)] = ⟨True, .v (.bool (Op.bytesLess a.toList b.toList)), [], none, [], []⟩ /\
  aP P eqs .gtr T [.v (.string a), .v (.string b)] = ⟨True, .v (.bool (!(Op.bytesLess a.toList b.toList || decide (a = b)))), [], none, [], []⟩ := by
 simp [aP, Ks, R.fF]
theorem BQ (eqs : (T : TypeId) -> Option (EqSpec P T)) (T : TypeId) (a b : Bool) :
  aP P eqs .eql T [.v (.bool a), .v (.bool b)] = ⟨P.underlying T = some .bool, .v (.bool (a == b)), [], none, [], []⟩ /\
  aP P eqs .neq T [.v (.bool a), .v (.bool b)] = ⟨P.underlying T = some .bool, .v (.bool (!(a == b))), [], none, [], []⟩ := ⟨rfl, rfl⟩
def cE : List SV -> Option (List Value)
 | [] => some []
 | .v x :: r => (cE r).map (x :: ·)
 | _ => none
theorem jm : ∀ l : List SV, l9 (.agg l) = cE l
 | [] => rfl
 | x :: r => by
  have ih := jm r
  simp only [l9] at ih ⊢
  rw [List.mapM_cons, ih]
  cases x <;> simp [cE] <;> cases cE r <;> rfl
theorem sZ (cs : Array Value) : l9 (.v (.agg cs)) = some cs.toList := rfl
theorem I8 : cE [] = some [] := rfl
theorem GI (x : Value) (r : List SV) : cE (.v x :: r) = (cE r).map (x :: ·) := rfl
def Ml {T : TypeId} (neg : Bool) : Option (List Value) -> Option (List Value) -> Option (EqSpec P T) -> R
 | some xs, some ys, some e => ⟨(e.f xs ys).isSome = true, .v (.bool (neg ^^ (e.f xs ys).getD false)), [], none, [], []⟩
 | _, _, _ => .bad
theorem D2 (eqs : (T : TypeId) -> Option (EqSpec P T)) (T : TypeId) (l l' : List SV) :
  aP P eqs .eql T [.agg l, .agg l'] = Ml false (cE l) (cE l') (eqs T) /\ aP P eqs .neq T [.agg l, .agg l'] = Ml true (cE l) (cE l') (eqs T) := by
 simp only [aP, jm, sZ]
 constructor <;> (unfold Ml; rcases cE l with _ | xs <;> rcases cE l' with _ | ys <;> rcases eqs T with _ | e <;> simp [R.fF])
theorem CZ (eqs : (T : TypeId) -> Option (EqSpec P T)) (T : TypeId) (cs cs' : Array Value) :
  aP P eqs .eql T [.v (.agg cs), .v (.agg cs')] = Ml false (some cs.toList) (some cs'.toList) (eqs T) /\ aP P eqs .neq T [.v (.agg cs), .v (.agg cs')] = Ml true (some cs.toList) (some cs'.toList) (eqs T) := by
 simp only [aP, jm, sZ]
 refine ⟨?_, ?_⟩ <;> (unfold Ml; rcases eqs T with _ | e <;> simp [R.fF])
theorem Db (eqs : (T : TypeId) -> Option (EqSpec P T)) (T : TypeId) (cs : Array Value) (l : List SV) :
  aP P eqs .eql T [.v (.agg cs), .agg l] = Ml false (some cs.toList) (cE l) (eqs T) /\ aP P eqs .neq T [.v (.agg cs), .agg l] = Ml true (some cs.toList) (cE l) (eqs T) /\
  aP P eqs .eql T [.agg l, .v (.agg cs)] = Ml false (cE l) (some cs.toList) (eqs T) /\ aP P eqs .neq T [.agg l, .v (.agg cs)] = Ml true (cE l) (some cs.toList) (eqs T) := by
 simp only [aP, jm, sZ]
 refine ⟨?_, ?_, ?_, ?_⟩ <;> (unfold Ml; rcases cE l with _ | xs <;> rcases eqs T with _ | e <;> simp [R.fF])
theorem Pb {T : TypeId} (neg : Bool) (xs ys : List Value) (e : EqSpec P T) : Ml neg (some xs) (some ys) (some e) = ⟨(e.f xs ys).isSome = true, .v (.bool (neg ^^ (e.f xs ys).getD false)), [], none, [], []⟩ := rfl
theorem Lw (b : Bool) : pF .not [.v (.bool b)] = ⟨True, .v (.bool (!b)), [], none, [], []⟩ := rfl
theorem Jm (k : IntKind) (n : Int) : pF .neg [.v (.int k n)] = ⟨True, .v (.int k (k.wrap (0 - n))), [], none, [], []⟩ := rfl
theorem DD (T : TypeId) (s : ByteArray) : gI P h T [.v (.string s)] = ⟨P.underlying T = some .string, .v (.int .i64 s.size), [], none, [], []⟩ := rfl
theorem zD (T : TypeId) (a : Option Addr) (n c : Nat) : gI P h T [.v (.slice a n c)] = ⟨∃ e, P.underlying T = some (.slice e), .v (.int .i64 n), [], none, [], []⟩ := rfl
def UX (P : Program) (T : TypeId) (k : Nat) : Option bm -> R
 | some (.row _ _ n _) => ⟨∃ e, P.underlying T = some (.slice e), .v (.int .i64 n), [], none, [], [k]⟩
 | _ => .bad
theorem Jb (T : TypeId) (k : Nat) : gI P h T [.hd k] = UX P T k (h k) := by
 simp only [gI]; unfold UX
 rcases h k with _ | e
 ·rfl
 ·cases e <;> rfl
theorem Pm (T T' : TypeId) (k s n : Nat) (vs : List SV) : UX P T k (some (.row T' s n vs)) = ⟨∃ e, P.underlying T = some (.slice e), .v (.int .i64 n), [], none, [], [k]⟩ := rfl
def XV (P : Program) (k : Nat) (i : Int) : Option TypeDesc -> Option bm -> R
 | some (.slice e), some (.row _ size n _) => ⟨ts P e = some size /\ 0 <= i /\ i < n /\ 0 < size, .own k (i.toNat * size), [], none, [], [k]⟩
 | _, _ => .bad
theorem r8 (T : TypeId) (k : Nat) (ik : IntKind) (i : Int) : bo P h T [.hd k, .v (.int ik i)] = XV P k i (P.underlying T) (h k) := by
 simp only [bo]; unfold XV
 rcases P.underlying T with _ | d <;> rcases h k with _ | e
 ·rfl
 ·cases e <;> rfl
 ·cases d <;> rfl
 ·cases d <;> cases e <;> rfl
theorem Og (e e' : TypeId) (k size n : Nat) (i : Int) (vs : List SV) : XV P k i (some (.slice e)) (some (.row e' size n vs)) = ⟨ts P e = some size /\ 0 <= i /\ i < n /\ 0 < size, .own k (i.toNat * size), [], none, [], [k]⟩ := rfl
def XZ (b o n : Nat) (i : Int) : Option Nat -> R
 | some sz => ⟨0 <= i /\ i < n, .v (.pointer (some ⟨b, o + i.toNat * sz, none⟩)), [], none, [], []⟩
 | none => .bad
def Uj (P : Program) (b o n : Nat) (i : Int) : Option TypeDesc -> R
 | some (.slice e) => XZ b o n i (ts P e)
 | _ => .bad
theorem ql (T : TypeId) (b o n c : Nat) (ik : IntKind) (i : Int) : bo P h T [.v (.slice (some ⟨b, o, none⟩) n c), .v (.int ik i)] = Uj P b o n i (P.underlying T) := by
 simp only [bo]; unfold Uj
 rcases P.underlying T with _ | d
 ·rfl
 ·cases d <;> rfl
theorem Ju (e : TypeId) (b o n : Nat) (i : Int) : Uj P b o n i (some (.slice e)) = XZ b o n i (ts P e) := rfl
def XE (b o : Nat) (i : Int) (n : Nat) : Option Nat -> R
 | some sz => ⟨0 <= i /\ i < n /\ 1 < n, .v (.pointer (some ⟨b, o + i.toNat * sz, none⟩)), [], none, [], []⟩
 | none => .bad
def XX (P : Program) (b o : Nat) (i : Int) : Option TypeDesc -> R
 | some (.array n e) => XE b o i n (ts P e)
 | _ => .bad
theorem p7 (T : TypeId) (b o : Nat) (ik : IntKind) (i : Int) : bo P h T [.v (.pointer (some ⟨b, o, none⟩)), .v (.int ik i)] = XX P b o i (P.underlying T) := by
 simp only [bo]; unfold XX
 rcases P.underlying T with _ | d
 ·rfl
 ·cases d
  case array n e => unfold XE; cases ts P e <;> rfl
  all_goals rfl
theorem LX (b o n : Nat) (i : Int) (e : TypeId) : XX P b o i (some (.array n e)) = XE b o i n (ts P e) := rfl
theorem PG (b o n sz : Nat) (i : Int) : XE b o i n (some sz) = ⟨0 <= i /\ i < n /\ 1 < n, .v (.pointer (some ⟨b, o + i.toNat * sz, none⟩)), [], none, [], []⟩ := rfl
theorem Rb (b o n : Nat) (i : Int) (sz : Nat) : XZ b o n i (some sz) = ⟨0 <= i /\ i < n, .v (.pointer (some ⟨b, o + i.toNat * sz, none⟩)), [], none, [], []⟩ := rfl
theorem z7 (T : TypeId) (s : ByteArray) (ik : IntKind) (i : Int) : et P T [.v (.string s), .v (.int ik i)] = ⟨P.underlying T = some .string /\ 0 <= i /\ i < s.size, .v (.int .u8 (bt s i)), [], none, [], []⟩ := rfl
theorem zP (T : TypeId) (s : ByteArray) (k k' : IntKind) (a b : Int) : cL P T true true false [.v (.string s), .v (.int k a), .v (.int k' b)] = ⟨P.underlying T = some .string /\ 0 <= a /\ a <= b /\ b <= s.size, .v (.string (s.extract a.toNat b.toNat)), [], none, [], []⟩ := by
 simp [cL, gA, kT, R.fF]
theorem zf (T : TypeId) (s : ByteArray) (k : IntKind) (a : Int) : cL P T true false false [.v (.string s), .v (.int k a)] = ⟨P.underlying T = some .string /\ 0 <= a /\ a <= s.size, .v (.string (s.extract a.toNat s.size)), [], none, [], []⟩ := by
 simp [cL, gA, kT, R.fF]
theorem zN (T : TypeId) (s : ByteArray) (k' : IntKind) (b : Int) : cL P T false true false [.v (.string s), .v (.int k' b)] = ⟨P.underlying T = some .string /\ 0 <= b /\ b <= s.size, .v (.string (s.extract 0 b.toNat)), [], none, [], []⟩ := by
 simp [cL, gA, kT, R.fF]
theorem sb (a : Addr) : cP h [.v (.pointer (some a))] = ⟨True, .v (.pointer (some a)), [], none, [], []⟩ := rfl
theorem Qh (T : TypeId) (x : Value) : lz P T [.v x] = ⟨P.concrete T = true, .v (.iface T x), [], none, [], []⟩ := rfl
end
end
end
section
def YE := (ab @R3 (ab @Na (ab @TG (ab @Rd (ab @Jr (ab @R1 (ab @P2 (ab @Pf (ab @NZ (ab @JV (ab @Pp (ab @L6 (ab @T4 (ab @Vk (ab @Tp (ab @I5 (ab @GF (ab @NC (ab @Tb (ab @QH (ab @U1 (ab @PD (ab @Qr (ab @JL (ab @S8 (ab @Nk (ab @T3 (ab @Vx (ab @DL (ab @Pr (ab @Mj (ab @JQ (ab @OR (ab @JN (ab @SA (ab @Ox (ab @SS (ab @QD (ab @Gi (ab @Gh (ab @PA (ab @E3 (ab @JP (ab @Tz (ab @Lu (ab @sX (ab @PO (ab @Kh (ab @yH (ab @Ma @N1))))))))))))))))))))))))))))))))))))))))))))))))))
def Yz := (ab @AA (ab @wq (ab @KE (ab @pt (ab @Mh <| ab @EG (ab @vO (ab @Jg (ab @vG (ab @Ky (ab @BN (ab @T5 (ab @DS (ab @OL (ab @EA (ab @K7 (ab @Xh (ab @X8 (ab @Wu (ab @Xq (ab @JM (ab @DT (ab @AG (ab @zI (ab @CK (ab @uP (ab @yz (ab @vU (ab @sd (ab @wz (ab @qp (ab @CF (ab @FB (ab @zy (ab @AD (ab @Lz (ab @zw (ab @GN (ab @C8 (ab @wx (ab @Dk (ab @ui (ab @Lb (ab @MQ (ab @DE (ab @LN (ab @Da (ab @JJ (ab @yr (ab @GY (ab @AE @AW))))))))))))))))))))))))))))))))))))))))))))))))))
def YW := (ab @p7 (ab @LX (ab @PG (ab @L3 (ab @true_or (ab @LR (ab @A2 (ab @L1 (ab @KV (ab @AT (ab @J1 (ab @Lc (ab @Ch (ab @CU (ab @BI (ab @Dc (ab @yG (ab @Cr (ab @pW (ab @Ql (ab @qu (ab @Po (ab @zk (ab @vL (ab @FU (ab @Fk (ab @uo (ab @r9 (ab @FF (ab @Fb (ab @GG (ab @GU (ab @BQ (ab @I8 (ab @GI (ab @D2 (ab @CZ (ab @Db (ab @Pb (ab @Lw (ab @Jm (ab @DD (ab @zD (ab @Jb (ab @Pm (ab @r8 (ab @Og (ab @ql (ab @Ju (ab @Rb (ab @z7 (ab @zP (ab @zf (ab @zN (ab @sb @Qh)))))))))))))))))))))))))))))))))))))))))))))))))))))))
end
section
open Go.RowKit
def oh : List Value -> Nat -> List (Nat × FV)
 | [], _ => []
 | x :: r, i => (i, .is (.v x)) :: oh r (i + 1)
theorem Q9 (i : Nat) : oh [] i = [] := rfl
theorem K9 (x : Value) (r : List Value) (i : Nat) : oh (x :: r) i = (i, .is (.v x)) :: oh r (i + 1) := rfl
def σ0 (args : List Value) : St := ⟨0, bV (oh args 0), cd []⟩
theorem kj : ∀ (l : List Value) (i t : Nat), (bV (oh l i) t).keys = []
 | [], _, _ => rfl
 | x :: r, i, t => by
  simp only [oh, bV, bg]
  split
  ·rfl
  ·exact kj r (i + 1) t
theorem kG (E : Nat -> Value) : ∀ (l : List Value) (i t : Nat) (tm : Nat -> Value), (∀ j (h : j < l.length), tm (i + j) = l[j]) -> fits E (bV (oh l i) t) (tm t)
 | [], _, _, _, _ => trivial
 | x :: r, i, t, tm, h => by
  simp only [oh, bV, bg]
  split
  ·rename_i ht
   subst ht
   have := h 0 (by simp)
   simpa [fits, den] using this
  ·exact kG E r (i + 1) t tm fun j hj => by
    have := h (j + 1) (by simpa using hj)
    rw [show i + 1 + j = i + (j + 1) by omega]
    simpa using this
theorem nf {w : World} {nt m : Nat} (args : Array Value) (hnt : args.size + m = nt) :
  Sat w [] nt ⟨[], []⟩ (σ0 args.toList) { tmps := args ++ Array.replicate m undef, defers := [] } w := by
 refine ⟨⟨fun _ => undef, fun _ => [], fun t => ?_, ⟨fun k e h => (by cases h), fun k e h => (by cases h), fun k e h => (by cases h), fun k k' e e' _ h => (by cases h), ai.refl w []⟩, fun p hp => (by cases hp)⟩, by simpa using hnt, rfl, fun p hp => (by cases hp), fun t k hk => ?_, fun k e h => (by cases h)⟩
 ·refine kG _ args.toList 0 t (fun t => (args ++ Array.replicate m undef).getD t undef) fun j hj => ?_
  have hj' : j < args.size := by simpa using hj
  rw [Nat.zero_add, Array.getD_eq_getD_getElem?, Array.getElem?_append_left hj', Array.getElem?_eq_getElem hj']
  rfl
 ·simp only [σ0, kj] at hk; cases hk
section
variable {P : Program} {f : FuncId} {fn : Func} {c : Code} {args : Array Value} {w : World} {nt : Nat}
theorem al {v : Value} (rs : List ResultVar) (hf : P.funcs[f]? = some fn) (hb : fn.body = some c) (hrs : fn.results.toList = rs) (hnt : args.size + (fn.ntmps - args.size) = nt)
  (h : Wp P w [] nt ⟨[], []⟩ c (Fin P rs (fun _ _ x _ => ∀ E, den E x = v) (fun _ _ => False)) (σ0 args.toList)) :
  Calls P f args w fun e w' => e = .returned v /\ ai w [] w' := by
 subst hrs
 refine (jv hf hb (nf args hnt) h).mono fun e w' he => ?_
 cases e with
 | returned u =>
  obtain ⟨W', bs', E, F, x, h, hx, hR, rfl, hs, _⟩ := he
  exact ⟨by rw [hR E], hx.BY hs.keeps⟩
 | panicked c => obtain ⟨_, _, _, _, _, _, hf, _⟩ := he; exact hf.elim
 | outgrown => exact he.elim
def Yp (T : TypeId) (s n : Nat) (vs : List Value) (x : SV) (h : Hp) : Prop := 0 < s /\ ((∃ k, x = .hd k /\ h k = some (.row T s n (vs.map .v))) \/ (x = .v jL /\ n = 0 /\ vs = []))
theorem rH {T : TypeId} {s n : Nat} {vs : List Value} (g : Value -> Value) (rs : List ResultVar) (hf : P.funcs[f]? = some fn) (hb : fn.body = some c) (hrs : fn.results.toList = rs) (hnt : args.size + (fn.ntmps - args.size) = nt)
  (h : Wp P w [] nt ⟨[], []⟩ c (Fin P rs (fun _ _ x h => ∃ y, Yp T s n vs y h /\ ∀ E, den E x = g (den E y)) (fun _ _ => False)) (σ0 args.toList)) :
  Calls P f args w fun e w' => ∃ u fp, e = .returned (g u) /\ (∀ E', bn E' u fp w' (.row T s n (vs.map .v))) /\ (∀ b ∈ fp, w.heap.size <= b /\ b < w'.heap.size) /\ ai w [] w' := by
 subst hrs
 refine (jv hf hb (nf args hnt) h).mono fun e w' he => ?_
 cases e with
 | returned u =>
  obtain ⟨W', bs', E, F, x, h, hx, ⟨y, ⟨hs0, hR⟩, hg⟩, rfl, hs, _⟩ := he
  rcases hR with ⟨k, rfl, hk⟩ | ⟨rfl, rfl, rfl⟩
  ·have hent := hs.ent k _ hk
   refine ⟨E k, F k, by rw [hg E]; simp only [den]; rw [ix (cT hent)], fun E' => ?_, fun b hb => ⟨?_, hs.lt k _ hk b hb⟩, hx.BY hs.keeps⟩
   ·simpa [bn, az] using hent
   ·exact ((hs.back hx).mine k _ hk b hb).resolve_right (by simp)
  ·exact ⟨jL, [], by rw [hg E]; rfl, fun E' => ⟨⟨by simp [an], .inl ⟨rfl, rfl⟩⟩, rfl⟩, fun b hb => (by cases hb), hx.BY hs.keeps⟩
 | panicked c => obtain ⟨_, _, _, _, _, _, hf, _⟩ := he; exact hf.elim
 | outgrown => exact he.elim
end
inductive AV where
 | val (v : Value)
 | row (T : TypeId) (s n : Nat) (vs : List Value)
def iD (k : Nat) : Option bm -> Option (AV × List Nat)
 | some (.row T s n us) => (cE us).map fun vs => (.row T s n vs, [k])
 | _ => none
def cc (h : Hp) : SV -> Option (AV × List Nat)
 | .v x => some (.val x, [])
 | .agg l => (cE l).map fun vs => (.val (.agg vs.toArray), [])
 | .hd k => iD k (h k)
 | _ => none
def ji : Option (AV × List Nat) -> Option (List AV × List Nat) -> Option (List AV × List Nat)
 | some (a, r), some (as_, rs) => some (a :: as_, r ++ rs)
 | _, _ => none
def ay (h : Hp) : List SV -> Option (List AV × List Nat)
 | [] => some ([], [])
 | x :: r => ji (cc h x) (ay h r)
def uu (w : World) (u : Value) : AV -> Prop
 | .val v => u = v
 | .row T s n vs => w.ownsRow 0 T s u n vs
def ey (w : World) : List Value -> List AV -> Prop
 | [], [] => True
 | u :: r, a :: s => uu w u a /\ ey w r s
 | _, _ => False
theorem qQ {E : Nat -> Value} : ∀ {l : List SV} {vs : List Value}, cE l = some vs -> an E l = vs
 | [], vs, h => by simp [cE] at h; subst h; rfl
 | x :: r, vs, h => by
  cases x with
  | v x =>
   simp only [cE, Option.map_eq_some_iff] at h
   obtain ⟨ws, h1, rfl⟩ := h
   simp [an, den, qQ h1]
  | _ => simp [cE] at h
section
variable {P : Program} {W : World} {bs : List Nat} {E : Nat -> Value} {F : Nat -> List Nat} {h : Hp} {w : World}
theorem w9 (hs : ak W bs E F h w) {x : SV} {a : AV} {r : List Nat} (hv : cc h x = some (a, r)) : uu w (den E x) a := by
 cases x with
 | v x => simp [cc] at hv; obtain ⟨rfl, rfl⟩ := hv; rfl
 | agg l =>
  simp only [cc, Option.map_eq_some_iff, Prod.mk.injEq] at hv
  obtain ⟨vs, h1, rfl, rfl⟩ := hv
  simp [uu, den, qQ h1]
 | hd k =>
  simp only [cc] at hv
  cases hk : h k with
  | none => rw [hk] at hv; simp [iD] at hv
  | some e =>
   cases e with
   | row T s n us =>
    rw [hk] at hv
    simp only [iD, Option.map_eq_some_iff, Prod.mk.injEq] at hv
    obtain ⟨vs, h1, rfl, rfl⟩ := hv
    have := hs.ent k _ hk
    simp only [uu, den]
    rw [ix (cT this), <- qQ (E := E) h1]
    exact this.1
   | cells T vs => rw [hk] at hv; simp [iD] at hv
   | obj d R => rw [hk] at hv; simp [iD] at hv
 | own k o => simp [cc] at hv
 | tup l => simp [cc] at hv
 | ifc t x => simp [cc] at hv
 | part k i => simp [cc] at hv
 | fn f a c => simp [cc] at hv
theorem dA (hs : ak W bs E F h w) : ∀ {l : List SV} {as_ : List AV} {r : List Nat}, ay h l = some (as_, r) -> ey w (an E l) as_
 | [], as_, r, hv => by simp [ay] at hv; obtain ⟨rfl, rfl⟩ := hv; trivial
 | x :: l, as_, r, hv => by
  simp only [ay] at hv
  cases h1 : cc h x with
  | none => rw [h1] at hv; simp [ji] at hv
  | some p =>
   cases h2 : ay h l with
   | none => rw [h1, h2] at hv; simp [ji] at hv
   | some q =>
    obtain ⟨a, ra⟩ := p
    obtain ⟨as', rs⟩ := q
    rw [h1, h2] at hv
    simp only [ji, Option.some.injEq, Prod.mk.injEq] at hv
    obtain ⟨rfl, rfl⟩ := hv
    exact ⟨w9 hs h1, dA hs h2⟩
theorem xA {h' : Hp} {x : SV} {a : AV} {r : List Nat} (hv : cc h x = some (a, r)) (hr : ∀ k ∈ r, h' k = h k) : cc h' x = some (a, r) := by
 cases x with
 | hd k =>
  simp only [cc] at hv ⊢
  have : k ∈ r := by
   cases hk : h k with
   | none => rw [hk] at hv; simp [iD] at hv
   | some e =>
    cases e <;> rw [hk] at hv <;> simp [iD] at hv
    obtain ⟨vs, h1, rfl, rfl⟩ := hv
    simp
  rw [hr k this]; exact hv
 | _ => exact hv
theorem cD {h' : Hp} : ∀ {l : List SV} {as_ : List AV} {r : List Nat}, ay h l = some (as_, r) -> (∀ k ∈ r, h' k = h k) -> ay h' l = some (as_, r)
 | [], _, _, hv, _ => hv
 | x :: l, as_, r, hv, hr => by
  simp only [ay] at hv ⊢
  cases h1 : cc h x with
  | none => rw [h1] at hv; simp [ji] at hv
  | some p =>
   cases h2 : ay h l with
   | none => rw [h1, h2] at hv; simp [ji] at hv
   | some q =>
    obtain ⟨a, ra⟩ := p
    obtain ⟨as', rs⟩ := q
    rw [h1, h2] at hv
    simp only [ji, Option.some.injEq, Prod.mk.injEq] at hv
    obtain ⟨rfl, rfl⟩ := hv
    rw [xA h1 fun k hk => hr k (by simp [hk]), cD h2 fun k hk => hr k (by simp [hk])]
    rfl
end
structure a7 (P : Program) (f : FuncId) where
 pre : World -> List Nat -> List AV -> Prop
 res : World -> List AV -> Value
 enters : ∀ args w, (callFunc f args).run P w = .ok (.enter f args) w
 ok : ∀ (W w : World) (bs : List Nat) (us : List Value) (as_ : List AV), ai W bs w -> ey w us as_ -> pre W bs as_ -> Calls P f us.toArray w fun e w' => e = .returned (res W as_) /\ ai w [] w'
def CI (pre : World -> List Nat -> List AV -> Prop) (res : World -> List AV -> Value) (W : World) (bs : List Nat) : Option (List AV × List Nat) -> R
 | some (as_, rs) => ⟨pre W bs as_, .v (res W as_), [], none, [], rs⟩
 | none => .bad
def a7.spec {P : Program} {f : FuncId} (p : a7 P f) : Spec P f where
 ev := fun W bs _ h args => CI p.pre p.res W bs (ay h args)
 good := fun W bs κ E F h w K args hs hK hk hx hside => by
  rw [p.enters]
  cases hv : ay h args with
  | none => rw [hv] at hside; exact hside.elim
  | some q =>
   obtain ⟨as_, rs⟩ := q
   rw [hv] at hside
   exact qk hs (p.ok W w bs _ as_ hs.keeps (dA hs hv) hside) rfl rfl rfl
 keys := fun W bs κ h K args hK hx hside => by
  cases hv : ay h args with
  | none => rw [hv] at hside; exact hside.elim
  | some q => exact aH.plain (fun k hk => by cases hk) rfl
 loc := fun W bs κ h h' args hside hr => by
  cases hv : ay h args with
  | none => rw [hv] at hside; exact hside.elim
  | some q =>
   obtain ⟨as_, rs⟩ := q
   rw [hv] at hr
   rw [cD hv hr]
structure A5 (P : Program) (f : FuncId) where
 pre : World -> List Nat -> List AV -> Prop
 T : TypeId
 s : Nat
 n : World -> List AV -> Nat
 vs : World -> List AV -> List Value
 tm : World -> List AV -> SV -> SV
 g : World -> List AV -> Value -> Value
 tmg : ∀ W as_ E x, den E (tm W as_ x) = g W as_ (den E x)
 tmk : ∀ W as_ x, ∀ k ∈ (tm W as_ x).keys, k ∈ x.keys
 enters : ∀ args w, (callFunc f args).run P w = .ok (.enter f args) w
 ok : ∀ (W w : World) (bs : List Nat) (us : List Value) (as_ : List AV), ai W bs w -> ey w us as_ -> pre W bs as_ -> Calls P f us.toArray w fun e w' =>
  ∃ u fp, e = .returned (g W as_ u) /\ (∀ E', bn E' u fp w' (.row T s (n W as_) ((vs W as_).map .v))) /\ (∀ b ∈ fp, w.heap.size <= b /\ b < w'.heap.size) /\ ai w [] w'
def BR (κ : Nat) (T : TypeId) (s : Nat) (pre : World -> List Nat -> List AV -> Prop) (n : World -> List AV -> Nat) (vs : World -> List AV -> List Value) (tm : World -> List AV -> SV -> SV) (W : World) (bs : List Nat) : Option (List AV × List Nat) -> R
 | some (as_, rs) => ⟨pre W bs as_, tm W as_ (.hd (8 * κ)), [(8 * κ, some (.row T s (n W as_) ((vs W as_).map .v)))], none, [], rs⟩
 | none => .bad
def A5.spec {P : Program} {f : FuncId} (p : A5 P f) : Spec P f where
 ev := fun W bs κ h args => BR κ p.T p.s p.pre p.n p.vs p.tm W bs (ay h args)
 good := fun W bs κ E F h w K args hs hK hk hx hside => by
  rw [p.enters]
  cases hv : ay h args with
  | none => rw [hv] at hside; exact hside.elim
  | some q =>
   obtain ⟨as_, rs⟩ := q
   rw [hv] at hside
   refine ub hs hK hk ((p.ok W w bs _ as_ hs.keeps (dA hs hv) hside).mono fun e w' he => ?_) rfl rfl
   obtain ⟨u, fp, rfl, hent, hfp, hkeep⟩ := he
   refine ⟨_, u, fp, rfl, hent, hfp, hkeep, ?_⟩
   simp only [BR, p.tmg, den, nk, af]
   rw [ix (cT (hent E))]
 keys := fun W bs κ h K args hK hx hside => by
  cases hv : ay h args with
  | none => rw [hv] at hside; exact hside.elim
  | some q =>
   obtain ⟨as_, rs⟩ := q
   refine ⟨fun k hk => .inr ?_, fun q hq => ?_⟩
   ·have := p.tmk _ _ _ k hk
    simp [SV.keys] at this
    subst this
    exact aW κ
   ·simp only [BR, List.mem_singleton] at hq
    subst hq
    refine ⟨.inr (aW κ), fun e he k hk => ?_⟩
    simp only [Option.some.injEq] at he
    subst he
    simp only [bm.keys, aN] at hk
    cases hk
 loc := fun W bs κ h h' args hside hr => by
  cases hv : ay h args with
  | none => rw [hv] at hside; exact hside.elim
  | some q =>
   obtain ⟨as_, rs⟩ := q
   rw [hv] at hr
   rw [cD hv hr]
theorem Kc (h : Hp) : ay h [] = some ([], []) := rfl
theorem uj (h : Hp) (x : SV) (r : List SV) : ay h (x :: r) = ji (cc h x) (ay h r) := rfl
theorem TQ (h : Hp) (x : Value) : cc h (.v x) = some (.val x, []) := rfl
theorem JD (h : Hp) (l : List SV) : cc h (.agg l) = (cE l).map fun vs => (.val (.agg vs.toArray), []) := rfl
theorem Np (h : Hp) (k : Nat) : cc h (.hd k) = iD k (h k) := rfl
theorem Kw (k : Nat) (T : TypeId) (s n : Nat) (us : List SV) : iD k (some (.row T s n us)) = (cE us).map fun vs => (.row T s n vs, [k]) := rfl
theorem GH (a : AV) (r : List Nat) (as_ : List AV) (rs : List Nat) : ji (some (a, r)) (some (as_, rs)) = some (a :: as_, r ++ rs) := rfl
theorem aE (l : List Value) : cE (l.map .v) = some l := by
 induction l with
 | nil => rfl
 | cons x r ih => simp [cE, ih]
theorem GD (pre : World -> List Nat -> List AV -> Prop) (res : World -> List AV -> Value) (W : World) (bs : List Nat) (as_ : List AV) (rs : List Nat) : CI pre res W bs (some (as_, rs)) = ⟨pre W bs as_, .v (res W as_), [], none, [], rs⟩ := rfl
theorem Gx (κ : Nat) (T : TypeId) (s : Nat) (pre : World -> List Nat -> List AV -> Prop) (n : World -> List AV -> Nat) (vs : World -> List AV -> List Value) (tm : World -> List AV -> SV -> SV) (W : World) (bs : List Nat) (as_ : List AV) (rs : List Nat) :
  BR κ T s pre n vs tm W bs (some (as_, rs)) = ⟨pre W bs as_, tm W as_ (.hd (8 * κ)), [(8 * κ, some (.row T s (n W as_) ((vs W as_).map .v)))], none, [], rs⟩ := rfl
end
section
open Go.RowKit
section
variable {P : Program} {W : World} {bs : List Nat} {κ : Nat} {h : Hp}
def qR (fl : List (Nat × Nat)) (cells : List SV) (l : List (Nat × SV)) : Option (List SV) := cN (fun i => fl[i]?) cells l
def O6 (fl : List (Nat × Nat)) (cells : List SV) (r : List (Nat × SV)) (x : SV) : Option (Nat × Nat) -> Option (List SV)
 | some (off, size) => if (partsOf x).length = size /\ off + size <= cells.length then qR fl (ae cells off (partsOf x)) r else none
 | none => none
theorem x9 (fl : List (Nat × Nat)) (cells : List SV) : qR fl cells [] = some cells := rfl
theorem Ev (fl : List (Nat × Nat)) (cells : List SV) (i : Nat) (x : SV) (r : List (Nat × SV)) : qR fl cells ((i, x) :: r) = O6 fl cells r x (fl[i]?) := by
 simp only [qR, cN, O6]
 cases fl[i]? <;> rfl
theorem EM (fl : List (Nat × Nat)) (cells : List SV) (r : List (Nat × SV)) (x : SV) (off size : Nat) :
  O6 fl cells r x (some (off, size)) = if (partsOf x).length = size /\ off + size <= cells.length then qR fl (ae cells off (partsOf x)) r else none := rfl
def F0 : Option (List SV) -> R
 | some cells => ⟨True, .agg cells, [], none, [], []⟩
 | none => .bad
theorem KR (l : List SV) : F0 (some l) = ⟨True, .agg l, [], none, [], []⟩ := rfl
def D0 (idx : List Nat) (args : List SV) : Option (List Value) -> Option (List (Nat × Nat)) -> R
 | some zs, some fl => F0 (qR fl (zs.map .v) (idx.zip args))
 | _, _ => .bad
theorem CA (idx : List Nat) (args : List SV) (zs : List Value) (fl : List (Nat × Nat)) : D0 idx args (some zs) (some fl) = F0 (qR fl (zs.map .v) (idx.zip args)) := rfl
theorem aw (T : TypeId) (idx : List Nat) (args : List SV) (hs : (oy P T).isSome = true) : cU P T idx args = D0 idx args (tz P T) (oy P T) := by
 have hu : ∃ fs, P.underlying T = some (.struct fs) := by
  unfold oy at hs
  split at hs
  ·rename_i fs hfs; exact ⟨fs, hfs⟩
  ·cases hs
 obtain ⟨fs, hu⟩ := hu
 obtain ⟨fl, hfl⟩ := Option.isSome_iff_exists.1 hs
 unfold cU D0
 rw [hu, hfl]
 cases tz P T with
 | none => rfl
 | some zs =>
  simp only [qR, F0]
  cases cN (fun i => fl[i]?) (zs.map .v) (idx.zip args) <;> rfl
def oG (sz : Nat) (cells : List SV) (l : List (Nat × SV)) : Option (List SV) := cN (fun i => some (i * sz, sz)) cells l
theorem Ki (sz : Nat) (cells : List SV) : oG sz cells [] = some cells := rfl
theorem Ec (sz : Nat) (cells : List SV) (i : Nat) (x : SV) (r : List (Nat × SV)) :
  oG sz cells ((i, x) :: r) = if (partsOf x).length = sz /\ i * sz + sz <= cells.length then oG sz (ae cells (i * sz) (partsOf x)) r else none := rfl
def SM (κ : Nat) (e : TypeId) (sz len : Nat) (p : Prop) : Option (List SV) -> R
 | some cells => ⟨p, .hd (8 * κ), [(8 * κ, some (.row e sz len cells))], none, [], []⟩
 | none => .bad
theorem KF (e : TypeId) (sz len : Nat) (p : Prop) (l : List SV) : SM κ e sz len p (some l) = ⟨p, .hd (8 * κ), [(8 * κ, some (.row e sz len l))], none, [], []⟩ := rfl
def XG (κ : Nat) (e : TypeId) (len : Nat) (idx : List Nat) (args : List SV) : Option Nat -> Option (List Value) -> R
 | some sz, some zs => SM κ e sz len (len * sz <= 16777216 /\ zs.length = sz /\ 0 < sz) (oG sz ((List.replicate len zs).flatten.map .v) (idx.zip args))
 | _, _ => .bad
theorem Q2 (e : TypeId) (len : Nat) (idx : List Nat) (args : List SV) (sz : Nat) (zs : List Value) :
  XG κ e len idx args (some sz) (some zs) = SM κ e sz len (len * sz <= 16777216 /\ zs.length = sz /\ 0 < sz) (oG sz ((List.replicate len zs).flatten.map .v) (idx.zip args)) := rfl
def Yl (P : Program) (κ : Nat) (len : Nat) (idx : List Nat) (args : List SV) : Option TypeDesc -> R
 | some (.slice e) => XG κ e len idx args (ts P e) (tz P e)
 | _ => .bad
theorem Jj (len : Nat) (idx : List Nat) (args : List SV) (e : TypeId) : Yl P κ len idx args (some (.slice e)) = XG κ e len idx args (ts P e) (tz P e) := rfl
theorem ah (T : TypeId) (len : Nat) (idx : List Nat) (args : List SV) : bj P κ T len idx args = Yl P κ len idx args (P.underlying T) := by
 unfold bj Yl
 rcases P.underlying T with _ | d
 ·rfl
 ·cases d with
  | slice e =>
   simp only [XG]
   rcases ts P e with _ | sz <;> rcases tz P e with _ | zs
   ·rfl
   ·rfl
   ·rfl
   ·simp only [SM, oG]
    cases cN (fun i => some (i * sz, sz)) ((List.replicate len zs).flatten.map .v) (idx.zip args) <;> rfl
  | _ => rfl
def Sx (P : Program) (κ k j : Nat) (tys : List TypeId) : Option bm -> Option bm -> R
 | some (.row e sz n vs), some (.row _ sz' m us) => match tys, ox P e, tz P e with
  | [T, T'], some by_, some zs => ⟨T' = T /\ P.underlying T = some (.slice e) /\ ts P e = some sz /\ zs.length = sz /\ 0 < sz /\ sz' = sz /\ k ≠ j /\ 0 < m /\ n + m <= maxLen /\ (n + m) * by_ <= 140737488355328 /\ us.all cq = true, .hd (8 * κ), [(k, none), (8 * κ, some (.row e sz (n + m) (vs ++ us)))], none, [], [k, j]⟩
  | _, _, _ => .bad
 | _, _ => .bad
theorem EI (tys : List TypeId) (k j : Nat) : eg P W bs κ h tys [.hd k, .hd j] = Sx P κ k j tys (h k) (h j) := by
 simp only [eg]
 unfold Sx
 rcases h k with _ | e <;> rcases h j with _ | e'
 ·rcases tys with _ | ⟨a, _ | ⟨b, _ | _⟩⟩ <;> rfl
 ·rcases tys with _ | ⟨a, _ | ⟨b, _ | _⟩⟩ <;> rfl
 ·rcases tys with _ | ⟨a, _ | ⟨b, _ | _⟩⟩ <;> cases e <;> rfl
 ·rcases tys with _ | ⟨a, _ | ⟨b, _ | _⟩⟩ <;> cases e <;> cases e' <;> try rfl
  rename_i T s n vs T' s' n' vs'
  simp only []
  rcases ox P T with _ | x <;> rcases tz P T with _ | y <;> rfl
def UW (P : Program) (κ k j : Nat) (T T' e sz n sz' m : Nat) (vs us : List SV) : Option Nat -> Option (List Value) -> R
 | some by_, some zs => ⟨T' = T /\ P.underlying T = some (.slice e) /\ ts P e = some sz /\ zs.length = sz /\ 0 < sz /\ sz' = sz /\ k ≠ j /\ 0 < m /\ n + m <= maxLen /\ (n + m) * by_ <= 140737488355328 /\ us.all cq = true, .hd (8 * κ), [(k, none), (8 * κ, some (.row e sz (n + m) (vs ++ us)))], none, [], [k, j]⟩
 | _, _ => .bad
theorem QV (k j : Nat) (T T' e e' : TypeId) (sz n sz' m : Nat) (vs us : List SV) :
  Sx P κ k j [T, T'] (some (.row e sz n vs)) (some (.row e' sz' m us)) = UW P κ k j T T' e sz n sz' m vs us (ox P e) (tz P e) := by
 simp only [Sx, UW]
 rcases ox P e with _ | x <;> rcases tz P e with _ | y <;> rfl
theorem Jw (k j : Nat) (T T' e sz n sz' m : Nat) (vs us : List SV) (by_ : Nat) (zs : List Value) :
  UW P κ k j T T' e sz n sz' m vs us (some by_) (some zs) = ⟨T' = T /\ P.underlying T = some (.slice e) /\ ts P e = some sz /\ zs.length = sz /\ 0 < sz /\ sz' = sz /\ k ≠ j /\ 0 < m /\ n + m <= maxLen /\ (n + m) * by_ <= 140737488355328 /\ us.all cq = true, .hd (8 * κ), [(k, none), (8 * κ, some (.row e sz (n + m) (vs ++ us)))], none, [], [k, j]⟩ := rfl
def R7 (P : Program) (κ j : Nat) (T T' : TypeId) : Option TypeDesc -> Option bm -> R
 | some (.slice e), some (.row _ sz m us) => match ox P e, tz P e with
  | some by_, some zs => ⟨T' = T /\ ts P e = some sz /\ zs.length = sz /\ 0 < sz /\ 0 < m /\ m <= maxLen /\ m * by_ <= 140737488355328 /\ us.all cq = true, .hd (8 * κ), [(8 * κ, some (.row e sz m us))], none, [], [j]⟩
  | _, _ => .bad
 | _, _ => .bad
def Ss (κ k : Nat) (T T' e : TypeId) (sz n m : Nat) (vs us : List SV) (P : Program) (q : Prop) : Option Nat -> Option (List Value) -> R
 | some by_, some zs => ⟨T' = T /\ P.underlying T = some (.slice e) /\ ts P e = some sz /\ zs.length = sz /\ q /\ n + m <= maxLen /\ (n + m) * by_ <= 140737488355328 /\ us.all cq = true, .hd (8 * κ), [(k, none), (8 * κ, some (.row e sz (n + m) (vs ++ us)))], none, [], [k]⟩
 | _, _ => .bad
def S0 (P : Program) (W : World) (bs : List Nat) (κ k : Nat) (ao : Option Addr) (m : Nat) (T T' : TypeId) : Bool -> Option bm -> R
 | true, some (.row e sz n vs) => ⟨T' = T /\ P.underlying T = some (.slice e) /\ ts P e = some sz /\ m = 0, .hd k, [], none, [], [k]⟩
 | false, some (.row e sz n vs) => (match ao with
  | some ⟨b, o, none⟩ => Ss κ k T T' e sz n m vs (bA W b o (m * sz)) P (b ∉ bs /\ cM W b o (m * sz)) (ox P e) (tz P e)
  | _ => .bad)
 | _, _ => .bad
theorem EW (T T' : TypeId) (k m c : Nat) (ao : Option Addr) : eg P W bs κ h [T, T'] [.hd k, .v (.slice ao m c)] = S0 P W bs κ k ao m T T' (m == 0) (h k) := by
 simp only [eg]
 unfold S0
 rcases h k with _ | e
 ·cases (m == 0) <;> rfl
 ·cases e with
  | row e sz n vs =>
   cases (m == 0) with
   | true => rfl
   | false =>
    simp only [cond_false]
    rcases ao with _ | ⟨b, o, _ | s⟩
    ·rfl
    ·simp only [Ss]
     rcases ox P e with _ | x <;> rcases tz P e with _ | y <;> rfl
    ·rfl
  | _ => cases (m == 0) <;> rfl
theorem LK (k m : Nat) (ao : Option Addr) (T T' e : TypeId) (sz n : Nat) (vs : List SV) : S0 P W bs κ k ao m T T' true (some (.row e sz n vs)) = ⟨T' = T /\ P.underlying T = some (.slice e) /\ ts P e = some sz /\ m = 0, .hd k, [], none, [], [k]⟩ := rfl
theorem OV (k m b o : Nat) (T T' e : TypeId) (sz n : Nat) (vs : List SV) : S0 P W bs κ k (some ⟨b, o, none⟩) m T T' false (some (.row e sz n vs)) = Ss κ k T T' e sz n m vs (bA W b o (m * sz)) P (b ∉ bs /\ cM W b o (m * sz)) (ox P e) (tz P e) := rfl
theorem Li (k : Nat) (T T' e : TypeId) (sz n m : Nat) (vs us : List SV) (q : Prop) (by_ : Nat) (zs : List Value) : Ss κ k T T' e sz n m vs us P q (some by_) (some zs) = ⟨T' = T /\ P.underlying T = some (.slice e) /\ ts P e = some sz /\ zs.length = sz /\ q /\ n + m <= maxLen /\ (n + m) * by_ <= 140737488355328 /\ us.all cq = true, .hd (8 * κ), [(k, none), (8 * κ, some (.row e sz (n + m) (vs ++ us)))], none, [], [k]⟩ := rfl
def Rt (P : Program) (κ k : Nat) (s : ByteArray) (T T' : TypeId) : Option bm -> R
 | some (.row e sz n vs) => (match ox P e, tz P e with
  | some by_, some zs => ⟨P.underlying T' = some .string /\ P.underlying T = some (.slice e) /\ ts P e = some sz /\ zs.length = sz /\ sz = 1 /\ n + s.size <= maxLen /\ (n + s.size) * by_ <= 140737488355328, .hd (8 * κ), [(k, none), (8 * κ, some (.row e sz (n + s.size) (vs ++ (byteCells s).map .v)))], none, [], [k]⟩
  | _, _ => .bad)
 | _ => .bad
theorem C5 (T T' : TypeId) (k : Nat) (s : ByteArray) : eg P W bs κ h [T, T'] [.hd k, .v (.string s)] = Rt P κ k s T T' (h k) := by
 simp only [eg]
 unfold Rt
 rcases h k with _ | e
 ·rfl
 ·cases e with
  | _ => rfl
def VP (κ k : Nat) (s : ByteArray) (P : Program) (T T' e : TypeId) (sz n : Nat) (vs : List SV) : Option Nat -> Option (List Value) -> R
 | some by_, some zs => ⟨P.underlying T' = some .string /\ P.underlying T = some (.slice e) /\ ts P e = some sz /\ zs.length = sz /\ sz = 1 /\ n + s.size <= maxLen /\ (n + s.size) * by_ <= 140737488355328, .hd (8 * κ), [(k, none), (8 * κ, some (.row e sz (n + s.size) (vs ++ (byteCells s).map .v)))], none, [], [k]⟩
 | _, _ => .bad
theorem OJ (k : Nat) (s : ByteArray) (T T' e : TypeId) (sz n : Nat) (vs : List SV) : Rt P κ k s T T' (some (.row e sz n vs)) = VP κ k s P T T' e sz n vs (ox P e) (tz P e) := by
 simp only [Rt, VP]
theorem JR (k : Nat) (s : ByteArray) (T T' e : TypeId) (sz n : Nat) (vs : List SV) (by_ : Nat) (zs : List Value) : VP κ k s P T T' e sz n vs (some by_) (some zs) = ⟨P.underlying T' = some .string /\ P.underlying T = some (.slice e) /\ ts P e = some sz /\ zs.length = sz /\ sz = 1 /\ n + s.size <= maxLen /\ (n + s.size) * by_ <= 140737488355328, .hd (8 * κ), [(k, none), (8 * κ, some (.row e sz (n + s.size) (vs ++ (byteCells s).map .v)))], none, [], [k]⟩ := rfl
theorem DU (T T' : TypeId) (j : Nat) : eg P W bs κ h [T, T'] [.v (.slice none 0 0), .hd j] = R7 P κ j T T' (P.underlying T) (h j) := by
 simp only [eg]
 unfold R7
 rcases h j with _ | e'
 ·rcases P.underlying T with _ | d
  ·rfl
  ·cases d <;> rfl
 ·cases e' with
  | row e sz m us =>
   simp only []
   rcases P.underlying T with _ | d
   ·rfl
   ·cases d with
    | slice a =>
     simp only []
     rcases ox P a with _ | x <;> rcases tz P a with _ | y <;> rfl
    | _ => rfl
  | cells T2 vs =>
   rcases P.underlying T with _ | d
   ·rfl
   ·cases d <;> rfl
  | obj d R =>
   rcases P.underlying T with _ | d
   ·rfl
   ·cases d <;> rfl
def U9 (P : Program) (κ j : Nat) (T T' e sz m : Nat) (us : List SV) : Option Nat -> Option (List Value) -> R
 | some by_, some zs => ⟨T' = T /\ ts P e = some sz /\ zs.length = sz /\ 0 < sz /\ 0 < m /\ m <= maxLen /\ m * by_ <= 140737488355328 /\ us.all cq = true, .hd (8 * κ), [(8 * κ, some (.row e sz m us))], none, [], [j]⟩
 | _, _ => .bad
theorem O0 (j : Nat) (T T' e e' : TypeId) (sz m : Nat) (us : List SV) :
  R7 P κ j T T' (some (.slice e)) (some (.row e' sz m us)) = U9 P κ j T T' e sz m us (ox P e) (tz P e) := by
 simp only [R7, U9]
theorem K3 (j : Nat) (T T' e sz m : Nat) (us : List SV) (by_ : Nat) (zs : List Value) :
  U9 P κ j T T' e sz m us (some by_) (some zs) = ⟨T' = T /\ ts P e = some sz /\ zs.length = sz /\ 0 < sz /\ 0 < m /\ m <= maxLen /\ m * by_ <= 140737488355328 /\ us.all cq = true, .hd (8 * κ), [(8 * κ, some (.row e sz m us))], none, [], [j]⟩ := rfl
end
theorem aa {n : Int} (h1 : -9223372036854775808 <= n) (h2 : n <= 9223372036854775807) : IntKind.i64.wrap n = n := by
 simp only [IntKind.wrap, IntKind.bits, IntKind.signed, Bool.true_and, decide_eq_true_eq, show (2 : Int) ^ (64 - 1) = 9223372036854775808 from rfl, show (2 : Int) ^ 64 = 18446744073709551616 from rfl]
 split <;> omega
theorem TH (W : World) (b o : Nat) : bA W b o 1 = [.v ((W.cell? ⟨b, o, none⟩).getD undef)] := rfl
theorem Sg (W : World) (b o : Nat) : bA W b o 2 = [.v ((W.cell? ⟨b, o, none⟩).getD undef), .v ((W.cell? ⟨b, o + 1, none⟩).getD undef)] := rfl
theorem SL (W : World) (b o : Nat) : bA W b o 3 = [.v ((W.cell? ⟨b, o, none⟩).getD undef), .v ((W.cell? ⟨b, o + 1, none⟩).getD undef), .v ((W.cell? ⟨b, o + 2, none⟩).getD undef)] := rfl
theorem Tq (W : World) (b o : Nat) : bA W b o 4 = [.v ((W.cell? ⟨b, o, none⟩).getD undef), .v ((W.cell? ⟨b, o + 1, none⟩).getD undef), .v ((W.cell? ⟨b, o + 2, none⟩).getD undef), .v ((W.cell? ⟨b, o + 3, none⟩).getD undef)] := rfl
theorem Ta (W : World) (b o : Nat) : cM W b o 1 = ((W.cell? ⟨b, o, none⟩).isSome = true) := by simp [cM]
theorem RX (W : World) (b o : Nat) : cM W b o 2 = ((W.cell? ⟨b, o, none⟩).isSome = true /\ (W.cell? ⟨b, o + 1, none⟩).isSome = true) := by simp [cM]
theorem SD (W : World) (b o : Nat) : cM W b o 3 = ((W.cell? ⟨b, o, none⟩).isSome = true /\ (W.cell? ⟨b, o + 1, none⟩).isSome = true /\ (W.cell? ⟨b, o + 2, none⟩).isSome = true) := by simp [cM]
theorem Uc (W : World) (b o : Nat) : cM W b o 4 = ((W.cell? ⟨b, o, none⟩).isSome = true /\ (W.cell? ⟨b, o + 1, none⟩).isSome = true /\ (W.cell? ⟨b, o + 2, none⟩).isSome = true /\ (W.cell? ⟨b, o + 3, none⟩).isSome = true) := by simp [cM]
theorem SB (e e' : TypeId) : ((some (TypeDesc.slice e) : Option TypeDesc) = some (.slice e')) = (e = e') := by simp
theorem TO (e : TypeId) : (∃ e', (some (TypeDesc.slice e) : Option TypeDesc) = some (.slice e')) = True := by simp
theorem uL (i : Nat) (vs : Array Value) : dK i [.v (.tuple vs)] = ⟨i < vs.size, .v (vs.getD i undef), [], none, [], []⟩ := rfl
theorem KI (b : Builtin) (as_ : Array Operand) (tys : Array TypeId) : Call.operands { callee := .builtin b, args := as_, argTypes := tys } = as_ := by simp [Call.operands]
theorem J0 (f : Operand) (as_ : Array Operand) (tys : Array TypeId) : (Call.operands { callee := .value f, args := as_, argTypes := tys }).toList = f :: as_.toList := by simp [Call.operands]
theorem L7 (f : Operand) (n : String) (as_ : Array Operand) (tys : Array TypeId) : (Call.operands { callee := .invoke f n, args := as_, argTypes := tys }).toList = f :: as_.toList := by simp [Call.operands]
def Oz {P : Program} {f : FuncId} (W : World) (bs : List Nat) (κ : Nat) (h : Hp) (l : List SV) : Option (Spec P f) -> R
 | some s => s.ev W bs κ h l
 | none => .bad
theorem aO {P : Program} {W : World} {bs : List Nat} {κ : Nat} {h : Hp} (Γ : Env P) (f : FuncId) (l : List SV) : lk Γ W bs κ h f l = Oz W bs κ h l (Γ.sp f) := by
 simp only [lk, Oz]
 cases Γ.sp f <;> rfl
theorem au {P : Program} {f : FuncId} (W : World) (bs : List Nat) (κ : Nat) (h : Hp) (l : List SV) (s : Spec P f) : Oz W bs κ h l (some s) = s.ev W bs κ h l := rfl
theorem aB {P : Program} {f : FuncId} (p : a7 P f) (W : World) (bs : List Nat) (κ : Nat) (h : Hp) (l : List SV) : p.spec.ev W bs κ h l = CI p.pre p.res W bs (ay h l) := rfl
theorem Pa {P : Program} {f : FuncId} (p : A5 P f) (W : World) (bs : List Nat) (κ : Nat) (h : Hp) (l : List SV) : p.spec.ev W bs κ h l = BR κ p.T p.s p.pre p.n p.vs p.tm W bs (ay h l) := rfl
theorem P7 {P : Program} {W : World} {bs : List Nat} {σ : St} : gK P W bs σ [] = (True, []) := rfl
theorem LG {P : Program} {W : World} {bs : List Nat} {σ : St} (r : ResultVar) (l : List ResultVar) : gK P W bs σ (r :: l) = Yt (je P W bs σ r) (gK P W bs σ l) := rfl
def Vt : FV -> Prop × SV
 | .is x => (True, x)
 | .cnd b x => (b = true, x)
 | .any => (False, .v undef)
theorem Eu {P : Program} {W : World} {bs : List Nat} {σ : St} (t : Nat) : je P W bs σ (.tmp t) = Vt (σ.φ t) := by
 simp only [je, Vt]
 all_goals cases σ.φ t <;> rfl
theorem SU (x : SV) : Vt (.is x) = (True, x) := rfl
def OP (P : Program) (W : World) (bs : List Nat) (h : Hp) (T : TypeId) : FV -> Prop × SV
 | .is (.own k o) => resR (cZ P W bs h T [.own k o])
 | _ => (False, .v undef)
where resR (r : R) : Prop × SV := (r.side, r.val)
theorem BG {P : Program} {W : World} {bs : List Nat} {σ : St} (t : Nat) (T : TypeId) : je P W bs σ (.cell t T) = OP P W bs σ.h T (σ.φ t) := by
 simp only [je, OP]
 rcases σ.φ t with x | ⟨b, x⟩ | _
 ·cases x <;> rfl
 ·rfl
 ·rfl
theorem Qn {P : Program} {W : World} {bs : List Nat} {h : Hp} (T : TypeId) (k o : Nat) : OP P W bs h T (.is (.own k o)) = OP.resR (cZ P W bs h T [.own k o]) := rfl
theorem So (side : Prop) (val : SV) (u : List (Nat × Option bm)) (pan : Option (List PanicEntry)) (pupd reads : List Nat) : OP.resR ⟨side, val, u, pan, pupd, reads⟩ = (side, val) := rfl
theorem KA (x : SV) : jz [x] = x := rfl
theorem KY (x y : SV) (l : List SV) : jz (x :: y :: l) = .tup (x :: y :: l) := rfl
def Vh (R : World -> List Nat -> SV -> Hp -> Prop) (W : World) (bs : List Nat) (h : Hp) (x : Prop × List SV) : Prop := x.1 /\ R W bs (jz x.2) h
theorem mP {P : Program} {W : World} {bs : List Nat} {rs : List ResultVar} {R : World -> List Nat -> SV -> Hp -> Prop} {RP : List PanicEntry -> Hp -> Prop} {σ : St} : Fin P rs R RP .ret W bs σ = Vh R W bs σ.h (gK P W bs σ rs) := rfl
theorem gL {P : Program} {W : World} {bs : List Nat} {rs : List ResultVar} {R : World -> List Nat -> SV -> Hp -> Prop} {RP : List PanicEntry -> Hp -> Prop} {σ : St} : Fin P rs R RP .normal W bs σ = Vh R W bs σ.h (gK P W bs σ rs) := rfl
theorem TC (R : World -> List Nat -> SV -> Hp -> Prop) (W : World) (bs : List Nat) (h : Hp) (p : Prop) (l : List SV) : Vh R W bs h (p, l) = (p /\ R W bs (jz l) h) := rfl
end
section
def YZ := (ab @Kc (ab @uj (ab @TQ (ab @JD (ab @Np (ab @Kw (ab @GH (ab @aE (ab @GD (ab @Gx (ab @Q9 @K9)))))))))))
def Yy := (ab @EW (ab @LK (ab @OV (ab @Li (ab @C5 (ab @OJ (ab @JR (ab @x9 (ab @Ev (ab @EM (ab @KR (ab @CA (ab @Ki (ab @Ec (ab @KF (ab @Q2 (ab @Jj (ab @x9 (ab @EI (ab @QV (ab @Jw (ab @DU (ab @O0 (ab @K3 (ab @TH (ab @Sg (ab @SL (ab @Tq (ab @Ta (ab @RX (ab @SD (ab @Uc (ab @SB (ab @TO (ab @uL (ab @KI (ab @J0 (ab @L7 (ab @aO (ab @au (ab @aB (ab @Pa (ab @P7 (ab @LG (ab @Eu (ab @SU (ab @BG (ab @Qn (ab @So (ab @KA (ab @KY (ab @mP (ab @gL @TC)))))))))))))))))))))))))))))))))))))))))))))))))))))
end
end Go.LE
namespace Go.Proofs.YtnemkecffmdlnaaGreatDoor
section
open Go.RowKit Go.LE
theorem bP : Tryz.prog.follows .mixedOrders = true := by kernel_rfl
theorem jS : ts Tryz.prog 0 = some 1 := by kernel_rfl
theorem jP : ta Tryz.prog 0 = some false := by kernel_rfl
theorem Mv : ts Tryz.prog 1 = some 1 := by kernel_rfl
theorem Mq : ta Tryz.prog 1 = some false := by kernel_rfl
theorem Mr : tz Tryz.prog 1 = some [Value.nilFunc] := by kernel_rfl
theorem X9 : ts Tryz.prog 2 = some 1 := by kernel_rfl
theorem Yj : ta Tryz.prog 2 = some false := by kernel_rfl
theorem XP : tz Tryz.prog 2 = some [Value.int IntKind.i64 0] := by kernel_rfl
theorem Yk : Program.underlying Tryz.prog 2 = some (.int IntKind.i64) := by kernel_rfl
theorem jn : ts Tryz.prog 3 = some 1 := by kernel_rfl
theorem cQ : ta Tryz.prog 3 = some false := by kernel_rfl
theorem cV : ox Tryz.prog 3 = some 8 := by kernel_rfl
theorem cX : tz Tryz.prog 3 = some [Value.int IntKind.i64 0] := by kernel_rfl
theorem cS : Program.underlying Tryz.prog 3 = some (.int IntKind.i64) := by kernel_rfl
theorem da : ts Tryz.prog 4 = some 1 := by kernel_rfl
theorem c9 : ta Tryz.prog 4 = some false := by kernel_rfl
theorem c8 : tz Tryz.prog 4 = some [Value.bool false] := by kernel_rfl
theorem db : Program.underlying Tryz.prog 4 = some .bool := by kernel_rfl
theorem iv : ts Tryz.prog 5 = some 1 := by kernel_rfl
theorem ie : ta Tryz.prog 5 = some false := by kernel_rfl
theorem ig : ox Tryz.prog 5 = some 1 := by kernel_rfl
theorem ir : tz Tryz.prog 5 = some [Value.int IntKind.u8 0] := by kernel_rfl
theorem iw : Program.underlying Tryz.prog 5 = some (.int IntKind.u8) := by kernel_rfl
theorem eW : ts Tryz.prog 9 = some 1 := by kernel_rfl
theorem eV : ta Tryz.prog 9 = some false := by kernel_rfl
theorem eX : ox Tryz.prog 9 = some 16 := by kernel_rfl
theorem eZ : tz Tryz.prog 9 = some [Value.string { data := #[] }] := by kernel_rfl
theorem e8 : Program.underlying Tryz.prog 9 = some .string := by kernel_rfl
theorem e9 : Program.concrete Tryz.prog 9 = true := by kernel_rfl
theorem PY : ts Tryz.prog 20 = some 1 := by kernel_rfl
theorem Qc : ta Tryz.prog 20 = some false := by kernel_rfl
theorem Nt : tz Tryz.prog 20 = some [Value.nilIface] := by kernel_rfl
theorem PC : isIface Tryz.prog 20 = some true := by kernel_rfl
theorem C7 : ts Tryz.prog 22 = some 1 := by kernel_rfl
theorem Dq : ta Tryz.prog 22 = some false := by kernel_rfl
theorem B6 : tz Tryz.prog 22 = some [Value.slice none 0 0] := by kernel_rfl
theorem B7 : Program.underlying Tryz.prog 22 = some (.slice 9) := by kernel_rfl
theorem Ys : ts Tryz.prog 23 = some 1 := by kernel_rfl
theorem Yf : ta Tryz.prog 23 = some false := by kernel_rfl
theorem Ya : tz Tryz.prog 23 = some [Value.slice none 0 0] := by kernel_rfl
theorem X6 : Program.underlying Tryz.prog 23 = some (.slice 82) := by kernel_rfl
theorem WJ : ts Tryz.prog 25 = some 5 := by kernel_rfl
theorem Xe : ta Tryz.prog 25 = some true := by kernel_rfl
theorem Wx : tz Tryz.prog 25 = some [Value.slice none 0 0, Value.slice none 0 0, Value.slice none 0 0, Value.int IntKind.i64 0, Value.int IntKind.i64 0] := by kernel_rfl
theorem Xr : oy Tryz.prog 25 = some [(0, 1), (1, 1), (2, 1), (3, 1), (4, 1)] := by kernel_rfl
theorem Xn : tf Tryz.prog 25 0 = some (0, 1, false) := by kernel_rfl
theorem Xz : tf Tryz.prog 25 1 = some (1, 1, false) := by kernel_rfl
theorem Wt : tf Tryz.prog 25 2 = some (2, 1, false) := by kernel_rfl
theorem Xd : tf Tryz.prog 25 3 = some (3, 1, false) := by kernel_rfl
theorem Xl : tf Tryz.prog 25 4 = some (4, 1, false) := by kernel_rfl
theorem K5 : ts Tryz.prog 27 = some 1 := by kernel_rfl
theorem Ld : ta Tryz.prog 27 = some false := by kernel_rfl
theorem LY : tz Tryz.prog 27 = some [Value.slice none 0 0] := by kernel_rfl
theorem Mb : Program.underlying Tryz.prog 27 = some (.slice 50) := by kernel_rfl
theorem BX : ts Tryz.prog 29 = some 5 := by kernel_rfl
theorem Dd : ta Tryz.prog 29 = some true := by kernel_rfl
theorem Bi : tz Tryz.prog 29 = some [Value.slice none 0 0, Value.slice none 0 0, Value.slice none 0 0, Value.int IntKind.i64 0, Value.int IntKind.i64 0] := by kernel_rfl
theorem Ck : oy Tryz.prog 29 = some [(0, 1), (1, 1), (2, 1), (3, 1), (4, 1)] := by kernel_rfl
theorem BH : tf Tryz.prog 29 0 = some (0, 1, false) := by kernel_rfl
theorem BK : tf Tryz.prog 29 1 = some (1, 1, false) := by kernel_rfl
theorem BP : tf Tryz.prog 29 2 = some (2, 1, false) := by kernel_rfl
theorem Ce : tf Tryz.prog 29 3 = some (3, 1, false) := by kernel_rfl
theorem Ct : tf Tryz.prog 29 4 = some (4, 1, false) := by kernel_rfl
theorem Ym : ts Tryz.prog 31 = some 1 := by kernel_rfl
theorem Yd : ta Tryz.prog 31 = some false := by kernel_rfl
theorem SQ : ts Tryz.prog 33 = some 1 := by kernel_rfl
theorem RJ : ta Tryz.prog 33 = some false := by kernel_rfl
theorem SN : tz Tryz.prog 33 = some [Value.slice none 0 0] := by kernel_rfl
theorem Te : Program.underlying Tryz.prog 33 = some (.slice 85) := by kernel_rfl
theorem PM : ts Tryz.prog 35 = some 5 := by kernel_rfl
theorem Nr : ta Tryz.prog 35 = some true := by kernel_rfl
theorem Nn : tz Tryz.prog 35 = some [Value.slice none 0 0, Value.slice none 0 0, Value.slice none 0 0, Value.int IntKind.i64 0, Value.int IntKind.i64 0] := by kernel_rfl
theorem OK : oy Tryz.prog 35 = some [(0, 1), (1, 1), (2, 1), (3, 1), (4, 1)] := by kernel_rfl
theorem P8 : tf Tryz.prog 35 0 = some (0, 1, false) := by kernel_rfl
theorem PN : tf Tryz.prog 35 1 = some (1, 1, false) := by kernel_rfl
theorem Oe : tf Tryz.prog 35 2 = some (2, 1, false) := by kernel_rfl
theorem Nb : tf Tryz.prog 35 3 = some (3, 1, false) := by kernel_rfl
theorem OI : tf Tryz.prog 35 4 = some (4, 1, false) := by kernel_rfl
theorem ME : ts Tryz.prog 37 = some 1 := by kernel_rfl
theorem O7 : ta Tryz.prog 37 = some false := by kernel_rfl
theorem No : tz Tryz.prog 37 = some [Value.int IntKind.i64 0] := by kernel_rfl
theorem Qe : Program.underlying Tryz.prog 37 = some (.int IntKind.i64) := by kernel_rfl
theorem vY : ts Tryz.prog 39 = some 3 := by kernel_rfl
theorem vC : ta Tryz.prog 39 = some true := by kernel_rfl
theorem vZ : yp Tryz.prog 39 = some (.agg #[Value.int IntKind.i64 0, Value.int IntKind.i64 0, Value.string { data := #[] }]) := by kernel_rfl
theorem vD : tz Tryz.prog 39 = some [Value.int IntKind.i64 0, Value.int IntKind.i64 0, Value.string { data := #[] }] := by kernel_rfl
theorem vX : oy Tryz.prog 39 = some [(0, 1), (1, 1), (2, 1)] := by kernel_rfl
theorem vH : isIface Tryz.prog 39 = some false := by kernel_rfl
theorem wG : Program.concrete Tryz.prog 39 = true := by kernel_rfl
theorem vQ : tf Tryz.prog 39 0 = some (0, 1, false) := by kernel_rfl
theorem vW : tf Tryz.prog 39 1 = some (1, 1, false) := by kernel_rfl
theorem vS : tf Tryz.prog 39 2 = some (2, 1, false) := by kernel_rfl
theorem C1 : ts Tryz.prog 50 = some 4 := by kernel_rfl
theorem BF : ta Tryz.prog 50 = some true := by kernel_rfl
theorem Dt : ox Tryz.prog 50 = some 32 := by kernel_rfl
theorem CC : tz Tryz.prog 50 = some [Value.int IntKind.i64 0, Value.int IntKind.i64 0, Value.int IntKind.i64 0, Value.int IntKind.i64 0] := by kernel_rfl
theorem Dh : oy Tryz.prog 50 = some [(0, 1), (1, 1), (2, 1), (3, 1)] := by kernel_rfl
theorem B3 : tf Tryz.prog 50 0 = some (0, 1, false) := by kernel_rfl
theorem Dw : tf Tryz.prog 50 1 = some (1, 1, false) := by kernel_rfl
theorem Cn : tf Tryz.prog 50 2 = some (2, 1, false) := by kernel_rfl
theorem rK : tf Tryz.prog 50 3 = some (3, 1, false) := by kernel_rfl
theorem rB : ts Tryz.prog 62 = some 1 := by kernel_rfl
theorem rC : ta Tryz.prog 62 = some false := by kernel_rfl
theorem rG : tz Tryz.prog 62 = some [Value.slice none 0 0] := by kernel_rfl
theorem pJ : Program.underlying Tryz.prog 62 = some (.slice 243) := by kernel_rfl
theorem s3 : ts Tryz.prog 64 = some 2 := by kernel_rfl
theorem sY : ta Tryz.prog 64 = some true := by kernel_rfl
theorem tZ : tz Tryz.prog 64 = some [Value.slice none 0 0, Value.int IntKind.i64 0] := by kernel_rfl
theorem u9 : oy Tryz.prog 64 = some [(0, 1), (1, 1)] := by kernel_rfl
theorem s7 : tf Tryz.prog 64 0 = some (0, 1, false) := by kernel_rfl
theorem sP : tf Tryz.prog 64 1 = some (1, 1, false) := by kernel_rfl
theorem WE : ts Tryz.prog 82 = some 4 := by kernel_rfl
theorem Wm : ta Tryz.prog 82 = some true := by kernel_rfl
theorem Xs : ox Tryz.prog 82 = some 32 := by kernel_rfl
theorem Xi : tz Tryz.prog 82 = some [Value.int IntKind.i64 0, Value.int IntKind.i64 0, Value.int IntKind.i64 0, Value.int IntKind.i64 0] := by kernel_rfl
theorem WA : oy Tryz.prog 82 = some [(0, 1), (1, 1), (2, 1), (3, 1)] := by kernel_rfl
theorem WG : tf Tryz.prog 82 0 = some (0, 1, false) := by kernel_rfl
theorem Wn : tf Tryz.prog 82 1 = some (1, 1, false) := by kernel_rfl
theorem WM : tf Tryz.prog 82 2 = some (2, 1, false) := by kernel_rfl
theorem WH : tf Tryz.prog 82 3 = some (3, 1, false) := by kernel_rfl
theorem H3 : ts Tryz.prog 85 = some 4 := by kernel_rfl
theorem Hc : ta Tryz.prog 85 = some true := by kernel_rfl
theorem IF : ox Tryz.prog 85 = some 32 := by kernel_rfl
theorem HS : tz Tryz.prog 85 = some [Value.int IntKind.i64 0, Value.int IntKind.i64 0, Value.int IntKind.i64 0, Value.int IntKind.i64 0] := by kernel_rfl
theorem Ih : oy Tryz.prog 85 = some [(0, 1), (1, 1), (2, 1), (3, 1)] := by kernel_rfl
theorem Hz : tf Tryz.prog 85 0 = some (0, 1, false) := by kernel_rfl
theorem IB : tf Tryz.prog 85 1 = some (1, 1, false) := by kernel_rfl
theorem HT : tf Tryz.prog 85 2 = some (2, 1, false) := by kernel_rfl
theorem IX : tf Tryz.prog 85 3 = some (3, 1, false) := by kernel_rfl
theorem Oa : ts Tryz.prog 89 = some 1 := by kernel_rfl
theorem Ny : ta Tryz.prog 89 = some false := by kernel_rfl
theorem Q3 : tz Tryz.prog 89 = some [Value.slice none 0 0] := by kernel_rfl
theorem Nj : Program.underlying Tryz.prog 89 = some (.slice 5) := by kernel_rfl
theorem W8 : ts Tryz.prog 91 = some 2 := by kernel_rfl
theorem WB : ta Tryz.prog 91 = some true := by kernel_rfl
theorem Xt : tz Tryz.prog 91 = some [Value.pointer none, Value.slice none 0 0] := by kernel_rfl
theorem Wd : oy Tryz.prog 91 = some [(0, 1), (1, 1)] := by kernel_rfl
theorem Xj : tf Tryz.prog 91 0 = some (0, 1, false) := by kernel_rfl
theorem WQ : tf Tryz.prog 91 1 = some (1, 1, false) := by kernel_rfl
theorem WR : ts Tryz.prog 96 = some 1 := by kernel_rfl
theorem WC : ta Tryz.prog 96 = some false := by kernel_rfl
theorem WI : tz Tryz.prog 96 = some [Value.nilFunc] := by kernel_rfl
theorem Wj : ts Tryz.prog 145 = some 1 := by kernel_rfl
theorem Xx : ta Tryz.prog 145 = some false := by kernel_rfl
theorem WU : ts Tryz.prog 147 = some 1 := by kernel_rfl
theorem WY : ta Tryz.prog 147 = some false := by kernel_rfl
theorem Il : ts Tryz.prog 149 = some 1 := by kernel_rfl
theorem IQ : ta Tryz.prog 149 = some false := by kernel_rfl
theorem Ir : tz Tryz.prog 149 = some [Value.slice none 0 0] := by kernel_rfl
theorem HB : Program.underlying Tryz.prog 149 = some (.slice 3) := by kernel_rfl
theorem rz : ts Tryz.prog 151 = some 1 := by kernel_rfl
theorem rh : ta Tryz.prog 151 = some false := by kernel_rfl
theorem rm : tz Tryz.prog 151 = some [Value.nilIface] := by kernel_rfl
theorem rj : isIface Tryz.prog 151 = some true := by kernel_rfl
theorem Xw : ts Tryz.prog 152 = some 1 := by kernel_rfl
theorem WL : ta Tryz.prog 152 = some false := by kernel_rfl
theorem Hg : ts Tryz.prog 156 = some 1 := by kernel_rfl
theorem HH : ta Tryz.prog 156 = some false := by kernel_rfl
theorem Iz : tz Tryz.prog 156 = some [Value.int IntKind.i64 0] := by kernel_rfl
theorem IG : Program.underlying Tryz.prog 156 = some (.int IntKind.i64) := by kernel_rfl
theorem Un : ts Tryz.prog 160 = some 4 := by kernel_rfl
theorem Uk : ta Tryz.prog 160 = some true := by kernel_rfl
theorem Um : tz Tryz.prog 160 = some [Value.string { data := #[] }, Value.bool false, Value.int IntKind.i64 0, Value.int IntKind.i64 0] := by kernel_rfl
theorem UI : oy Tryz.prog 160 = some [(0, 1), (1, 1), (2, 1), (3, 1)] := by kernel_rfl
theorem Ut : tf Tryz.prog 160 0 = some (0, 1, false) := by kernel_rfl
theorem UJ : tf Tryz.prog 160 1 = some (1, 1, false) := by kernel_rfl
theorem Uu : tf Tryz.prog 160 2 = some (2, 1, false) := by kernel_rfl
theorem Ux : tf Tryz.prog 160 3 = some (3, 1, false) := by kernel_rfl
theorem UM : ts Tryz.prog 161 = some 84 := by kernel_rfl
theorem Ul : ta Tryz.prog 161 = some true := by kernel_rfl
theorem UA : Program.underlying Tryz.prog 161 = some (.array 21 160) := by kernel_rfl
theorem rv : ts Tryz.prog 203 = some 1 := by kernel_rfl
theorem ri : ta Tryz.prog 203 = some false := by kernel_rfl
theorem q7 : tz Tryz.prog 203 = some [Value.int IntKind.u64 0] := by kernel_rfl
theorem rD : Program.underlying Tryz.prog 203 = some (.int IntKind.u64) := by kernel_rfl
theorem Hx : ts Tryz.prog 229 = some 1 := by kernel_rfl
theorem He : ta Tryz.prog 229 = some false := by kernel_rfl
theorem HD : tz Tryz.prog 229 = some [Value.pointer none] := by kernel_rfl
theorem ID : iC Tryz.prog 229 = some true := by kernel_rfl
theorem II : Program.underlying Tryz.prog 229 = some (.pointer 232) := by kernel_rfl
theorem Mz : ts Tryz.prog 230 = some 1 := by kernel_rfl
theorem MM : ta Tryz.prog 230 = some false := by kernel_rfl
theorem Px : tz Tryz.prog 230 = some [Value.slice none 0 0] := by kernel_rfl
theorem P9 : Program.underlying Tryz.prog 230 = some (.slice 234) := by kernel_rfl
theorem HL : ts Tryz.prog 232 = some 2 := by kernel_rfl
theorem G9 : ta Tryz.prog 232 = some true := by kernel_rfl
theorem Hf : tz Tryz.prog 232 = some [Value.slice none 0 0, Value.slice none 0 0] := by kernel_rfl
theorem Iu : oy Tryz.prog 232 = some [(0, 1), (1, 1)] := by kernel_rfl
theorem Hy : tf Tryz.prog 232 0 = some (0, 1, false) := by kernel_rfl
theorem H2 : tf Tryz.prog 232 1 = some (1, 1, false) := by kernel_rfl
theorem G6 : ts Tryz.prog 234 = some 6 := by kernel_rfl
theorem HC : ta Tryz.prog 234 = some true := by kernel_rfl
theorem Hh : ox Tryz.prog 234 = some 48 := by kernel_rfl
theorem G4 : tz Tryz.prog 234 = some [Value.int IntKind.i64 0, Value.int IntKind.i64 0, Value.int IntKind.i64 0, Value.int IntKind.u8 0, Value.int IntKind.i64 0, Value.int IntKind.i64 0] := by kernel_rfl
theorem Ia : oy Tryz.prog 234 = some [(0, 1), (1, 1), (2, 1), (3, 1), (4, 1), (5, 1)] := by kernel_rfl
theorem HR : tf Tryz.prog 234 0 = some (0, 1, false) := by kernel_rfl
theorem Hk : tf Tryz.prog 234 1 = some (1, 1, false) := by kernel_rfl
theorem IL : tf Tryz.prog 234 2 = some (2, 1, false) := by kernel_rfl
theorem Ii : tf Tryz.prog 234 3 = some (3, 1, false) := by kernel_rfl
theorem HA : tf Tryz.prog 234 4 = some (4, 1, false) := by kernel_rfl
theorem Iy : tf Tryz.prog 234 5 = some (5, 1, false) := by kernel_rfl
theorem Qp : ts Tryz.prog 236 = some 1 := by kernel_rfl
theorem QW : ta Tryz.prog 236 = some false := by kernel_rfl
theorem QE : tz Tryz.prog 236 = some [Value.pointer none] := by kernel_rfl
theorem M4 : iC Tryz.prog 236 = some true := by kernel_rfl
theorem Pe : Program.underlying Tryz.prog 236 = some (.pointer 234) := by kernel_rfl
theorem Wh : ts Tryz.prog 238 = some 1 := by kernel_rfl
theorem Xa : ta Tryz.prog 238 = some false := by kernel_rfl
theorem xW : ts Tryz.prog 241 = some 256 := by kernel_rfl
theorem xo : ta Tryz.prog 241 = some true := by kernel_rfl
theorem yo : tz Tryz.prog 241 = some (List.replicate 256 (Value.bool false)) := by kernel_rfl
theorem xL : Program.underlying Tryz.prog 241 = some (.array 256 4) := by kernel_rfl
theorem o7 : ts Tryz.prog 243 = some 261 := by kernel_rfl
theorem qX : ta Tryz.prog 243 = some true := by kernel_rfl
theorem qZ : ox Tryz.prog 243 = some 296 := by kernel_rfl
theorem oI : tz Tryz.prog 243 = some ([Value.int IntKind.i64 0] ++ (List.replicate 256 (Value.bool false)) ++ [Value.int IntKind.i64 0] ++ [Value.int IntKind.i64 0] ++ [Value.int IntKind.i64 0] ++ [Value.int IntKind.i64 0]) := by kernel_rfl
theorem rQ : oy Tryz.prog 243 = some [(0, 1), (1, 256), (257, 1), (258, 1), (259, 1), (260, 1)] := by kernel_rfl
theorem rM : tf Tryz.prog 243 0 = some (0, 1, false) := by kernel_rfl
theorem qT : tf Tryz.prog 243 1 = some (1, 256, true) := by kernel_rfl
theorem rE : tf Tryz.prog 243 2 = some (257, 1, false) := by kernel_rfl
theorem qU : tf Tryz.prog 243 3 = some (258, 1, false) := by kernel_rfl
theorem q5 : tf Tryz.prog 243 4 = some (259, 1, false) := by kernel_rfl
theorem rS : tf Tryz.prog 243 5 = some (260, 1, false) := by kernel_rfl
theorem Ww : ts Tryz.prog 244 = some 1 := by kernel_rfl
theorem Xy : ta Tryz.prog 244 = some false := by kernel_rfl
theorem AQ : ts Tryz.prog 248 = some 1 := by kernel_rfl
theorem Bg : ta Tryz.prog 248 = some false := by kernel_rfl
theorem A6 : tz Tryz.prog 248 = some [Value.pointer none] := by kernel_rfl
theorem CP : iC Tryz.prog 248 = some true := by kernel_rfl
theorem AN : Program.underlying Tryz.prog 248 = some (.pointer 64) := by kernel_rfl
theorem tt : ts Tryz.prog 249 = some 1 := by kernel_rfl
theorem tS : ta Tryz.prog 249 = some false := by kernel_rfl
theorem tN : tz Tryz.prog 249 = some [Value.pointer none] := by kernel_rfl
theorem uE : iC Tryz.prog 249 = some true := by kernel_rfl
theorem uz : Program.underlying Tryz.prog 249 = some (.pointer 251) := by kernel_rfl
theorem ud : ts Tryz.prog 251 = some 3 := by kernel_rfl
theorem tO : ta Tryz.prog 251 = some true := by kernel_rfl
theorem s5 : tz Tryz.prog 251 = some [Value.string { data := #[] }, Value.int IntKind.i64 0, Value.slice none 0 0] := by kernel_rfl
theorem uN : oy Tryz.prog 251 = some [(0, 1), (1, 1), (2, 1)] := by kernel_rfl
theorem tn : tf Tryz.prog 251 0 = some (0, 1, false) := by kernel_rfl
theorem vh : tf Tryz.prog 251 1 = some (1, 1, false) := by kernel_rfl
theorem te : tf Tryz.prog 251 2 = some (2, 1, false) := by kernel_rfl
theorem IC : ts Tryz.prog 252 = some 1 := by kernel_rfl
theorem I0 : ta Tryz.prog 252 = some false := by kernel_rfl
theorem Ie : tz Tryz.prog 252 = some [Value.nilFunc] := by kernel_rfl
theorem oU : ts Tryz.prog 254 = some 2 := by kernel_rfl
theorem pD : ta Tryz.prog 254 = some true := by kernel_rfl
theorem oR : tz Tryz.prog 254 = some [Value.int IntKind.i64 0, Value.nilFunc] := by kernel_rfl
theorem oE : oy Tryz.prog 254 = some [(0, 1), (1, 1)] := by kernel_rfl
theorem px : tf Tryz.prog 254 0 = some (0, 1, false) := by kernel_rfl
theorem pI : tf Tryz.prog 254 1 = some (1, 1, false) := by kernel_rfl
theorem PZ : ts Tryz.prog 279 = some 1 := by kernel_rfl
theorem Ph : ta Tryz.prog 279 = some true := by kernel_rfl
theorem OW : yp Tryz.prog 279 = some (.agg #[Value.nilIface]) := by kernel_rfl
theorem QY : tz Tryz.prog 279 = some [Value.nilIface] := by kernel_rfl
theorem Ps : oy Tryz.prog 279 = some [(0, 1)] := by kernel_rfl
theorem Od : isIface Tryz.prog 279 = some false := by kernel_rfl
theorem ML : Program.concrete Tryz.prog 279 = true := by kernel_rfl
theorem P3 : tf Tryz.prog 279 0 = some (0, 1, false) := by kernel_rfl
theorem QT : ts Tryz.prog 281 = some 2 := by kernel_rfl
theorem N6 : ta Tryz.prog 281 = some true := by kernel_rfl
theorem Ni : yp Tryz.prog 281 = some (.agg #[Value.nilIface, Value.nilIface]) := by kernel_rfl
theorem NF : tz Tryz.prog 281 = some [Value.nilIface, Value.nilIface] := by kernel_rfl
theorem PW : oy Tryz.prog 281 = some [(0, 1), (1, 1)] := by kernel_rfl
theorem QS : isIface Tryz.prog 281 = some false := by kernel_rfl
theorem M6 : Program.concrete Tryz.prog 281 = true := by kernel_rfl
theorem OZ : tf Tryz.prog 281 0 = some (0, 1, false) := by kernel_rfl
theorem MO : tf Tryz.prog 281 1 = some (1, 1, false) := by kernel_rfl
theorem G1 : ts Tryz.prog 283 = some 0 := by kernel_rfl
theorem G2 : ta Tryz.prog 283 = some true := by kernel_rfl
theorem H7 : yp Tryz.prog 283 = some (.agg #[]) := by kernel_rfl
theorem Ht : tz Tryz.prog 283 = some [] := by kernel_rfl
theorem H6 : oy Tryz.prog 283 = some [] := by kernel_rfl
theorem Hr : isIface Tryz.prog 283 = some false := by kernel_rfl
theorem Hs : Program.concrete Tryz.prog 283 = true := by kernel_rfl
theorem QQ : ts Tryz.prog 284 = some 2 := by kernel_rfl
theorem Qo : ta Tryz.prog 284 = some true := by kernel_rfl
theorem MX : yp Tryz.prog 284 = some (.agg #[Value.nilIface, Value.nilIface]) := by kernel_rfl
theorem Om : tz Tryz.prog 284 = some [Value.nilIface, Value.nilIface] := by kernel_rfl
theorem QG : oy Tryz.prog 284 = some [(0, 1), (1, 1)] := by kernel_rfl
theorem Qm : isIface Tryz.prog 284 = some false := by kernel_rfl
theorem NY : Program.concrete Tryz.prog 284 = true := by kernel_rfl
theorem NT : tf Tryz.prog 284 0 = some (0, 1, false) := by kernel_rfl
theorem QJ : tf Tryz.prog 284 1 = some (1, 1, false) := by kernel_rfl
theorem Pt : ts Tryz.prog 285 = some 2 := by kernel_rfl
theorem M5 : ta Tryz.prog 285 = some true := by kernel_rfl
theorem QI : yp Tryz.prog 285 = some (.agg #[Value.nilIface, Value.nilIface]) := by kernel_rfl
theorem Pc : tz Tryz.prog 285 = some [Value.nilIface, Value.nilIface] := by kernel_rfl
theorem Pu : oy Tryz.prog 285 = some [(0, 1), (1, 1)] := by kernel_rfl
theorem PT : isIface Tryz.prog 285 = some false := by kernel_rfl
theorem NV : Program.concrete Tryz.prog 285 = true := by kernel_rfl
theorem MJ : tf Tryz.prog 285 0 = some (0, 1, false) := by kernel_rfl
theorem NI : tf Tryz.prog 285 1 = some (1, 1, false) := by kernel_rfl
theorem Of : ts Tryz.prog 286 = some 2 := by kernel_rfl
theorem OH : ta Tryz.prog 286 = some true := by kernel_rfl
theorem NA : yp Tryz.prog 286 = some (.agg #[Value.nilIface, Value.nilIface]) := by kernel_rfl
theorem PQ : tz Tryz.prog 286 = some [Value.nilIface, Value.nilIface] := by kernel_rfl
theorem P5 : oy Tryz.prog 286 = some [(0, 1), (1, 1)] := by kernel_rfl
theorem Mw : isIface Tryz.prog 286 = some false := by kernel_rfl
theorem MH : Program.concrete Tryz.prog 286 = true := by kernel_rfl
theorem Qz : tf Tryz.prog 286 0 = some (0, 1, false) := by kernel_rfl
theorem Q4 : tf Tryz.prog 286 1 = some (1, 1, false) := by kernel_rfl
theorem W7 : ts Tryz.prog 298 = some 2 := by kernel_rfl
theorem Xu : ta Tryz.prog 298 = some true := by kernel_rfl
theorem WW : tz Tryz.prog 298 = some [Value.int IntKind.i64 0, Value.int IntKind.i64 0] := by kernel_rfl
theorem W5 : Program.underlying Tryz.prog 298 = some (.array 2 3) := by kernel_rfl
theorem W6 : ts Tryz.prog 301 = some 1 := by kernel_rfl
theorem Xc : ta Tryz.prog 301 = some false := by kernel_rfl
theorem yj : ts Tryz.prog 307 = some 1 := by kernel_rfl
theorem xO : ta Tryz.prog 307 = some false := by kernel_rfl
theorem w6 : tz Tryz.prog 307 = some [Value.nilFunc] := by kernel_rfl
theorem ry : ts Tryz.prog 309 = some 4 := by kernel_rfl
theorem rI : ta Tryz.prog 309 = some true := by kernel_rfl
theorem qW : tz Tryz.prog 309 = some [Value.int IntKind.u64 0, Value.int IntKind.u64 0, Value.int IntKind.u64 0, Value.int IntKind.u64 0] := by kernel_rfl
theorem qY : Program.underlying Tryz.prog 309 = some (.array 4 203) := by kernel_rfl
theorem Uw : ts Tryz.prog 311 = some 4 := by kernel_rfl
theorem Ue : ta Tryz.prog 311 = some true := by kernel_rfl
theorem UK : yp Tryz.prog 311 = some (.agg #[Value.int IntKind.u64 0, Value.int IntKind.u64 0, Value.int IntKind.u64 0, Value.int IntKind.u64 0]) := by kernel_rfl
theorem UC : tz Tryz.prog 311 = some [Value.int IntKind.u64 0, Value.int IntKind.u64 0, Value.int IntKind.u64 0, Value.int IntKind.u64 0] := by kernel_rfl
theorem UL : oy Tryz.prog 311 = some [(0, 4)] := by kernel_rfl
theorem Uf : isIface Tryz.prog 311 = some false := by kernel_rfl
theorem UF : Program.concrete Tryz.prog 311 = true := by kernel_rfl
theorem Uy : tf Tryz.prog 311 0 = some (0, 4, true) := by kernel_rfl
theorem Hi : ts Tryz.prog 326 = some 1 := by kernel_rfl
theorem Ix : ta Tryz.prog 326 = some false := by kernel_rfl
theorem UE : ts Tryz.prog 355 = some 2 := by kernel_rfl
theorem Uq : ta Tryz.prog 355 = some true := by kernel_rfl
theorem UD : tz Tryz.prog 355 = some [Value.int IntKind.u8 0, Value.int IntKind.u8 0] := by kernel_rfl
theorem UN : oy Tryz.prog 355 = some [(0, 1), (1, 1)] := by kernel_rfl
theorem Uh : tf Tryz.prog 355 0 = some (0, 1, false) := by kernel_rfl
theorem UH : tf Tryz.prog 355 1 = some (1, 1, false) := by kernel_rfl
theorem Uz : ts Tryz.prog 356 = some 6 := by kernel_rfl
theorem UB : ta Tryz.prog 356 = some true := by kernel_rfl
theorem Ud : tz Tryz.prog 356 = some [Value.int IntKind.u8 0, Value.int IntKind.u8 0, Value.int IntKind.u8 0, Value.int IntKind.u8 0, Value.int IntKind.u8 0, Value.int IntKind.u8 0] := by kernel_rfl
theorem Uo : Program.underlying Tryz.prog 356 = some (.array 3 355) := by kernel_rfl
theorem Xv : ts Tryz.prog 361 = some 1 := by kernel_rfl
theorem WS : ta Tryz.prog 361 = some false := by kernel_rfl
theorem HX : ts Tryz.prog 373 = some 1 := by kernel_rfl
theorem I2 : ta Tryz.prog 373 = some false := by kernel_rfl
theorem It : tz Tryz.prog 373 = some [Value.pointer none] := by kernel_rfl
theorem Hj : iC Tryz.prog 373 = some true := by kernel_rfl
theorem Iq : Program.underlying Tryz.prog 373 = some (.pointer 375) := by kernel_rfl
theorem Hu : ts Tryz.prog 375 = some 2 := by kernel_rfl
theorem Hw : ta Tryz.prog 375 = some true := by kernel_rfl
theorem Hl : tz Tryz.prog 375 = some [Value.string { data := #[] }, Value.int IntKind.i64 0] := by kernel_rfl
theorem HF : oy Tryz.prog 375 = some [(0, 1), (1, 1)] := by kernel_rfl
theorem Ik : tf Tryz.prog 375 0 = some (0, 1, false) := by kernel_rfl
theorem Hq : tf Tryz.prog 375 1 = some (1, 1, false) := by kernel_rfl
end
end Go.Proofs.YtnemkecffmdlnaaGreatDoor
namespace Go.LE
section
open Go.RowKit
def jA (w : World) (ao : Option Addr) (vs : List Value) : Prop :=
 vs = [] \/ ∃ b o, ao = some ⟨b, o, none⟩ /\ ∀ j (h : j < vs.length), w.cell? ⟨b, o + j, none⟩ = some vs[j]
def We (W : World) (bs : List Nat) (sz n : Nat) (vs : List Value) : AV -> Prop
 | .row _ s m us => s = sz /\ m = n /\ us = vs
 | .val (.slice ao m _) => m = n /\ vs.length = n * sz /\ (vs = [] \/ ∃ b o, ao = some ⟨b, o, none⟩ /\ b ∉ bs /\ ∀ j (h : j < vs.length), W.cell? ⟨b, o + j, none⟩ = some vs[j])
 | _ => False
theorem Ub {W w : World} {bs : List Nat} {sz n : Nat} {vs : List Value} {a : AV} {u : Value} (hk : ai W bs w) (hu : uu w u a) (h : We W bs sz n vs a) : ∃ ao c, u = .slice ao n c /\ jA w ao vs := by
 cases a with
 | row T s m us =>
  obtain ⟨rfl, rfl, rfl⟩ := h
  obtain ⟨hl, h⟩ := hu
  rcases h with ⟨rfl, rfl⟩ | ⟨g, cap, cur, rfl, _, hh, _, _, hsz, htk⟩
  ·exact ⟨none, 0, rfl, .inl (by simpa using hl)⟩
  ·refine ⟨some ⟨g, 0, none⟩, cap, rfl, .inr ⟨g, 0, rfl, fun j hj => ?_⟩⟩
   rw [Nat.zero_add]
   have hj' : j < m * s := by omega
   have : us[j]? = cur[j]? := by rw [<- htk, List.getElem?_take, if_pos hj']; simp
   simp only [World.cell?, hh]
   rw [<- this, List.getElem?_eq_getElem hj]
   rfl
 | val v =>
  cases v with
  | slice ao m c =>
   obtain ⟨rfl, hl, h⟩ := h
   cases hu
   refine ⟨ao, c, rfl, ?_⟩
   rcases h with h | ⟨b, o, rfl, hb, hc⟩
   ·exact .inl h
   ·refine .inr ⟨b, o, rfl, fun j hj => ?_⟩
    have := hc j hj
    rw [hk.cell hb (by rw [this]; rfl), this]
    rfl
  | _ => exact h.elim
theorem ak.X2 {W : World} {bs : List Nat} {E : Nat -> Value} {F : Nat -> List Nat} {h : Nat -> Option bm} {w w' : World} {k : Nat} {e : bm} (hs : ak W bs E F h w) (hk : h k = some e) (hkeep : ai w (F k) w') :
  ak W bs E F (bg h k none) w' := by
 have old : ∀ j x, bg h k none j = some x -> h j = some x /\ j ≠ k := fun j x hj => by
  by_cases hjk : j = k
  ·subst hjk; rw [af] at hj; cases hj
  ·rw [aj _ _ hjk] at hj; exact ⟨hj, hjk⟩
 refine ⟨fun j x hj => ?_, fun j x hj b hb => Nat.lt_of_lt_of_le (hs.lt j x (old j x hj).1 b hb) hkeep.size, fun j x hj => hs.mine j x (old j x hj).1, fun i j x y hij hi hj => hs.apart i j x y hij (old i x hi).1 (old j y hj).1, ?_⟩
 ·obtain ⟨hj, hne⟩ := old j x hj
  exact fR (hs.ent j x hj) fun b hb => hkeep.block b (hs.lt j x hj b hb) fun hb' => hs.apart j k x e hne hj hk b hb hb'
 ·exact hs.keeps.trans hkeep fun b hb hlt => (hs.mine k e hk b hb).resolve_left (by omega)
theorem Le.conv {W : World} {bs : List Nat} {nt : Nat} {ds : Aux} {σ : St} {k : Nat} {e e' : bm} (hk : σ.h k = some e) (he : ∀ E u fp w, bn E u fp w e -> bn E u fp w e') (hkeys : ∀ j ∈ e'.keys, j ∈ e.keys) :
  Le W bs nt ds σ ⟨σ.n, σ.φ, bg σ.h k (some e')⟩ := by
 rintro a w ⟨⟨E, F, hφ, hs, hp⟩, h1, h2, h3, h4, h5⟩
 have old : ∀ j x, bg σ.h k (some e') j = some x -> ∃ y, σ.h j = some y /\ ((j = k /\ x = e') \/ x = y) := fun j x hj => by
  by_cases hjk : j = k
  ·subst hjk; rw [af] at hj; cases hj; exact ⟨e, hk, .inl ⟨rfl, rfl⟩⟩
  ·rw [aj _ _ hjk] at hj; exact ⟨x, hj, .inr rfl⟩
 refine ⟨⟨E, F, hφ, ⟨fun j x hj => ?_, fun j x hj => ?_, fun j x hj => ?_, fun i j x y hij hi hj => ?_, hs.keeps⟩, hp⟩, h1, h2, h3, h4, fun j x hj => ?_⟩
 ·obtain ⟨y, hy, h⟩ := old j x hj
  rcases h with ⟨rfl, rfl⟩ | rfl
  ·rw [hk] at hy; cases hy
   exact he _ _ _ _ (hs.ent j e hk)
  ·exact hs.ent j x hy
 ·obtain ⟨y, hy, _⟩ := old j x hj; exact hs.lt j y hy
 ·obtain ⟨y, hy, _⟩ := old j x hj; exact hs.mine j y hy
 ·obtain ⟨x', hx', _⟩ := old i x hi
  obtain ⟨y', hy', _⟩ := old j y hj
  exact hs.apart i j x' y' hij hx' hy'
 ·obtain ⟨y, hy, h⟩ := old j x hj
  rcases h with ⟨rfl, rfl⟩ | rfl
  ·rw [hk] at hy; cases hy
   exact ⟨(h5 j e hk).1, fun i hi => (h5 j e hk).2 i (hkeys i hi)⟩
  ·exact h5 j x hy
end
section
open Go.RowKit
def cr (W : World) (S : Nat -> Prop) (W' : World) (S' : Nat -> Prop) : Prop := ∀ b, b < W.heap.size -> S b -> W'.heap[b]? = W.heap[b]? /\ S' b
theorem cr.refl (W : World) (S : Nat -> Prop) : cr W S W S := fun _ _ h => ⟨rfl, h⟩
theorem cr.trans {W W' W'' : World} {S S' S'' : Nat -> Prop} (h : cr W S W' S') (h' : cr W' S' W'' S'') (hsz : W.heap.size <= W'.heap.size) : cr W S W'' S'' := fun b hb hs => by
 obtain ⟨h1, h2⟩ := h b hb hs
 obtain ⟨h3, h4⟩ := h' b (by omega) h2
 exact ⟨h3.trans h1, h4⟩
def Out (bs : List Nat) : Nat -> Prop := fun b => b ∉ bs
theorem Ext.gT {W W' : World} {bs bs' : List Nat} (h : Ext W bs W' bs') : cr W (Out bs) W' (Out bs') := fun b hb hs =>
 ⟨h.keeps.block b hb hs, fun hb' => (h.sub b hb').elim (fun h1 => by omega) hs⟩
theorem ai.gT {W w : World} {bs : List Nat} (h : ai W bs w) : cr W (Out bs) w (Out bs) := fun b hb hs => ⟨h.block b hb hs, hs⟩
def XC (W : World) (S : Nat -> Prop) (b o : Nat) (v : Value) : Prop := S b /\ W.cell? ⟨b, o, none⟩ = some v
theorem XC.mono {W W' : World} {S S' : Nat -> Prop} {b o : Nat} {v : Value} (h : XC W S b o v) (hs : cr W S W' S') : XC W' S' b o v := by
 have hlt := World.block_lt_of_cell? W _ h.2
 obtain ⟨h1, h2⟩ := hs b hlt h.1
 exact ⟨h2, by rw [<- h.2]; exact World.cell?_of_block h1⟩
def ej (W : World) (S : Nat -> Prop) (ao : Option Addr) (vs : List Value) : Prop := vs = [] \/ ∃ b o, ao = some ⟨b, o, none⟩ /\ ∀ j (h : j < vs.length), XC W S b (o + j) vs[j]
theorem ej.mono {W W' : World} {S S' : Nat -> Prop} {ao : Option Addr} {vs : List Value} (h : ej W S ao vs) (hs : cr W S W' S') : ej W' S' ao vs := by
 rcases h with h | ⟨b, o, h1, h2⟩
 ·exact .inl h
 ·exact .inr ⟨b, o, h1, fun j hj => (h2 j hj).mono hs⟩
theorem ej.is {W : World} {S : Nat -> Prop} {ao : Option Addr} {vs : List Value} (h : ej W S ao vs) : jA W ao vs := by
 rcases h with h | ⟨b, o, h1, h2⟩
 ·exact .inl h
 ·exact .inr ⟨b, o, h1, fun j hj => (h2 j hj).2⟩
theorem ej.lN {W : World} {ao : Option Addr} {vs : List Value} (h : jA W ao vs) : ej W (fun _ => True) ao vs := by
 rcases h with h | ⟨b, o, h1, h2⟩
 ·exact .inl h
 ·exact .inr ⟨b, o, h1, fun j hj => ⟨trivial, h2 j hj⟩⟩
theorem ej.out {W : World} {ao : Option Addr} {vs : List Value} {S S' : Nat -> Prop} (h : ej W S ao vs) (hs : ∀ b, S b -> S' b) : ej W S' ao vs := h.mono fun b _ hb => ⟨rfl, hs b hb⟩
theorem ej.take {W : World} {S : Nat -> Prop} {ao : Option Addr} {vs ws : List Value} (h : ej W S ao (vs ++ ws)) : ej W S ao vs := by
 rcases h with h | ⟨b, o, h1, h2⟩
 ·exact .inl (by simp at h; exact h.1)
 ·refine .inr ⟨b, o, h1, fun j hj => ?_⟩
  have := h2 j (by simp; omega)
  rwa [List.getElem_append_left hj] at this
def TP (E : Nat -> Value) : FV -> FV -> Prop
 | .is x, .is y => den E x = den E y
 | .cnd b x, .cnd c y => b = c /\ (b = true -> den E x = den E y)
 | .cnd b x, .is y => b = true /\ den E x = den E y
 | _, .any => True
 | _, _ => False
def VU (E : Nat -> Value) (φ : Fr) : List (Nat × FV) -> Prop
 | [] => True
 | (t, x) :: r => TP E (φ t) x /\ VU E φ r
theorem Ka {E : Nat -> Value} {x y : FV} {u : Value} (h : TP E x y) (hf : fits E x u) : fits E y u := by
 cases x <;> cases y <;> simp only [TP] at h <;> first | exact h.elim | trivial | skip
 ·simp only [fits] at hf ⊢; rw [hf, h]
 ·obtain ⟨rfl, h⟩ := h; simp only [fits, cond_true] at hf ⊢; rw [hf, h]
 ·rename_i b x c y
  obtain ⟨rfl, h⟩ := h
  cases b with
  | false => exact hf
  | true => simp only [fits, cond_true] at hf ⊢; rw [hf, h rfl]
theorem Bj {E : Nat -> Value} {φ : Fr} : ∀ {L : List (Nat × FV)}, VU E φ L -> ∀ p ∈ L, TP E (φ p.1) p.2
 | _ :: _, h, p, hp => by
  rcases List.mem_cons.1 hp with rfl | hp
  ·exact h.1
  ·exact Bj h.2 p hp
def HV (E : Nat -> Value) : Option bm -> bm -> Prop
 | some (.cells T vs), .cells T' vs' => T = T' /\ an E vs = an E vs'
 | some (.row T s n vs), .row T' s' n' vs' => T = T' /\ s = s' /\ n = n' /\ an E vs = an E vs'
 | some (.obj d R), .obj d' R' => d = d' /\ R = R'
 | _, _ => False
def U7 (E : Nat -> Value) (h : Hp) : List (Nat × bm) -> Prop
 | [] => True
 | (k, e) :: r => HV E (h k) e /\ U7 E h r
theorem tq {E : Nat -> Value} {h : Hp} : ∀ {H : List (Nat × bm)}, U7 E h H -> ∀ p ∈ H, HV E (h p.1) p.2
 | _ :: _, h, p, hp => by
  rcases List.mem_cons.1 hp with rfl | hp
  ·exact h.1
  ·exact tq h.2 p hp
theorem ye {E : Nat -> Value} {u : Value} {fp : List Nat} {w : World} {h : Hp} {k : Nat} {e : bm} (he : HV E (h k) e) : ∃ e0, h k = some e0 /\ (bn E u fp w e0 -> bn E u fp w e) := by
 cases hk : h k with
 | none => rw [hk] at he; cases e <;> exact he.elim
 | some e0 =>
  rw [hk] at he
  refine ⟨e0, rfl, fun hs => ?_⟩
  cases e0 <;> cases e <;> simp only [HV] at he <;> first | exact he.elim | skip
  ·obtain ⟨rfl, h2⟩ := he; simp only [bn, <- h2]; exact hs
  ·obtain ⟨rfl, rfl, rfl, h2⟩ := he; simp only [bn, <- h2]; exact hs
  ·obtain ⟨rfl, rfl⟩ := he; exact hs
theorem Wp.freeze {P : Program} {W : World} {bs : List Nat} {nt : Nat} {ds : Aux} {c : Code} {Q : jU} {σ : St} (n' : Nat) (ks : List Nat) (L : (Nat -> Value) -> List (Nat × FV)) (H : (Nat -> Value) -> List (Nat × bm))
  (hks : ∀ E, (H E).map (·.1) = ks) (hkb : ∀ E, Qg n' (L E) (H E)) (hf : ∀ E, VU E σ.φ (L E)) (hh : ∀ E, U7 E σ.h (H E)) (hpn : ∀ p ∈ ds.pins, p.1 / 8 < n')
  (h : ∀ W' bs' E F, Ext W bs W' bs' -> ak W bs E F σ.h W' -> (∀ k ∈ ks, ∀ b ∈ F k, b ∈ bs') -> (∀ k e, σ.h k = some e -> k ∉ ks -> ∀ b ∈ F k, b ∉ bs') -> Wp P W' bs' nt ds c Q ⟨n', bV (L E), cd (H E)⟩) : Wp P W bs nt ds c Q σ := by
 rintro a w ⟨⟨E, F, hφ, hs, hp⟩, hsz, hdf, _, _, _⟩
 have own : ∀ k ∈ ks, ∃ e, σ.h k = some e := fun k hk => by
  rw [<- hks E] at hk
  obtain ⟨p, hp, rfl⟩ := List.mem_map.1 hk
  obtain ⟨e0, h1, _⟩ := ye (u := undef) (fp := []) (w := w) (tq (hh E) p hp)
  exact ⟨e0, h1⟩
 have hx : Ext W bs w (ks.flatMap F) := ⟨hs.keeps, fun b hb => by
  obtain ⟨k, hk, hbk⟩ := List.mem_flatMap.1 hb
  obtain ⟨e, he⟩ := own k hk
  exact hs.mine k e he b hbk⟩
 refine wp_mono (h w (ks.flatMap F) E F hx hs (fun k hk b hb => List.mem_flatMap.2 ⟨k, hk, hb⟩) (fun k e hke hk b hb hb' => ?_) a w ?_) fun e' a' w' hh' => nw hx hh'
 ·obtain ⟨j, hj, hbj⟩ := List.mem_flatMap.1 hb'
  obtain ⟨e2, he2⟩ := own j hj
  exact hs.apart k j e e2 (fun hkj => hk (hkj ▸ hj)) hke he2 b hb hbj
 ·have at' : ∀ k e, cd (H E) k = some e -> k ∈ ks /\ ∃ e0, σ.h k = some e0 /\ bn E (E k) (F k) w e := fun k e he => by
   have hm := eL he
   obtain ⟨e0, h1, h2⟩ := ye (u := E k) (fp := F k) (w := w) (tq (hh E) _ hm)
   exact ⟨by rw [<- hks E]; exact List.mem_map.2 ⟨_, hm, rfl⟩, e0, h1, h2 (hs.ent k e0 h1)⟩
  refine ⟨⟨E, F, fun t => ?_, ⟨fun k e he => (at' k e he).2.choose_spec.2, fun k e he b hb => ?_, fun k e he b hb => .inr (List.mem_flatMap.2 ⟨k, (at' k e he).1, hb⟩), fun k k' e e' hne he he' b hb => ?_, ai.refl w _⟩, hp⟩, hsz, hdf, hpn, fun t k hk' => ?_, fun k e he => ?_⟩
  ·rcases jb (L := L E) t with h | ⟨p, hp, rfl, h⟩
   ·simp only [h]; trivial
   ·simp only [h]; exact Ka (Bj (hf E) p hp) (hφ p.1)
  ·obtain ⟨_, e0, h1, _⟩ := at' k e he; exact hs.lt k e0 h1 b hb
  ·obtain ⟨_, e0, h1, _⟩ := at' k e he
   obtain ⟨_, e1, h2, _⟩ := at' k' e' he'
   exact hs.apart k k' e0 e1 hne h1 h2 b hb
  ·rcases jb (L := L E) t with h | ⟨p, hp, _, h⟩
   ·simp only [h] at hk'; cases hk'
   ·simp only [h] at hk'; exact (hkb E).1 p hp k hk'
  ·exact (hkb E).2 _ (eL he)
theorem bx {P : Program} {W : World} {bs : List Nat} {nt : Nat} {ds : Aux} {Q : jU} {σ : St} {x y : Code} (σ' : St) (h1 : Wp P W bs nt ds x (Th (fun W' bs' σ1 => Le W' bs' nt ds σ1 σ') Q) σ) (h2 : Wp P W bs nt ds y Q σ') :
  Wp P W bs nt ds (.seq x y) Q σ := fun a w hs =>
 wp_seq (wp_mono (h1 a w hs) fun e a' w' ⟨W', bs', σ1, he, hq, hs'⟩ => by
  cases e with
  | normal => exact h2 a' w' (Sat.back he (hq a' w' hs'))
  | _ => exact ⟨W', bs', σ1, he, hq, hs'⟩)
def Us (W : World) (bs bs' : List Nat) : Nat -> Prop := fun b => b ∉ bs' /\ (W.heap.size <= b \/ b ∈ bs)
theorem Us.out {W : World} {bs bs' : List Nat} {b : Nat} (h : Us W bs bs' b) : Out bs' b := h.1
theorem R8 {W W' : World} {bs bs' : List Nat} {E : Nat -> Value} {F : Nat -> List Nat} {h : Hp} {k : Nat} {T : TypeId} {s n : Nat} {vs : List SV} (hs : ak W bs E F h W') (hk : h k = some (.row T s n vs)) (hb : ∀ b ∈ F k, b ∉ bs') :
  ∃ ao c, E k = .slice ao n c /\ ej W' (Us W bs bs') ao (an E vs) /\ n <= c := by
 obtain ⟨⟨hl, h⟩, hF⟩ := hs.ent k _ hk
 rcases h with ⟨h1, rfl⟩ | ⟨g, cap, cur, h1, _, hh, hnc, _, hsz, htk⟩
 ·exact ⟨none, 0, h1, .inl (by simpa using hl), Nat.le_refl _⟩
 ·have hg : g ∈ F k := by rw [hF, h1]; simp [Value.ownBlock]
  refine ⟨some ⟨g, 0, none⟩, cap, h1, .inr ⟨g, 0, rfl, fun j hj => ⟨⟨hb g hg, hs.mine k _ hk g hg⟩, ?_⟩⟩, hnc⟩
  rw [Nat.zero_add]
  have hj' : j < n * s := by omega
  have : (an E vs)[j]? = cur[j]? := by rw [<- htk, List.getElem?_take, if_pos hj']; simp
  simp only [World.cell?, hh]
  rw [<- this, List.getElem?_eq_getElem hj]
  rfl
theorem ej.grow {W W' : World} {bs' : List Nat} {ao : Option Addr} {vs : List Value} {S : Nat -> Prop} (h : ej W' (Us W [] bs') ao vs) : ej W' (fun b => (b < W.heap.size -> S b) /\ b ∉ bs') ao vs :=
 h.out fun b hb => ⟨fun hlt => absurd (hb.2.resolve_right (by simp)) (Nat.not_le.2 hlt), hb.1⟩
def dm (cs : List Value) : Value := .iface 0 (.agg cs.toArray)
theorem zE (cs : List Value) (i : Nat) : CR (dm cs) i = cs.getD i .nilIface := by simp [CR, dm, Array.getD_eq_getD_getElem?, List.getD_eq_getElem?_getD]
def Grow (w : World) (S : Nat -> Prop) : Nat -> Prop := fun b => b < w.heap.size -> S b
def Iv (W : World) (bs : List Nat) (Φ : List Value -> World -> (Nat -> Prop) -> Prop) : List Value -> Value -> List Nat -> World -> Prop := fun _ u fp w =>
 ∃ cs, u = dm cs /\ ∀ W₂ S₂, (∀ b, b < W.heap.size -> b ∉ bs -> W₂.heap[b]? = W.heap[b]? /\ S₂ b) -> (∀ b ∈ fp, W₂.heap[b]? = w.heap[b]? /\ S₂ b) -> Φ cs W₂ S₂
structure N9 (P : Program) (f : FuncId) where
 pre : List AV -> World -> (Nat -> Prop) -> Prop
 tm : Nat -> SV
 Φ : List AV -> List Value -> World -> (Nat -> Prop) -> Prop
 premono : ∀ as_ W S W' S', cr W S W' S' -> pre as_ W S -> pre as_ W' S'
 mono : ∀ as_ cs W S W' S', cr W S W' S' -> Φ as_ cs W S -> Φ as_ cs W' S'
 tmg : ∀ E k, den E (tm k) = den (fun _ => E k) (tm 0)
 tmk : ∀ k, ∀ j ∈ (tm k).keys, j = k
 enters : ∀ args w, (callFunc f args).run P w = .ok (.enter f args) w
 ok : ∀ (w : World) (S : Nat -> Prop) (us : List Value) (as_ : List AV), ey w us as_ -> pre as_ w S -> Calls P f us.toArray w fun e w' => ∃ cs, e = .returned (den (fun _ => dm cs) (tm 0)) /\ Φ as_ cs w' (Grow w S) /\ ai w [] w'
def Old (W : World) (bs : List Nat) : Nat -> Prop := fun b => b < W.heap.size /\ b ∉ bs
def Bm (κ : Nat) (pre : List AV -> World -> (Nat -> Prop) -> Prop) (tm : Nat -> SV) (Φ : List AV -> List Value -> World -> (Nat -> Prop) -> Prop) (W : World) (bs : List Nat) : Option (List AV × List Nat) -> R
 | some (as_, rs) => ⟨pre as_ W (Out bs), tm (8 * κ), [(8 * κ, some (.obj [] (Iv W bs (Φ as_))))], none, [], rs⟩
 | none => .bad
def N9.spec {P : Program} {f : FuncId} (p : N9 P f) : Spec P f where
 ev := fun W bs κ h args => Bm κ p.pre p.tm p.Φ W bs (ay h args)
 good := fun W bs κ E F h w K args hs hK hk hx hside => by
  rw [p.enters]
  cases hv : ay h args with
  | none => rw [hv] at hside; exact hside.elim
  | some q =>
   obtain ⟨as_, rs⟩ := q
   rw [hv] at hside
   have h0 : cr W (Out bs) w (Old W bs) := fun b hb hs' => ⟨hs.keeps.block b hb hs', hb, hs'⟩
   refine ub hs hK hk (e := .obj [] (Iv W bs (p.Φ as_))) ((p.ok w (Old W bs) _ as_ (dA hs hv) (p.premono as_ _ _ _ _ h0 hside)).mono fun e w' he => ?_) rfl rfl
   obtain ⟨cs, rfl, hΦ, hkeep⟩ := he
   have hmem : ∀ b, b ∈ List.range' w.heap.size (w'.heap.size - w.heap.size) ↔ w.heap.size <= b /\ b < w'.heap.size := fun b => by
    rw [List.mem_range'_1]
    have := hkeep.size
    omega
   have hR : ∀ w3 : World, (∀ b ∈ List.range' w.heap.size (w'.heap.size - w.heap.size), w3.heap[b]? = w'.heap[b]?) -> Iv W bs (p.Φ as_) [] (dm cs) (List.range' w.heap.size (w'.heap.size - w.heap.size)) w3 := by
    intro w3 h3
    refine ⟨cs, rfl, fun W₂ S₂ hold hnew => p.mono as_ cs w' (Grow w (Old W bs)) W₂ S₂ (fun b hb hg => ?_) hΦ⟩
    by_cases hbw : b < w.heap.size
    ·obtain ⟨g1, g2⟩ := hg hbw
     obtain ⟨g3, g4⟩ := hold b g1 g2
     exact ⟨by rw [g3, hkeep.block b hbw (by simp), hs.keeps.block b g1 g2], g4⟩
    ·have hb' := (hmem b).2 ⟨by omega, hb⟩
     obtain ⟨g3, g4⟩ := hnew b hb'
     exact ⟨by rw [g3, h3 b hb'], g4⟩
   refine ⟨_, dm cs, List.range' w.heap.size (w'.heap.size - w.heap.size), rfl, fun E' => ⟨⟨hR w' fun _ _ => rfl, rfl⟩, hR⟩, fun b hb => (hmem b).1 hb, hkeep, ?_⟩
   simp only [Bm]
   rw [p.tmg (bg E (nk κ) (dm cs)), nk, af]
 keys := fun W bs κ h K args hK hx hside => by
  cases hv : ay h args with
  | none => rw [hv] at hside; exact hside.elim
  | some q =>
   obtain ⟨as_, rs⟩ := q
   refine ⟨fun k hk => .inr ?_, fun q hq => ?_⟩
   ·rw [p.tmk _ k hk]
    exact aW κ
   ·simp only [Bm, List.mem_singleton] at hq
    subst hq
    refine ⟨.inr (aW κ), fun e he k hk => ?_⟩
    simp only [Option.some.injEq] at he
    subst he
    cases hk
 loc := fun W bs κ h h' args hside hr => by
  cases hv : ay h args with
  | none => rw [hv] at hside; exact hside.elim
  | some q =>
   obtain ⟨as_, rs⟩ := q
   rw [hv] at hr
   rw [cD hv hr]
theorem MD {P : Program} {f : FuncId} (p : N9 P f) (W : World) (bs : List Nat) (κ : Nat) (h : Hp) (l : List SV) : p.spec.ev W bs κ h l = Bm κ p.pre p.tm p.Φ W bs (ay h l) := rfl
theorem DK (κ : Nat) (pre : List AV -> World -> (Nat -> Prop) -> Prop) (tm : Nat -> SV) (Φ : List AV -> List Value -> World -> (Nat -> Prop) -> Prop) (W : World) (bs : List Nat) (as_ : List AV) (rs : List Nat) :
  Bm κ pre tm Φ W bs (some (as_, rs)) = ⟨pre as_ W (Out bs), tm (8 * κ), [(8 * κ, some (.obj [] (Iv W bs (Φ as_))))], none, [], rs⟩ := rfl
theorem og (m : Nat -> Src) (l : List Value) : lT m (l.map .v) = l.map .v := by
 induction l with
 | nil => rfl
 | cons x r ih => simp [lT, wD, ih]
theorem a8 (m : Nat -> Src) (a b : List SV) : lT m (a ++ b) = lT m a ++ lT m b := by
 induction a with
 | nil => rfl
 | cons x r ih => simp [lT, ih]
section
variable {P : Program} {κ : Nat} {h : Hp}
def XM (κ : Nat) (e : TypeId) (l c : Int) : Option Nat -> Option (List Value) -> Option Nat -> R
 | some sz, some zs, some by_ => ⟨0 <= l /\ l <= c /\ (by_ : Int) * c <= 281474976710656 /\ c <= 9223372036854775807 /\ zs.length = sz /\ 0 < sz, .hd (8 * κ), [(8 * κ, some (.row e sz l.toNat ((List.replicate l.toNat zs).flatten.map .v)))], none, [], []⟩
 | _, _, _ => .bad
def Ye (P : Program) (κ : Nat) (l c : Int) : Option TypeDesc -> R
 | some (.slice e) => XM κ e l c (ts P e) (tz P e) (ox P e)
 | _ => .bad
theorem Cy (T : TypeId) (k k' : IntKind) (l c : Int) : j5 P κ T [.v (.int k l), .v (.int k' c)] = Ye P κ l c (P.underlying T) := by
 simp only [j5]; unfold Ye
 rcases P.underlying T with _ | d
 ·rfl
 ·cases d <;> first | rfl | (rename_i e; simp only [XM, nk]; rcases ts P e with _ | a <;> rcases tz P e with _ | b <;> rcases ox P e with _ | c <;> rfl)
theorem Mf (l c : Int) (e : TypeId) : Ye P κ l c (some (.slice e)) = XM κ e l c (ts P e) (tz P e) (ox P e) := rfl
theorem Q0 (e : TypeId) (l c : Int) (sz : Nat) (zs : List Value) (by_ : Nat) : XM κ e l c (some sz) (some zs) (some by_) = ⟨0 <= l /\ l <= c /\ (by_ : Int) * c <= 281474976710656 /\ c <= 9223372036854775807 /\ zs.length = sz /\ 0 < sz, .hd (8 * κ), [(8 * κ, some (.row e sz l.toNat ((List.replicate l.toNat zs).flatten.map .v)))], none, [], []⟩ := rfl
def DY (ao : Option Addr) (a sz c : Nat) : Option Addr := if c = a then ao else ao.map (·.add (a * sz))
theorem w7 (ao : Option Addr) (sz c : Nat) : DY ao 0 sz c = ao := by
 unfold DY
 split
 ·rfl
 ·cases ao <;> simp [Addr.add]
theorem ej.at {W : World} {S : Nat -> Prop} {ao : Option Addr} {vs : List Value} {a sz c n : Nat} (h : ej W S ao vs) (hl : vs.length = n * sz) (hn : n <= c) (ha : a <= n) : ej W S (DY ao a sz c) (vs.drop (a * sz)) := by
 unfold DY
 split
 ·left
  have : vs.length <= a * sz := by rw [hl]; exact Nat.mul_le_mul_right _ (by omega)
  simp [this]
 ·rcases h with h | ⟨b, o, rfl, h2⟩
  ·exact .inl (by simp [h])
  ·refine .inr ⟨b, o + a * sz, ?_, fun j hj => ?_⟩
   ·simp only [Option.map_some, Addr.add, Option.some.injEq]
    split
    ·rename_i h0; simp [h0]
    ·rfl
   ·simp only [List.length_drop] at hj
    have := h2 (a * sz + j) (by omega)
    rw [List.getElem_drop]
    rwa [Nat.add_assoc]
def XN (ao : Option Addr) (c : Nat) (a b : Int) : Option Nat -> R
 | some sz => ⟨0 <= a /\ a <= b /\ b <= c, .v (.slice (DY ao a.toNat sz c) (b.toNat - a.toNat) (c - a.toNat)), [], none, [], []⟩
 | none => .bad
def V3 (P : Program) (ao : Option Addr) (c : Nat) (a b : Int) : Option TypeDesc -> R
 | some (.slice e) => XN ao c a b (ts P e)
 | _ => .bad
theorem lC (T : TypeId) (ao : Option Addr) (n c : Nat) (a b : Int) : kx P T ao n c a b = V3 P ao c a b (P.underlying T) := by
 simp only [kx]; unfold V3
 rcases P.underlying T with _ | d
 ·rfl
 ·cases d <;> first | rfl | (rename_i e; simp only [XN, R.fF, DY]; rcases ts P e with _ | a <;> rfl)
theorem KU (ao : Option Addr) (c : Nat) (a b : Int) (e : TypeId) : V3 P ao c a b (some (.slice e)) = XN ao c a b (ts P e) := rfl
theorem NL (ao : Option Addr) (c : Nat) (a b : Int) (sz : Nat) : XN ao c a b (some sz) = ⟨0 <= a /\ a <= b /\ b <= c, .v (.slice (DY ao a.toNat sz c) (b.toNat - a.toNat) (c - a.toNat)), [], none, [], []⟩ := rfl
theorem Al (T : TypeId) (ao : Option Addr) (n c : Nat) (k k' : IntKind) (a b : Int) : cL P T true true false [.v (.slice ao n c), .v (.int k a), .v (.int k' b)] = V3 P ao c a b (P.underlying T) := by
 rw [<- lC T ao n]; rfl
theorem zU (T : TypeId) (ao : Option Addr) (n c : Nat) (k : IntKind) (a : Int) : cL P T true false false [.v (.slice ao n c), .v (.int k a)] = V3 P ao c a n (P.underlying T) := by
 rw [<- lC T ao n]; rfl
theorem zb (T : TypeId) (ao : Option Addr) (n c : Nat) (k : IntKind) (b : Int) : cL P T false true false [.v (.slice ao n c), .v (.int k b)] = V3 P ao c 0 b (P.underlying T) := by
 rw [<- lC T ao n]; rfl
end
end
section
def YP := (ab @Cy (ab @Mf (ab @Q0 (ab @w7 (ab @KU (ab @NL (ab @Al (ab @zU (ab @zb (ab @MD @DK))))))))))
end
section
open Go.ChangeShapes Go.WideShapes Go.ChangeAt Go.RowKit
section
variable {H : Type} {enc : TypeId × Value -> H} {P : Program}
theorem PJ {f : Func} {s : ChangeSpec} {apart fresh handsOn again : Bool} {W W' : World} {args : Array Value} {v : Value} {ds gs : List (DataW H)} {before pa pv : List MemPlace}
  (hW : DataW.Whole enc P f.params.toList s.vars apart W args.toList ds gs before)
  (hres : ∀ (b : Nat) (sp : Nat -> Bool) (hd : Bool), DataW.TrodAll enc P W' b sp hd f.resultTypes.toList (v.resultList f.resultTypes.size) (s.fn H (ds ++ gs)).results [])
  (hargs : ∀ sp : Nat -> Bool, (∀ p ∈ before, sp p.block = true) -> DataW.TrodAll enc P W' 0 sp true f.params.toList args.toList (s.fn H (ds ++ gs)).args pa)
  (hvars : ∀ sp : Nat -> Bool, (∀ p ∈ before, sp p.block = true) -> DataW.TrodVars enc P W' sp s.vars (s.fn H (ds ++ gs)).vars pv)
  (hps : before = pa ++ pv) (hk : W.keptBut W' (· ∈ before)) (hfz : ∀ a, a.block < W.heap.size -> W'.frozen? a = W.frozen? a)
  (hok : ∀ (j : Nat) (t : TypeId) (r : Value), f.resultTypes[j]? = some t -> (v.resultList f.resultTypes.size)[j]? = some r -> Value.okWide P W' .any 0 t r) :
  s.post enc P f apart fresh handsOn again W args v W' := by
 have hlt := hW.lt
 have hold : ∀ p ∈ before, (fun b => decide (b < W.heap.size)) p.block = true := fun p hp => by simpa using hlt p hp
 refine ⟨ds, gs, before, [], pa, pv, hW, hres _ _ _, hargs _ hold, hvars _ hold, World.keptBut_mono (fun p hp => ⟨hp, ?_⟩) hk, fun _ => ?_⟩
 ·rw [hps, List.mem_append] at hp
  exact Or.inr hp
 ·obtain ⟨_, _, _, _, _, hz, hn⟩ := hW
  refine ⟨hok, _, _, ([] ++ pa) ++ pv, ⟨[] ++ pa, pv, trodAll_append (hargs _ (fun _ _ => rfl)) (hres _ _ _), hvars _ (fun _ _ => rfl), rfl, ?_, ?_⟩, ?_⟩
  ·intro b off hp
   have hp' : MemPlace.cell b off ∈ before := by rw [hps]; simpa using hp
   rw [hfz _ (hlt _ hp')]
   exact hz b off hp'
  ·intro ha
   have := hn ha
   rw [hps] at this
   simpa using this
  ·intro p hp _
   rw [hps]
   simpa using hp
theorem nQ {W W' : World} : ∀ {ts : List TypeId} {vs : List Value} {ds : List (DataW H)} {ps : List MemPlace}, DataW.TrodAll enc P W 0 (fun _ => true) true ts vs ds ps -> (∀ p ∈ ps, W.sameAt W' p) -> DataW.TrodAll enc P W' 0 (fun _ => true) true ts vs ds ps
 | [], [], [], _, h, _ => h
 | t :: ts, v :: vs, d :: ds, ps, ⟨p, q, h1, h2, e⟩, hs => by
  subst e
  obtain ⟨n, hn⟩ := h1
  exact ⟨p, q, ⟨n, DataW.trod_carry n _ _ _ hn (fun x hx => hs x (List.mem_append_left _ hx))⟩, nQ h2 (fun x hx => hs x (List.mem_append_right _ hx)), rfl⟩
theorem QF {f : Func} {s : ChangeSpec} {tb : TypeId} (hl : laidOutB P = true) (hm : mapsRowed P = true)
  (hf : ((List.range P.types.size).all fun t => match P.underlying t with | some (.slice e) => decide (0 < P.cellsOf e) | _ => true) = true)
  (hT : f.params.all (fun t => decide (t < P.types.size)) = true) (hrt : f.resultTypes = #[tb]) (hb : P.underlying tb = some .bool) (hvs : s.vars = []) {W W' : World} {args : Array Value} {ds gs : List (DataW H)} {before : List MemPlace}
  (hW : DataW.Whole enc P f.params.toList s.vars false W args.toList ds gs before) (hres : (s.fn H (ds ++ gs)).results = [.lit (.bool true)]) (hargs : (s.fn H (ds ++ gs)).args = ds) (hv : (s.fn H (ds ++ gs)).vars = [])
  (hk : ai W [] W') : s.post enc P f false true false false W args (.bool true) W' := by
 have hb' := hk.below
 have hW' := hW
 obtain ⟨p, q, hA, hV, rfl, hfz, hnd⟩ := hW
 have hlt := hW'.lt
 have hq : q = [] := by rw [hvs] at hV; exact (trodVars_none hV).2
 subst hq
 refine PJ (pa := p) (pv := []) hW' (fun _ _ _ => ?_) (fun sp hsp => ?_) (fun sp hsp => ?_) rfl (hb'.frame _) (fun ad hlt => hb'.frozen hlt) ?_
 ·rw [hrt, hres]
  exact trodAll_cons_mk (shut_bool hb _) trodAll_mk0
 ·rw [hargs]
  refine DataW.TrodAll.respare (kids_rows hl hm) (slices_full_of P hf) (fun t ht => ?_) (nQ hA fun x hx => hb'.same (hlt x (by simpa using hx))) (fun x hx => hsp x (by simpa using hx))
  rw [Array.all_eq_true] at hT
  obtain ⟨i, hi, he⟩ := Array.mem_iff_getElem.1 (Array.mem_toList_iff.1 ht)
  have := hT i hi
  rw [he] at this
  simpa using this
 ·rw [hvs, hv]; rfl
 ·exact ok_one hrt rfl (okWide_bool_mk hb _)
theorem wJ {W : World} {t e : TypeId} {c : Nat} {v : Value} {d : DataW H} {p : List MemPlace} (ht : P.underlying t = some (.slice e)) (hc : P.cellsOf e = c) (hok : ∃ a len cap, v = .slice a len cap) (h : DataW.Trod enc P W 0 (fun _ => true) true t v d p) :
  ∃ ao n cap m, ∃ (C : Nat -> List Value) (D : Nat -> DataW H) (rest : List (DataW H)), v = .slice ao n cap /\ ((n = 0 /\ d = .nil) \/ d = .slice ((List.range n).map D) rest) /\
   (∀ i, i < n -> (C i).length = c /\ ∃ pl, DataW.trod enc P W 0 (fun _ => true) true m e (C i) = some (D i, pl)) /\ jA W ao ((List.range n).flatMap C) := by
 obtain ⟨a, len, cap, rfl⟩ := hok
 obtain ⟨fuel, h⟩ := h
 rcases Go.Deep.open_slice ht h with ⟨h1, h2⟩ | ⟨a', len', cap', m, n, D, Pl, h1, hb, hl, hm, hmm, hx, hi⟩
 ·simp only [Value.cells, List.cons.injEq, and_true] at h1
  simp only [Prod.mk.injEq] at h2
  cases h1
  exact ⟨none, 0, 0, 0, fun _ => [], fun _ => .nil, [], rfl, .inl ⟨rfl, h2.1⟩, fun i hi => by omega, .inl rfl⟩
 ·simp only [Value.cells, List.cons.injEq, and_true] at h1
  cases h1
  simp only [Prod.mk.injEq] at hx
  have hm' : m = cap := by simpa using hmm
  subst hm'
  have hC : ∀ i, i < len -> ∃ cs : List Value, cs.length = c /\ (∀ j, j < c -> W.cell? (a'.add (i * c + j)) = cs[j]?) /\ DataW.trod enc P W 0 (fun _ => true) true n e cs = some (D i, Pl i) := fun i hil => by
   obtain ⟨cs, h1, h2⟩ := hi i (by omega)
   obtain ⟨_, h3, h4⟩ := World.cells?_some h1
   rw [hc] at h3 h4
   refine ⟨cs, h3, fun j hj => ?_, h2⟩
   have := h4 j hj
   rwa [Go.Deep.add_add] at this
  obtain ⟨C, hC⟩ := Go.Deep.choose_lt hC
  refine ⟨some a', len, m, n, C, D, _, rfl, .inr hx.1, fun i hil => ⟨(hC i hil).1, Pl i, (hC i hil).2.2⟩, ?_⟩
  have hlen : ∀ k, k <= len -> ((List.range k).flatMap C).length = k * c := fun k => by
   induction k with
   | zero => intro _; simp
   | succ k ih =>
    intro hk
    rw [List.range_succ, List.flatMap_append, List.length_append, ih (by omega)]
    simp [(hC k (by omega)).1, Nat.succ_mul]
  have hget : ∀ k, k <= len -> ∀ j (hj : j < ((List.range k).flatMap C).length), W.cell? (a'.add j) = some ((List.range k).flatMap C)[j] := fun k => by
   induction k with
   | zero => intro _ j hj; simp at hj
   | succ k ih =>
    intro hk j hj
    have hf : (List.range (k + 1)).flatMap C = (List.range k).flatMap C ++ C k := by rw [List.range_succ, List.flatMap_append]; simp
    have hl := hlen k (by omega)
    simp only [hf] at hj ⊢
    by_cases hjk : j < k * c
    ·rw [List.getElem_append_left (by omega)]
     exact ih (by omega) j (by omega)
    ·rw [List.getElem_append_right (by omega)]
     have h1 := (hC k (by omega)).1
     simp only [List.length_append, hl, h1] at hj
     have := (hC k (by omega)).2.1 (j - k * c) (by omega)
     rw [show k * c + (j - k * c) = j by omega] at this
     rw [this]
     simp only [hl]
     rw [List.getElem?_eq_getElem]
  by_cases hz : (List.range len).flatMap C = []
  ·exact .inl hz
  ·have h0 := hget len (Nat.le_refl _) 0 (List.length_pos_iff.2 hz)
   have hsp := World.cell?_spot h0
   obtain ⟨b, o, sp⟩ := a'
   have hsp' : sp = none := by simpa [Addr.add] using hsp
   subst hsp'
   refine .inr ⟨b, o, rfl, fun j hj => ?_⟩
   have := hget len (Nat.le_refl _) j hj
   rwa [Addr.add_lit] at this
end
end
section
open Go.RowKit
section
variable {P : Program} {W : World} {bs : List Nat} {κ : Nat} {E : Nat -> Value} {F : Nat -> List Nat} {h : Nat -> Option bm} {w : World} {K : Nat -> Prop}
def PR (u : Value) : AV -> List Nat
 | .val _ => []
 | .row _ _ _ _ => u.ownBlock.toList
def rO : List Value -> List AV -> List Nat
 | u :: us, a :: as_ => PR u a ++ rO us as_
 | _, _ => []
def bz (w : World) (u : Value) (fp : List Nat) (T : TypeId) (fs : List AV) : Prop :=
 ∃ b us, u = .pointer (some ⟨b, 0, none⟩) /\ w.heap[b]? = some (.cells us.toArray T (0, 0)) /\ ey w us fs /\ fp = b :: rO us fs /\ fp.Nodup
theorem MF (hs : ak W bs E F h w) {x : SV} {a : AV} {r : List Nat} (hv : cc h x = some (a, r)) : PR (den E x) a = r.flatMap F /\ ∀ k ∈ r, (∃ e, h k = some e) /\ ∀ k' ∈ r, k' = k := by
 cases x with
 | v x => simp [cc] at hv; obtain ⟨rfl, rfl⟩ := hv; exact ⟨rfl, by simp⟩
 | agg l =>
  simp only [cc, Option.map_eq_some_iff, Prod.mk.injEq] at hv
  obtain ⟨vs, h1, rfl, rfl⟩ := hv
  exact ⟨rfl, by simp⟩
 | hd k =>
  simp only [cc] at hv
  cases hk : h k with
  | none => rw [hk] at hv; simp [iD] at hv
  | some e =>
   cases e with
   | row T s n us =>
    rw [hk] at hv
    simp only [iD, Option.map_eq_some_iff, Prod.mk.injEq] at hv
    obtain ⟨vs, h1, rfl, rfl⟩ := hv
    have := hs.ent k _ hk
    refine ⟨?_, fun k' hk' => ?_⟩
    ·simp only [PR, den, ix (cT this)]
     simp [this.2]
    ·simp only [List.mem_singleton] at hk'
     subst hk'
     exact ⟨⟨_, hk⟩, by simp⟩
   | cells T vs => rw [hk] at hv; simp [iD] at hv
   | obj d R => rw [hk] at hv; simp [iD] at hv
 | own k o => simp [cc] at hv
 | tup l => simp [cc] at hv
 | ifc t x => simp [cc] at hv
 | part k i => simp [cc] at hv
 | fn f a c => simp [cc] at hv
theorem bN (hs : ak W bs E F h w) : ∀ {l : List SV} {as_ : List AV} {r : List Nat}, ay h l = some (as_, r) -> rO (an E l) as_ = r.flatMap F /\ ∀ k ∈ r, ∃ e, h k = some e
 | [], as_, r, hv => by simp [ay] at hv; obtain ⟨rfl, rfl⟩ := hv; exact ⟨rfl, by simp⟩
 | x :: l, as_, r, hv => by
  simp only [ay] at hv
  cases h1 : cc h x with
  | none => rw [h1] at hv; simp [ji] at hv
  | some p =>
   cases h2 : ay h l with
   | none => rw [h1, h2] at hv; simp [ji] at hv
   | some q =>
    obtain ⟨a, ra⟩ := p
    obtain ⟨as', rs⟩ := q
    rw [h1, h2] at hv
    simp only [ji, Option.some.injEq, Prod.mk.injEq] at hv
    obtain ⟨rfl, rfl⟩ := hv
    obtain ⟨g1, g2⟩ := MF hs h1
    obtain ⟨g3, g4⟩ := bN hs h2
    refine ⟨by simp only [an, rO, g1, g3, List.flatMap_append], fun k hk => ?_⟩
    rcases List.mem_append.1 hk with hk | hk
    ·exact (g2 k hk).1
    ·exact g4 k hk
theorem tY (u : Value) : u.ownBlock.toList.Nodup := by cases u.ownBlock <;> simp
theorem LH {u : Value} {fp : List Nat} {e : bm} (hE : ∀ d R, e ≠ .obj d R) (h : bn E u fp w e) : fp.Nodup := by
 cases e with
 | cells T vs => obtain ⟨b, _, h2, _⟩ := h; rw [h2]; simp
 | row T s n vs => rw [h.2]; exact tY u
 | obj d R => exact absurd rfl (hE d R)
theorem jg {h : Hp} : ∀ {l : List SV} {as_ : List AV} {r : List Nat}, ay h l = some (as_, r) -> ∀ k ∈ r, ∃ T s n vs, h k = some (.row T s n vs)
 | [], as_, r, hv => by simp [ay] at hv; obtain ⟨rfl, rfl⟩ := hv; simp
 | x :: l, as_, r, hv => by
  simp only [ay] at hv
  cases h1 : cc h x with
  | none => rw [h1] at hv; simp [ji] at hv
  | some p =>
   cases h2 : ay h l with
   | none => rw [h1, h2] at hv; simp [ji] at hv
   | some q =>
    obtain ⟨a, ra⟩ := p
    obtain ⟨as', rs⟩ := q
    rw [h1, h2] at hv
    simp only [ji, Option.some.injEq, Prod.mk.injEq] at hv
    obtain ⟨rfl, rfl⟩ := hv
    intro k hk
    rcases List.mem_append.1 hk with hk | hk
    ·cases x with
     | hd j =>
      simp only [cc] at h1
      cases hj : h j with
      | none => rw [hj] at h1; simp [iD] at h1
      | some e =>
       cases e with
       | row T s n us =>
        rw [hj] at h1
        simp only [iD, Option.map_eq_some_iff, Prod.mk.injEq] at h1
        obtain ⟨vs, _, _, rfl⟩ := h1
        simp only [List.mem_singleton] at hk
        subst hk
        exact ⟨_, _, _, _, hj⟩
       | _ => rw [hj] at h1; simp [iD] at h1
     | v x => simp [cc] at h1; obtain ⟨_, rfl⟩ := h1; cases hk
     | agg l =>
      simp only [cc, Option.map_eq_some_iff, Prod.mk.injEq] at h1
      obtain ⟨_, _, _, rfl⟩ := h1
      cases hk
     | _ => simp [cc] at h1
    ·exact jg h2 k hk
theorem n8 (hs : ak W bs E F h w) : ∀ {ks : List Nat}, ks.Nodup -> (∀ k ∈ ks, ∃ e, h k = some e /\ ∀ d R, e ≠ .obj d R) -> (ks.flatMap F).Nodup
 | [], _, _ => by simp
 | k :: r, hn, he => by
  rw [List.flatMap_cons, List.nodup_append]
  obtain ⟨e, h1, h2⟩ := he k (by simp)
  refine ⟨LH h2 (hs.ent k e h1), n8 hs (List.nodup_cons.1 hn).2 (fun j hj => he j (by simp [hj])), fun b hb c hc hbc => ?_⟩
  subst hbc
  obtain ⟨j, hj, hbj⟩ := List.mem_flatMap.1 hc
  obtain ⟨e2, h3, _⟩ := he j (by simp [hj])
  exact hs.apart k j e e2 (fun e' => (List.nodup_cons.1 hn).1 (e' ▸ hj)) h1 h3 b hb hbj
theorem eC (hs : ak W bs E F h w) {k : Nat} {T : TypeId} {vs : List SV} {fs : List AV} {rs : List Nat} (hk : h k = some (.cells T vs)) (hv : ay h vs = some (fs, rs)) (hn : (k :: rs).Nodup) :
  bz w (E k) ((k :: rs).flatMap F) T fs := by
 obtain ⟨b, h1, h2, h3⟩ := hs.ent k _ hk
 obtain ⟨g1, _⟩ := bN hs hv
 refine ⟨b, an E vs, h1, h3, dA hs hv, by rw [List.flatMap_cons, h2, g1]; rfl, n8 hs hn fun j hj => ?_⟩
 rcases List.mem_cons.1 hj with rfl | hj
 ·exact ⟨_, hk, fun d R e => by cases e⟩
 ·obtain ⟨T', s, n, us, hj'⟩ := jg hv j hj
  exact ⟨_, hj', fun d R e => by cases e⟩
def aI : Nat -> List AV -> List SV
 | _, [] => []
 | k, .val v :: r => .v v :: aI (k + 1) r
 | k, .row _ _ _ _ :: r => .hd k :: aI (k + 1) r
def aS : Nat -> List AV -> List (Nat × bm)
 | _, [] => []
 | k, .val _ :: r => aS (k + 1) r
 | k, .row T s n vs :: r => (k, .row T s n (vs.map .v)) :: aS (k + 1) r
def cn : List (Nat × bm) -> List (Nat × Option bm)
 | [] => []
 | (k, e) :: r => (k, some e) :: cn r
theorem dn : ∀ {k : Nat} {fs : List AV}, ∀ p ∈ aS k fs, k <= p.1 /\ p.1 < k + fs.length /\ p.2.keys = []
 | _, [], p, hp => by cases hp
 | k, .val v :: r, p, hp => by
  have := dn (k := k + 1) (fs := r) p hp
  simp only [List.length_cons]
  exact ⟨by omega, by omega, this.2.2⟩
 | k, .row T s n vs :: r, p, hp => by
  rcases List.mem_cons.1 hp with rfl | hp
  ·simp [bm.keys, aN]
  ·have := dn (k := k + 1) (fs := r) p hp
   simp only [List.length_cons]
   exact ⟨by omega, by omega, this.2.2⟩
theorem cm : ∀ {k : Nat} {fs : List AV}, ∀ j ∈ ax (aI k fs), k <= j /\ j < k + fs.length
 | _, [], j, hj => by cases hj
 | k, .val v :: r, j, hj => by
  simp only [aI, ax, SV.keys, List.nil_append] at hj
  have := cm j hj
  simp only [List.length_cons]
  omega
 | k, .row T s n vs :: r, j, hj => by
  simp only [aI, ax, SV.keys, List.singleton_append, List.mem_cons] at hj
  simp only [List.length_cons]
  rcases hj with rfl | hj
  ·omega
  ·have := cm j hj
   omega
def fP : Nat -> List Value -> (Nat -> Value) -> Nat -> Value
 | _, [], E => E
 | k, u :: us, E => bg (fP (k + 1) us E) k u
def fM : Nat -> List Value -> List AV -> (Nat -> List Nat) -> Nat -> List Nat
 | k, u :: us, a :: as_, F => bg (fM (k + 1) us as_ F) k (PR u a)
 | _, _, _, F => F
theorem gU : ∀ {k : Nat} {us : List Value} {E : Nat -> Value} {j : Nat}, (j < k \/ k + us.length <= j) -> fP k us E j = E j
 | _, [], _, _, _ => rfl
 | k, u :: us, E, j, h => by
  simp only [List.length_cons] at h
  simp only [fP]
  rw [aj _ _ (by omega)]
  exact gU (by omega)
theorem gz : ∀ {k : Nat} {us : List Value} {as_ : List AV} {F : Nat -> List Nat} {j : Nat}, (j < k \/ k + as_.length <= j) -> fM k us as_ F j = F j
 | k, u :: us, a :: as_, F, j, h => by
  simp only [List.length_cons] at h
  simp only [fM]
  rw [aj _ _ (by omega)]
  exact gz (by omega)
 | _, [], [], _, _, _ => rfl
 | _, [], _ :: _, _, _, _ => rfl
 | _, _ :: _, [], _, _, _ => rfl
theorem fG : ∀ {us : List Value} {as_ : List AV}, ey w us as_ -> us.length = as_.length
 | [], [], _ => rfl
 | _ :: _, _ :: _, h => by simp [fG h.2]
 | [], _ :: _, h => h.elim
 | _ :: _, [], h => h.elim
theorem ew : ∀ {k : Nat} {us : List Value} {fs : List AV} {E : Nat -> Value}, ey w us fs -> an (fP k us E) (aI k fs) = us
 | _, [], [], _, _ => rfl
 | k, u :: us, .val v :: fs, E, h => by
  obtain ⟨rfl, h2⟩ := h
  simp only [aI, an, den, fP]
  congr 1
  have : an (bg (fP (k + 1) us E) k u) (aI (k + 1) fs) = an (fP (k + 1) us E) (aI (k + 1) fs) := bG _ fun j hj => aj _ _ (by have := cm j hj; omega)
  rw [this]
  exact ew h2
 | k, u :: us, .row T s n vs :: fs, E, h => by
  obtain ⟨h1, h2⟩ := h
  simp only [aI, an, den, fP, af]
  have hone : u.oneCell' = true := cT (E := E) (fp := u.ownBlock.toList) (w := w) (e := .row T s n (vs.map .v)) ⟨by rw [az]; exact h1, rfl⟩
  rw [ix hone]
  congr 1
  have : an (bg (fP (k + 1) us E) k u) (aI (k + 1) fs) = an (fP (k + 1) us E) (aI (k + 1) fs) := bG _ fun j hj => aj _ _ (by have := cm j hj; omega)
  rw [this]
  exact ew h2
 | _, [], _ :: _, _, h => h.elim
 | _, _ :: _, [], _, h => h.elim
theorem fN : ∀ {k : Nat} {us : List Value} {fs : List AV} {E : Nat -> Value} {F : Nat -> List Nat} {p : Nat × bm}, ey w us fs -> p ∈ aS k fs ->
  ∀ E0 : Nat -> Value, bn E0 (fP k us E p.1) (fM k us fs F p.1) w p.2 /\ ∀ b ∈ fM k us fs F p.1, b ∈ rO us fs
 | _, [], [], _, _, p, _, hp => by cases hp
 | k, u :: us, .val v :: fs, E, F, p, h, hp => fun E0 => by
  have hk := dn (k := k + 1) (fs := fs) p hp
  simp only [fP, fM]
  rw [aj _ _ (by omega), aj _ _ (by omega)]
  obtain ⟨h1, h2⟩ := fN (k := k + 1) (E := E) (F := F) h.2 hp E0
  exact ⟨h1, fun b hb => List.mem_append_right _ (h2 b hb)⟩
 | k, u :: us, .row T s n vs :: fs, E, F, p, h, hp => fun E0 => by
  rcases List.mem_cons.1 hp with rfl | hp
  ·simp only [fP, fM, af]
   exact ⟨⟨by rw [az]; exact h.1, rfl⟩, fun b hb => List.mem_append_left _ hb⟩
  ·have hk := dn (k := k + 1) (fs := fs) p hp
   simp only [fP, fM]
   rw [aj _ _ (by omega), aj _ _ (by omega)]
   obtain ⟨h1, h2⟩ := fN (k := k + 1) (E := E) (F := F) h.2 hp E0
   exact ⟨h1, fun b hb => List.mem_append_right _ (h2 b hb)⟩
 | _, [], _ :: _, _, _, p, h, _ => h.elim
 | _, _ :: _, [], _, _, p, h, _ => h.elim
theorem l6 {k : Nat} {a : AV} {fs : List AV} {r : Nat × bm} (hr : r ∈ aS k (a :: fs)) (hrk : r.1 ≠ k) : r ∈ aS (k + 1) fs := by
 cases a with
 | val v => exact hr
 | row T s n vs =>
  rcases List.mem_cons.1 hr with rfl | hr
  ·exact absurd rfl hrk
  ·exact hr
theorem bB : ∀ {k : Nat} {us : List Value} {fs : List AV} {F : Nat -> List Nat} {r : Nat × bm}, us.length = fs.length -> r ∈ aS k fs -> ∀ b ∈ fM k us fs F r.1, b ∈ rO us fs
 | _, [], [], _, r, _, hr, _, _ => by cases hr
 | _, [], _ :: _, _, _, hl, _, _, _ => by simp at hl
 | _, _ :: _, [], _, _, hl, _, _, _ => by simp at hl
 | k, u :: us, a :: fs, F, r, hl, hr, b, hb => by
  simp only [rO, List.mem_append]
  simp only [fM] at hb
  by_cases hrk : r.1 = k
  ·rw [hrk, af] at hb; exact .inl hb
  ·rw [aj _ _ hrk] at hb
   exact .inr (bB (by simpa using hl) (l6 hr hrk) b hb)
theorem ek : ∀ {k : Nat} {us : List Value} {fs : List AV} {F : Nat -> List Nat} {p q : Nat × bm}, (rO us fs).Nodup -> p ∈ aS k fs -> q ∈ aS k fs -> us.length = fs.length -> p.1 ≠ q.1 -> ∀ b ∈ fM k us fs F p.1, b ∉ fM k us fs F q.1
 | _, [], [], _, p, _, _, hp, _, _, _, _, _ => by cases hp
 | _, [], _ :: _, _, _, _, _, _, _, hl, _, _, _ => by simp at hl
 | _, _ :: _, [], _, _, _, _, _, _, hl, _, _, _ => by simp at hl
 | k, u :: us, a :: fs, F, p, q, hn, hp, hq, hl, hpq, b, hb => by
  have hl' : us.length = fs.length := by simpa using hl
  rw [show rO (u :: us) (a :: fs) = PR u a ++ rO us fs from rfl, List.nodup_append] at hn
  obtain ⟨_, n2, n3⟩ := hn
  simp only [fM] at hb ⊢
  by_cases hpk : p.1 = k
  ·rw [hpk, af] at hb
   have hqk : q.1 ≠ k := fun e => hpq (by rw [hpk, e])
   rw [aj _ _ hqk]
   intro hb'
   exact n3 b hb b (bB hl' (l6 hq hqk) b hb') rfl
  ·rw [aj _ _ hpk] at hb
   by_cases hqk : q.1 = k
   ·rw [hqk, af]
    intro hb'
    exact n3 b hb' b (bB hl' (l6 hp hpk) b hb) rfl
   ·rw [aj _ _ hqk]
    exact ek n2 (l6 hp hpk) (l6 hq hqk) hl' hpq b hb
end
end
section
open Go.RowKit
inductive BOut where
 | ret (v : Value) (fs : List AV)
 | pan (c : List PanicEntry) (v : Value)
def fu (w : World) (u : Value) (fp : List Nat) (T : TypeId) (e : Ending) (w' : World) : BOut -> Prop
 | .ret v fs => e = .returned v /\ (∃ fp', bz w' u fp' T fs /\ (∀ b ∈ fp', b ∈ fp \/ w.heap.size <= b) /\ ∀ b ∈ fp', b < w'.heap.size) /\ ai w fp w'
 | .pan c _ => e = .panicked c /\ ai w fp w'
structure dv (P : Program) (f : FuncId) where
 T : TypeId
 pre : World -> List Nat -> List AV -> List AV -> Prop
 out : World -> List AV -> List AV -> BOut
 enters : ∀ args w, (callFunc f args).run P w = .ok (.enter f args) w
 ok : ∀ (W w : World) (bs : List Nat) (u : Value) (fp : List Nat) (us : List Value) (fs as_ : List AV), ai W bs w -> bz w u fp T fs -> (∀ b ∈ fp, b < w.heap.size) -> (∀ b ∈ fp, W.heap.size <= b \/ b ∈ bs) -> ey w us as_ -> pre W bs fs as_ ->
  Calls P f (u :: us).toArray w fun e w' => fu w u fp T e w' (out W fs as_)
def dC (rs : List Nat) : List (Nat × Option bm) := rs.map fun j => (j, none)
def fB (κ k : Nat) (T : TypeId) (pre : Prop) (rs rs' : List Nat) : BOut -> R
 | .ret v fs => ⟨pre /\ (k :: rs).Nodup /\ (∀ j ∈ rs', j ∉ k :: rs) /\ fs.length <= 8, .v v, dC rs ++ (cn (aS (8 * κ) fs) ++ [(k, some (.cells T (aI (8 * κ) fs)))]), none, [], k :: (rs ++ rs')⟩
 | .pan c v => ⟨pre /\ (k :: rs).Nodup /\ (∀ j ∈ rs', j ∉ k :: rs), .v v, [], some c, k :: rs, k :: (rs ++ rs')⟩
def fT (κ k : Nat) (T T' : TypeId) (pre : List AV -> List AV -> Prop) (out : List AV -> List AV -> BOut) (as_ : List AV) (rs' : List Nat) : Option (List AV × List Nat) -> R
 | some (fs, rs) => fB κ k T (T' = T /\ pre fs as_) rs rs' (out fs as_)
 | none => .bad
def eQ (h : Hp) (κ k : Nat) (T : TypeId) (pre : List AV -> List AV -> Prop) (out : List AV -> List AV -> BOut) : Option bm -> Option (List AV × List Nat) -> R
 | some (.cells T' vs), some (as_, rs') => fT κ k T T' pre out as_ rs' (ay h vs)
 | _, _ => .bad
def mM (h : Hp) (κ : Nat) (T : TypeId) (pre : List AV -> List AV -> Prop) (out : List AV -> List AV -> BOut) : List SV -> R
 | .own k 0 :: rest => eQ h κ k T pre out (h k) (ay h rest)
 | _ => .bad
section
variable {P : Program} {W : World} {bs : List Nat} {κ : Nat} {E : Nat -> Value} {F : Nat -> List Nat} {h : Nat -> Option bm} {w : World} {K : Nat -> Prop}
theorem ck {α : Type} (f : Nat -> α) : ∀ (a b : List (Nat × α)), aY f (a ++ b) = aY (aY f a) b
 | [], _ => rfl
 | (k, x) :: r, b => by simp only [List.cons_append, aY]; exact ck _ r b
theorem ko (h : Hp) : ∀ (rs : List Nat) (j : Nat), aY h (dC rs) j = if j ∈ rs then none else h j
 | [], j => by simp [dC, aY]
 | k :: r, j => by
  have : aY h (dC (k :: r)) j = aY (bg h k none) (dC r) j := rfl
  rw [this, ko]
  by_cases hj : j ∈ r
  ·simp [hj]
  ·by_cases hjk : j = k
   ·subst hjk; simp [hj, af]
   ·simp [hj, hjk, aj _ _ hjk]
theorem jC : ∀ (L : List (Nat × Option bm)) (f : Hp) (j : Nat), (∀ p ∈ L, ∃ e, p.2 = some e) -> aY f L j = match aY (fun _ => none) L j with | some e => some e | none => f j
 | [], f, j, _ => rfl
 | (i, x) :: r, f, j, hL => by
  obtain ⟨e, he⟩ := hL (i, x) (by simp)
  simp only at he
  subst he
  have hr : ∀ p ∈ r, ∃ e, p.2 = some e := fun p hp => hL p (by simp [hp])
  simp only [aY]
  rw [jC r (bg f i (some e)) j hr, jC r (bg (fun _ => none) i (some e)) j hr]
  cases aY (fun _ => none) r j with
  | some y => rfl
  | none =>
   simp only
   by_cases hj : j = i
   ·subst hj; simp [af]
   ·simp [aj _ _ hj]
theorem dS {L : List (Nat × bm)} {p : Nat × Option bm} : p ∈ cn L ↔ ∃ e, p = (p.1, some e) /\ (p.1, e) ∈ L := by
 induction L with
 | nil => simp [cn]
 | cons q r ih =>
  obtain ⟨k, e⟩ := q
  simp only [cn, List.mem_cons, ih]
  constructor
  ·rintro (rfl | ⟨e', h1, h2⟩)
   ·exact ⟨e, rfl, .inl rfl⟩
   ·exact ⟨e', h1, .inr h2⟩
  ·rintro ⟨e', h1, h2 | h2⟩
   ·left
    rw [h1]
    simp only [Prod.mk.injEq] at h2
    rw [h2.1, h2.2]
   ·exact .inr ⟨e', h1, h2⟩
theorem mf {w' : World} {k : Nat} {T : TypeId} {vs : List SV} {fs fs' : List AV} {rs fp' : List Nat} (hs : ak W bs E F h w) (hK : bI K h) (hk : ∀ k, k / 8 = κ -> ¬ K k)
  (hkk : h k = some (.cells T vs)) (hv : ay h vs = some (fs, rs)) (hlen : fs'.length <= 8) (hn : (k :: rs).Nodup)
  (ho : bz w' (E k) fp' T fs') (h1 : ∀ b ∈ fp', b ∈ (k :: rs).flatMap F \/ w.heap.size <= b) (h2 : ∀ b ∈ fp', b < w'.heap.size) (hkeep : ai w ((k :: rs).flatMap F) w') :
  ∃ E' F', (∀ j, j / 8 ≠ κ -> E' j = E j) /\ ak W bs E' F' (aY h (dC rs ++ (cn (aS (8 * κ) fs') ++ [(k, some (.cells T (aI (8 * κ) fs')))]))) w' := by
 obtain ⟨b, us, hu, hb, hus, rfl, hnd⟩ := ho
 have hl := fG hus
 have hKk : K k := (hK k _ hkk).1
 have hfr : ∀ j, 8 * κ <= j -> j < 8 * κ + 8 -> ¬ K j := fun j g1 g2 => hk j (by omega)
 have hkf : k < 8 * κ \/ 8 * κ + 8 <= k := by
  by_cases g1 : k < 8 * κ
  ·exact .inl g1
  ·by_cases g2 : 8 * κ + 8 <= k
   ·exact .inr g2
   ·exact absurd hKk (hfr k (by omega) (by omega))
 have hE : ∀ j, j / 8 ≠ κ -> fP (8 * κ) us E j = E j := fun j hj => gU (by omega)
 have hsome : ∀ p ∈ cn (aS (8 * κ) fs') ++ [(k, some (.cells T (aI (8 * κ) fs')))], ∃ e, p.2 = some e := fun p hp => by
  rcases List.mem_append.1 hp with hp | hp
  ·obtain ⟨e, he, _⟩ := dS.1 hp; exact ⟨e, by rw [he]⟩
  ·simp at hp; exact ⟨_, by rw [hp]⟩
 have hNm : ∀ j e, aY (fun _ => none) (cn (aS (8 * κ) fs') ++ [(k, some (.cells T (aI (8 * κ) fs')))]) j = some e -> (j = k /\ e = .cells T (aI (8 * κ) fs')) \/ (j ≠ k /\ (j, e) ∈ aS (8 * κ) fs') := fun j e he => by
  rw [ck] at he
  simp only [aY] at he
  by_cases hj : j = k
  ·subst hj; rw [af] at he; cases he; exact .inl ⟨rfl, rfl⟩
  ·rw [aj _ _ hj] at he
   rcases kQ (fun _ => (none : Option bm)) (k := j) (u := cn (aS (8 * κ) fs')) with ⟨x, hx, hx'⟩ | ⟨_, hx'⟩
   ·rw [hx'] at he
    subst he
    obtain ⟨e', h3, h4⟩ := dS.1 hx
    simp only [Prod.mk.injEq, true_and, Option.some.injEq] at h3
    subst h3
    exact .inr ⟨hj, h4⟩
   ·rw [hx'] at he; cases he
 have hNk : aY (fun _ => none) (cn (aS (8 * κ) fs') ++ [(k, some (.cells T (aI (8 * κ) fs')))]) k = some (.cells T (aI (8 * κ) fs')) := by
  rw [ck]; simp [aY, af]
 have hb' : b ∉ rO us fs' := (List.nodup_cons.1 hnd).1
 have hnd' : (rO us fs').Nodup := (List.nodup_cons.1 hnd).2
 refine ⟨fP (8 * κ) us E, bg (fM (8 * κ) us fs' F) k [b], hE, ?_⟩
 refine hs.mu hK (k :: rs) (aY (fun _ => none) (cn (aS (8 * κ) fs') ++ [(k, some (.cells T (aI (8 * κ) fs')))])) (fun j hj => ?_) (fun j hj => hE j fun e => hk j e hj) (fun j e he => ?_) (fun i j e e' hij hi hj c hc => ?_) (fun j x hx hj => ?_) (fun j => ?_) hkeep
 ·rcases List.mem_cons.1 hj with rfl | hj
  ·exact ⟨_, hkk⟩
  ·exact (bN hs hv).2 j hj
 ·rcases hNm j e he with ⟨rfl, rfl⟩ | ⟨hjk, hm⟩
  ·rw [af, hE j fun e => hk j e hKk]
   refine ⟨⟨b, hu, rfl, by rw [ew hus]; exact hb⟩, fun c hc => ?_, fun c hc => h2 c (by simp at hc; simp [hc])⟩
   simp only [List.mem_singleton] at hc
   subst hc
   rcases h1 c (by simp) with g | g
   ·obtain ⟨i, hi, hci⟩ := List.mem_flatMap.1 g; exact .inl ⟨i, hi, hci⟩
   ·exact .inr g
  ·rw [aj _ _ hjk]
   obtain ⟨g1, g2⟩ := fN (E := E) (F := F) hus hm (fP (8 * κ) us E)
   refine ⟨g1, fun c hc => ?_, fun c hc => h2 c (List.mem_cons_of_mem _ (g2 c hc))⟩
   rcases h1 c (List.mem_cons_of_mem _ (g2 c hc)) with g | g
   ·obtain ⟨i, hi, hci⟩ := List.mem_flatMap.1 g; exact .inl ⟨i, hi, hci⟩
   ·exact .inr g
 ·rcases hNm i e hi with ⟨rfl, rfl⟩ | ⟨hik, hmi⟩
  ·rcases hNm j e' hj with ⟨rfl, rfl⟩ | ⟨hjk, hmj⟩
   ·exact absurd rfl hij
   ·rw [af] at hc
    rw [aj _ _ hjk]
    simp only [List.mem_singleton] at hc
    subst hc
    exact fun hc' => hb' (bB hl hmj c hc')
  ·rw [aj _ _ hik] at hc
   rcases hNm j e' hj with ⟨rfl, rfl⟩ | ⟨hjk, hmj⟩
   ·rw [af]
    intro hc'
    simp only [List.mem_singleton] at hc'
    subst hc'
    exact hb' (bB hl hmi c hc)
   ·rw [aj _ _ hjk]
    exact ek hnd' hmi hmj hl hij c hc
 ·have hjk : j ≠ k := fun e => by rw [e, hNk] at hj; cases hj
  rw [aj _ _ hjk]
  have hKj := (hK j x hx).1
  by_cases g1 : j < 8 * κ
  ·exact gz (.inl g1)
  ·by_cases g2 : 8 * κ + 8 <= j
   ·exact gz (.inr (by omega))
   ·exact absurd hKj (hfr j (by omega) (by omega))
 ·rw [ck, jC _ _ _ hsome, ko]
  cases hN : aY (fun _ => none) (cn (aS (8 * κ) fs') ++ [(k, some (.cells T (aI (8 * κ) fs')))]) j with
  | some e => rfl
  | none =>
   have hjk : j ≠ k := fun e => by rw [e, hNk] at hN; cases hN
   simp [hjk]
theorem sq {fs : List AV} (hlen : fs.length <= 8) {j : Nat} {e : bm} (hm : (j, e) ∈ aS (8 * κ) fs) : j / 8 = κ /\ e.keys = [] := by
 have := dn _ hm
 exact ⟨by simp only at this; omega, this.2.2⟩
theorem pq (hK : bI K h) {l : List SV} {as_ : List AV} {r : List Nat} (hv : ay h l = some (as_, r)) : ∀ k ∈ r, K k := fun k hk => by
 obtain ⟨T, s, n, vs, h1⟩ := jg hv k hk
 exact (hK k _ h1).1
end
def dv.spec {P : Program} {f : FuncId} (p : dv P f) : Spec P f where
 ev := fun W bs κ h args => mM h κ p.T (p.pre W bs) (p.out W) args
 good := fun W bs κ E F h w K args hs hK hk hx hside => by
  rw [p.enters]
  revert hside
  unfold mM
  split
  ·rename_i k rest
   cases hkk : h k with
   | none => exact fun hf => hf.elim
   | some e =>
    cases e with
    | row T s n vs => exact fun hf => hf.elim
    | obj d R => exact fun hf => hf.elim
    | cells T' vs =>
     cases hr : ay h rest with
     | none => exact fun hf => hf.elim
     | some q =>
      obtain ⟨as_, rs'⟩ := q
      simp only [eQ]
      cases hv : ay h vs with
      | none => exact fun hf => hf.elim
      | some q =>
       obtain ⟨fs, rs⟩ := q
       simp only [fT]
       have hent := hs.ent k _ hkk
       obtain ⟨b, hu, _, _⟩ := hent
       have hden : den E (.own k 0) = E k := by simp [den, hu, base, cx]
       have call : ∀ hn : (k :: rs).Nodup, T' = p.T -> p.pre W bs fs as_ -> Calls P f (an E (.own k 0 :: rest)).toArray w fun e w' => fu w (E k) ((k :: rs).flatMap F) p.T e w' (p.out W fs as_) := fun hn hT hp => by
        subst hT
        have ho := eC hs hkk hv hn
        have := p.ok W w bs (E k) _ (an E rest) fs as_ hs.keeps ho (fun c hc => ?_) (fun c hc => ?_) (dA hs hr) hp
        ·simpa only [an, hden] using this
        ·obtain ⟨j, hj, hcj⟩ := List.mem_flatMap.1 hc
         rcases List.mem_cons.1 hj with rfl | hj
         ·exact hs.lt _ _ hkk c hcj
         ·obtain ⟨e, he⟩ := (bN hs hv).2 j hj
          exact hs.lt j e he c hcj
        ·obtain ⟨j, hj, hcj⟩ := List.mem_flatMap.1 hc
         rcases List.mem_cons.1 hj with rfl | hj
         ·exact hs.mine _ _ hkk c hcj
         ·obtain ⟨e, he⟩ := (bN hs hv).2 j hj
          exact hs.mine j e he c hcj
       cases hout : p.out W fs as_ with
       | ret v fs' =>
        simp only [fB]
        rintro ⟨⟨hT, hp⟩, hn, hd, hlen⟩
        have hc := call hn hT hp
        rw [hout] at hc
        subst hT
        refine hc.mono fun e w' he => ?_
        obtain ⟨rfl, ⟨fp', ho, h1, h2⟩, hkeep⟩ := he
        obtain ⟨E', F', hE', hs'⟩ := mf hs hK hk hkk hv hlen hn ho h1 h2 hkeep
        exact ⟨rfl, E', F', hE', rfl, hs'⟩
       | pan c _ =>
        simp only [fB]
        rintro ⟨⟨hT, hp⟩, hn, hd⟩
        have hc := call hn hT hp
        rw [hout] at hc
        refine hc.mono fun e w' he => ?_
        obtain ⟨rfl, hkeep⟩ := he
        refine ⟨rfl, F, ?_⟩
        refine hs.mu hK (k :: rs) (fun _ => none) (fun j hj => ?_) (fun _ _ => rfl) (fun j e he => by cases he) (fun i j e e' _ he => by cases he) (fun _ _ _ _ => rfl) (fun j => ?_) hkeep
        ·rcases List.mem_cons.1 hj with rfl | hj
         ·exact ⟨_, hkk⟩
         ·exact (bN hs hv).2 j hj
        ·simp only [dropKeys]
  ·exact fun hf => hf.elim
 keys := fun W bs κ h K args hK hx hside => by
  revert hside
  unfold mM
  split
  ·rename_i k rest
   cases hkk : h k with
   | none => exact fun hf => hf.elim
   | some e =>
    cases e with
    | row T s n vs => exact fun hf => hf.elim
    | obj d R => exact fun hf => hf.elim
    | cells T' vs =>
     cases hr : ay h rest with
     | none => exact fun hf => hf.elim
     | some q =>
      obtain ⟨as_, rs'⟩ := q
      simp only [eQ]
      cases hv : ay h vs with
      | none => exact fun hf => hf.elim
      | some q =>
       obtain ⟨fs, rs⟩ := q
       simp only [fT]
       cases hout : p.out W fs as_ with
       | ret v fs' =>
        simp only [fB]
        rintro ⟨_, hn, hd, hlen⟩
        refine ⟨fun j hj => (by cases hj), fun q hq => ?_⟩
        simp only [List.mem_append, List.mem_singleton] at hq
        rcases hq with hq | hq | rfl
        ·simp only [dC, List.mem_map] at hq
         obtain ⟨j, hj, rfl⟩ := hq
         exact ⟨.inl (pq hK hv j hj), fun e he => by cases he⟩
        ·obtain ⟨e, h1, h2⟩ := dS.1 hq
         obtain ⟨h3, h4⟩ := sq hlen h2
         refine ⟨.inr h3, fun e' he' j hj => ?_⟩
         rw [h1] at he'
         simp only [Option.some.injEq] at he'
         subst he'
         rw [h4] at hj
         cases hj
        ·refine ⟨.inl (hK k _ hkk).1, fun e' he' j hj => .inr ?_⟩
         simp only [Option.some.injEq] at he'
         subst he'
         have := cm j hj
         omega
       | pan c _ =>
        simp only [fB]
        rintro _
        exact ⟨fun j hj => (by cases hj), fun q hq => by cases hq⟩
  ·exact fun hf => hf.elim
 loc := fun W bs κ h h' args hside hr => by
  revert hside hr
  unfold mM
  split
  ·rename_i k rest
   cases hkk : h k with
   | none => exact fun hf => hf.elim
   | some e =>
    cases e with
    | row T s n vs => exact fun hf => hf.elim
    | obj d R => exact fun hf => hf.elim
    | cells T' vs =>
     cases hrr : ay h rest with
     | none => exact fun hf => hf.elim
     | some q =>
      obtain ⟨as_, rs'⟩ := q
      simp only [eQ]
      cases hv : ay h vs with
      | none => exact fun hf => hf.elim
      | some q =>
       obtain ⟨fs, rs⟩ := q
       simp only [fT]
       have key : ∀ r : R, (∀ j ∈ r.reads, h' j = h j) -> r.reads = k :: (rs ++ rs') -> h' k = some (.cells T' vs) /\ ay h' rest = some (as_, rs') /\ ay h' vs = some (fs, rs) := fun r hr he => by
        rw [he] at hr
        exact ⟨by rw [hr k (by simp), hkk], cD hrr fun j hj => hr j (by simp [hj]), cD hv fun j hj => hr j (by simp [hj])⟩
       intro _ hr
       obtain ⟨g1, g2, g3⟩ := key _ hr (by cases p.out W fs as_ <;> rfl)
       rw [g1, g2]
       simp only [eQ, g3, fT]
  ·exact fun hf => hf.elim
theorem GM {P : Program} {f : FuncId} (p : dv P f) (W : World) (bs : List Nat) (κ : Nat) (h : Hp) (l : List SV) : p.spec.ev W bs κ h l = mM h κ p.T (p.pre W bs) (p.out W) l := rfl
theorem Aw (h : Hp) (κ k : Nat) (T : TypeId) (pre : List AV -> List AV -> Prop) (out : List AV -> List AV -> BOut) (rest : List SV) : mM h κ T pre out (.own k 0 :: rest) = eQ h κ k T pre out (h k) (ay h rest) := rfl
theorem vE (h : Hp) (κ k : Nat) (T T' : TypeId) (pre : List AV -> List AV -> Prop) (out : List AV -> List AV -> BOut) (vs : List SV) (as_ : List AV) (rs' : List Nat) : eQ h κ k T pre out (some (.cells T' vs)) (some (as_, rs')) = fT κ k T T' pre out as_ rs' (ay h vs) := rfl
theorem zR (κ k : Nat) (T T' : TypeId) (pre : List AV -> List AV -> Prop) (out : List AV -> List AV -> BOut) (as_ : List AV) (rs' : List Nat) (fs : List AV) (rs : List Nat) : fT κ k T T' pre out as_ rs' (some (fs, rs)) = fB κ k T (T' = T /\ pre fs as_) rs rs' (out fs as_) := rfl
theorem BU (κ k : Nat) (T : TypeId) (pre : Prop) (rs rs' : List Nat) (v : Value) (fs : List AV) : fB κ k T pre rs rs' (.ret v fs) = ⟨pre /\ (k :: rs).Nodup /\ (∀ j ∈ rs', j ∉ k :: rs) /\ fs.length <= 8, .v v, dC rs ++ (cn (aS (8 * κ) fs) ++ [(k, some (.cells T (aI (8 * κ) fs)))]), none, [], k :: (rs ++ rs')⟩ := rfl
theorem AF (κ k : Nat) (T : TypeId) (pre : Prop) (rs rs' : List Nat) (c : List PanicEntry) (v : Value) : fB κ k T pre rs rs' (.pan c v) = ⟨pre /\ (k :: rs).Nodup /\ (∀ j ∈ rs', j ∉ k :: rs), .v v, [], some c, k :: rs, k :: (rs ++ rs')⟩ := rfl
theorem Mk (k : IntKind) (n : Int) : pF .xor [.v (.int k n)] = ⟨True, .v (.int k (bU .xor k (if k.signed then -1 else k.max) n)), [], none, [], []⟩ := rfl
theorem Jt : dC [] = [] := rfl
theorem Ff (k : Nat) (r : List Nat) : dC (k :: r) = (k, none) :: dC r := rfl
theorem Je (k : Nat) : aS k [] = [] := rfl
theorem JY (k : Nat) (v : Value) (r : List AV) : aS k (.val v :: r) = aS (k + 1) r := rfl
theorem J3 (k : Nat) (T s n : Nat) (vs : List Value) (r : List AV) : aS k (.row T s n vs :: r) = (k, .row T s n (vs.map .v)) :: aS (k + 1) r := rfl
theorem Gq (k : Nat) : aI k [] = [] := rfl
theorem Es (k : Nat) (v : Value) (r : List AV) : aI k (.val v :: r) = .v v :: aI (k + 1) r := rfl
theorem EX (k : Nat) (T s n : Nat) (vs : List Value) (r : List AV) : aI k (.row T s n vs :: r) = .hd k :: aI (k + 1) r := rfl
theorem JI : cn [] = [] := rfl
theorem DN (k : Nat) (e : bm) (r : List (Nat × bm)) : cn ((k, e) :: r) = (k, some e) :: cn r := rfl
def σB (T : TypeId) (fs : List AV) (args : List Value) : St := ⟨1, bV ((0, .is (.own 0 0)) :: oh args 1), cd ((0, .cells T (aI 1 fs)) :: aS 1 fs)⟩
theorem uh {k : Nat} {fs : List AV} {j : Nat} {e : bm} (h : cd (aS k fs) j = some e) : (j, e) ∈ aS k fs := eL h
theorem u7 {w : World} {nt m : Nat} {T : TypeId} {fs : List AV} {u : Value} {fp : List Nat} (us : Array Value) (hlen : fs.length <= 7) (ho : bz w u fp T fs) (hlt : ∀ b ∈ fp, b < w.heap.size) (hnt : us.size + 1 + m = nt) :
  Sat w fp nt ⟨[], [(0, u)]⟩ (σB T fs us.toList) { tmps := (#[u] ++ us) ++ Array.replicate m undef, defers := [] } w := by
 obtain ⟨b, vs, rfl, hb, hvs, rfl, hnd⟩ := ho
 have hl := fG hvs
 have hb' : b ∉ rO vs fs := (List.nodup_cons.1 hnd).1
 have hnd' : (rO vs fs).Nodup := (List.nodup_cons.1 hnd).2
 have at' : ∀ j e, cd ((0, .cells T (aI 1 fs)) :: aS 1 fs) j = some e -> (j = 0 /\ e = .cells T (aI 1 fs)) \/ (j ≠ 0 /\ (j, e) ∈ aS 1 fs) := fun j e he => by
  simp only [cd] at he
  by_cases hj : j = 0
  ·subst hj; rw [af] at he; cases he; exact .inl ⟨rfl, rfl⟩
  ·rw [aj _ _ hj] at he; exact .inr ⟨hj, uh he⟩
 have e0 : fP 1 vs (fun _ => .pointer (some ⟨b, 0, none⟩)) 0 = .pointer (some ⟨b, 0, none⟩) := gU (.inl (by omega))
 refine ⟨⟨fP 1 vs (fun _ => .pointer (some ⟨b, 0, none⟩)), bg (fM 1 vs fs (fun _ => [])) 0 [b], fun t => ?_, ⟨fun j e he => ?_, fun j e he c hc => ?_, fun j e he c hc => ?_, fun i j e e' hij hi hj c hc => ?_, ai.refl w _⟩, fun p hp => ?_⟩, ?_, rfl, fun p hp => ?_, fun t k hk => ?_, fun j e he => ?_⟩
 ·show fits _ (bV ((0, .is (.own 0 0)) :: oh us.toList 1) t) _
  simp only [bV, bg]
  split
  ·rename_i ht
   subst ht
   simp only [fits, den, e0, base, cx]
   rw [Array.getD_eq_getD_getElem?, Array.getElem?_append_left (by simp; omega), Array.getElem?_append_left (by simp)]
   rfl
  ·refine kG _ us.toList 1 t (fun t => ((#[Value.pointer (some ⟨b, 0, none⟩)] ++ us) ++ Array.replicate m undef).getD t undef) fun j hj => ?_
   have hj' : j < us.size := by simpa using hj
   rw [Array.getD_eq_getD_getElem?, Array.getElem?_append_left (by simp; omega), Array.getElem?_append_right (by simp)]
   simp [Array.getElem?_eq_getElem hj']
 ·rcases at' j e he with ⟨rfl, rfl⟩ | ⟨hj, hm⟩
  ·exact ⟨b, e0, by rw [af], by rw [ew hvs]; exact hb⟩
  ·rw [aj _ _ hj]
   exact (fN hvs hm _).1
 ·rcases at' j e he with ⟨rfl, rfl⟩ | ⟨hj, hm⟩
  ·rw [af] at hc; exact hlt c (by simp at hc; simp [hc])
  ·rw [aj _ _ hj] at hc; exact hlt c (List.mem_cons_of_mem _ (bB hl hm c hc))
 ·right
  rcases at' j e he with ⟨rfl, rfl⟩ | ⟨hj, hm⟩
  ·rw [af] at hc; simp at hc; simp [hc]
  ·rw [aj _ _ hj] at hc; exact List.mem_cons_of_mem _ (bB hl hm c hc)
 ·rcases at' i e hi with ⟨rfl, rfl⟩ | ⟨hi0, hmi⟩
  ·rcases at' j e' hj with ⟨rfl, rfl⟩ | ⟨hj0, hmj⟩
   ·exact absurd rfl hij
   ·rw [af] at hc
    rw [aj _ _ hj0]
    simp only [List.mem_singleton] at hc
    subst hc
    exact fun hc' => hb' (bB hl hmj c hc')
  ·rw [aj _ _ hi0] at hc
   rcases at' j e' hj with ⟨rfl, rfl⟩ | ⟨hj0, hmj⟩
   ·rw [af]
    intro hc'
    simp only [List.mem_singleton] at hc'
    subst hc'
    exact hb' (bB hl hmi c hc)
   ·rw [aj _ _ hj0]
    exact ek hnd' hmi hmj hl hij c hc
 ·simp only [List.mem_singleton] at hp
  subst hp
  exact e0
 ·simp; omega
 ·simp only [List.mem_singleton] at hp
  subst hp
  show 0 / 8 < 1
  omega
 ·simp only [σB, bV, bg] at hk
  split at hk
  ·simp [FV.keys, SV.keys] at hk; subst hk; show 0 / 8 < 1; omega
  ·rw [kj] at hk; cases hk
 ·rcases at' j e he with ⟨rfl, rfl⟩ | ⟨hj, hm⟩
  ·refine ⟨by show 0 / 8 < 1; omega, fun i hi => ?_⟩
   have := cm i hi
   show i / 8 < 1
   omega
  ·have := dn _ hm
   refine ⟨by show j / 8 < 1; simp only at this; omega, fun i hi => ?_⟩
   rw [this.2.2] at hi
   cases hi
theorem bL {P : Program} {f : FuncId} {fn : Func} {c : Code} {w : World} {nt : Nat} {T : TypeId} {u : Value} {fp : List Nat} {fs : List AV} {out : BOut} (us : Array Value) (rs : List ResultVar)
  (hlen : fs.length <= 7) (ho : bz w u fp T fs) (hlt : ∀ b ∈ fp, b < w.heap.size)
  (hf : P.funcs[f]? = some fn) (hb : fn.body = some c) (hrs : fn.results.toList = rs) (hnt : us.size + 1 + (fn.ntmps - (us.size + 1)) = nt)
  (h : Wp P w fp nt ⟨[], [(0, u)]⟩ c (Fin P rs (fun _ _ x h => ∃ v fs', out = .ret v fs' /\ (∀ E, den E x = v) /\ ∃ vs ks, h 0 = some (.cells T vs) /\ ay h vs = some (fs', ks) /\ (0 :: ks).Nodup) (fun c _ => ∃ v, out = .pan c v)) (σB T fs us.toList)) :
  Calls P f (#[u] ++ us) w fun e w' => fu w u fp T e w' out := by
 subst hrs
 have hsat := u7 (nt := nt) (m := fn.ntmps - (us.size + 1)) us hlen ho hlt hnt
 have hsz : (#[u] ++ us).size = us.size + 1 := by simp; omega
 refine (jv hf hb (by rw [hsz]; exact hsat) h).mono fun e w' he => ?_
 cases e with
 | returned v' =>
  obtain ⟨W', bs', E, F, x, h', hx, ⟨v, fs', rfl, hd, vs, ks, h0, hv, hn⟩, rfl, hs, hp⟩ := he
  have hs' := hs.back hx
  have hE : E 0 = u := hp (0, u) (by simp)
  have ho' := eC hs' h0 hv hn
  rw [hE] at ho'
  refine ⟨by rw [hd E], ⟨_, ho', fun b hb => ?_, fun b hb => ?_⟩, hs'.keeps⟩
  ·obtain ⟨j, hj, hbj⟩ := List.mem_flatMap.1 hb
   have : ∃ e, h' j = some e := by
    rcases List.mem_cons.1 hj with rfl | hj
    ·exact ⟨_, h0⟩
    ·exact (bN hs' hv).2 j hj
   obtain ⟨e, he⟩ := this
   exact (hs'.mine j e he b hbj).symm
  ·obtain ⟨j, hj, hbj⟩ := List.mem_flatMap.1 hb
   have : ∃ e, h' j = some e := by
    rcases List.mem_cons.1 hj with rfl | hj
    ·exact ⟨_, h0⟩
    ·exact (bN hs' hv).2 j hj
   obtain ⟨e, he⟩ := this
   exact hs'.lt j e he b hbj
 | panicked c =>
  obtain ⟨W', bs', E, F, h', hx, ⟨_, rfl⟩, hs, hp⟩ := he
  exact ⟨rfl, (hs.back hx).keeps⟩
 | outgrown => exact he.elim
end
section
def Y1 := (ab @Mk (ab @GM (ab @Aw (ab @vE (ab @zR (ab @BU (ab @AF (ab @Jt (ab @Ff (ab @Je (ab @JY (ab @J3 (ab @Gq (ab @Es (ab @EX (ab @JI @DN))))))))))))))))
end
section
open Go.RowKit
theorem WD : IntKind.i64.bits = 64 /\ IntKind.u64.bits = 64 /\ IntKind.u8.bits = 8 /\ IntKind.i32.bits = 32 /\ IntKind.u32.bits = 32 /\ IntKind.u16.bits = 16 := ⟨rfl, rfl, rfl, rfl, rfl, rfl⟩
structure Is (P : Program) (f : FuncId) where
 pre : World -> List Nat -> List AV -> Prop
 res : World -> List AV -> Value
 ok : ∀ (W w : World) (bs : List Nat) (us : List Value) (as_ : List AV), ai W bs w -> ey w us as_ -> pre W bs as_ -> (callFunc f us.toArray).run P w = .ok (.value (res W as_)) w
def Is.spec {P : Program} {f : FuncId} (p : Is P f) : Spec P f where
 ev := fun W bs _ h args => CI p.pre p.res W bs (ay h args)
 good := fun W bs κ E F h w K args hs hK hk hx hside => by
  cases hv : ay h args with
  | none => rw [hv] at hside; exact hside.elim
  | some q =>
   obtain ⟨as_, rs⟩ := q
   rw [hv] at hside
   rw [p.ok W w bs _ as_ hs.keeps (dA hs hv) hside]
   exact Good.pure hs rfl rfl rfl
 keys := fun W bs κ h K args hK hx hside => by
  cases hv : ay h args with
  | none => rw [hv] at hside; exact hside.elim
  | some q => exact aH.plain (fun k hk => by cases hk) rfl
 loc := fun W bs κ h h' args hside hr => by
  cases hv : ay h args with
  | none => rw [hv] at hside; exact hside.elim
  | some q =>
   obtain ⟨as_, rs⟩ := q
   rw [hv] at hr
   rw [cD hv hr]
theorem aC {P : Program} {f : FuncId} (p : Is P f) (W : World) (bs : List Nat) (κ : Nat) (h : Hp) (l : List SV) : p.spec.ev W bs κ h l = CI p.pre p.res W bs (ay h l) := rfl
theorem Yh : min 6 8 = 6 /\ min 6 64 = 6 /\ min 4 8 = 4 /\ min 1 64 = 1 /\ min 2 64 = 2 /\ min 4 64 = 4 /\ min 8 64 = 8 /\ min 16 64 = 16 /\ min 32 64 = 32 := by decide
section
variable {P : Program} {W : World} {bs : List Nat} {κ : Nat} {h : Hp} {Γ : Env P}
theorem y5 (fn : Fn) (first cap : Array Operand) (l : List SV) : dx Γ W bs κ h (.makeFunc fn first cap) l = ⟨True, .fn fn (l.take first.size) (l.drop first.size), [], none, [], []⟩ := rfl
theorem uC (x : Operand) (xT T : TypeId) (ok : Bool) (l : List SV) : dx Γ W bs κ h (.typeAssert x xT T ok) l = dZ P T ok l := rfl
theorem R9 (as_ : Array Operand) (tys : Array TypeId) (l : List SV) : dx Γ W bs κ h (.call { callee := .builtin .min, args := as_, argTypes := tys }) l = ob l := rfl
theorem TJ (as_ : Array Operand) (tys : Array TypeId) (l : List SV) : dx Γ W bs κ h (.call { callee := .builtin .max, args := as_, argTypes := tys }) l = mb l := rfl
theorem Gn (f : FuncId) (first cap rest : List SV) : iG Γ W bs κ h (.fn (.func f) first cap :: rest) = lk Γ W bs κ h f (first ++ rest ++ cap) := rfl
theorem OE (f : Fn) (a c : List SV) : cq (.fn f a c) = true := rfl
theorem Ep (f : Fn) (a c : List SV) : partsOf (.fn f a c) = [.fn f a c] := rfl
theorem FP (f : Fn) (a c : Array Value) : cq (.v (.func f a c)) = true := rfl
theorem yB (f : Fn) (a c : Array Value) : partsOf (.v (.func f a c)) = [.v (.func f a c)] := rfl
theorem wB : cq (.v .nilFunc) = true := rfl
theorem rY : partsOf (.v .nilFunc) = [.v .nilFunc] := rfl
def Yq (k o : Nat) : Option (List SV) -> R
 | some vs => ⟨o < vs.length, .own k o, [], none, [], [k]⟩
 | none => .bad
theorem qw (k o : Nat) : cP h [.own k o] = Yq k o (bW (h k)) := by
 simp only [cP]; unfold Yq
 rcases bW (h k) with _ | vs <;> rfl
theorem Qa (k o : Nat) (vs : List SV) : Yq k o (some vs) = ⟨o < vs.length, .own k o, [], none, [], [k]⟩ := rfl
def Sv (k o n : Nat) (i : Int) (vs : List SV) : Option Nat -> R
 | some sz => ⟨0 <= i /\ i < n /\ 1 < n /\ o < vs.length, .own k (o + i.toNat * sz), [], none, [], [k]⟩
 | none => .bad
def X3 (P : Program) (k o : Nat) (i : Int) : Option TypeDesc -> Option (List SV) -> R
 | some (.array n e), some vs => Sv k o n i vs (ts P e)
 | _, _ => .bad
theorem qc (T : TypeId) (k o : Nat) (ik : IntKind) (i : Int) : bo P h T [.own k o, .v (.int ik i)] = X3 P k o i (P.underlying T) (bW (h k)) := by
 simp only [bo]; unfold X3
 rcases P.underlying T with _ | d
 ·rfl
 ·rcases bW (h k) with _ | vs
  ·cases d <;> rfl
  ·cases d <;> first | rfl | (rename_i n e; simp only [Sv]; rcases ts P e with _ | sz <;> rfl)
theorem Ua (k o : Nat) (i : Int) (n : Nat) (e : TypeId) (vs : List SV) : X3 P k o i (some (.array n e)) (some vs) = Sv k o n i vs (ts P e) := rfl
theorem Kz (k o n : Nat) (i : Int) (vs : List SV) (sz : Nat) : Sv k o n i vs (some sz) = ⟨0 <= i /\ i < n /\ 1 < n /\ o < vs.length, .own k (o + i.toNat * sz), [], none, [], [k]⟩ := rfl
def V0 (n : Nat) (i : Int) (l : List SV) : Option Nat -> Option Bool -> R
 | some sz, some true => ⟨0 <= i /\ i < n /\ i.toNat * sz + sz <= l.length, .agg ((l.drop (i.toNat * sz)).take sz), [], none, [], []⟩
 | some sz, some false => ⟨0 <= i /\ i < n /\ i.toNat * sz < l.length, l.getD (i.toNat * sz) (.v undef), [], none, [], []⟩
 | _, _ => .bad
def Wo (P : Program) (i : Int) (l : List SV) : Option TypeDesc -> R
 | some (.array n e) => V0 n i l (ts P e) (ta P e)
 | _ => .bad
theorem zj (T : TypeId) (l : List SV) (ik : IntKind) (i : Int) : et P T [.agg l, .v (.int ik i)] = Wo P i l (P.underlying T) := by
 simp only [et]; unfold Wo
 rcases P.underlying T with _ | d
 ·rfl
 ·cases d <;> first | rfl | (rename_i n e; simp only [V0]; rcases ts P e with _ | sz <;> rcases ta P e with _ | b <;> first | rfl | (cases b <;> simp [ed, R.fF]))
theorem v8 (T : TypeId) (cs : Array Value) (ik : IntKind) (i : Int) : et P T [.v (.agg cs), .v (.int ik i)] = Wo P i (cs.toList.map .v) (P.underlying T) := by
 simp only [et]; unfold Wo
 rcases P.underlying T with _ | d
 ·rfl
 ·cases d <;> first | rfl | (rename_i n e; simp only [V0]; rcases ts P e with _ | sz <;> rcases ta P e with _ | b <;> first | rfl | (cases b <;> simp [ed, R.fF]))
theorem TT (i : Int) (l : List SV) (n : Nat) (e : TypeId) : Wo P i l (some (.array n e)) = V0 n i l (ts P e) (ta P e) := rfl
theorem Ru (n : Nat) (i : Int) (l : List SV) (sz : Nat) : V0 n i l (some sz) (some true) = ⟨0 <= i /\ i < n /\ i.toNat * sz + sz <= l.length, .agg ((l.drop (i.toNat * sz)).take sz), [], none, [], []⟩ := rfl
theorem R5 (n : Nat) (i : Int) (l : List SV) (sz : Nat) : V0 n i l (some sz) (some false) = ⟨0 <= i /\ i < n /\ i.toNat * sz < l.length, l.getD (i.toNat * sz) (.v undef), [], none, [], []⟩ := rfl
def X0 (n : Int) : Option TypeDesc -> Option TypeDesc -> R
 | some _, some (.int k) => ⟨True, .v (.int k (k.wrap n)), [], none, [], []⟩
 | _, _ => .bad
theorem uG (src dst : TypeId) (k : IntKind) (n : Int) : dL P src dst [.v (.int k n)] = X0 n (P.underlying src) (P.underlying dst) := by
 simp only [dL]; unfold X0
 rcases P.underlying src with _ | d <;> rcases P.underlying dst with _ | d' <;> first | rfl | (cases d' <;> rfl)
theorem SE (n : Int) (d : TypeDesc) (k : IntKind) : X0 n (some d) (some (.int k)) = ⟨True, .v (.int k (k.wrap n)), [], none, [], []⟩ := rfl
theorem F2 (t : TypeId) (x : Value) : jM [.v (.iface t x)] = ⟨True, .v undef, [], some [{ v := .iface t x, recovered := false }], [], []⟩ := rfl
def X1 (P : Program) (T : TypeId) (l : List SV) : Option (List Value) -> R
 | some vs => ⟨P.concrete T = true, .v (.iface T (.agg vs.toArray)), [], none, [], []⟩
 | none => ⟨P.concrete T = true, .ifc T (.agg l), [], none, [], []⟩
theorem El (T : TypeId) (l : List SV) : lz P T [.agg l] = X1 P T l (cE l) := by
 simp only [lz, jm]; unfold X1
 rcases cE l with _ | vs <;> rfl
theorem Qy (T : TypeId) (l : List SV) (vs : List Value) : X1 P T l (some vs) = ⟨P.concrete T = true, .v (.iface T (.agg vs.toArray)), [], none, [], []⟩ := rfl
def aK (T t : TypeId) (x : SV) (ok : Bool) : Option Bool -> Option Value -> R
 | some false, some z => match ok with
  | true => ⟨True, if t = T then .tup [x, .v (.bool true)] else .tup [.v z, .v (.bool false)], [], none, [], []⟩
  | false => ⟨t = T, x, [], none, [], []⟩
 | _, _ => .bad
theorem C3 (T t : TypeId) (x : Value) (ok : Bool) : dZ P T ok [.v (.iface t x)] = aK T t (.v x) ok (isIface P T) (yp P T) := by
 simp only [dZ]; unfold aK
 rcases isIface P T with _ | b
 ·rfl
 ·cases b <;> rcases yp P T with _ | z <;> first | rfl | (cases ok <;> rfl)
theorem PE (T t : TypeId) (x : SV) (z : Value) : aK T t x false (some false) (some z) = ⟨t = T, x, [], none, [], []⟩ := rfl
theorem Su (T t : TypeId) (x : SV) (z : Value) : aK T t x true (some false) (some z) = ⟨True, if t = T then .tup [x, .v (.bool true)] else .tup [.v z, .v (.bool false)], [], none, [], []⟩ := rfl
def nK (ok : Bool) : Option Bool -> Option Value -> R
 | some false, some z => match ok with
  | true => ⟨True, .tup [.v z, .v (.bool false)], [], none, [], []⟩
  | false => .bad
 | _, _ => .bad
theorem vP (T : TypeId) (ok : Bool) : dZ P T ok [.v .nilIface] = nK ok (isIface P T) (yp P T) := by
 simp only [dZ]; unfold nK
 rcases isIface P T with _ | b
 ·rfl
 ·cases b <;> rcases yp P T with _ | z <;> first | rfl | (cases ok <;> rfl)
theorem RU (z : Value) : nK true (some false) (some z) = ⟨True, .tup [.v z, .v (.bool false)], [], none, [], []⟩ := rfl
def Fh : Option TypeDesc -> Bool
 | some (.array _ _) => true
 | _ => false
theorem Gs (n : Nat) (e : TypeId) : Fh (some (.array n e)) = true := rfl
def Ab (idx : List Nat) (args : List SV) (zs : List Value) : Option Nat -> R
 | some sz => F0 (oG sz (zs.map .v) (idx.zip args))
 | none => .bad
def DH (P : Program) (idx : List Nat) (args : List SV) : Option (List Value) -> Option TypeDesc -> R
 | some zs, some (.array _ e) => Ab idx args zs (ts P e)
 | _, _ => .bad
theorem zm (T : TypeId) (idx : List Nat) (args : List SV) (ha : Fh (P.underlying T) = true) : cU P T idx args = DH P idx args (tz P T) (P.underlying T) := by
 unfold Fh at ha
 split at ha
 ·rename_i n e hu
  unfold cU DH
  rw [hu]
  cases tz P T with
  | none => rfl
  | some zs =>
   simp only [Ab, oG, F0]
   cases oy P T <;> cases ts P e with
   | none => rfl
   | some sz => cases cN (fun i => some (i * sz, sz)) (zs.map .v) (idx.zip args) <;> rfl
 ·cases ha
theorem GO (idx : List Nat) (args : List SV) (zs : List Value) (n : Nat) (e : TypeId) : DH P idx args (some zs) (some (.array n e)) = Ab idx args zs (ts P e) := rfl
theorem Bu (idx : List Nat) (args : List SV) (zs : List Value) (sz : Nat) : Ab idx args zs (some sz) = F0 (oG sz (zs.map .v) (idx.zip args)) := rfl
theorem FG (a b : Int) : ob [.v (.int .i64 a), .v (.int .i64 b)] = ⟨True, .v (.int .i64 (if b < a then b else a)), [], none, [], []⟩ := rfl
theorem Er (a b : Int) : mb [.v (.int .i64 a), .v (.int .i64 b)] = ⟨True, .v (.int .i64 (if a < b then b else a)), [], none, [], []⟩ := rfl
theorem yE (a b c : Int) : mb [.v (.int .i64 a), .v (.int .i64 b), .v (.int .i64 c)] = ⟨True, .v (.int .i64 (if (if a < b then b else a) < c then c else (if a < b then b else a))), [], none, [], []⟩ := rfl
end
open Classical in
noncomputable def dec {α : Type} (f : α -> Value) (v : Value) : Option α := if h : ∃ a, v = f a then some h.choose else none
theorem fq {α : Type} {f : α -> Value} {v : Value} {a : α} (h : dec f v = some a) : v = f a := by
 unfold dec at h
 split at h
 ·rename_i h1
  simp only [Option.some.injEq] at h
  rw [<- h]
  exact h1.choose_spec
 ·cases h
theorem b9 {α : Type} {f : α -> Value} (hf : ∀ a b, f a = f b -> a = b) (a : α) : dec f (f a) = some a := by
 unfold dec
 have h1 : ∃ b, f a = f b := ⟨a, rfl⟩
 rw [dif_pos h1]
 exact congrArg some (hf _ _ h1.choose_spec).symm
section
variable {P : Program} (eqs : (T : TypeId) -> Option (EqSpec P T)) (h : Hp) (op : BinOp) (T : TypeId) (X Y : Operand)
theorem JG (p : Prop) (b : Bool) (rd : List Nat) : dd .eql p b rd = ⟨p, .v (.bool b), [], none, [], rd⟩ := rfl
theorem JW (p : Prop) (b : Bool) (rd : List Nat) : dd .neq p b rd = ⟨p, .v (.bool (!b)), [], none, [], rd⟩ := rfl
theorem Dj (k k' : IntKind) (a b : Int) : bF P eqs h op T X Y [.v (.int k a), .v (.int k' b)] = aP P eqs op T [.v (.int k a), .v (.int k' b)] := rfl
theorem Av (a b : ByteArray) : bF P eqs h op T X Y [.v (.string a), .v (.string b)] = aP P eqs op T [.v (.string a), .v (.string b)] := rfl
theorem Ac (a b : Bool) : bF P eqs h op T X Y [.v (.bool a), .v (.bool b)] = aP P eqs op T [.v (.bool a), .v (.bool b)] := rfl
theorem Ef (a b : List SV) : bF P eqs h op T X Y [.agg a, .agg b] = aP P eqs op T [.agg a, .agg b] := rfl
theorem EB (a : List SV) (b : Array Value) : bF P eqs h op T X Y [.agg a, .v (.agg b)] = aP P eqs op T [.agg a, .v (.agg b)] := rfl
theorem D7 (a : Array Value) (b : List SV) : bF P eqs h op T X Y [.v (.agg a), .agg b] = aP P eqs op T [.v (.agg a), .agg b] := rfl
theorem GB (a b : Array Value) : bF P eqs h op T X Y [.v (.agg a), .v (.agg b)] = aP P eqs op T [.v (.agg a), .v (.agg b)] := rfl
theorem Gt : bF P eqs h op T X Y [.v .nilIface, .v .nilIface] = dd op (isIface P T = some true /\ (hM X || hM Y) = true) true [] := rfl
theorem Gr (t : TypeId) (x : Value) : bF P eqs h op T X Y [.v .nilIface, .v (.iface t x)] = dd op (isIface P T = some true) false [] := rfl
theorem GW (t : TypeId) (x : Value) : bF P eqs h op T X Y [.v (.iface t x), .v .nilIface] = dd op (isIface P T = some true) false [] := rfl
theorem Fv (t : TypeId) (x : SV) : bF P eqs h op T X Y [.v .nilIface, .ifc t x] = dd op (isIface P T = some true) false [] := rfl
theorem E1 (t : TypeId) (x : SV) : bF P eqs h op T X Y [.ifc t x, .v .nilIface] = dd op (isIface P T = some true) false [] := rfl
theorem Ew : bF P eqs h op T X Y [.v (.pointer none), .v (.pointer none)] = dd op (iC P T = some true) true [] := rfl
theorem F8 (a : Addr) : bF P eqs h op T X Y [.v (.pointer none), .v (.pointer (some a))] = dd op (iC P T = some true) false [] := rfl
theorem F3 (a : Addr) : bF P eqs h op T X Y [.v (.pointer (some a)), .v (.pointer none)] = dd op (iC P T = some true) false [] := rfl
def Bd (P : Program) (op : BinOp) (T : TypeId) (k o : Nat) : Option (List SV) -> R
 | some vs => dd op (iC P T = some true /\ o < vs.length) false [k]
 | none => .bad
theorem Fx (k o : Nat) (vs : List SV) : Bd P op T k o (some vs) = dd op (iC P T = some true /\ o < vs.length) false [k] := rfl
theorem GC (k o : Nat) : bF P eqs h op T X Y [.own k o, .v (.pointer none)] = Bd P op T k o (bW (h k)) := by
 simp only [bF]; unfold Bd; cases bW (h k) <;> rfl
theorem Gu (k o : Nat) : bF P eqs h op T X Y [.v (.pointer none), .own k o] = Bd P op T k o (bW (h k)) := by
 simp only [bF]; unfold Bd; cases bW (h k) <;> rfl
theorem vg (v : Value) : hM (.const v) = true := rfl
theorem Aj (t : Nat) : hM (.tmp t) = false := rfl
end
section
variable {P : Program} (h : Hp) (src dst : TypeId)
theorem zi (k : IntKind) (n : Int) : fy P h src dst [.v (.int k n)] = dL P src dst [.v (.int k n)] := rfl
theorem Ao (s : ByteArray) : fy P h src dst [.v (.string s)] = dL P src dst [.v (.string s)] := rfl
theorem Bx (k : Nat) : fy P h src dst [.hd k] = V4 P src dst k (h k) := rfl
theorem RN (k T n : Nat) (vs : List SV) : V4 P src dst k (some (.row T 1 n vs)) = V6 P k n (P.underlying src) (P.underlying dst) (jK vs) := rfl
theorem Nz (k n e : Nat) (ns : List Int) : V6 P k n (some (.slice e)) (some .string) (some ns) = ⟨P.underlying e = some (.int .u8) /\ ns.length = n, .v (.string (gu ns)), [], none, [], [k]⟩ := rfl
theorem DO : jK [] = some [] := rfl
theorem rL (n : Int) (r : List SV) : jK (.v (.int .u8 n) :: r) = (jK r).map (n :: ·) := rfl
theorem ml : ∀ ns : List Int, jK (ns.map fun n => SV.v (.int .u8 n)) = some ns
 | [] => rfl
 | n :: r => by rw [List.map_cons, rL, ml r]; rfl
end
end
section
def YB := (ab @aC (ab @y5 (ab @uC (ab @R9 (ab @TJ (ab @Gn (ab @OE (ab @Ep (ab @FP (ab @yB (ab @wB (ab @rY (ab @qw (ab @Qa (ab @qc (ab @Ua (ab @Kz (ab @zj (ab @v8 (ab @TT (ab @Ru (ab @R5 (ab @uG (ab @SE (ab @F2 (ab @El (ab @Qy (ab @C3 (ab @PE (ab @Su (ab @vP (ab @RU (ab @Gs (ab @zm (ab @GO (ab @Bu (ab @FG (ab @Er @yE))))))))))))))))))))))))))))))))))))))
def YC := ab @Kv <| ab @Ex <| ab @Gw <| ab @Oh <| (ab @JG (ab @JW (ab @Dj (ab @Av (ab @Ac (ab @Ef (ab @EB (ab @D7 (ab @GB (ab @Gt (ab @Gr (ab @GW (ab @Fv (ab @E1 (ab @Ew (ab @F8 (ab @F3 (ab @Fx (ab @GC (ab @Gu (ab @vg (ab @Aj (ab @zi (ab @Ao (ab @Bx (ab @RN (ab @Nz (ab @DO (ab @rL @ml)))))))))))))))))))))))))))))
end
section
open Go.RowKit
section
variable {P : Program} {fn : Func}
theorem Leaves.mono {tmps : Array Value} {R R' : Ending -> World -> Prop} (hr : ∀ e w, R e w -> R' e w) : ∀ (ds : List Deferred) (u : FrameMode) (w : World), Leaves P fn tmps R ds u w -> Leaves P fn tmps R' ds u w
 | [], .run, _, h => h.elim
 | [], .returning, _, h => by obtain ⟨v, h1, h2⟩ := h; exact ⟨v, h1, hr _ _ h2⟩
 | [], .panicking c, _, h => hr _ _ h
 | d :: ds, u, w, h => by
  obtain ⟨h0, fv, cap, f, args, h1, h2, h3⟩ := h
  refine ⟨h0, fv, cap, f, args, h1, h2, h3.mono fun e u' w' he => ?_⟩
  cases e with
  | returned v => exact Leaves.mono hr ds _ _ he
  | panicked c => exact Leaves.mono hr ds _ _ he
  | outgrown => exact hr _ _ he
theorem tK {R R' : Ending -> World -> Prop} (hr : ∀ e w, R e w -> R' e w) (e : Exit) (a : Act) (w : World) (h : bodyPostD P fn R e a w) : bodyPostD P fn R' e a w := by
 cases e with
 | normal => exact Leaves.mono hr _ _ _ h
 | ret => exact Leaves.mono hr _ _ _ h
 | panic c => exact Leaves.mono hr _ _ _ h
 | outgrown => exact hr _ _ h
 | exit i => exact h.elim
 | goto l => exact h.elim
theorem Ends.back {W W' : World} {bs bs' : List Nat} {pins : List (Nat × Value)} {Rr : World -> List Nat -> SV -> Hp -> Prop} {Rp : List PanicEntry -> Hp -> Prop} {e : Ending} {w : World} (he : Ext W bs W' bs') (h : Ends W' bs' pins Rr Rp e w) : Ends W bs pins Rr Rp e w := by
 cases e with
 | returned v => obtain ⟨W'', bs'', E, F, x, h', hx, r⟩ := h; exact ⟨W'', bs'', E, F, x, h', he.trans hx, r⟩
 | panicked c => obtain ⟨W'', bs'', E, F, h', hx, r⟩ := h; exact ⟨W'', bs'', E, F, h', he.trans hx, r⟩
 | outgrown => exact h.elim
def jO (P : Program) (fn : Func) (nt : Nat) (pins : List (Nat × Value)) (Rr : World -> List Nat -> SV -> Hp -> Prop) (Rp : List PanicEntry -> Hp -> Prop) (W : World) (bs : List Nat) (c : Code) (σ : St) : Prop :=
 ∀ a w, Sat W bs nt ⟨[], pins⟩ σ a w -> c.wp P (bodyPostD P fn (Ends W bs pins Rr Rp)) a w
variable {nt : Nat} {pins : List (Nat × Value)} {Rr : World -> List Nat -> SV -> Hp -> Prop} {Rp : List PanicEntry -> Hp -> Prop} {W : World} {bs : List Nat} {σ : St}
theorem K0 {f : FuncId} {c : Code} {args : Array Value} {w : World} (hf : P.funcs[f]? = some fn) (hb : fn.body = some c)
  (hsat : Sat W bs nt ⟨[], pins⟩ σ { tmps := args ++ Array.replicate (fn.ntmps - args.size) undef, defers := [] } w)
  (h : jO P fn nt pins Rr Rp W bs c σ) : Calls P f args w (Ends W bs pins Rr Rp) := calls_of_wp_defers hf hb (h _ w hsat)
theorem mw {W' : World} {bs' : List Nat} {σ' : St} {a : Act} {w : World} {ds : List Deferred} (hs : Sat W' bs' nt ⟨ds, pins⟩ σ' a w) (hx : Ext W bs W' bs') (hq : (gK P W' bs' σ' fn.results.toList).1 /\ Rr W' bs' (jz (gK P W' bs' σ' fn.results.toList).2) σ'.h) :
  ∃ v, (results fn a.tmps).run P w = .ok v w /\ Ends W bs pins Rr Rp (.returned v) w := by
 obtain ⟨E, F, hφ, hh, hp⟩ := hs.ex
 exact ⟨_, gS hφ hh hq.1, W', bs', E, F, _, _, hx, hq.2, rfl, hh, hp⟩
theorem jO.seq {x y : Code} (h : Wp P W bs nt ⟨[], pins⟩ x (Th (fun W' bs' σ' => jO P fn nt pins Rr Rp W' bs' y σ') (Fin P fn.results.toList Rr Rp)) σ) : jO P fn nt pins Rr Rp W bs (.seq x y) σ := fun a w hs =>
 wp_seq (wp_mono (h a w hs) fun e a' w' ⟨W', bs', σ', he, hq, hs'⟩ => by
  cases e with
  | normal => exact wp_mono (hq a' w' hs') fun e a w h => tK (fun e w => Ends.back he) e a w h
  | ret =>
   have hd := hs'.defers
   show Leaves P fn a'.tmps _ a'.defers .returning w'
   rw [hd]
   exact mw hs' he hq
  | panic c =>
   have hd := hs'.defers
   show Leaves P fn a'.tmps _ a'.defers (.panicking c) w'
   rw [hd]
   obtain ⟨E, F, hφ, hh, hp⟩ := hs'.ex
   exact ⟨W', bs', E, F, _, he, hq, hh, hp⟩
  | exit i => exact hq.elim
  | goto l => exact hq.elim
  | outgrown => exact hq.elim)
theorem jO.wp {c : Code} (h : Wp P W bs nt ⟨[], pins⟩ c (Fin P fn.results.toList Rr Rp) σ) : jO P fn nt pins Rr Rp W bs c σ := fun a w hs =>
 wp_mono (h a w hs) fun e a' w' ⟨W', bs', σ', he, hq, hs'⟩ => by
  have hd := hs'.defers
  cases e with
  | normal => show Leaves P fn a'.tmps _ a'.defers .returning w'; rw [hd]; exact mw hs' he hq
  | ret => show Leaves P fn a'.tmps _ a'.defers .returning w'; rw [hd]; exact mw hs' he hq
  | panic c =>
   show Leaves P fn a'.tmps _ a'.defers (.panicking c) w'
   rw [hd]
   obtain ⟨E, F, hφ, hh, hp⟩ := hs'.ex
   exact ⟨W', bs', E, F, _, he, hq, hh, hp⟩
  | exit i => exact hq.elim
  | goto l => exact hq.elim
  | outgrown => exact hq.elim
def iH (w : World) : List Value -> List Nat -> List TypeId -> List (List Value) -> Prop
 | [], [], [], [] => True
 | u :: us, b :: bl, T :: Ts, vs :: vss => u = .pointer (some ⟨b, 0, none⟩) /\ w.heap[b]? = some (.cells vs.toArray T (0, 0)) /\ iH w us bl Ts vss
 | _, _, _, _ => False
def yU (P : Program) : List TypeId -> List (List Value) -> List Value -> Prop
 | [], [], [] => True
 | T :: Ts, cs :: css, v :: vs => ((ts P T = some cs.length /\ ta P T = some true /\ v = .agg cs.toArray) \/ (ta P T = some false /\ cs = [v])) /\ yU P Ts css vs
 | _, _, _ => False
def L9 : List Value -> Value
 | [v] => v
 | l => .tuple l.toArray
structure CatchC (P : Program) (f : FuncId) where
 Ts : List TypeId
 enters : ∀ args w, (callFunc f args).run P w = .ok (.enter f args) w
 pre : List (List Value) -> Value -> Prop
 out : List (List Value) -> Value -> List (List Value)
 bh : List (List Value) -> Value -> List Value
 vals_ok : ∀ vss pv, pre vss pv -> yU P Ts (out vss pv) (bh vss pv)
 quiet : ∀ (w : World) (us : List Value), us.length = Ts.length -> CallsD P f us.toArray .returning w fun e u' w' => (∃ v, e = .returned v) /\ u' = .returning /\ ai w [] w'
 caught : ∀ (w : World) (us : List Value) (bl : List Nat) (vss : List (List Value)) (pv : Value), iH w us bl Ts vss -> bl.Nodup -> (∀ b ∈ bl, b < w.heap.size) -> pre vss pv ->
  CallsD P f us.toArray (.panicking [{ v := pv, recovered := false }]) w fun e u' w' => (∃ v, e = .returned v) /\ u' = .panicking [{ v := pv, recovered := true }] /\ ai w bl w' /\ iH w' us bl Ts (out vss pv)
def qv : List Nat -> List TypeId -> List ResultVar
 | t :: tl, T :: Ts => .cell t T :: qv tl Ts
 | _, _ => []
theorem iH.run {tmps : Array Value} {w : World} : ∀ {tl : List Nat} {us : List Value} {bl : List Nat} {Ts : List TypeId} {css : List (List Value)} {vs : List Value}, iH w us bl Ts css -> yU P Ts css vs -> tl.map (fun t => tmps.getD t undef) = us ->
  ((qv tl Ts).mapM (ke { tmps := tmps, defers := [] })).run P w = .ok vs w
 | [], us, bl, Ts, css, vs, h1, h2, h3 => by
  subst h3
  match bl, Ts, css, vs, h1, h2 with
  | [], [], [], [], _, _ => rfl
 | t :: tl, us, bl, Ts, css, vs, h1, h2, h3 => by
  subst h3
  match bl, Ts, css, vs, h1, h2 with
  | b :: bl, T :: Ts, cs :: css, v :: vs, h1, h2 =>
   obtain ⟨e1, e2, e3⟩ := h1
   obtain ⟨f1, f2⟩ := h2
   replace e1 : tmps.getD t undef = _ := e1
   have ih := iH.run (tmps := tmps) (tl := tl) e3 f2 rfl
   have one : (ke { tmps := tmps, defers := [] } (.cell t T)).run P w = .ok v w := by
    simp only [ke]
    rw [e1]
    have hc : ∀ j x, cs[j]? = some x -> w.cell? ⟨b, 0 + j, none⟩ = some x := fun j x hx => by
     simp [World.cell?, e2, hx]
    rcases f1 with ⟨g1, g2, rfl⟩ | ⟨g2, rfl⟩
    ·have := fA (P := P) (w := w) g1 g2 ⟨b, 0, none⟩ cs rfl (fun j x hx => by rw [Addr.add_lit]; exact hc j x hx)
     simpa [asAddr] using this
    ·have := fz (P := P) (w := w) g2 ⟨b, 0, none⟩ v (by simpa using hc 0 v rfl)
     simpa [asAddr] using this
   simp only [qv, List.mapM_cons]
   simp [one, ih]
theorem zg {tmps : Array Value} {w : World} {tl : List Nat} {us : List Value} {bl : List Nat} {Ts : List TypeId} {css : List (List Value)} {vs : List Value} (h1 : iH w us bl Ts css) (h2 : yU P Ts css vs) (h3 : tl.map (fun t => tmps.getD t undef) = us)
  (hr : fn.results.toList = qv tl Ts) : (results fn tmps).run P w = .ok (L9 vs) w := by
 have h4 := iH.run (P := P) (tmps := tmps) h1 h2 h3
 have h2 : results fn tmps = ((Functor.map List.toArray (fn.results.toList.mapM (ke { tmps := tmps, defers := [] }))) >>= fun (vs : Array Value) => (pure (if h : vs.size = 1 then vs[0] else .tuple vs) : Sem Value)) := by
  rw [<- Array.mapM_eq_mapM_toList]
  unfold results
  congr 1
 rw [h2, hr]
 simp only [map_eq_pure_bind, bind_assoc, pure_bind]
 simp [h4]
 match vs with
 | [] => simp [L9]
 | [x] => simp [L9]
 | x :: y :: r => simp [L9]
def H8 (σ : St) : List Nat -> List Nat -> List TypeId -> List (List Value) -> Prop
 | [], [], [], [] => True
 | t :: tl, k :: ks, T :: Ts, vs :: vss => σ.φ t = .is (.own k 0) /\ σ.h k = some (.cells T (vs.map .v)) /\ H8 σ tl ks Ts vss
 | _, _, _, _ => False
def RA {f : FuncId} (C : CatchC P f) (rs : List ResultVar) (tl ks : List Nat) (Rr : World -> List Nat -> SV -> Hp -> Prop) (Rp : List PanicEntry -> Hp -> Prop) : jU
 | .normal, W, bs, σ | .ret, W, bs, σ => (gK P W bs σ rs).1 /\ Rr W bs (jz (gK P W bs σ rs).2) σ.h
 | .panic c, W, bs, σ => ∃ pv vss, c = [{ v := pv, recovered := false }] /\ H8 σ tl ks C.Ts vss /\ C.pre vss pv /\ Rr W bs (.v (L9 (C.bh vss pv))) (dropKeys σ.h ks)
 | _, _, _, _ => False
def HO (f : FuncId) (us : List Value) : Deferred := ⟨.fn (.func f) us.toArray, #[]⟩
theorem fS.tmp {E : Nat -> Value} {φ : Fr} {a : Act} {t : Nat} {x : SV} (h : fS E φ a) (ht : φ t = .is x) : a.tmps.getD t undef = den E x := by
 have := h t
 rw [ht] at this
 exact this
theorem s4 {σ : St} {E : Nat -> Value} {F : Nat -> List Nat} {a : Act} {w : World} (hφ : fS E σ.φ a) (hh : ak W bs E F σ.h w) : ∀ {tl ks : List Nat} {Ts : List TypeId} {vss : List (List Value)}, H8 σ tl ks Ts vss -> ks.Nodup ->
  iH w (ks.map E) (ks.flatMap F) Ts vss /\ tl.map (fun t => a.tmps.getD t undef) = ks.map E /\ (ks.flatMap F).Nodup /\ (∀ b ∈ ks.flatMap F, b < w.heap.size) /\ (∀ k ∈ ks, ∃ e, σ.h k = some e)
 | [], [], [], [], _, _ => ⟨trivial, rfl, List.nodup_nil, by simp, by simp⟩
 | t :: tl, k :: ks, T :: Ts, vs :: vss, h, hn => by
  obtain ⟨h1, h2, h3⟩ := h
  obtain ⟨hk, hn⟩ := List.nodup_cons.1 hn
  obtain ⟨i1, i2, i3, i4, i5⟩ := s4 hφ hh h3 hn
  obtain ⟨b, hu, hF, hb⟩ := hh.ent k _ h2
  have hd : an E (vs.map .v) = vs := by
   rw [a6, List.map_map]
   exact (List.map_congr_left (fun _ _ => rfl)).trans (List.map_id vs)
  rw [hd] at hb
  have e1 : a.tmps.getD t undef = E k := by
   rw [hφ.tmp h1, den, hu]
   rfl
  refine ⟨?_, ?_, ?_, ?_, ?_⟩
  ·rw [List.map_cons, List.flatMap_cons, hF]
   exact ⟨hu, hb, i1⟩
  ·rw [List.map_cons, List.map_cons, e1, i2]
  ·rw [List.flatMap_cons, hF]
   refine List.nodup_cons.2 ⟨fun hm => ?_, i3⟩
   obtain ⟨j, hj, hbj⟩ := List.mem_flatMap.1 hm
   obtain ⟨e, he⟩ := i5 j hj
   exact hh.apart k j _ e (fun e' => hk (e' ▸ hj)) h2 he b (by rw [hF]; simp) hbj
  ·intro c hc
   rw [List.flatMap_cons] at hc
   rcases List.mem_append.1 hc with hc | hc
   ·exact hh.lt k _ h2 c hc
   ·exact i4 c hc
  ·intro j hj
   rcases List.mem_cons.1 hj with rfl | hj
   ·exact ⟨_, h2⟩
   ·exact i5 j hj
theorem ai.nil {W w w' : World} {bs : List Nat} (h : ai W bs w) (h' : ai w [] w') : ai W bs w' := h.trans h' fun b hb => by cases hb
theorem iH.keeps {w w' : World} (h : ai w [] w') : ∀ {us : List Value} {bl : List Nat} {Ts : List TypeId} {vss : List (List Value)}, iH w us bl Ts vss -> (∀ b ∈ bl, b < w.heap.size) -> iH w' us bl Ts vss
 | [], [], [], [], _, _ => trivial
 | u :: us, b :: bl, T :: Ts, vs :: vss, hl, hlt => ⟨hl.1, by rw [h.block b (hlt b (by simp)) (by simp)]; exact hl.2.1, iH.keeps h hl.2.2 fun c hc => hlt c (by simp [hc])⟩
theorem jO.defer {f : FuncId} (C : CatchC P f) (tl ks : List Nat) {id d : Nat} {y : Code} {T1 T2 : TypeId} {p1 p2 : String} {a1 a2 : Array Edge}
  (hks : ks.Nodup) (hrs : fn.results.toList = qv tl C.Ts) (hd : d < nt) (hlen : tl.length = C.Ts.length) (hlen2 : ks.length = C.Ts.length)
  (hcap : ∀ p ∈ tl.zip ks, σ.φ p.1 = .is (.own p.2 0)) (hcel : ∀ k ∈ ks, ∃ T vs, σ.h k = some (.cells T vs))
  (h : ∀ us : List Value, us.length = C.Ts.length -> Wp P W bs nt ⟨[HO f us], ks.zip us ++ pins⟩ y (RA C fn.results.toList tl ks Rr Rp) ⟨σ.n + 2, bg σ.φ d .any, σ.h⟩) :
  jO P fn nt pins Rr Rp W bs (.seq (.region id #[{ dst := some d, op := .makeFunc (.func f) #[] (tl.map Operand.tmp).toArray, type := T1, pos := p1, after := a1, guard := none }, { dst := none, op := .defer { callee := .value (.tmp d), args := #[], argTypes := #[] }, type := T2, pos := p2, after := a2, guard := none }] false) y) σ := fun a w hs => by
 obtain ⟨E, F, hφ, hh, hp⟩ := hs.ex
 have hbl : ∀ k ∈ ks, ∃ b, E k = .pointer (some ⟨b, 0, none⟩) := fun k hk => by
  obtain ⟨T, vs, he⟩ := hcel k hk
  obtain ⟨b, hu, _⟩ := hh.ent k _ he
  exact ⟨b, hu⟩
 have htv : ∀ (tl ks : List Nat), tl.length = ks.length -> (∀ p ∈ tl.zip ks, σ.φ p.1 = .is (.own p.2 0)) -> (∀ k ∈ ks, ∃ b, E k = .pointer (some ⟨b, 0, none⟩)) -> tl.map (fun t => a.tmps.getD t undef) = ks.map E := by
  intro tl
  induction tl with
  | nil => intro ks hl _ _; cases ks with
   | nil => rfl
   | cons _ _ => cases hl
  | cons t tl ih =>
   intro ks hl hc hb
   cases ks with
   | nil => cases hl
   | cons k ks =>
    have e1 := hφ.tmp (hc (t, k) (by simp))
    obtain ⟨b, he⟩ := hb k (by simp)
    rw [List.map_cons, List.map_cons, e1, den, he, ih ks (by simpa using hl) (fun p hp => hc p (by simp [hp])) fun j hj => hb j (by simp [hj])]
    rfl
 have hmem : ∀ (tl ks : List Nat), tl.length = ks.length -> ∀ k ∈ ks, ∃ t ∈ tl, (t, k) ∈ tl.zip ks := by
  intro tl
  induction tl with
  | nil => intro ks hl k hk; cases ks with
   | nil => cases hk
   | cons _ _ => cases hl
  | cons t tl ih =>
   intro ks hl k hk
   cases ks with
   | nil => cases hk
   | cons j ks =>
    rcases List.mem_cons.1 hk with rfl | hk
    ·exact ⟨t, by simp, by simp⟩
    ·obtain ⟨t', h1, h2⟩ := ih ks (by simpa using hl) k hk
     exact ⟨t', by simp [h1], by simp [h2]⟩
 have htu : tl.map (fun t => a.tmps.getD t undef) = ks.map E := htv tl ks (by omega) hcap hbl
 have hs2 : Sat W bs nt ⟨[HO f (ks.map E)], ks.zip (ks.map E) ++ pins⟩ ⟨σ.n + 2, bg σ.φ d .any, σ.h⟩ { tmps := a.tmps.setIfInBounds d (.func (.func f) #[] (ks.map E).toArray), defers := [HO f (ks.map E)] } w := by
  refine ⟨⟨E, F, fun t => ?_, hh, fun p hp' => ?_⟩, by simp [hs.size], rfl, fun p hp' => ?_, fun t k hk => ?_, fun j e he => ?_⟩
  ·show fits E (bg σ.φ d .any t) ((a.tmps.setIfInBounds d (.func (.func f) #[] (ks.map E).toArray)).getD t undef)
   by_cases ht : t = d
   ·subst ht; rw [af]; trivial
   ·rw [aj _ _ ht]
    have := hφ t
    rwa [show (a.tmps.setIfInBounds d (.func (.func f) #[] (ks.map E).toArray)).getD t undef = a.tmps.getD t undef from by
     rw [Array.getD_eq_getD_getElem?, Array.getD_eq_getD_getElem?, Array.getElem?_setIfInBounds_ne (fun e => ht e.symm)]]
  ·rcases List.mem_append.1 hp' with hp' | hp'
   ·have : ∀ (l : List Nat) (p : Nat × Value), p ∈ l.zip (l.map E) -> E p.1 = p.2 := by
     intro l
     induction l with
     | nil => intro p hp; cases hp
     | cons x l ih =>
      intro p hp
      rcases List.mem_cons.1 hp with rfl | hp
      ·rfl
      ·exact ih p hp
    exact this ks p hp'
   ·exact hp p hp'
  ·rcases List.mem_append.1 hp' with hp' | hp'
   ·have hk : p.1 ∈ ks := (List.of_mem_zip hp').1
    obtain ⟨t, _, ht⟩ := hmem tl ks (by omega) p.1 hk
    have := hs.fk t p.1 (by rw [hcap _ ht]; simp [FV.keys, SV.keys])
    show p.1 / 8 < σ.n + 2
    omega
   ·have := hs.pk p hp'
    show p.1 / 8 < σ.n + 2
    omega
  ·have hk : k ∈ (bg σ.φ d .any t).keys := hk
   by_cases ht : t = d
   ·subst ht; rw [af] at hk; simp [FV.keys] at hk
   ·rw [aj _ _ ht] at hk
    have := hs.fk t k hk
    show k / 8 < σ.n + 2
    omega
  ·obtain ⟨h1, h2⟩ := hs.hk j e he
   exact ⟨by show j / 8 < σ.n + 2; omega, fun i hi => by have := h2 i hi; show i / 8 < σ.n + 2; omega⟩
 have h2 := h (ks.map E) (by simp [hlen2]) _ w hs2
 have hda : d < a.tmps.size := by rw [hs.size]; exact hd
 have hev : (List.map (a.eval ∘ Operand.tmp) tl) = ks.map E := by rw [<- htu]; rfl
 refine wp_seq (wp_region ?_)
 simp [wpOps, go_sem, Exit.then]
 left
 left
 rw [if_pos hda, hev, hs.defers]
 refine wp_mono h2 fun e a' w' ⟨W', bs', σ', he, hq, hs'⟩ => ?_
 have hds := hs'.defers
 have hlu : (ks.map E).length = C.Ts.length := by simp [hlen2]
 have still : ∀ {E' : Nat -> Value} {F' : Nat -> List Nat} {h' : Hp} {w'' : World}, ak W' bs' E' F' h' w' -> bI (fun _ => True) h' -> ai w' [] w'' -> ak W' bs' E' F' h' w'' := fun {E' F' h' w''} hh' hK hk =>
  hh'.mu hK [] (fun _ => none) (fun k hk => by cases hk) (fun _ _ => rfl) (fun j e he => by cases he) (fun i j e e' _ he => by cases he) (fun _ _ _ _ => rfl) (fun j => by simp) (by simpa using hk)
 have all : ∀ {h' : Hp}, bI (· / 8 < σ'.n) h' -> bI (fun _ => True) h' := fun hK j x hx => ⟨trivial, fun _ _ => trivial⟩
 have plain : ∀ hq' : (gK P W' bs' σ' fn.results.toList).1 /\ Rr W' bs' (jz (gK P W' bs' σ' fn.results.toList).2) σ'.h, Leaves P fn a'.tmps (Ends W bs pins Rr Rp) a'.defers .returning w' := fun hq' => by
  rw [hds]
  refine leaves_cons (f := f) (args := (ks.map E).toArray) (by simp) (by simp [go_sem, C.enters]) ?_
  refine (C.quiet w' _ hlu).mono fun e u' w'' ⟨⟨v, hv⟩, hu, hk⟩ => ?_
  subst hv
  subst hu
  obtain ⟨E', F', hφ', hh', hp'⟩ := hs'.ex
  have hh'' := still hh' (all hs'.hk) hk
  exact ⟨_, gS hφ' hh'' hq'.1, W', bs', E', F', _, _, he, hq'.2, rfl, hh'', fun p hp => hp' p (List.mem_append_right _ hp)⟩
 cases e with
 | normal => exact plain hq
 | ret => exact plain hq
 | exit i => exact hq.elim
 | goto l => exact hq.elim
 | outgrown => exact hq.elim
 | panic c =>
  obtain ⟨pv, vss, rfl, hcap', hpre, hR⟩ := hq
  show Leaves P fn a'.tmps (Ends W bs pins Rr Rp) a'.defers (.panicking _) w'
  rw [hds]
  refine leaves_cons (f := f) (args := (ks.map E).toArray) (by simp) (by simp [go_sem, C.enters]) ?_
  obtain ⟨E', F', hφ', hh', hp'⟩ := hs'.ex
  obtain ⟨g1, g2, g3, g4, g5⟩ := s4 hφ' hh' hcap' hks
  have hEE : ks.map E' = ks.map E := by
   refine List.map_congr_left fun k hk => ?_
   have : ∀ (l : List Nat), k ∈ l -> (k, E k) ∈ l.zip (l.map E) := by
    intro l
    induction l with
    | nil => intro h; cases h
    | cons x l ih =>
     intro h
     rcases List.mem_cons.1 h with rfl | h
     ·simp
     ·simp [ih h]
   exact hp' (k, E k) (List.mem_append_left _ (this ks hk))
  rw [hEE] at g1 g2
  refine (C.caught w' _ _ vss pv g1 g3 g4 hpre).mono fun e u' w'' ⟨⟨v, hv⟩, hu, hk, hl⟩ => ?_
  subst hv
  subst hu
  have hrun := zg (P := P) (fn := fn) hl (C.vals_ok vss pv hpre) g2 hrs
  have hh'' : ak W' bs' E' F' (dropKeys σ'.h ks) w'' :=
   hh'.mu (all hs'.hk) ks (fun _ => none) g5 (fun _ _ => rfl) (fun j e he => by cases he) (fun i j e e' _ he => by cases he) (fun _ _ _ _ => rfl) (fun j => by simp [dropKeys]) hk
  exact ⟨_, hrun, W', bs', E', F', _, _, he, hR, rfl, hh'', fun p hp => hp' p (List.mem_append_right _ hp)⟩
end
end
section
open Go.RowKit
def mo (j : Nat) : List TypeId -> List (Nat × FV)
 | [] => []
 | _ :: r => (j, .is (.own j 0)) :: mo (j + 1) r
def tW (j : Nat) : List TypeId -> List (List Value) -> List (Nat × bm)
 | T :: Ts, vs :: vss => (j, .cells T (vs.map .v)) :: tW (j + 1) Ts vss
 | _, _ => []
def SK (h : Hp) : Nat -> List TypeId -> List (List Value) -> Prop
 | _, [], [] => True
 | j, T :: Ts, vs :: vss => h j = some (.cells T (vs.map .v)) /\ SK h (j + 1) Ts vss
 | _, _, _ => False
def Fq (j : Nat) : List Value -> List (Nat × Value)
 | [] => []
 | u :: r => (j, u) :: Fq (j + 1) r
theorem qF {p : Nat × FV} : ∀ {j : Nat} {Ts : List TypeId}, p ∈ mo j Ts -> ∃ i, i < Ts.length /\ p = (j + i, .is (.own (j + i) 0))
 | j, [], h => by cases h
 | j, T :: r, h => by
  rcases List.mem_cons.1 h with rfl | h
  ·exact ⟨0, by simp, rfl⟩
  ·obtain ⟨i, h1, rfl⟩ := qF h
   exact ⟨i + 1, by simpa using h1, by rw [show j + 1 + i = j + (i + 1) by omega]⟩
theorem qm {p : Nat × bm} : ∀ {j : Nat} {Ts : List TypeId} {vss : List (List Value)}, p ∈ tW j Ts vss -> ∃ i T vs, Ts[i]? = some T /\ vss[i]? = some vs /\ p = (j + i, .cells T (vs.map .v))
 | j, [], vss, h => by cases vss <;> cases h
 | j, T :: r, [], h => by cases h
 | j, T :: r, vs :: vss, h => by
  rcases List.mem_cons.1 h with rfl | h
  ·exact ⟨0, T, vs, rfl, rfl, rfl⟩
  ·obtain ⟨i, T', vs', h1, h2, rfl⟩ := qm h
   exact ⟨i + 1, T', vs', by simpa using h1, by simpa using h2, by rw [show j + 1 + i = j + (i + 1) by omega]⟩
theorem tG {p : Nat × Value} : ∀ {j : Nat} {us : List Value}, p ∈ Fq j us -> ∃ i, us[i]? = some p.2 /\ p.1 = j + i
 | j, [], h => by cases h
 | j, u :: r, h => by
  rcases List.mem_cons.1 h with rfl | h
  ·exact ⟨0, rfl, rfl⟩
  ·obtain ⟨i, h1, h2⟩ := tG h
   exact ⟨i + 1, by simpa using h1, by omega⟩
section
variable {P : Program}
theorem iH.at {w : World} : ∀ {us : List Value} {bl : List Nat} {Ts : List TypeId} {vss : List (List Value)}, iH w us bl Ts vss -> ∀ {i : Nat} {T : TypeId} {vs : List Value}, Ts[i]? = some T -> vss[i]? = some vs ->
  ∃ b, bl[i]? = some b /\ us[i]? = some (.pointer (some ⟨b, 0, none⟩)) /\ w.heap[b]? = some (.cells vs.toArray T (0, 0))
 | u :: us, b :: bl, T :: Ts, vs :: vss, h, 0, T', vs', h1, h2 => by
  simp at h1 h2
  subst h1
  subst h2
  exact ⟨b, rfl, by rw [h.1]; rfl, h.2.1⟩
 | u :: us, b :: bl, T :: Ts, vs :: vss, h, i + 1, T', vs', h1, h2 => by
  simpa using h.2.2.at (i := i) (T := T') (vs := vs') (by simpa using h1) (by simpa using h2)
 | [], [], [], [], _, i, T, vs, h1, _ => by simp at h1
theorem iH.len {w : World} : ∀ {us : List Value} {bl : List Nat} {Ts : List TypeId} {vss : List (List Value)}, iH w us bl Ts vss -> us.length = Ts.length /\ bl.length = Ts.length /\ vss.length = Ts.length
 | [], [], [], [], _ => ⟨rfl, rfl, rfl⟩
 | u :: us, b :: bl, T :: Ts, vs :: vss, h => by
  obtain ⟨h1, h2, h3⟩ := iH.len h.2.2
  simp [h1, h2, h3]
theorem AU (E : Nat -> Value) (vs : List Value) : an E (vs.map .v) = vs := by
 rw [a6, List.map_map]
 exact (List.map_congr_left (fun _ _ => rfl)).trans (List.map_id vs)
def σL (Ts : List TypeId) (vss : List (List Value)) : St := ⟨1, bV (mo 0 Ts), cd (tW 0 Ts vss)⟩
theorem NB {w : World} {nt m : Nat} {us : List Value} {bl : List Nat} {Ts : List TypeId} {vss : List (List Value)} (h : iH w us bl Ts vss) (hn : bl.Nodup) (hlt : ∀ b ∈ bl, b < w.heap.size) (h8 : us.length <= 7) (hnt : us.length + m = nt) :
  Sat w bl nt ⟨[], Fq 0 us⟩ (σL Ts vss) { tmps := us.toArray ++ Array.replicate m undef, defers := [] } w := by
 obtain ⟨l1, l2, l3⟩ := h.len
 have hF : ∀ {i : Nat} {b : Nat}, bl[i]? = some b -> ((bl[i]?).toList : List Nat) = [b] := fun h => by rw [h]; rfl
 refine ⟨⟨fun j => us.getD j undef, fun j => (bl[j]?).toList, fun t => ?_, ⟨fun j e he => ?_, fun j e he c hc => ?_, fun j e he c hc => ?_, fun i j e e' hij hi hj c hc => ?_, ai.refl w _⟩, fun p hp => ?_⟩, by simp; omega, rfl, fun p hp => ?_, fun t k hk => ?_, fun j e he => ?_⟩
 ·show fits _ (bV (mo 0 Ts) t) _
  rcases jb (L := mo 0 Ts) t with h0 | ⟨p, hp, h1, h2⟩
  ·rw [h0]; trivial
  ·rw [h2]
   obtain ⟨i, hi, rfl⟩ := qF hp
   simp only [Nat.zero_add] at h1
   subst h1
   have hti : i < Ts.length := hi
   obtain ⟨b, hb, hu, _⟩ := h.at (i := i) (List.getElem?_eq_getElem hti) (List.getElem?_eq_getElem (by omega : i < vss.length))
   simp only [Nat.zero_add, fits, den]
   rw [Array.getD_eq_getD_getElem?, Array.getElem?_append_left (by simp; omega)]
   simp [hu, base, cx]
 ·obtain ⟨i, T, vs, h1, h2, h3⟩ := qm (eL he)
  simp only [Nat.zero_add, Prod.mk.injEq] at h3
  obtain ⟨rfl, rfl⟩ := h3
  obtain ⟨b, hb, hu, hh⟩ := h.at h1 h2
  exact ⟨b, by simp [hu], hF hb, by rw [AU]; exact hh⟩
 ·simp only [Option.mem_toList] at hc
  exact hlt c (List.mem_of_getElem? hc)
 ·simp only [Option.mem_toList] at hc
  exact .inr (List.mem_of_getElem? hc)
 ·simp only [Option.mem_toList] at hc ⊢
  intro hc'
  have h1 := List.getElem?_eq_some_iff.1 hc
  have h2 := List.getElem?_eq_some_iff.1 hc'
  obtain ⟨a1, a2⟩ := h1
  obtain ⟨b1, b2⟩ := h2
  have hpw := List.pairwise_iff_getElem.1 hn
  rcases Nat.lt_or_gt_of_ne hij with hlt' | hlt'
  ·exact hpw i j a1 b1 hlt' (a2.trans b2.symm)
  ·exact hpw j i b1 a1 hlt' (b2.trans a2.symm)
 ·obtain ⟨i, h1, h2⟩ := tG hp
  simp only [Nat.zero_add] at h2
  rw [h2]
  simp [h1]
 ·obtain ⟨i, h1, h2⟩ := tG hp
  have := (List.getElem?_eq_some_iff.1 h1).1
  show p.1 / 8 < 1
  omega
 ·have hk : k ∈ (bV (mo 0 Ts) t).keys := hk
  rcases jb (L := mo 0 Ts) t with h0 | ⟨p, hp, h1, h2⟩
  ·rw [h0] at hk; simp [FV.keys] at hk
  ·rw [h2] at hk
   obtain ⟨i, hi, rfl⟩ := qF hp
   simp [FV.keys, SV.keys] at hk
   show k / 8 < 1
   omega
 ·obtain ⟨i, T, vs, h1, h2, h3⟩ := qm (eL he)
  simp only [Nat.zero_add, Prod.mk.injEq] at h3
  obtain ⟨rfl, rfl⟩ := h3
  have := (List.getElem?_eq_some_iff.1 h1).1
  refine ⟨by show j / 8 < 1; omega, fun i hi => ?_⟩
  simp only [bm.keys, aN] at hi
  cases hi
theorem Sat.put {W : World} {bs : List Nat} {nt : Nat} {ds : Aux} {σ : St} {a : Act} {w : World} (h : Sat W bs nt ds σ a w) (t : Nat) (v : Value) (ht : t < nt) : Sat W bs nt ds ⟨σ.n, bg σ.φ t (.is (.v v)), σ.h⟩ (a.put (some t) v) w := by
 obtain ⟨⟨E, F, hf, hs, hp⟩, h1, h2, h3, h4, h5⟩ := h
 refine ⟨⟨E, F, fun s => ?_, hs, hp⟩, by simp [Act.put, h1], h2, h3, fun s k hk => ?_, h5⟩
 ·show fits E (bg σ.φ t (.is (.v v)) s) ((a.tmps.setIfInBounds t v).getD s undef)
  by_cases hst : s = t
  ·subst hst
   rw [af, Array.getD_eq_getD_getElem?, Array.getElem?_setIfInBounds_self_of_lt (by omega)]
   rfl
  ·rw [aj _ _ hst, Array.getD_eq_getD_getElem?, Array.getElem?_setIfInBounds_ne (fun e => hst e.symm), <- Array.getD_eq_getD_getElem?]
   exact hf s
 ·have hk : k ∈ (bg σ.φ t (.is (.v v)) s).keys := hk
  by_cases hst : s = t
  ·subst hst; rw [af] at hk; simp [FV.keys, SV.keys] at hk
  ·rw [aj _ _ hst] at hk; exact h4 s k hk
def σR (σ : St) (e x : Nat) (v : Value) : St := ⟨σ.n, bg (bg σ.φ e (.is (.v v))) x (.is (.v v)), σ.h⟩
theorem Sat.Ur {W : World} {bs : List Nat} {nt : Nat} {ds : Aux} {σ : St} {a : Act} {w : World} (h : Sat W bs nt ds σ a w) (e x : Nat) (v : Value) (he : e < nt) (hx : x < nt) : Sat W bs nt ds (σR σ e x v) ((a.put (some e) v).put (some x) v) w :=
 (h.put e v he).put x v hx
theorem Q8 {w : World} {nt : Nat} {tmps : Array Value} (h : tmps.size = nt) : Sat w [] nt ⟨[], []⟩ ⟨1, bV [], cd []⟩ { tmps := tmps, defers := [] } w := by
 refine ⟨⟨fun _ => undef, fun _ => [], fun _ => trivial, ⟨fun j e he => ?_, fun j e he => ?_, fun j e he => ?_, fun i j e e' _ he => ?_, ai.refl w _⟩, fun p hp => ?_⟩, h, rfl, fun p hp => ?_, fun t k hk => ?_, fun j e he => ?_⟩
 ·cases he
 ·cases he
 ·cases he
 ·cases he
 ·cases hp
 ·cases hp
 ·simp [bV, FV.keys] at hk
 ·cases he
theorem pH {f : FuncId} {fn : Func} {id e x : Nat} {T1 T2 : TypeId} {p1 p2 : String} {a1 a2 : Array Edge} {rest : Code} {nt : Nat} (w : World) (us : List Value)
  (hf : P.funcs[f]? = some fn) (hb : fn.body = some (.seq (.region id #[{ dst := some e, op := .call { callee := .builtin .recover, args := #[], argTypes := #[] }, type := T1, pos := p1, after := a1, guard := none }, { dst := some x, op := .assign (.tmp e), type := T2, pos := p2, after := a2, guard := none }] false) rest))
  (hr : fn.results.toList = []) (he : e < nt) (hx : x < nt) (hnt : us.length + (fn.ntmps - us.length) = nt)
  (h : Wp P w [] nt ⟨[], []⟩ rest (Fin P [] (fun _ _ _ _ => True) (fun _ _ => False)) (σR ⟨1, bV [], cd []⟩ e x .nilIface)) :
  CallsD P f us.toArray .returning w fun e u' w' => (∃ v, e = .returned v) /\ u' = .returning /\ ai w [] w' := by
 refine callsD_of_wpS hf hb fun c₀ cs hu => wpS_seq (wpS_region ?_)
 have hs0 : Sat w [] nt ⟨[], []⟩ ⟨1, bV [], cd []⟩ { tmps := us.toArray ++ Array.replicate (fn.ntmps - us.length) undef, defers := [] } w :=
  Q8 (by simp; omega)
 have hs1 := hs0.Ur e x .nilIface he hx
 have h1 := h _ w hs1
 simp [wpOpsS, go_sem, recoverD, hu, Exit.thenS]
 rw [if_pos (by omega)]
 have hc : ∀ u, c₀.mode = u -> c₀ :: cs = { c₀ with mode := u } :: cs := fun u hu => by subst hu; rfl
 refine wpS_of_wp (wp_mono h1 fun e' a' w' ⟨W', bs', σ', hx', hq, hs'⟩ => ?_)
 obtain ⟨⟨E, F, hφ, hh, _⟩, _, hd, _⟩ := hs'
 have fin : a'.defers = [] /\ ∃ u', c₀ :: cs = { c₀ with mode := u' } :: cs /\ ∃ v, (results fn a'.tmps).run P w' = .ok v w' /\ (∃ v', Ending.returned v = .returned v') /\ u' = .returning /\ ai w [] w' :=
  ⟨hd, _, hc _ hu, _, gS hφ hh (by rw [hr]; trivial), ⟨_, rfl⟩, rfl, (hh.back hx').keeps⟩
 cases e' with
 | normal => exact fin
 | ret => exact fin
 | panic c => exact hq.elim
 | exit i => exact hq.elim
 | goto l => exact hq.elim
 | outgrown => exact hq.elim
theorem w5 {W : World} {bs : List Nat} {E : Nat -> Value} {F : Nat -> List Nat} {h : Hp} {w : World} (hh : ak W bs E F h w) : ∀ {j : Nat} {us : List Value} {bl : List Nat} {Ts : List TypeId} {vss : List (List Value)} {w0 : World} {vs0 : List (List Value)}, iH w0 us bl Ts vs0 -> SK h j Ts vss -> (∀ p ∈ Fq j us, E p.1 = p.2) -> iH w us bl Ts vss
 | j, [], [], [], [], w0, [], _, _, _ => trivial
 | j, u :: us, b :: bl, T :: Ts, vs :: vss, w0, v0 :: vs0, hl, hc, hp => by
  obtain ⟨h1, h2⟩ := hc
  obtain ⟨b', hu, hF, hb⟩ := hh.ent j _ h1
  have e1 := hp (j, u) (by simp [Fq])
  simp only at e1
  rw [e1, hl.1] at hu
  simp only [Value.pointer.injEq, Option.some.injEq, Addr.mk.injEq, and_true] at hu
  subst hu
  rw [AU] at hb
  exact ⟨hl.1, hb, w5 hh hl.2.2 h2 fun p hp' => hp p (by simp [Fq, hp'])⟩
 | j, [], [], [], _ :: _, w0, [], _, hc, _ => hc.elim
 | j, u :: us, b :: bl, T :: Ts, [], w0, v0 :: vs0, _, hc, _ => hc.elim
theorem nP {f : FuncId} {fn : Func} {id e x : Nat} {T1 T2 : TypeId} {p1 p2 : String} {a1 a2 : Array Edge} {rest : Code} {nt : Nat} {w : World} {us : List Value} {bl : List Nat} {Ts : List TypeId} {vss : List (List Value)} {pv : Value} {out : List (List Value)}
  (hf : P.funcs[f]? = some fn) (hb : fn.body = some (.seq (.region id #[{ dst := some e, op := .call { callee := .builtin .recover, args := #[], argTypes := #[] }, type := T1, pos := p1, after := a1, guard := none }, { dst := some x, op := .assign (.tmp e), type := T2, pos := p2, after := a2, guard := none }] false) rest))
  (hr : fn.results.toList = []) (he : e < nt) (hx : x < nt) (hnt : us.length + (fn.ntmps - us.length) = nt) (hl : iH w us bl Ts vss) (hn : bl.Nodup) (hlt : ∀ b ∈ bl, b < w.heap.size) (h8 : us.length <= 7)
  (h : ∀ us : List Value, us.length = Ts.length -> Wp P w bl nt ⟨[], Fq 0 us⟩ rest (Fin P [] (fun _ _ _ h => SK h 0 Ts out) (fun _ _ => False)) (σR (σL Ts vss) e x pv)) :
  CallsD P f us.toArray (.panicking [{ v := pv, recovered := false }]) w fun e u' w' => (∃ v, e = .returned v) /\ u' = .panicking [{ v := pv, recovered := true }] /\ ai w bl w' /\ iH w' us bl Ts out := by
 refine callsD_of_wpS hf hb fun c₀ cs hu => wpS_seq (wpS_region ?_)
 have hs1 := (NB hl hn hlt h8 hnt).Ur e x pv he hx
 have h1 := h us hl.len.1 _ w hs1
 simp [wpOpsS, go_sem, recoverD, hu, Exit.thenS]
 rw [if_pos (by omega)]
 refine wpS_of_wp (wp_mono h1 fun e' a' w' ⟨W', bs', σ', hx', hq, hs'⟩ => ?_)
 obtain ⟨⟨E, F, hφ, hh, hp⟩, _, hd, _⟩ := hs'
 have fin : ((gK P W' bs' σ' []).1 /\ SK σ'.h 0 Ts out) -> a'.defers = [] /\ ∃ u', { c₀ with mode := .panicking [{ v := pv, recovered := true }] } :: cs = { c₀ with mode := u' } :: cs /\ ∃ v, (results fn a'.tmps).run P w' = .ok v w' /\ (∃ v', Ending.returned v = .returned v') /\ u' = .panicking [{ v := pv, recovered := true }] /\ ai w bl w' /\ iH w' us bl Ts out := fun hq =>
  ⟨hd, _, rfl, _, gS hφ hh (by rw [hr]; trivial), ⟨_, rfl⟩, rfl, (hh.back hx').keeps, w5 hh hl hq.2 hp⟩
 cases e' with
 | normal => exact fin hq
 | ret => exact fin hq
 | panic c => exact hq.elim
 | exit i => exact hq.elim
 | goto l => exact hq.elim
 | outgrown => exact hq.elim
end
section
variable {P : Program} {fn : Func} {nt : Nat} {pins : List (Nat × Value)} {Rr : World -> List Nat -> SV -> Hp -> Prop} {Rp : List PanicEntry -> Hp -> Prop} {W : World} {bs : List Nat} {σ : St}
theorem rn {f : FuncId} {c : Code} {args : Array Value} {w : World} {v : Value} (hf : P.funcs[f]? = some fn) (hb : fn.body = some c) (hnt : args.size + (fn.ntmps - args.size) = nt)
  (h : jO P fn nt [] (fun _ _ x _ => ∀ E, den E x = v) (fun _ _ => False) w [] c (σ0 args.toList)) : Calls P f args w fun e w' => e = .returned v /\ ai w [] w' := by
 refine (K0 hf hb (nf args hnt) h).mono fun e w' he => ?_
 cases e with
 | returned u =>
  obtain ⟨W', bs', E, F, x, h, hx, hR, rfl, hs, _⟩ := he
  exact ⟨by rw [hR E], hx.BY hs.keeps⟩
 | panicked c => obtain ⟨_, _, _, _, _, _, hf, _⟩ := he; exact hf.elim
 | outgrown => exact he.elim
theorem jO.seq' {rs : List ResultVar} (hrs : fn.results.toList = rs) {x y : Code} (h : Wp P W bs nt ⟨[], pins⟩ x (Th (fun W' bs' σ' => jO P fn nt pins Rr Rp W' bs' y σ') (Fin P rs Rr Rp)) σ) : jO P fn nt pins Rr Rp W bs (.seq x y) σ := by
 subst hrs; exact jO.seq h
theorem jO.Oy {rs : List ResultVar} (hr : fn.results.toList = rs) {f : FuncId} (C : CatchC P f) (tl ks : List Nat) {id d : Nat} {y : Code} {T1 T2 : TypeId} {p1 p2 : String} {a1 a2 : Array Edge} {caps : Array Operand}
  (hcaps : caps = (tl.map Operand.tmp).toArray) (hks : ks.Nodup) (hrs : rs = qv tl C.Ts) (hd : d < nt) (hlen : tl.length = C.Ts.length) (hlen2 : ks.length = C.Ts.length)
  (hcap : ∀ p ∈ tl.zip ks, σ.φ p.1 = .is (.own p.2 0)) (hcel : ∀ k ∈ ks, ∃ T vs, σ.h k = some (.cells T vs))
  (h : ∀ us : List Value, us.length = C.Ts.length -> Wp P W bs nt ⟨[HO f us], ks.zip us ++ pins⟩ y (RA C rs tl ks Rr Rp) ⟨σ.n + 2, bg σ.φ d .any, σ.h⟩) :
  jO P fn nt pins Rr Rp W bs (.seq (.region id #[{ dst := some d, op := .makeFunc (.func f) #[] caps, type := T1, pos := p1, after := a1, guard := none }, { dst := none, op := .defer { callee := .value (.tmp d), args := #[], argTypes := #[] }, type := T2, pos := p2, after := a2, guard := none }] false) y) σ := by
 subst hcaps
 subst hr
 exact jO.defer C tl ks hks hrs hd hlen hlen2 hcap hcel h
variable {f : FuncId} (C : CatchC P f) (rs : List ResultVar) (tl ks : List Nat)
theorem kF : RA C rs tl ks Rr Rp .ret W bs σ = ((gK P W bs σ rs).1 /\ Rr W bs (jz (gK P W bs σ rs).2) σ.h) := rfl
theorem jo (c : List PanicEntry) : RA C rs tl ks Rr Rp (.panic c) W bs σ = ∃ pv vss, c = [{ v := pv, recovered := false }] /\ H8 σ tl ks C.Ts vss /\ C.pre vss pv /\ Rr W bs (.v (L9 (C.bh vss pv))) (dropKeys σ.h ks) := rfl
end
end
section
open Go.RowKit
mutual
def nq (k : Nat) (u : Value) : SV -> SV
 | .v x => .v x
 | .own j o => bif j == k then .v (cx (base u) o) else .own j o
 | .hd j => bif j == k then .v (hv u) else .hd j
 | .agg l => .agg (qz k u l)
 | .tup l => .tup (qz k u l)
 | .ifc t x => .ifc t (nq k u x)
 | .part j i => bif j == k then .v (hv (CR u i)) else .part j i
 | .fn f a c => .fn f (qz k u a) (qz k u c)
def qz (k : Nat) (u : Value) : List SV -> List SV
 | [] => []
 | x :: r => nq k u x :: qz k u r
end
mutual
theorem ss {E : Nat -> Value} {k : Nat} : ∀ x : SV, den E (nq k (E k) x) = den E x
 | .v x => rfl
 | .own j o => by
  simp only [nq]
  by_cases hj : j = k
  ·subst hj; simp [den]
  ·have : (j == k) = false := by simp [hj]
   simp [this]
 | .hd j => by
  simp only [nq]
  by_cases hj : j = k
  ·subst hj; simp [den]
  ·have : (j == k) = false := by simp [hj]
   simp [this]
 | .agg l => by simp only [nq, den]; rw [jJ l]
 | .tup l => by simp only [nq, den]; rw [jJ l]
 | .ifc t x => by simp only [nq, den]; rw [ss x]
 | .part j i => by
  simp only [nq]
  by_cases hj : j = k
  ·subst hj; simp [den]
  ·have : (j == k) = false := by simp [hj]
   simp [this]
 | .fn f a c => by simp only [nq, den]; rw [jJ a, jJ c]
theorem jJ {E : Nat -> Value} {k : Nat} : ∀ l : List SV, an E (qz k (E k) l) = an E l
 | [] => rfl
 | x :: r => by simp only [qz, an]; rw [ss x, jJ r]
end
mutual
theorem l7 {k : Nat} {u : Value} {j : Nat} : ∀ x : SV, j ∈ (nq k u x).keys -> j ∈ x.keys /\ j ≠ k
 | .v x, h => by simp [nq, SV.keys] at h
 | .own i o, h => by
  simp only [nq] at h
  by_cases hi : i = k
  ·subst hi; simp [SV.keys] at h
  ·have : (i == k) = false := by simp [hi]
   simp only [this, cond_false, SV.keys, List.mem_singleton] at h ⊢
   exact ⟨h, h ▸ hi⟩
 | .hd i, h => by
  simp only [nq] at h
  by_cases hi : i = k
  ·subst hi; simp [SV.keys] at h
  ·have : (i == k) = false := by simp [hi]
   simp only [this, cond_false, SV.keys, List.mem_singleton] at h ⊢
   exact ⟨h, h ▸ hi⟩
 | .agg l, h => by simp only [nq, SV.keys] at h ⊢; exact ft l h
 | .tup l, h => by simp only [nq, SV.keys] at h ⊢; exact ft l h
 | .ifc t x, h => by simp only [nq, SV.keys] at h ⊢; exact l7 x h
 | .part i o, h => by
  simp only [nq] at h
  by_cases hi : i = k
  ·subst hi; simp [SV.keys] at h
  ·have : (i == k) = false := by simp [hi]
   simp only [this, cond_false, SV.keys, List.mem_singleton] at h ⊢
   exact ⟨h, h ▸ hi⟩
 | .fn f a c, h => by
  simp only [nq, SV.keys, List.mem_append] at h ⊢
  rcases h with h | h
  ·exact ⟨.inl (ft a h).1, (ft a h).2⟩
  ·exact ⟨.inr (ft c h).1, (ft c h).2⟩
theorem ft {k : Nat} {u : Value} {j : Nat} : ∀ l : List SV, j ∈ ax (qz k u l) -> j ∈ ax l /\ j ≠ k
 | [], h => by simp [qz, ax] at h
 | x :: r, h => by
  simp only [qz, ax, List.mem_append] at h ⊢
  rcases h with h | h
  ·exact ⟨.inl (l7 x h).1, (l7 x h).2⟩
  ·exact ⟨.inr (ft r h).1, (ft r h).2⟩
end
def TZ (k : Nat) (u : Value) : FV -> FV
 | .is x => .is (nq k u x)
 | .cnd b x => .cnd b (nq k u x)
 | .any => .any
def Rj (k : Nat) (u : Value) : bm -> bm
 | .cells T vs => .cells T (qz k u vs)
 | .row T s n vs => .row T s n (qz k u vs)
 | .obj d R => .obj d R
def Mm (k : Nat) (u : Value) (φ : Fr) : Fr := fun t => TZ k u (φ t)
def IP (k : Nat) (u : Value) (h : Hp) : Hp := fun j => bif j == k then none else (h j).map (Rj k u)
theorem Ot {E : Nat -> Value} {k : Nat} {f : FV} {u : Value} (h : fits E f u) : fits E (TZ k (E k) f) u := by
 cases f with
 | is x => simpa [TZ, fits, ss] using h
 | cnd b x => simpa [TZ, fits, ss] using h
 | any => trivial
theorem NN {k : Nat} {u : Value} {f : FV} {j : Nat} (h : j ∈ (TZ k u f).keys) : j ∈ f.keys /\ j ≠ k := by
 cases f with
 | is x => exact l7 x h
 | cnd b x =>
  cases b with
  | false => cases h
  | true => exact l7 x h
 | any => cases h
theorem TU {E : Nat -> Value} {k : Nat} {e : bm} {u : Value} {fp : List Nat} {w : World} (h : bn E u fp w e) : bn E u fp w (Rj k (E k) e) := by
 cases e with
 | cells T vs => simpa [Rj, bn, jJ] using h
 | row T s n vs => simpa [Rj, bn, jJ] using h
 | obj d R => exact h
theorem Nl {k : Nat} {u : Value} {e : bm} {j : Nat} (h : j ∈ (Rj k u e).keys) : j ∈ e.keys /\ j ≠ k := by
 cases e with
 | cells T vs => exact ft vs h
 | row T s n vs => exact ft vs h
 | obj d R => cases h
theorem kW {k : Nat} {u : Value} {h : Hp} {j : Nat} {e : bm} (hh : IP k u h j = some e) : j ≠ k /\ ∃ e0, h j = some e0 /\ e = Rj k u e0 := by
 unfold IP at hh
 by_cases hj : j = k
 ·subst hj; simp at hh
 ·have : (j == k) = false := by simp [hj]
  rw [this, cond_false, Option.map_eq_some_iff] at hh
  obtain ⟨e0, h1, h2⟩ := hh
  exact ⟨hj, e0, h1, h2.symm⟩
theorem Sat.Cm {W : World} {bs : List Nat} {nt : Nat} {ds : Aux} {σ : St} {a : Act} {w : World} (k : Nat) (hsat : Sat W bs nt ds σ a w) :
  ∃ E F bs', Ext W bs w bs' /\ ak W bs E F σ.h w /\ (∀ e, σ.h k = some e -> ∀ b ∈ F k, b ∉ bs') /\ Sat w bs' nt ds ⟨σ.n, Mm k (E k) σ.φ, IP k (E k) σ.h⟩ a w := by
 classical
 obtain ⟨⟨E, F, hφ, hs, hp⟩, hsz, hdf, hpk, hfk, hhk⟩ := hsat
 have hmem : ∃ bs' : List Nat, ∀ b, b ∈ bs' ↔ ∃ j e, j ≠ k /\ σ.h j = some e /\ b ∈ F j := by
  refine ⟨(List.range (8 * σ.n)).flatMap fun j => if j = k \/ σ.h j = none then [] else F j, fun b => ?_⟩
  rw [List.mem_flatMap]
  constructor
  ·rintro ⟨j, _, hb⟩
   split at hb
   ·cases hb
   ·rename_i hn
    have h1 : j ≠ k := fun e => hn (.inl e)
    have h2 : σ.h j ≠ none := fun e => hn (.inr e)
    obtain ⟨e, he⟩ := Option.ne_none_iff_exists'.1 h2
    exact ⟨j, e, h1, he, hb⟩
  ·rintro ⟨j, e, hj, he, hb⟩
   have := (hhk j e he).1
   refine ⟨j, List.mem_range.2 (by omega), ?_⟩
   rw [if_neg (by rw [he]; simp [hj])]
   exact hb
 obtain ⟨bs', hmem⟩ := hmem
 have hx : Ext W bs w bs' := ⟨hs.keeps, fun b hb => by
  obtain ⟨j, e, _, he, hbj⟩ := (hmem b).1 hb
  exact hs.mine j e he b hbj⟩
 refine ⟨E, F, bs', hx, hs, fun e he b hb hb' => ?_, ?_⟩
 ·obtain ⟨j, e2, hj, he2, hbj⟩ := (hmem b).1 hb'
  exact hs.apart k j e e2 (Ne.symm hj) he he2 b hb hbj
 ·refine ⟨⟨E, F, fun t => Ot (hφ t), ⟨fun j e he => ?_, fun j e he b hb => ?_, fun j e he b hb => ?_, fun i j e e' hij hi hj b hb => ?_, ai.refl w _⟩, hp⟩, hsz, hdf, hpk, fun t j hj => hfk t j (NN hj).1, fun j e he => ?_⟩
  ·obtain ⟨hj, e0, h1, rfl⟩ := kW he; exact TU (hs.ent j e0 h1)
  ·obtain ⟨hj, e0, h1, rfl⟩ := kW he; exact hs.lt j e0 h1 b hb
  ·obtain ⟨hj, e0, h1, rfl⟩ := kW he; exact .inr ((hmem b).2 ⟨j, e0, hj, h1, hb⟩)
  ·obtain ⟨_, e0, h1, rfl⟩ := kW hi
   obtain ⟨_, e1, h2, rfl⟩ := kW hj
   exact hs.apart i j e0 e1 hij h1 h2 b hb
  ·obtain ⟨hj, e0, h1, rfl⟩ := kW he
   exact ⟨(hhk j e0 h1).1, fun i hi => (hhk j e0 h1).2 i (Nl hi).1⟩
def Dz (nt : Nat) (ds : Aux) (X : World -> List Nat -> St -> Prop) : Prop := ∀ W bs σ, (∀ a w, Sat W bs nt ds σ a w -> ∃ W' bs' σ', Ext W bs W' bs' /\ X W' bs' σ' /\ Sat W' bs' nt ds σ' a w) -> X W bs σ
theorem Wp.U6 {P : Program} {nt : Nat} {ds : Aux} {c : Code} {Q : jU} : Dz nt ds (fun W bs σ => Wp P W bs nt ds c Q σ) := fun W bs σ h a w hs => by
 obtain ⟨W', bs', σ', hx, hX, hs'⟩ := h a w hs
 exact wp_mono (hX a w hs') fun e' a' w' hh' => nw hx hh'
def Pw (nt : Nat) (ds : Aux) (W : World) (bs : List Nat) (σ : St) (Q : World -> List Nat -> St -> Prop) : Prop :=
 ∀ a w, Sat W bs nt ds σ a w -> ∃ W' bs' σ', Ext W bs W' bs' /\ Q W' bs' σ' /\ Sat W' bs' nt ds σ' a w
theorem Pw.U6 {nt : Nat} {ds : Aux} {Q : World -> List Nat -> St -> Prop} : Dz nt ds (fun W bs σ => Pw nt ds W bs σ Q) := fun W bs σ h a w hs => by
 obtain ⟨W', bs', σ', hx, hX, hs'⟩ := h a w hs
 obtain ⟨W2, bs2, σ2, hx2, hq, hs2⟩ := hX a w hs'
 exact ⟨W2, bs2, σ2, hx.trans hx2, hq, hs2⟩
theorem Pw.here {nt : Nat} {ds : Aux} {Q : World -> List Nat -> St -> Prop} {W : World} {bs : List Nat} {σ : St} (h : Q W bs σ) : Pw nt ds W bs σ Q := fun a w hs => ⟨W, bs, σ, Ext.refl W bs, h, hs⟩
def Mo (nt : Nat) (ds : Aux) (Q : jU) : jU
 | .normal, W, bs, σ => Pw nt ds W bs σ (Q .normal)
 | e, W, bs, σ => Q e W bs σ
theorem dV {nt : Nat} {ds : Aux} {Q : jU} {W : World} {bs : List Nat} {σ : St} (h : Pw nt ds W bs σ (Q .normal)) : Mo nt ds Q .normal W bs σ := h
theorem Wp.more {P : Program} {W : World} {bs : List Nat} {nt : Nat} {ds : Aux} {c : Code} {Q : jU} {σ : St} (h : Wp P W bs nt ds c (Mo nt ds Q) σ) : Wp P W bs nt ds c Q σ := fun a w hs =>
 wp_mono (h a w hs) fun e a' w' ⟨W', bs', σ', he, hq, hs'⟩ => by
  cases e with
  | normal =>
   obtain ⟨W2, bs2, σ2, hx2, hq2, hs2⟩ := hq a' w' hs'
   exact ⟨W2, bs2, σ2, he.trans hx2, hq2, hs2⟩
  | _ => exact ⟨W', bs', σ', he, hq, hs'⟩
section
variable {nt : Nat} {ds : Aux} {X : World -> List Nat -> St -> Prop} {W : World} {bs : List Nat} {σ : St}
theorem Dz.Cm (hX : Dz nt ds X) (k : Nat)
  (h : ∀ W' bs' E F, Ext W bs W' bs' -> ak W bs E F σ.h W' -> (∀ e, σ.h k = some e -> ∀ b ∈ F k, b ∉ bs') -> X W' bs' ⟨σ.n, Mm k (E k) σ.φ, IP k (E k) σ.h⟩) : X W bs σ :=
 hX W bs σ fun a w hs => by
  obtain ⟨E, F, bs', hx, hh, hb, hs'⟩ := hs.Cm k
  exact ⟨w, bs', _, hx, h w bs' E F hx hh hb, hs'⟩
end
structure FK where
 Φ : List Value -> World -> (Nat -> Prop) -> Prop
 mono : ∀ {cs : List Value} {W : World} {S : Nat -> Prop} {W' : World} {S' : Nat -> Prop}, cr W S W' S' -> Φ cs W S -> Φ cs W' S'
def eY (G : Nat -> Prop) (bs : List Nat) : Nat -> Prop := fun b => G b /\ b ∉ bs
theorem eY.out {G : Nat -> Prop} {bs : List Nat} {b : Nat} (h : eY G bs b) : Out bs b := h.2
def Up (G : Nat -> Prop) (W : World) (bs : List Nat) : Prop := ∀ b, W.heap.size <= b \/ b ∈ bs -> G b
theorem Up.ext {G : Nat -> Prop} {W W' : World} {bs bs' : List Nat} (h : Up G W bs) (hx : Ext W bs W' bs') : Up G W' bs' := fun b hb =>
 hb.elim (fun h1 => h b (.inl (Nat.le_trans hx.keeps.size h1))) fun h1 => h b (hx.sub b h1)
theorem Up.true (W : World) (bs : List Nat) : Up (fun _ => True) W bs := fun _ _ => trivial
theorem Ext.At {G : Nat -> Prop} {W W' : World} {bs bs' : List Nat} (h : Ext W bs W' bs') : cr W (eY G bs) W' (eY G bs') := fun b hb hs =>
 ⟨h.keeps.block b hb hs.2, hs.1, fun hb' => (h.sub b hb').elim (fun h1 => absurd h1 (Nat.not_le.2 hb)) hs.2⟩
def iF (G : Nat -> Prop) (W : World) (bs : List Nat) (Φ : FK) : List Value -> Value -> List Nat -> World -> Prop := fun _ u fp w =>
 (∀ b ∈ fp, G b) /\ ∃ cs, u = dm cs /\ ∀ W₂ S₂, (∀ b, b < W.heap.size -> eY G bs b -> W₂.heap[b]? = W.heap[b]? /\ S₂ b) -> (∀ b ∈ fp, W₂.heap[b]? = w.heap[b]? /\ S₂ b) -> Φ.Φ cs W₂ S₂
section
variable {nt : Nat} {ds : Aux} {X : World -> List Nat -> St -> Prop} {W : World} {bs : List Nat} {σ : St}
theorem Dz.gF (hX : Dz nt ds X) (k : Nat) {G : Nat -> Prop} {W0 : World} {bs0 : List Nat} {Φ : FK} (hk : σ.h k = some (.obj [] (iF G W0 bs0 Φ))) (h0 : cr W0 (eY G bs0) W (eY G bs))
  (h : ∀ W' bs' cs, Ext W bs W' bs' -> Φ.Φ cs W' (eY G bs') -> X W' bs' ⟨σ.n, Mm k (dm cs) σ.φ, IP k (dm cs) σ.h⟩) : X W bs σ := by
 refine hX.Cm k fun W' bs' E F hx hs hb => ?_
 obtain ⟨⟨⟨hG, cs, h1, h2⟩, _⟩, _⟩ := hs.ent k _ hk
 rw [h1]
 refine h W' bs' cs hx (h2 W' (eY G bs') (fun b hlt hr => ?_) fun b hbk => ⟨rfl, hG b hbk, hb _ hk b hbk⟩)
 obtain ⟨g1, g2⟩ := h0 b hlt hr
 have hlt' : b < W.heap.size := by
  by_cases hW : b < W.heap.size
  ·exact hW
  ·have : W.heap[b]? = none := by simp; omega
   rw [this] at g1
   have h3 : W0.heap[b]? = some W0.heap[b] := Array.getElem?_eq_getElem hlt
   rw [h3] at g1
   cases g1
 obtain ⟨g3, g4⟩ := hx.At b hlt' g2
 exact ⟨g3.trans g1, g4⟩
theorem Dz.lI (hX : Dz nt ds X) (k : Nat) {T : TypeId} {vs : List SV} {us : List Value} (hk : σ.h k = some (.cells T vs)) (hv : ∀ E, an E vs = us)
  (h : ∀ W' bs' b, Ext W bs W' bs' -> b ∉ bs' -> (W.heap.size <= b \/ b ∈ bs) -> W'.heap[b]? = some (.cells us.toArray T (0, 0)) -> X W' bs' ⟨σ.n, Mm k (.pointer (some ⟨b, 0, none⟩)) σ.φ, IP k (.pointer (some ⟨b, 0, none⟩)) σ.h⟩) : X W bs σ := by
 refine hX.Cm k fun W' bs' E F hx hs hb => ?_
 obtain ⟨b, h1, h2, h3⟩ := hs.ent k _ hk
 rw [h1]
 have hbF : b ∈ F k := by rw [h2]; simp
 exact h W' bs' b hx (hb _ hk b hbF) (hs.mine k _ hk b hbF) (by rw [h3, hv E])
theorem Dz.ku (hX : Dz nt ds X) (k : Nat) {T : TypeId} {s n : Nat} {vs : List SV} {us : List Value} (hk : σ.h k = some (.row T s n vs)) (hv : ∀ E, an E vs = us)
  (h : ∀ W' bs' ao c', Ext W bs W' bs' -> ej W' (Us W bs bs') ao us -> n <= c' -> X W' bs' ⟨σ.n, Mm k (.slice ao n c') σ.φ, IP k (.slice ao n c') σ.h⟩) : X W bs σ := by
 refine hX.Cm k fun W' bs' E F hx hs hb => ?_
 obtain ⟨ao, c', h1, h2, h3⟩ := R8 hs hk fun b hbk => hb _ hk b hbk
 rw [h1]
 rw [hv E] at h2
 exact h W' bs' ao c' hx h2 h3
end
section
variable {P : Program} {W : World} {bs : List Nat} {nt : Nat} {ds : Aux} {c : Code} {Q : jU} {σ : St}
theorem Wp.gF (k : Nat) {G : Nat -> Prop} {W0 : World} {bs0 : List Nat} {Φ : FK} (hk : σ.h k = some (.obj [] (iF G W0 bs0 Φ))) (h0 : cr W0 (eY G bs0) W (eY G bs))
  (h : ∀ W' bs' cs, Ext W bs W' bs' -> Φ.Φ cs W' (eY G bs') -> Wp P W' bs' nt ds c Q ⟨σ.n, Mm k (dm cs) σ.φ, IP k (dm cs) σ.h⟩) : Wp P W bs nt ds c Q σ :=
 Dz.gF Wp.U6 k hk h0 h
theorem Wp.lI (k : Nat) {T : TypeId} {vs : List SV} {us : List Value} (hk : σ.h k = some (.cells T vs)) (hv : ∀ E, an E vs = us)
  (h : ∀ W' bs' b, Ext W bs W' bs' -> b ∉ bs' -> (W.heap.size <= b \/ b ∈ bs) -> W'.heap[b]? = some (.cells us.toArray T (0, 0)) -> Wp P W' bs' nt ds c Q ⟨σ.n, Mm k (.pointer (some ⟨b, 0, none⟩)) σ.φ, IP k (.pointer (some ⟨b, 0, none⟩)) σ.h⟩) : Wp P W bs nt ds c Q σ :=
 Dz.lI Wp.U6 k hk hv h
theorem Wp.ku (k : Nat) {T : TypeId} {s n : Nat} {vs : List SV} {us : List Value} (hk : σ.h k = some (.row T s n vs)) (hv : ∀ E, an E vs = us)
  (h : ∀ W' bs' ao c', Ext W bs W' bs' -> ej W' (Us W bs bs') ao us -> n <= c' -> Wp P W' bs' nt ds c Q ⟨σ.n, Mm k (.slice ao n c') σ.φ, IP k (.slice ao n c') σ.h⟩) : Wp P W bs nt ds c Q σ :=
 Dz.ku Wp.U6 k hk hv h
variable {R : World -> List Nat -> St -> Prop}
theorem Pw.gF (k : Nat) {G : Nat -> Prop} {W0 : World} {bs0 : List Nat} {Φ : FK} (hk : σ.h k = some (.obj [] (iF G W0 bs0 Φ))) (h0 : cr W0 (eY G bs0) W (eY G bs))
  (h : ∀ W' bs' cs, Ext W bs W' bs' -> Φ.Φ cs W' (eY G bs') -> Pw nt ds W' bs' ⟨σ.n, Mm k (dm cs) σ.φ, IP k (dm cs) σ.h⟩ R) : Pw nt ds W bs σ R :=
 Dz.gF Pw.U6 k hk h0 h
theorem Pw.lI (k : Nat) {T : TypeId} {vs : List SV} {us : List Value} (hk : σ.h k = some (.cells T vs)) (hv : ∀ E, an E vs = us)
  (h : ∀ W' bs' b, Ext W bs W' bs' -> b ∉ bs' -> (W.heap.size <= b \/ b ∈ bs) -> W'.heap[b]? = some (.cells us.toArray T (0, 0)) -> Pw nt ds W' bs' ⟨σ.n, Mm k (.pointer (some ⟨b, 0, none⟩)) σ.φ, IP k (.pointer (some ⟨b, 0, none⟩)) σ.h⟩ R) : Pw nt ds W bs σ R :=
 Dz.lI Pw.U6 k hk hv h
theorem Pw.ku (k : Nat) {T : TypeId} {s n : Nat} {vs : List SV} {us : List Value} (hk : σ.h k = some (.row T s n vs)) (hv : ∀ E, an E vs = us)
  (h : ∀ W' bs' ao c', Ext W bs W' bs' -> ej W' (Us W bs bs') ao us -> n <= c' -> Pw nt ds W' bs' ⟨σ.n, Mm k (.slice ao n c') σ.φ, IP k (.slice ao n c') σ.h⟩ R) : Pw nt ds W bs σ R :=
 Dz.ku Pw.U6 k hk hv h
end
theorem cell_of {W : World} {b : Nat} {us : List Value} {T : TypeId} (h : W.heap[b]? = some (.cells us.toArray T (0, 0))) (j : Nat) (hj : j < us.length) : W.cell? ⟨b, j, none⟩ = some us[j] := by
 simp only [World.cell?, h]
 simp [List.getElem?_eq_getElem hj]
theorem Tv (k : Nat) (u : Value) (φ : Fr) (t : Nat) : Mm k u φ t = TZ k u (φ t) := rfl
theorem Ro (k : Nat) (u : Value) (h : Hp) (j : Nat) : IP k u h j = bif j == k then none else (h j).map (Rj k u) := rfl
theorem Vg (k : Nat) (u : Value) (x : SV) : TZ k u (.is x) = .is (nq k u x) := rfl
theorem Sf (k : Nat) (u : Value) (b : Bool) (x : SV) : TZ k u (.cnd b x) = .cnd b (nq k u x) := rfl
theorem Tt (k : Nat) (u : Value) : TZ k u .any = .any := rfl
theorem L2 (k : Nat) (u : Value) (T : TypeId) (vs : List SV) : Rj k u (.cells T vs) = .cells T (qz k u vs) := rfl
theorem RH (k : Nat) (u : Value) (T : TypeId) (s n : Nat) (vs : List SV) : Rj k u (.row T s n vs) = .row T s n (qz k u vs) := rfl
theorem TY (k : Nat) (u : Value) (d : List Value) (R : List Value -> Value -> List Nat -> World -> Prop) : Rj k u (.obj d R) = .obj d R := rfl
theorem Wb (k : Nat) (u x : Value) : nq k u (.v x) = .v x := rfl
theorem S9 (k : Nat) (u : Value) (j o : Nat) : nq k u (.own j o) = bif j == k then .v (cx (base u) o) else .own j o := rfl
theorem Vb (k : Nat) (u : Value) (j : Nat) : nq k u (.hd j) = bif j == k then .v (hv u) else .hd j := rfl
theorem QZ (k : Nat) (u : Value) (j i : Nat) : nq k u (.part j i) = bif j == k then .v (hv (CR u i)) else .part j i := rfl
theorem TR (k : Nat) (u : Value) (l : List SV) : nq k u (.agg l) = .agg (qz k u l) := rfl
theorem Tw (k : Nat) (u : Value) (l : List SV) : nq k u (.tup l) = .tup (qz k u l) := rfl
theorem Tg (k : Nat) (u : Value) (t : TypeId) (x : SV) : nq k u (.ifc t x) = .ifc t (nq k u x) := rfl
theorem VQ (k : Nat) (u : Value) (f : Fn) (a c : List SV) : nq k u (.fn f a c) = .fn f (qz k u a) (qz k u c) := rfl
theorem Tc (k : Nat) (u : Value) : qz k u [] = [] := rfl
theorem P4 (k : Nat) (u : Value) (x : SV) (r : List SV) : qz k u (x :: r) = nq k u x :: qz k u r := rfl
theorem NP (k : Nat) (u : Value) (l : List Value) : qz k u (l.map .v) = l.map .v := by
 induction l with
 | nil => rfl
 | cons x r ih => simp [qz, nq, ih]
theorem GP (k : Nat) (u : Value) (a b : List SV) : qz k u (a ++ b) = qz k u a ++ qz k u b := by
 induction a with
 | nil => rfl
 | cons x r ih => simp [qz, ih]
theorem Vl (k : IntKind) (n : Int) : hv (.int k n) = .int k n := rfl
theorem RE (b : Bool) : hv (.bool b) = .bool b := rfl
theorem Vo (s : ByteArray) : hv (.string s) = .string s := rfl
theorem R6 (f : Fn) (a c : Array Value) : hv (.func f a c) = .func f a c := rfl
theorem Ou (ao : Option Addr) (n c : Nat) : hv (.slice ao n c) = .slice ao n c := rfl
theorem VS (a : Option Addr) : hv (.pointer a) = .pointer a := rfl
theorem NX (t : TypeId) (x : Value) : hv (.iface t x) = .iface t x := rfl
theorem NW (a : Addr) : base (.pointer (some a)) = some a := rfl
theorem GL (a : Addr) (n c : Nat) : base (.slice (some a) n c) = some a := rfl
theorem Fs (a : Addr) (o : Nat) : cx (some a) o = .pointer (some ⟨a.block, a.off + o, none⟩) := rfl
def XS := ab @Tv <| ab @Ro <| ab @Vg <| ab @Sf <| ab @Tt <| ab @L2 <| ab @RH <| ab @TY <| ab @Wb <| ab @S9 <| ab @Vb <| ab @QZ <| ab @TR <| ab @Tw <| ab @Tg <| ab @VQ <| ab @Tc <| ab @P4 <| ab @NP <| ab @GP <| ab @Vl <| ab @RE <| ab @Vo <| ab @R6 <| ab @Ou <| ab @VS <| ab @NX <| ab @NW <| ab @GL <| ab @Fs @zE
end
end Go.LE
