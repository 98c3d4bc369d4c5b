/-
  LE, the engine, part 16: the walk through code, said of symbolic states.
-/
import Derived.Test.YtoglkgbjehbcpaaE15
import Derived.Deep.LoopGhost
namespace Go.LE
open Go.RowKit
set_option linter.unusedSimpArgs false
set_option linter.unusedVariables false

/-- Another base to tell from: what was there stands, but for bs; what may be written is new, or of bs. -/
structure Ext (W : World) (bs : List Nat) (W' : World) (bs' : List Nat) : Prop where
  keeps : Keeps W bs W'
  sub : ∀ b ∈ bs', W.heap.size ≤ b ∨ b ∈ bs
theorem Ext.refl (W : World) (bs : List Nat) : Ext W bs W bs := ⟨Keeps.refl W bs, fun _ h => .inr h⟩
theorem Ext.trans {W W' W'' : World} {bs bs' bs'' : List Nat} (h : Ext W bs W' bs') (h' : Ext W' bs' W'' bs'') : Ext W bs W'' bs'' :=
  ⟨h.keeps.trans h'.keeps fun b hb hlt => (h.sub b hb).resolve_left (by omega), fun b hb => (h'.sub b hb).elim (fun h1 => .inl (Nat.le_trans h.keeps.size h1)) fun h1 => h.sub b h1⟩
theorem Ext.keep {W W' w : World} {bs bs' : List Nat} (h : Ext W bs W' bs') (h' : Keeps W' bs' w) : Keeps W bs w :=
  h.keeps.trans h' fun b hb hlt => (h.sub b hb).resolve_left (by omega)
theorem HeapSat.back {W W' w : World} {bs bs' : List Nat} {E : Nat → Value} {F : Nat → List Nat} {h : Hp} (he : Ext W bs W' bs') (hs : HeapSat W' bs' E F h w) : HeapSat W bs E F h w :=
  ⟨hs.ent, hs.lt, fun k e hk b hb => (hs.mine k e hk b hb).elim (fun h1 => .inl (Nat.le_trans he.keeps.size h1)) fun h1 => he.sub b h1, hs.apart, he.keep hs.keeps⟩
theorem Sat.back {W W' : World} {bs bs' : List Nat} {nt : Nat} {ds : Aux} {σ : St} {a : Act} {w : World} (he : Ext W bs W' bs') (h : Sat W' bs' nt ds σ a w) : Sat W bs nt ds σ a w := by
  obtain ⟨⟨E, F, hf, hs, hp⟩, h1, h2, h3, h4, h5⟩ := h
  exact ⟨⟨E, F, hf, hs.back he, hp⟩, h1, h2, h3, h4, h5⟩

/-- What is told where code ends: of the way it ends, the base, the state. -/
abbrev Post := Exit → World → List Nat → St → Prop

/-- From each state that fits σ the code comes to an end of which Q tells. -/
def Wp (P : Program) (W : World) (bs : List Nat) (nt : Nat) (ds : Aux) (c : Code) (Q : Post) (σ : St) : Prop :=
  ∀ a w, Sat W bs nt ds σ a w → c.wp P (fun e a' w' => ∃ W' bs' σ', Ext W bs W' bs' ∧ Q e W' bs' σ' ∧ Sat W' bs' nt ds σ' a' w') a w

/-- One state says no more than another. -/
def Le (W : World) (bs : List Nat) (nt : Nat) (ds : Aux) (σ σ' : St) : Prop := ∀ a w, Sat W bs nt ds σ a w → Sat W bs nt ds σ' a w

def Th (next : World → List Nat → St → Prop) (Q : Post) : Post
  | .normal, W, bs, σ => next W bs σ
  | e, W, bs, σ => Q e W bs σ

def Bl (id : Nat) (Q : Post) : Post
  | .exit id', W, bs, σ => if id' = id then Q .normal W bs σ else Q (.exit id') W bs σ
  | e, W, bs, σ => Q e W bs σ

section
variable {next : World → List Nat → St → Prop} {Q : Post} {W : World} {bs : List Nat} {σ : St}
theorem Th_normal (h : next W bs σ) : Th next Q .normal W bs σ := h
theorem Th_ret (h : Q .ret W bs σ) : Th next Q .ret W bs σ := h
theorem Th_exit {i : Nat} (h : Q (.exit i) W bs σ) : Th next Q (.exit i) W bs σ := h
theorem Th_panic {c : List PanicEntry} (h : Q (.panic c) W bs σ) : Th next Q (.panic c) W bs σ := h
theorem Th_goto {l : Nat} (h : Q (.goto l) W bs σ) : Th next Q (.goto l) W bs σ := h
theorem Bl_normal {id : Nat} (h : Q .normal W bs σ) : Bl id Q .normal W bs σ := h
theorem Bl_ret {id : Nat} (h : Q .ret W bs σ) : Bl id Q .ret W bs σ := h
theorem Bl_panic {id : Nat} {c : List PanicEntry} (h : Q (.panic c) W bs σ) : Bl id Q (.panic c) W bs σ := h
theorem Bl_goto {id : Nat} {l : Nat} (h : Q (.goto l) W bs σ) : Bl id Q (.goto l) W bs σ := h
theorem Bl_exit {id : Nat} (h : Q .normal W bs σ) : Bl id Q (.exit id) W bs σ := by simpa [Bl] using h
theorem Bl_exit_ne {id i : Nat} (hn : i ≠ id) (h : Q (.exit i) W bs σ) : Bl id Q (.exit i) W bs σ := by simpa [Bl, hn] using h
end

section
variable {P : Program} {W : World} {bs : List Nat} {nt : Nat} {ds : Aux} {Q : Post} {σ : St}

/-- What is told of an end holds from an elder base, too. -/
theorem post_back {W W' : World} {bs bs' : List Nat} {e : Exit} {a : Act} {w : World} {Q : Post} (he : Ext W bs W' bs') (h : ∃ W'' bs'' σ', Ext W' bs' W'' bs'' ∧ Q e W'' bs'' σ' ∧ Sat W'' bs'' nt ds σ' a w) :
    ∃ W'' bs'' σ', Ext W bs W'' bs'' ∧ Q e W'' bs'' σ' ∧ Sat W'' bs'' nt ds σ' a w := by
  obtain ⟨W'', bs'', σ', h1, h2, h3⟩ := h
  exact ⟨W'', bs'', σ', he.trans h1, h2, h3⟩

theorem Wp.mono {c : Code} {Q' : Post} (h : Wp P W bs nt ds c Q σ) (hq : ∀ e W bs σ, Q e W bs σ → Q' e W bs σ) : Wp P W bs nt ds c Q' σ :=
  fun a w hs => wp_mono (h a w hs) fun e _ _ ⟨W', bs', σ', he, hq', hs'⟩ => ⟨W', bs', σ', he, hq _ _ _ _ hq', hs'⟩
theorem Wp.weak {c : Code} {σ' : St} (hle : Le W bs nt ds σ σ') (h : Wp P W bs nt ds c Q σ') : Wp P W bs nt ds c Q σ :=
  fun a w hs => h a w (hle a w hs)
theorem Wp.skip (h : Q .normal W bs σ) : Wp P W bs nt ds .skip Q σ := fun a w hs => wp_skip ⟨W, bs, σ, Ext.refl W bs, h, hs⟩
theorem Wp.label {l : Nat} (h : Q .normal W bs σ) : Wp P W bs nt ds (.label l) Q σ := fun a w hs => wp_label ⟨W, bs, σ, Ext.refl W bs, h, hs⟩
theorem Wp.exit {id : Nat} (h : Q (.exit id) W bs σ) : Wp P W bs nt ds (.exit id) Q σ := fun a w hs => wp_exit ⟨W, bs, σ, Ext.refl W bs, h, hs⟩
theorem Wp.goto {l : Nat} (h : Q (.goto l) W bs σ) : Wp P W bs nt ds (.goto l) Q σ := fun a w hs => wp_goto ⟨W, bs, σ, Ext.refl W bs, h, hs⟩
theorem Wp.ret (h : Q .ret W bs σ) : Wp P W bs nt ds .ret Q σ := fun a w hs => wp_ret ⟨W, bs, σ, Ext.refl W bs, h, hs⟩

theorem Wp.seq {x y : Code} (h : Wp P W bs nt ds x (Th (fun W bs σ => Wp P W bs nt ds y Q σ) Q) σ) : Wp P W bs nt ds (.seq x y) Q σ := fun a w hs =>
  wp_seq (wp_mono (h a w hs) fun e a' w' ⟨W', bs', σ', he, hq, hs'⟩ => by
    cases e with
    | normal => exact wp_mono (hq a' w' hs') fun e'' a'' w'' hh => post_back he hh
    | _ => exact ⟨W', bs', σ', he, hq, hs'⟩)

theorem Wp.block {id : Nat} {c : Code} (h : Wp P W bs nt ds c (Bl id Q) σ) : Wp P W bs nt ds (.block id c) Q σ := fun a w hs =>
  wp_block (wp_mono (h a w hs) fun e a' w' ⟨W', bs', σ', he, hq, hs'⟩ => by
    cases e with
    | exit i =>
      simp only [Bl] at hq
      simp only [Exit.inBlock]
      split
      · rename_i hi; rw [if_pos hi] at hq; exact ⟨W', bs', σ', he, hq, hs'⟩
      · rename_i hi; rw [if_neg hi] at hq; exact ⟨W', bs', σ', he, hq, hs'⟩
    | _ => exact ⟨W', bs', σ', he, hq, hs'⟩)

theorem Wp.cond {c : Operand} {x y : Code} {b : Bool} {p : Prop} (hc : evO σ.φ true c = (p, .v (.bool b))) (hp : p)
    (ht : b = true → Wp P W bs nt ds x Q σ) (hf : b = false → Wp P W bs nt ds y Q σ) : Wp P W bs nt ds (.cond c x y) Q σ := fun a w hs => by
  obtain ⟨E, F, hφ, hh, _⟩ := hs.ex
  have : a.eval c = .bool b := by
    rw [evO_den hφ rfl (by rw [hc]; exact hp), hc]
    rfl
  exact wp_cond_split this (fun hb => ht hb a w hs) (fun hb => hf hb a w hs)

theorem Wp.region (Γ : Env P) {id : Nat} {d : Bool} {ops : Array Oper} {g : RG} (hm : P.follows .mixedOrders = true)
    (hg : rgo Γ W bs nt ops ops.toList σ.n σ.φ σ.h = g) (hside : g.side) (hd : d = true → slotB ops = true ∧ heapB ops g.fx = true)
    (hQ : Q .normal W bs ⟨g.n, g.φ, g.h⟩) (hP : ∀ c, some c ∈ g.pans → Q (.panic c) W bs ⟨σ.n, anyD ops σ.φ, dropKeys σ.h g.lost⟩) :
    Wp P W bs nt ds (.region id ops d) Q σ := fun a w hs =>
  region_wp Γ hm hs hg hside hd (fun a' w' hs' => ⟨W, bs, _, Ext.refl W bs, hQ, hs'⟩) (fun c hc a' w' hs' => ⟨W, bs, _, Ext.refl W bs, hP c hc, hs'⟩)

/-- A region and what comes behind it: no draw, no panic. -/
theorem Wp.sreg (Γ : Env P) {id : Nat} {ops : Array Oper} {y : Code} {side : Prop} {n : Nat} {φ : Fr} {h : Hp} {pans : List (Option (List PanicEntry))} {lost : List Nat} {fx : List (List Nat × List Nat)} (hm : P.follows .mixedOrders = true)
    (hg : rgo Γ W bs nt ops ops.toList σ.n σ.φ σ.h = ⟨side, n, φ, h, pans, lost, fx⟩) (hp : pans.all Option.isNone = true) (hside : side)
    (hQ : Wp P W bs nt ds y Q ⟨n, φ, h⟩) : Wp P W bs nt ds (.seq (.region id ops false) y) Q σ :=
  Wp.seq (Wp.region Γ hm hg hside (fun hd => by cases hd) hQ fun c hc => by rw [List.all_eq_true] at hp; have := hp _ hc; cases this)
/-- .. it draws its order. -/
theorem Wp.sregD (Γ : Env P) {id : Nat} {ops : Array Oper} {y : Code} {side : Prop} {n : Nat} {φ : Fr} {h : Hp} {pans : List (Option (List PanicEntry))} {lost : List Nat} {fx : List (List Nat × List Nat)} (hm : P.follows .mixedOrders = true)
    (hg : rgo Γ W bs nt ops ops.toList σ.n σ.φ σ.h = ⟨side, n, φ, h, pans, lost, fx⟩) (hp : pans.all Option.isNone = true) (hd : (slotB ops && heapB ops fx) = true) (hside : side)
    (hQ : Wp P W bs nt ds y Q ⟨n, φ, h⟩) : Wp P W bs nt ds (.seq (.region id ops true) y) Q σ :=
  Wp.seq (Wp.region Γ hm hg hside (fun _ => by rw [Bool.and_eq_true] at hd; exact hd) hQ fun c hc => by rw [List.all_eq_true] at hp; have := hp _ hc; cases this)
/-- a region at the end -/
theorem Wp.reg (Γ : Env P) {id : Nat} {ops : Array Oper} {side : Prop} {n : Nat} {φ : Fr} {h : Hp} {pans : List (Option (List PanicEntry))} {lost : List Nat} {fx : List (List Nat × List Nat)} (hm : P.follows .mixedOrders = true)
    (hg : rgo Γ W bs nt ops ops.toList σ.n σ.φ σ.h = ⟨side, n, φ, h, pans, lost, fx⟩) (hp : pans.all Option.isNone = true) (hside : side)
    (hQ : Q .normal W bs ⟨n, φ, h⟩) : Wp P W bs nt ds (.region id ops false) Q σ :=
  Wp.region Γ hm hg hside (fun hd => by cases hd) hQ fun c hc => by rw [List.all_eq_true] at hp; have := hp _ hc; cases this
theorem Wp.regD (Γ : Env P) {id : Nat} {ops : Array Oper} {side : Prop} {n : Nat} {φ : Fr} {h : Hp} {pans : List (Option (List PanicEntry))} {lost : List Nat} {fx : List (List Nat × List Nat)} (hm : P.follows .mixedOrders = true)
    (hg : rgo Γ W bs nt ops ops.toList σ.n σ.φ σ.h = ⟨side, n, φ, h, pans, lost, fx⟩) (hp : pans.all Option.isNone = true) (hd : (slotB ops && heapB ops fx) = true) (hside : side)
    (hQ : Q .normal W bs ⟨n, φ, h⟩) : Wp P W bs nt ds (.region id ops true) Q σ :=
  Wp.region Γ hm hg hside (fun _ => by rw [Bool.and_eq_true] at hd; exact hd) hQ fun c hc => by rw [List.all_eq_true] at hp; have := hp _ hc; cases this

/-- A LOOP: what holds at its head is told by a parameter; its measure falls with every round. -/
theorem Wp.loop {c : Code} {ι : Type} (I : ι → St) (ok : ι → Prop) (μ : ι → Nat) (p0 : ι) (hle : Le W bs nt ds σ (I p0)) (h0 : ok p0)
    (round : ∀ p, ok p → Wp P W bs nt ds c (Th (fun W' bs' σ' => ∃ p', ok p' ∧ μ p' < μ p ∧ Le W' bs' nt ds σ' (I p')) Q) (I p)) : Wp P W bs nt ds (.loop c) Q σ := fun a w hs =>
  wp_loop_ghost (fun n a w => ∃ p, ok p ∧ μ p = n ∧ Sat W bs nt ds (I p) a w) (μ p0) ⟨p0, h0, rfl, hle a w hs⟩ fun n a w ⟨p, hp, hn, hsat⟩ =>
    wp_mono (round p hp a w hsat) fun e a' w' ⟨W', bs', σ', he, hq, hs'⟩ => by
      cases e with
      | normal =>
        obtain ⟨p', hp', hlt, hle'⟩ := hq
        exact ⟨μ p', hn ▸ hlt, p', hp', rfl, Sat.back he (hle' a' w' hs')⟩
      | _ => exact ⟨W', bs', σ', he, hq, hs'⟩

/-- .. the base moves on, too. -/
theorem Wp.loopW {c : Code} {ι : Type} (I : ι → St) (V : ι → World) (B : ι → List Nat) (ok : ι → Prop) (μ : ι → Nat) (p0 : ι) (hV : V p0 = W) (hB : B p0 = bs) (hle : Le W bs nt ds σ (I p0)) (h0 : ok p0)
    (round : ∀ p, ok p → Ext W bs (V p) (B p) → Wp P (V p) (B p) nt ds c (Th (fun W' bs' σ' => ∃ p', ok p' ∧ μ p' < μ p ∧ V p' = W' ∧ B p' = bs' ∧ Le W' bs' nt ds σ' (I p')) Q) (I p)) : Wp P W bs nt ds (.loop c) Q σ := fun a w hs =>
  wp_loop_ghost (fun n a w => ∃ p, ok p ∧ μ p = n ∧ Ext W bs (V p) (B p) ∧ Sat (V p) (B p) nt ds (I p) a w) (μ p0) ⟨p0, h0, rfl, by rw [hV, hB]; exact Ext.refl W bs, by rw [hV, hB]; exact hle a w hs⟩ fun n a w ⟨p, hp, hn, hx, hsat⟩ =>
    wp_mono (round p hp hx a w hsat) fun e a' w' ⟨W', bs', σ', he, hq, hs'⟩ => by
      cases e with
      | normal =>
        obtain ⟨p', hp', hlt, rfl, rfl, hle'⟩ := hq
        exact ⟨μ p', hn ▸ hlt, p', hp', rfl, hx.trans he, hle' a' w' hs'⟩
      | _ => exact ⟨W', bs', σ', hx.trans he, hq, hs'⟩

/-! ### One state says no more than another -/
/-- where an own thing of the lesser state comes from -/
inductive Src where
  | key (k : Nat)
  | nil

/-- a symbolic value, its keys turned into where they come from -/
def nilSl : Value := .slice none 0 0
mutual
def ren (m : Nat → Src) : SV → SV
  | .v x => .v x
  | .own k o => match m k with | .key j => .own j o | .nil => .v .nilIface
  | .hd k => match m k with | .key j => .hd j | .nil => .v nilSl
  | .agg l => .agg (renL m l)
  | .tup l => .tup (renL m l)
  | .ifc t x => .ifc t (ren m x)
  | .part k i => match m k with | .key j => .part j i | .nil => .v .nilIface
  | .fn f a c => .fn f (renL m a) (renL m c)
def renL (m : Nat → Src) : List SV → List SV
  | [] => []
  | x :: r => ren m x :: renL m r
end

def srcE (E : Nat → Value) (m : Nat → Src) (k : Nat) : Value := match m k with | .key j => E j | .nil => nilSl
def srcF (F : Nat → List Nat) (m : Nat → Src) (k : Nat) : List Nat := match m k with | .key j => F j | .nil => []

mutual
theorem den_ren (E : Nat → Value) (m : Nat → Src) : ∀ x : SV, den E (ren m x) = den (srcE E m) x
  | .v x => rfl
  | .own k o => by
    simp only [ren, den, srcE]
    cases m k <;> rfl
  | .hd k => by
    simp only [ren, den, srcE]
    cases m k <;> rfl
  | .agg l => by simp only [ren, den, denL_ren E m l]
  | .tup l => by simp only [ren, den, denL_ren E m l]
  | .ifc t x => by simp only [ren, den, den_ren E m x]
  | .part k i => by
    simp only [ren, den, srcE]
    cases m k <;> rfl
  | .fn f a c => by simp only [ren, den, denL_ren E m a, denL_ren E m c]
theorem denL_ren (E : Nat → Value) (m : Nat → Src) : ∀ l : List SV, denL E (renL m l) = denL (srcE E m) l
  | [] => rfl
  | x :: r => by simp only [renL, denL, den_ren E m x, denL_ren E m r]
end

def renE (m : Nat → Src) : Ent → Ent
  | .cells T vs => .cells T (renL m vs)
  | .row T s n vs => .row T s n (renL m vs)
  | .obj d R => .obj d R

theorem entSat_ren {E : Nat → Value} {m : Nat → Src} {u : Value} {fp : List Nat} {w : World} {e : Ent} (h : entSat E u fp w (renE m e)) : entSat (srcE E m) u fp w e := by
  cases e with
  | cells T vs => simpa [entSat, renE, denL_ren] using h
  | row T s n vs => simpa [entSat, renE, denL_ren] using h
  | obj d R => exact h

/-- a frame, listed -/
def frL : List (Nat × FV) → Fr
  | [] => fun _ => .any
  | (t, x) :: r => upd (frL r) t x
/-- own memory, listed -/
def hpL : List (Nat × Ent) → Hp
  | [] => fun _ => none
  | (k, e) :: r => upd (hpL r) k (some e)

def fvLe (m : Nat → Src) : FV → FV → Prop
  | .is x, .is y => x = ren m y
  | .cnd b x, .cnd c y => b = c ∧ (b = true → x = ren m y)
  | .is x, .cnd c y => c = true ∧ x = ren m y
  | .cnd b x, .is y => b = true ∧ x = ren m y
  | _, .any => True
  | .any, _ => False

theorem fvLe_fits {E : Nat → Value} {m : Nat → Src} {x y : FV} {u : Value} (hle : fvLe m x y) (hf : fits E x u) : fits (srcE E m) y u := by
  cases x with
  | is x =>
    cases y with
    | is y => simp only [fvLe] at hle; simp only [fits] at hf ⊢; rw [hf, hle, den_ren]
    | cnd c y => obtain ⟨rfl, hle⟩ := hle; simp only [fits, cond_true] at hf ⊢; rw [hf, hle, den_ren]
    | any => trivial
  | cnd b x =>
    cases y with
    | is y => obtain ⟨rfl, hle⟩ := hle; simp only [fits, cond_true] at hf ⊢; rw [hf, hle, den_ren]
    | cnd c y =>
      obtain ⟨rfl, hle⟩ := hle
      cases b with
      | false => exact hf
      | true => simp only [fits, cond_true] at hf ⊢; rw [hf, hle rfl, den_ren]
    | any => trivial
  | any => cases y <;> first | trivial | exact hle.elim

def frLe (m : Nat → Src) (φ : Fr) : List (Nat × FV) → Prop
  | [] => True
  | (t, x) :: r => fvLe m (φ t) x ∧ frLe m φ r

/-- an own thing of the lesser state, and where it comes from -/
def entLe (m : Nat → Src) (h : Hp) (k : Nat) (e : Ent) : Prop := match m k with
  | .key j => h j = some (renE m e)
  | .nil => match e with
    | .row _ sz n vs => 0 < sz ∧ n = 0 ∧ vs = []
    | _ => False
def hpLe (m : Nat → Src) (h : Hp) : List (Nat × Ent) → Prop
  | [] => True
  | (k, e) :: r => entLe m h k e ∧ hpLe m h r

def srcKeys (m : Nat → Src) : List (Nat × Ent) → List Nat
  | [] => []
  | (k, _) :: r => (match m k with | .key j => [j] | .nil => []) ++ srcKeys m r

/-- the keys that a listed state speaks of lie below its number -/
def keysB (n : Nat) (L : List (Nat × FV)) (H : List (Nat × Ent)) : Prop :=
  (∀ p ∈ L, ∀ k ∈ p.2.keys, k / 8 < n) ∧ (∀ p ∈ H, p.1 / 8 < n ∧ ∀ k ∈ p.2.keys, k / 8 < n)

theorem frL_cases {L : List (Nat × FV)} (t : Nat) : frL L t = .any ∨ ∃ p ∈ L, p.1 = t ∧ frL L t = p.2 := by
  induction L with
  | nil => exact .inl rfl
  | cons p r ih =>
    by_cases ht : t = p.1
    · exact .inr ⟨p, by simp, ht.symm, by simp [frL, upd, ht]⟩
    · rcases ih with ih | ⟨q, hq, h1, h2⟩
      · exact .inl (by simp [frL, upd, ht, ih])
      · exact .inr ⟨q, by simp [hq], h1, by simp [frL, upd, ht, h2]⟩
theorem hpL_cases {H : List (Nat × Ent)} {k : Nat} {e : Ent} (h : hpL H k = some e) : (k, e) ∈ H := by
  induction H with
  | nil => cases h
  | cons p r ih =>
    by_cases ht : k = p.1
    · simp [hpL, upd, ht] at h; subst h; simp [ht]
    · simp [hpL, upd, ht] at h; simp [ih h]

theorem frLe_mem {m : Nat → Src} {φ : Fr} : ∀ {L : List (Nat × FV)}, frLe m φ L → ∀ p ∈ L, fvLe m (φ p.1) p.2
  | _ :: _, h, p, hp => by
    rcases List.mem_cons.1 hp with rfl | hp
    · exact h.1
    · exact frLe_mem h.2 p hp
theorem hpLe_mem {m : Nat → Src} {h : Hp} : ∀ {H : List (Nat × Ent)}, hpLe m h H → ∀ p ∈ H, entLe m h p.1 p.2
  | _ :: _, h, p, hp => by
    rcases List.mem_cons.1 hp with rfl | hp
    · exact h.1
    · exact hpLe_mem h.2 p hp
theorem srcKeys_mem {m : Nat → Src} {k : Nat} : ∀ {H : List (Nat × Ent)}, ∀ y ∈ H, m y.1 = .key k → k ∈ srcKeys m H
  | z :: t, y, hy, hk => by
    simp only [srcKeys, List.mem_append]
    rcases List.mem_cons.1 hy with rfl | hy
    · left; rw [hk]; simp
    · right; exact srcKeys_mem y hy hk
theorem srcKeys_ne {m : Nat → Src} : ∀ {H : List (Nat × Ent)}, (srcKeys m H).Nodup → ∀ p ∈ H, ∀ q ∈ H, p.1 ≠ q.1 → ∀ i j, m p.1 = .key i → m q.1 = .key j → i ≠ j
  | [], _, p, hp, _, _, _, _, _, _, _ => by cases hp
  | x :: r, hn, p, hp, q, hq, hpq, i, j, hi, hj => by
    simp only [srcKeys] at hn
    rcases List.mem_cons.1 hp with rfl | hp'
    · rcases List.mem_cons.1 hq with rfl | hq'
      · exact absurd rfl hpq
      · rw [hi] at hn
        intro hij
        subst hij
        exact (List.nodup_append.1 hn).2.2 i (by simp) i (srcKeys_mem q hq' hj) rfl
    · rcases List.mem_cons.1 hq with rfl | hq'
      · rw [hj] at hn
        intro hij
        subst hij
        exact (List.nodup_append.1 hn).2.2 i (by simp) i (srcKeys_mem p hp' hi) rfl
      · exact srcKeys_ne (List.nodup_append.1 hn).2.1 p hp' q hq' hpq i j hi hj

/-- the number of the next operation may be any that is above the keys -/
theorem Le.mk (m : Nat → Src) {n' : Nat} {L : List (Nat × FV)} {H : List (Nat × Ent)} (hk : keysB n' L H) (hf : frLe m σ.φ L) (hh : hpLe m σ.h H) (hn : (srcKeys m H).Nodup) (hpn : ∀ p ∈ ds.pins, m p.1 = .key p.1 ∧ p.1 / 8 < n') :
    Le W bs nt ds σ ⟨n', frL L, hpL H⟩ := by
  rintro a w ⟨⟨E, F, hφ, hs, hp⟩, hsz, hdf, _, _, _⟩
  have at' : ∀ k e, hpL H k = some e → entLe m σ.h k e := fun k e he => hpLe_mem hh _ (hpL_cases he)
  have key : ∀ k e j, hpL H k = some e → m k = .key j → σ.h j = some (renE m e) := fun k e j he hj => by
    have := at' k e he
    simpa only [entLe, hj] using this
  refine ⟨⟨srcE E m, srcF F m, fun t => ?_, ⟨fun k e he => ?_, fun k e he b hb => ?_, fun k e he b hb => ?_, fun k k' e e' hne he he' b hb => ?_, hs.keeps⟩, fun p hpp => ?_⟩, hsz, hdf, fun p hpp => (hpn p hpp).2, fun t k hk' => ?_, fun k e he => ?_⟩
  · rcases frL_cases (L := L) t with h | ⟨p, hp, rfl, h⟩
    · simp only [h]; trivial
    · simp only [h]; exact fvLe_fits (frLe_mem hf p hp) (hφ p.1)
  · cases hm : m k with
    | key j =>
      simp only [srcE, srcF, hm]
      exact entSat_ren (hs.ent j _ (key k e j he hm))
    | nil =>
      have := at' k e he
      simp only [entLe, hm] at this
      cases e with
      | row T s n vs =>
        obtain ⟨h0, rfl, rfl⟩ := this
        simp only [srcE, srcF, hm]
        exact ⟨⟨by simp [denL], .inl ⟨rfl, rfl⟩⟩, rfl⟩
      | cells T vs => exact this.elim
      | obj d R => exact this.elim
  · cases hm : m k with
    | key j => simp only [srcF, hm] at hb; exact hs.lt j _ (key k e j he hm) b hb
    | nil => simp only [srcF, hm] at hb; cases hb
  · cases hm : m k with
    | key j => simp only [srcF, hm] at hb; exact hs.mine j _ (key k e j he hm) b hb
    | nil => simp only [srcF, hm] at hb; cases hb
  · cases hm : m k with
    | nil => simp only [srcF, hm] at hb; cases hb
    | key i =>
      cases hm' : m k' with
      | nil => simp only [srcF, hm']; simp
      | key j =>
        simp only [srcF, hm, hm'] at hb ⊢
        exact hs.apart i j _ _ (srcKeys_ne hn _ (hpL_cases he) _ (hpL_cases he') hne i j hm hm') (key k e i he hm) (key k' e' j he' hm') b hb
  · simp only [srcE, (hpn p hpp).1]; exact hp p hpp
  · rcases frL_cases (L := L) t with h | ⟨p, hp, _, h⟩
    · simp only [h] at hk'; cases hk'
    · simp only [h] at hk'; exact hk.1 p hp k hk'
  · exact hk.2 _ (hpL_cases he)
end
end Go.LE
