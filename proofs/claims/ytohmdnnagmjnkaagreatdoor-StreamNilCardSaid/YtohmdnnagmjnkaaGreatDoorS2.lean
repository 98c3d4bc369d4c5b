/-
  Part 2 of the proof.
-/
import Derived.WalkKit
set_option linter.unusedSimpArgs false
set_option linter.unusedVariables false
set_option linter.defProp false
section
namespace Go.CE
inductive PT (α : Type) where
  | e
  | n (l : PT α) (x : Option α) (r : PT α)
def ptE (α : Type) (_ : Nat) : Option α := none
noncomputable def PT.get {α : Type} (t : PT α) : Nat → Option α := PT.rec (motive := fun _ => Nat → Option α) (ptE α)
  (fun _ x _ gl gr k => Nat.rec (motive := fun _ => Option α) x (fun k _ => Nat.rec (motive := fun _ => Option α) (gl (Nat.div k 2)) (fun _ _ => gr (Nat.div k 2)) (Nat.mod k 2)) k) t
noncomputable def ptS (α : Type) (_ : Nat) (ih : PT α → Nat → Option α → PT α) (t : PT α) (k : Nat) (o : Option α) : PT α := PT.rec (motive := fun _ => PT α)
  (Nat.rec (motive := fun _ => PT α) (.n .e o .e) (fun k _ => Nat.rec (motive := fun _ => PT α) (.n (ih .e (Nat.div k 2) o) none .e) (fun _ _ => .n .e none (ih .e (Nat.div k 2) o)) (Nat.mod k 2)) k)
  (fun l x r _ _ => Nat.rec (motive := fun _ => PT α) (.n l o r) (fun k _ => Nat.rec (motive := fun _ => PT α) (.n (ih l (Nat.div k 2) o) x r) (fun _ _ => .n l x (ih r (Nat.div k 2) o)) (Nat.mod k 2)) k) t
def ptZ (α : Type) (t : PT α) (_ : Nat) (_ : Option α) : PT α := t
noncomputable def PT.setF {α : Type} (fuel : Nat) : PT α → Nat → Option α → PT α := Nat.rec (motive := fun _ => PT α → Nat → Option α → PT α) (ptZ α) (ptS α) fuel
noncomputable def PT.set {α : Type} (t : PT α) (k : Nat) (o : Option α) : PT α := PT.setF 20 t k o
def okK (k : Nat) : Bool := Nat.blt k 1048575
noncomputable def nthC (α : Type) (a : α) (_ : List α) (ih : Nat → Option α) (i : Nat) : Option α := Nat.rec (motive := fun _ => Option α) (some a) (fun i _ => ih i) i
noncomputable def nth {α : Type} (l : List α) : Nat → Option α := List.rec (motive := fun _ => Nat → Option α) (ptE α) (nthC α) l
noncomputable def drpC (α : Type) (a : α) (r : List α) (ih : Nat → List α) (i : Nat) : List α := Nat.rec (motive := fun _ => List α) (a :: r) (fun i _ => ih i) i
def nilF (α : Type) (_ : Nat) : List α := []
noncomputable def drp {α : Type} (l : List α) : Nat → List α := List.rec (motive := fun _ => Nat → List α) (nilF α) (drpC α) l
noncomputable def takC (α : Type) (a : α) (_ : List α) (ih : Nat → List α) (i : Nat) : List α := Nat.rec (motive := fun _ => List α) [] (fun j _ => a :: ih j) i
noncomputable def tak {α : Type} (l : List α) : Nat → List α := List.rec (motive := fun _ => Nat → List α) (nilF α) (takC α) l
noncomputable def ovrC (α : Type) (a : α) (r : List α) (ih : Nat → List α → List α) (i : Nat) (xs : List α) : List α :=
  Nat.rec (motive := fun _ => List α) (List.rec (motive := fun _ => List α) (a :: r) (fun x ys _ => x :: ih 0 ys) xs) (fun j _ => a :: ih j xs) i
def nilF2 (α : Type) (_ : Nat) (_ : List α) : List α := []
noncomputable def ovr {α : Type} (l : List α) : Nat → List α → List α := List.rec (motive := fun _ => Nat → List α → List α) (nilF2 α) (ovrC α) l
def sucC (α : Type) (_ : α) (_ : List α) (n : Nat) : Nat := Nat.succ n
noncomputable def lng {α : Type} (l : List α) : Nat := List.rec (motive := fun _ => Nat) 0 (sucC α) l
inductive CP where
  | ex (c : Nat)
  | un (sz : Nat)
inductive V where
  | v (x : Value)
  | u (i : Nat)
  | p (k o : Nat)
  | s (k o n : Nat) (c : CP)
  | m (k : Nat)
  | g (l : List V)
  | t (l : List V)
  | i (T : TypeId) (x : V)
  | f (fn : Fn) (a c : List V)
inductive O where
  | c (T : TypeId) (l : List V) (len : Nat)
  | m (es : List (V × V))
  | it (k n : Nat)
  | q (T : TypeId) (l : List V)
  | r (T : TypeId) (l : List V)
def zt (T : Nat) : Bool := or (Nat.beq T 69) (or (Nat.beq T 70) (Nat.beq T 71))
inductive HP where
  | e
  | n (l : HP) (x : Option O) (r : HP)
def hpE (_ : Nat) : Option O := none
noncomputable def HP.get (t : HP) : Nat → Option O := HP.rec (motive := fun _ => Nat → Option O) hpE
  (fun _ x _ gl gr k => Nat.rec (motive := fun _ => Option O) x (fun k _ => Nat.rec (motive := fun _ => Option O) (gl (Nat.div k 2)) (fun _ _ => gr (Nat.div k 2)) (Nat.mod k 2)) k) t
noncomputable def hpS (_ : Nat) (ih : HP → Nat → Option O → HP) (t : HP) (k : Nat) (o : Option O) : HP := HP.rec (motive := fun _ => HP)
  (Nat.rec (motive := fun _ => HP) (.n .e o .e) (fun k _ => Nat.rec (motive := fun _ => HP) (.n (ih .e (Nat.div k 2) o) none .e) (fun _ _ => .n .e none (ih .e (Nat.div k 2) o)) (Nat.mod k 2)) k)
  (fun l x r _ _ => Nat.rec (motive := fun _ => HP) (.n l o r) (fun k _ => Nat.rec (motive := fun _ => HP) (.n (ih l (Nat.div k 2) o) x r) (fun _ _ => .n l x (ih r (Nat.div k 2) o)) (Nat.mod k 2)) k) t
def hpZ (t : HP) (_ : Nat) (_ : Option O) : HP := t
noncomputable def HP.set (t : HP) (k : Nat) (o : Option O) : HP := Nat.rec (motive := fun _ => HP → Nat → Option O → HP) hpZ hpS 20 t k o
structure B8 where
  a : Option V
  b : Option V
  c : Option V
  d : Option V
  e : Option V
  f : Option V
  g : Option V
  h : Option V
structure B64 where
  a : B8
  b : B8
  c : B8
  d : B8
  e : B8
  f : B8
  g : B8
  h : B8
structure FR where
  a : B8
  b : B8
  c : B8
  d : B8
  e : B8
  f : B8
  g : B8
  h : B8
  x1 : B64
  x2 : B64
  x3 : B64
  x4 : B64
  x5 : B64
  x6 : B64
  x7 : B64
inductive R where
  | no (s : List String)
  | ok (x : V) (H : HP) (n : Nat)
def V.nat (n : Nat) : V := .v (.int .i64 (.ofNat n))
def V.b (b : Bool) : V := .v (.bool b)
def V.un : V := .v undef
def rv : Option V → HP → Nat → R
  | none, _, _ => .no []
  | some x, H, n => .ok x H n
def ru : Option HP → Nat → R
  | none, _ => .no []
  | some H, n => .ok .un H n
structure FI where
  off : Nat
  T : Nat
  sz : Nat
  ag : Bool
  bl : Bool
inductive TK where
  | int (k : IntKind) | bool | str | ptr (e : Nat) | sl (e : Nat) | arr (n e : Nat) | mp (k e : Nat) | st (fs : List (Option FI)) | ifc | fn | oth
structure TI where
  sz : Nat
  ag : Bool
  z : Option Value
  by_ : Nat
  k : TK
def V.cells : V → List V
  | .g l => l
  | .v (.agg cs) => cs.toList.map .v
  | x => [x]
def V.aggC : V → Option (List V)
  | .g l => some l
  | .v (.agg cs) => some (cs.toList.map .v)
  | _ => none
def V.one : V → Bool
  | .g _ => false
  | .t _ => false
  | .v (.agg _) => false
  | .v (.tuple _) => false
  | _ => true
def V.toN : V → Option Nat
  | .v (.int _ (.ofNat n)) => some n
  | _ => none
noncomputable def B8.u0 (v : Option V) (t : B8) : B8 := B8.rec (motive := fun _ => B8) (fun _ b c d e f g h => ⟨v, b, c, d, e, f, g, h⟩) t
noncomputable def B8.u1 (v : Option V) (t : B8) : B8 := B8.rec (motive := fun _ => B8) (fun a _ c d e f g h => ⟨a, v, c, d, e, f, g, h⟩) t
noncomputable def B8.u2 (v : Option V) (t : B8) : B8 := B8.rec (motive := fun _ => B8) (fun a b _ d e f g h => ⟨a, b, v, d, e, f, g, h⟩) t
noncomputable def B8.u3 (v : Option V) (t : B8) : B8 := B8.rec (motive := fun _ => B8) (fun a b c _ e f g h => ⟨a, b, c, v, e, f, g, h⟩) t
noncomputable def B8.u4 (v : Option V) (t : B8) : B8 := B8.rec (motive := fun _ => B8) (fun a b c d _ f g h => ⟨a, b, c, d, v, f, g, h⟩) t
noncomputable def B8.u5 (v : Option V) (t : B8) : B8 := B8.rec (motive := fun _ => B8) (fun a b c d e _ g h => ⟨a, b, c, d, e, v, g, h⟩) t
noncomputable def B8.u6 (v : Option V) (t : B8) : B8 := B8.rec (motive := fun _ => B8) (fun a b c d e f _ h => ⟨a, b, c, d, e, f, v, h⟩) t
noncomputable def B8.u7 (v : Option V) (t : B8) : B8 := B8.rec (motive := fun _ => B8) (fun a b c d e f g _ => ⟨a, b, c, d, e, f, g, v⟩) t
noncomputable def B64.u0 (v : B8 → B8) (t : B64) : B64 := B64.rec (motive := fun _ => B64) (fun a b c d e f g h => ⟨v a, b, c, d, e, f, g, h⟩) t
noncomputable def B64.u1 (v : B8 → B8) (t : B64) : B64 := B64.rec (motive := fun _ => B64) (fun a b c d e f g h => ⟨a, v b, c, d, e, f, g, h⟩) t
noncomputable def B64.u2 (v : B8 → B8) (t : B64) : B64 := B64.rec (motive := fun _ => B64) (fun a b c d e f g h => ⟨a, b, v c, d, e, f, g, h⟩) t
noncomputable def B64.u3 (v : B8 → B8) (t : B64) : B64 := B64.rec (motive := fun _ => B64) (fun a b c d e f g h => ⟨a, b, c, v d, e, f, g, h⟩) t
noncomputable def B64.u4 (v : B8 → B8) (t : B64) : B64 := B64.rec (motive := fun _ => B64) (fun a b c d e f g h => ⟨a, b, c, d, v e, f, g, h⟩) t
noncomputable def B64.u5 (v : B8 → B8) (t : B64) : B64 := B64.rec (motive := fun _ => B64) (fun a b c d e f g h => ⟨a, b, c, d, e, v f, g, h⟩) t
noncomputable def B64.u6 (v : B8 → B8) (t : B64) : B64 := B64.rec (motive := fun _ => B64) (fun a b c d e f g h => ⟨a, b, c, d, e, f, v g, h⟩) t
noncomputable def B64.u7 (v : B8 → B8) (t : B64) : B64 := B64.rec (motive := fun _ => B64) (fun a b c d e f g h => ⟨a, b, c, d, e, f, g, v h⟩) t
noncomputable def FR.u0 (v : B8 → B8) (t : FR) : FR := FR.rec (motive := fun _ => FR) (fun a b c d e f g h x1 x2 x3 x4 x5 x6 x7 => ⟨v a, b, c, d, e, f, g, h, x1, x2, x3, x4, x5, x6, x7⟩) t
noncomputable def FR.u1 (v : B8 → B8) (t : FR) : FR := FR.rec (motive := fun _ => FR) (fun a b c d e f g h x1 x2 x3 x4 x5 x6 x7 => ⟨a, v b, c, d, e, f, g, h, x1, x2, x3, x4, x5, x6, x7⟩) t
noncomputable def FR.u2 (v : B8 → B8) (t : FR) : FR := FR.rec (motive := fun _ => FR) (fun a b c d e f g h x1 x2 x3 x4 x5 x6 x7 => ⟨a, b, v c, d, e, f, g, h, x1, x2, x3, x4, x5, x6, x7⟩) t
noncomputable def FR.u3 (v : B8 → B8) (t : FR) : FR := FR.rec (motive := fun _ => FR) (fun a b c d e f g h x1 x2 x3 x4 x5 x6 x7 => ⟨a, b, c, v d, e, f, g, h, x1, x2, x3, x4, x5, x6, x7⟩) t
noncomputable def FR.u4 (v : B8 → B8) (t : FR) : FR := FR.rec (motive := fun _ => FR) (fun a b c d e f g h x1 x2 x3 x4 x5 x6 x7 => ⟨a, b, c, d, v e, f, g, h, x1, x2, x3, x4, x5, x6, x7⟩) t
noncomputable def FR.u5 (v : B8 → B8) (t : FR) : FR := FR.rec (motive := fun _ => FR) (fun a b c d e f g h x1 x2 x3 x4 x5 x6 x7 => ⟨a, b, c, d, e, v f, g, h, x1, x2, x3, x4, x5, x6, x7⟩) t
noncomputable def FR.u6 (v : B8 → B8) (t : FR) : FR := FR.rec (motive := fun _ => FR) (fun a b c d e f g h x1 x2 x3 x4 x5 x6 x7 => ⟨a, b, c, d, e, f, v g, h, x1, x2, x3, x4, x5, x6, x7⟩) t
noncomputable def FR.u7 (v : B8 → B8) (t : FR) : FR := FR.rec (motive := fun _ => FR) (fun a b c d e f g h x1 x2 x3 x4 x5 x6 x7 => ⟨a, b, c, d, e, f, g, v h, x1, x2, x3, x4, x5, x6, x7⟩) t
noncomputable def FR.w1 (v : B64 → B64) (t : FR) : FR := FR.rec (motive := fun _ => FR) (fun a b c d e f g h x1 x2 x3 x4 x5 x6 x7 => ⟨a, b, c, d, e, f, g, h, v x1, x2, x3, x4, x5, x6, x7⟩) t
noncomputable def FR.w2 (v : B64 → B64) (t : FR) : FR := FR.rec (motive := fun _ => FR) (fun a b c d e f g h x1 x2 x3 x4 x5 x6 x7 => ⟨a, b, c, d, e, f, g, h, x1, v x2, x3, x4, x5, x6, x7⟩) t
noncomputable def FR.w3 (v : B64 → B64) (t : FR) : FR := FR.rec (motive := fun _ => FR) (fun a b c d e f g h x1 x2 x3 x4 x5 x6 x7 => ⟨a, b, c, d, e, f, g, h, x1, x2, v x3, x4, x5, x6, x7⟩) t
noncomputable def FR.w4 (v : B64 → B64) (t : FR) : FR := FR.rec (motive := fun _ => FR) (fun a b c d e f g h x1 x2 x3 x4 x5 x6 x7 => ⟨a, b, c, d, e, f, g, h, x1, x2, x3, v x4, x5, x6, x7⟩) t
noncomputable def FR.w5 (v : B64 → B64) (t : FR) : FR := FR.rec (motive := fun _ => FR) (fun a b c d e f g h x1 x2 x3 x4 x5 x6 x7 => ⟨a, b, c, d, e, f, g, h, x1, x2, x3, x4, v x5, x6, x7⟩) t
noncomputable def FR.w6 (v : B64 → B64) (t : FR) : FR := FR.rec (motive := fun _ => FR) (fun a b c d e f g h x1 x2 x3 x4 x5 x6 x7 => ⟨a, b, c, d, e, f, g, h, x1, x2, x3, x4, x5, v x6, x7⟩) t
noncomputable def FR.w7 (v : B64 → B64) (t : FR) : FR := FR.rec (motive := fun _ => FR) (fun a b c d e f g h x1 x2 x3 x4 x5 x6 x7 => ⟨a, b, c, d, e, f, g, h, x1, x2, x3, x4, x5, x6, v x7⟩) t
def B8.z : B8 := ⟨none, none, none, none, none, none, none, none⟩
def B64.z : B64 := ⟨.z, .z, .z, .z, .z, .z, .z, .z⟩
def FR.z : FR := ⟨.z, .z, .z, .z, .z, .z, .z, .z, .z, .z, .z, .z, .z, .z, .z⟩
inductive OP where
  | k (x : V)
  | t (g : FR → B8) (s : B8 → Option V)
  | t3 (h : FR → B64) (g : B64 → B8) (s : B8 → Option V)
  | bad
inductive DS where
  | t (g : (B8 → B8) → FR → FR) (s : Option V → B8 → B8)
  | t3 (h : (B64 → B64) → FR → FR) (g : (B8 → B8) → B64 → B64) (s : Option V → B8 → B8)
  | bad
def opB (g : FR → B8) : Nat → OP
  | 0 => .t g B8.a
  | 1 => .t g B8.b
  | 2 => .t g B8.c
  | 3 => .t g B8.d
  | 4 => .t g B8.e
  | 5 => .t g B8.f
  | 6 => .t g B8.g
  | _ => .t g B8.h
def opF (j : Nat) : Nat → OP
  | 0 => opB FR.a j
  | 1 => opB FR.b j
  | 2 => opB FR.c j
  | 3 => opB FR.d j
  | 4 => opB FR.e j
  | 5 => opB FR.f j
  | 6 => opB FR.g j
  | _ => opB FR.h j
def opB3 (h : FR → B64) (g : B64 → B8) : Nat → OP
  | 0 => .t3 h g B8.a
  | 1 => .t3 h g B8.b
  | 2 => .t3 h g B8.c
  | 3 => .t3 h g B8.d
  | 4 => .t3 h g B8.e
  | 5 => .t3 h g B8.f
  | 6 => .t3 h g B8.g
  | _ => .t3 h g B8.h
def opF3 (h : FR → B64) (j : Nat) : Nat → OP
  | 0 => opB3 h B64.a j
  | 1 => opB3 h B64.b j
  | 2 => opB3 h B64.c j
  | 3 => opB3 h B64.d j
  | 4 => opB3 h B64.e j
  | 5 => opB3 h B64.f j
  | 6 => opB3 h B64.g j
  | _ => opB3 h B64.h j
def opG (i j : Nat) : Nat → OP
  | 0 => opF j i
  | 1 => opF3 FR.x1 j i
  | 2 => opF3 FR.x2 j i
  | 3 => opF3 FR.x3 j i
  | 4 => opF3 FR.x4 j i
  | 5 => opF3 FR.x5 j i
  | 6 => opF3 FR.x6 j i
  | 7 => opF3 FR.x7 j i
  | _ => .bad
def opT (t : Nat) : OP := opG (Nat.div (Nat.mod t 64) 8) (Nat.mod t 8) (Nat.div t 64)
noncomputable def dsB (g : (B8 → B8) → FR → FR) : Nat → DS
  | 0 => .t g B8.u0
  | 1 => .t g B8.u1
  | 2 => .t g B8.u2
  | 3 => .t g B8.u3
  | 4 => .t g B8.u4
  | 5 => .t g B8.u5
  | 6 => .t g B8.u6
  | _ => .t g B8.u7
noncomputable def dsF (j : Nat) : Nat → DS
  | 0 => dsB FR.u0 j
  | 1 => dsB FR.u1 j
  | 2 => dsB FR.u2 j
  | 3 => dsB FR.u3 j
  | 4 => dsB FR.u4 j
  | 5 => dsB FR.u5 j
  | 6 => dsB FR.u6 j
  | _ => dsB FR.u7 j
noncomputable def dsB3 (h : (B64 → B64) → FR → FR) (g : (B8 → B8) → B64 → B64) : Nat → DS
  | 0 => .t3 h g B8.u0
  | 1 => .t3 h g B8.u1
  | 2 => .t3 h g B8.u2
  | 3 => .t3 h g B8.u3
  | 4 => .t3 h g B8.u4
  | 5 => .t3 h g B8.u5
  | 6 => .t3 h g B8.u6
  | _ => .t3 h g B8.u7
noncomputable def dsF3 (h : (B64 → B64) → FR → FR) (j : Nat) : Nat → DS
  | 0 => dsB3 h B64.u0 j
  | 1 => dsB3 h B64.u1 j
  | 2 => dsB3 h B64.u2 j
  | 3 => dsB3 h B64.u3 j
  | 4 => dsB3 h B64.u4 j
  | 5 => dsB3 h B64.u5 j
  | 6 => dsB3 h B64.u6 j
  | _ => dsB3 h B64.u7 j
noncomputable def dsG (i j : Nat) : Nat → DS
  | 0 => dsF j i
  | 1 => dsF3 FR.w1 j i
  | 2 => dsF3 FR.w2 j i
  | 3 => dsF3 FR.w3 j i
  | 4 => dsF3 FR.w4 j i
  | 5 => dsF3 FR.w5 j i
  | 6 => dsF3 FR.w6 j i
  | 7 => dsF3 FR.w7 j i
  | _ => .bad
noncomputable def ds (t : Nat) : DS := dsG (Nat.div (Nat.mod t 64) 8) (Nat.mod t 8) (Nat.div t 64)
noncomputable def put (d : DS) : Option V → FR → FR := DS.rec (motive := fun _ => Option V → FR → FR) (fun g s x F => g (s x) F) (fun h g s x F => h (g (s x)) F) (fun _ _ => FR.z) d
noncomputable def opd : Operand → OP
  | .tmp t => opT t
  | .const x => .k (.v x)
  | .global g => .k (.v (.pointer (some ⟨g, 0, none⟩)))
  | .func f => .k (.v (.func (.func f) #[] #[]))
noncomputable def gtX (o : OP) : FR → Option V := OP.rec (motive := fun _ => FR → Option V) (fun x _ => some x) (fun g s F => s (g F)) (fun h g s F => s (g (h F))) (fun _ => none) o
noncomputable def ev (x : Operand) : FR → Option V := gtX (opd x)
noncomputable def FR.get (F : FR) (t : Nat) : Option V := gtX (opT t) F
noncomputable def FR.set (F : FR) (t : Nat) (x : Option V) : FR := put (ds t) x F
def conO {α : Type} : Option α → Option (List α) → Option (List α)
  | some a, some l => some (a :: l)
  | _, _ => none
noncomputable def evL : List Operand → FR → Option (List V)
  | [], _ => some []
  | x :: r, F => conO (ev x F) (evL r F)
def mk2 : Bool → HP → Nat → V → R
  | true, H, n, x => .ok x H (Nat.succ n)
  | false, _, _, _ => .no []
noncomputable def mk (H : HP) (n : Nat) (o : O) (x : V) : R := mk2 (okK n) (H.set n (some o)) n x
def cellsO : Option O → Option (List V)
  | some (.c _ l _) => some l
  | _ => none
noncomputable def cellsOf (H : HP) (k : Nat) : Option (List V) := cellsO (H.get k)
def partB : Bool → List V → Option V
  | true, l => some (.g l)
  | false, _ => none
noncomputable def partA (sz : Nat) (l : List V) : Option V := partB (Nat.beq (lng l) sz) l
noncomputable def partOf : Bool → Nat → List V → Nat → Option V
  | true, sz, l, o => partA sz (tak (drp l o) sz)
  | false, _, l, o => nth l o
noncomputable def partO : Option (List V) → Bool → Nat → Nat → Option V
  | some l, ag, sz, o => partOf ag sz l o
  | none, _, _, _ => none
abbrev DL := List (FuncId × List V)
inductive X where
  | no (s : List String)
  | nor (F : FR) (H : HP) (n : Nat) (D : DL)
  | exit (id : Nat) (F : FR) (H : HP) (n : Nat) (D : DL)
  | ret (F : FR) (H : HP) (n : Nat) (D : DL)
abbrev RS := FR → HP → Nat → DL → X
structure Cfg where
  T : PT (Option TI)
  fn : PT Func
  gl : PT (List Value)
  me : Nat → String → Option (FuncId × Bool)
  cmp : Nat → Bool
  hel : Nat → Bool
  eg : Nat → Bool
  hook : PT (List V → HP → Nat → R)
  bh : PT (Nat × RS)
  dh : Nat → Bool
def joinO {α : Type} : Option (Option α) → Option α
  | some (some x) => some x
  | _ => none
noncomputable def Cfg.ty (C : Cfg) (T : Nat) : Option TI := joinO (C.T.get T)
def vs : Option (List Value) → Option (List V)
  | some l => some (l.map .v)
  | none => none
noncomputable def load2 : Option TI → V → Cfg → HP → Option V
  | some i, .p k o, _, H => partO (cellsOf H k) i.ag i.sz o
  | some i, .v (.pointer (some ⟨b, o, none⟩)), C, _ => partO (vs (C.gl.get b)) i.ag i.sz o
  | _, _, _, _ => none
noncomputable def exLoad (C : Cfg) (H : HP) (T : Nat) (x : V) : Option V := load2 (C.ty T) x C H
def allOne : List V → Bool
  | [] => true
  | x :: r => and x.one (allOne r)
noncomputable def wr2 (H : HP) (k o : Nat) (xs : List V) (T : Nat) (l : List V) (len : Nat) : Bool → Option HP
  | true => some (H.set k (some (.c T (ovr l o xs) len)))
  | false => none
noncomputable def wr1 : Option O → HP → Nat → Nat → List V → Option HP
  | some (.c T l len), H, k, o, xs => wr2 H k o xs T l len (and (okK k) (and (Nat.ble (Nat.add o (lng xs)) len) (allOne xs)))
  | _, _, _, _, _ => none
noncomputable def wr (H : HP) (k o : Nat) (xs : List V) : Option HP := wr1 (H.get k) H k o xs
noncomputable def wrIf : Bool → HP → Nat → Nat → List V → Option HP
  | true, H, k, o, xs => wr H k o xs
  | false, _, _, _, _ => none
noncomputable def store2 : Option TI → V → V → HP → Option HP
  | some i, .p k o, x, H => wrIf (Nat.beq (lng x.cells) i.sz) H k o x.cells
  | _, _, _, _ => none
noncomputable def exStore (C : Cfg) (H : HP) (T : Nat) (a x : V) : Option HP := store2 (C.ty T) a x H
noncomputable def mkC (H : HP) (n : Nat) (T : Nat) (l : List V) (x : V) : R := mk H n (.c T l (lng l)) x
def zC : Option Value → Option (List V)
  | some z => some (V.v z).cells
  | none => none
noncomputable def alloc3 : Option (List V) → HP → Nat → Nat → R
  | some z, H, n, T => mkC H n T z (.p n 0)
  | none, _, _, _ => .no []
noncomputable def alloc2 : Option TI → HP → Nat → Nat → R
  | some i, H, n, T => alloc3 (zC i.z) H n T
  | none, _, _, _ => .no []
noncomputable def exAlloc (C : Cfg) (H : HP) (n T : Nat) : R := alloc2 (C.ty T) H n T
noncomputable def exBox (H : HP) (n T : Nat) (x : V) : R := mkC H n T x.cells (.p n 0)
noncomputable def fieldsOf : Option TI → Option (List (Option FI))
  | some ⟨_, _, _, _, .st fs⟩ => some fs
  | _ => none
noncomputable def fldO : Option (List (Option FI)) → Nat → Option FI
  | some fs, f => joinO (nth fs f)
  | none, _ => none
def fa3 : Bool → V → Option V
  | true, x => some x
  | false, _ => none
def fa2 : Option FI → V → Option V
  | some d, .p k o => fa3 (Nat.blt 0 d.sz) (.p k (Nat.add o d.off))
  | some d, .v (.pointer (some ⟨b, o, none⟩)) => fa3 (Nat.blt 0 d.sz) (.v (.pointer (some ⟨b, Nat.add o d.off, none⟩)))
  | _, _ => none
noncomputable def exFieldAddr (C : Cfg) (S f : Nat) (x : V) : Option V := fa2 (fldO (fieldsOf (C.ty S)) f) x
noncomputable def field2 : Option FI → V → Option V
  | some d, x => partO x.aggC d.ag d.sz d.off
  | none, _ => none
noncomputable def exField (C : Cfg) (S f : Nat) (x : V) : Option V := field2 (fldO (fieldsOf (C.ty S)) f) x
def ia4 : V → Nat → V → Option V
  | .p k o, d, _ => some (.p k (Nat.add o d))
  | .v (.pointer (some ⟨b, o, none⟩)), d, _ => some (.v (.pointer (some ⟨b, Nat.add o d, none⟩)))
  | _, _, _ => none
def ia5 : Bool → V → Nat → Option V
  | true, x, d => ia4 x d x
  | false, _, _ => none
def szO : Option TI → Nat → Option Nat
  | some i, j => some (Nat.mul j i.sz)
  | none, _ => none
def ia3 : V → Option Nat → Nat → Option V
  | .s k o n _, some d, j => fa3 (Nat.blt j n) (.p k (Nat.add o d))
  | _, _, _ => none
def ia6 : Option Nat → Bool → V → Option V
  | some d, b, x => ia5 b x d
  | none, _, _ => none
noncomputable def ia2 : Option TI → Option Nat → V → Cfg → Option V
  | some ⟨_, _, _, _, .arr len e⟩, some j, x, C => ia6 (szO (C.ty e) j) (Nat.blt j len) x
  | some ⟨_, _, _, _, .sl e⟩, some j, x, C => ia3 x (szO (C.ty e) j) j
  | _, _, _, _ => none
noncomputable def exIndexAddr (C : Cfg) (T : Nat) (x i : V) : Option V := ia2 (C.ty T) i.toN x C
noncomputable def ix3 : Option TI → Nat → Option (List V) → Bool → Option V
  | some d, j, l, true => partO l d.ag d.sz (Nat.mul j d.sz)
  | _, _, _, _ => none
def byV : Option UInt8 → Option V
  | some b => some (.v (.int .u8 (.ofNat b.toNat)))
  | none => none
noncomputable def ix2 : Option TI → Option Nat → V → Cfg → Option V
  | some ⟨_, _, _, _, .arr len e⟩, some j, x, C => ix3 (C.ty e) j x.aggC (Nat.blt j len)
  | some ⟨_, _, _, _, .str⟩, some j, .v (.string s), _ => byV (nth s.data.toList j)
  | _, _, _, _ => none
noncomputable def exIndex (C : Cfg) (T : Nat) (x i : V) : Option V := ix2 (C.ty T) i.toN x C
noncomputable def limK (k : IntKind) : Nat := IntKind.casesOn (motive := fun _ => Nat) k 128 32768 2147483648 9223372036854775808 256 65536 4294967296 18446744073709551616
def selI : Bool → Int → Int → Int
  | true, a, _ => a
  | false, _, b => b
noncomputable def wrapU (k : IntKind) : Bool := IntKind.casesOn (motive := fun _ => Bool) k false false false false true true true true
noncomputable def wrapF2 : Bool → Nat → IntKind → Int
  | true, m, k => .ofNat (Nat.mod m (limK k))
  | false, m, k => selI (Nat.blt m (limK k)) (.ofNat m) (k.wrap (.ofNat m))
noncomputable def wrapF : Int → IntKind → Int
  | .ofNat m, k => wrapF2 (wrapU k) m k
  | .negSucc m, k => k.wrap (.negSucc m)
def eqI : Int → Int → Bool
  | .ofNat x, .ofNat y => Nat.beq x y
  | .negSucc x, .negSucc y => Nat.beq x y
  | _, _ => false
def ltI : Int → Int → Bool
  | .ofNat x, .ofNat y => Nat.blt x y
  | .negSucc x, .negSucc y => Nat.blt y x
  | .negSucc _, .ofNat _ => true
  | .ofNat _, .negSucc _ => false
def leI : Int → Int → Bool
  | .ofNat x, .ofNat y => Nat.ble x y
  | .negSucc x, .negSucc y => Nat.ble y x
  | .negSucc _, .ofNat _ => true
  | .ofNat _, .negSucc _ => false
def addI : Int → Int → Int
  | .ofNat x, .ofNat y => .ofNat (Nat.add x y)
  | a, b => Int.add a b
def subI : Int → Int → Int
  | .ofNat x, .ofNat y => selI (Nat.ble y x) (.ofNat (Nat.sub x y)) (Int.sub (.ofNat x) (.ofNat y))
  | a, b => Int.sub a b
noncomputable def kbits (k : IntKind) : Nat := IntKind.casesOn (motive := fun _ => Nat) k 8 16 32 64 8 16 32 64
noncomputable def kno (k : IntKind) : Nat := IntKind.casesOn (motive := fun _ => Nat) k 0 1 2 3 4 5 6 7
noncomputable def eqK (a b : IntKind) : Bool := Nat.beq (kno a) (kno b)
noncomputable def fitsK (k : IntKind) (n : Nat) : Bool := Nat.blt n (limK k)
def ifS : Bool → V → Option V
  | true, x => some x
  | false, _ => none
def iV (k : IntKind) (n : Int) : V := .v (.int k n)
def bArith (f : Nat → Nat → Nat) : Int → Int → IntKind → Bool → Option V
  | .ofNat x, .ofNat y, k, true => some (iV k (.ofNat (f x y)))
  | _, _, _, _ => none
noncomputable def fits2 : Int → Int → IntKind → Bool
  | .ofNat x, .ofNat y, k => and (fitsK k x) (fitsK k y)
  | _, _, _ => false
def isPos : Int → Bool
  | .ofNat (_ + 1) => true
  | _ => false
noncomputable def bWrap (f : Nat → Nat → Nat) : Int → Int → IntKind → Bool → Option V
  | .ofNat x, .ofNat y, k, true => some (iV k (wrapF (.ofNat (f x y)) k))
  | _, _, _, _ => none
def andNotN (x y : Nat) : Nat := Nat.xor x (Nat.land x y)
def minN : Bool → Nat → Nat → Nat
  | true, a, _ => a
  | false, _, b => b
noncomputable def shl : Int → Int → IntKind → Option V
  | .ofNat a, .ofNat b, k => some (iV k (wrapF (.ofNat (Nat.mul a (Nat.pow 2 (minN (Nat.ble b (kbits k)) b (kbits k))))) k))
  | _, _, _ => none
noncomputable def shr : Int → Int → IntKind → Option V
  | .ofNat a, .ofNat b, k => some (iV k (.ofNat (Nat.div a (Nat.pow 2 (minN (Nat.ble b (kbits k)) b (kbits k))))))
  | _, _, _ => none
def eqB : List UInt8 → List UInt8 → Bool
  | [], [] => true
  | a :: r, b :: s => and (Nat.beq a.toNat b.toNat) (eqB r s)
  | _, _ => false
noncomputable def bin3 : BinOp → ByteArray → ByteArray → Option V
  | .add, a, b => ifS (Nat.ble (Nat.add (lng a.data.toList) (lng b.data.toList)) 9223372036854775807) (.v (.string ⟨⟨a.data.toList ++ b.data.toList⟩⟩))
  | .eql, a, b => some (.b (eqB a.data.toList b.data.toList))
  | .neq, a, b => some (.b (not (eqB a.data.toList b.data.toList)))
  | .lss, a, b => some (.b (Op.bytesLess a.data.toList b.data.toList))
  | _, _, _ => none
abbrev EQ := Nat → V → V → Option Bool
def and3 : Option Bool → Option Bool → Option Bool
  | some true, r => r
  | some false, _ => some false
  | none, _ => none
def eqParts (ih : V → V → Option Bool) : Option V → Option V → Option Bool
  | some a, some b => ih a b
  | _, _ => none
def eqF2 : Bool → Option Bool → Option Bool → Option Bool
  | false, a, r => and3 a r
  | true, _, _ => none
noncomputable def eqF1 : Option FI → EQ → List V → List V → Option Bool → Option Bool
  | some d, ih, xs, ys, r => eqF2 d.bl (eqParts (ih d.T) (partOf d.ag d.sz xs d.off) (partOf d.ag d.sz ys d.off)) r
  | none, _, _, _, _ => none
noncomputable def eqF (ih : EQ) (xs ys : List V) (d : Option FI) (_ : List (Option FI)) (r : Option Bool) : Option Bool := eqF1 d ih xs ys r
noncomputable def eqA (ih : V → V → Option Bool) (xs ys : List V) (ag : Bool) (sz : Nat) (n : Nat) : Nat → Option Bool := Nat.rec (motive := fun _ => Nat → Option Bool) (fun _ => some true)
  (fun _ r i => and3 (eqParts ih (partOf ag sz xs (Nat.mul i sz)) (partOf ag sz ys (Nat.mul i sz))) (r (Nat.succ i))) n
noncomputable def eqSt : Option (List V) → Option (List V) → EQ → List (Option FI) → Option Bool
  | some xs, some ys, ih, fs => List.rec (motive := fun _ => Option Bool) (some true) (eqF ih xs ys) fs
  | _, _, _, _ => none
noncomputable def eqAr : Option TI → (V → V → Option Bool) → Option (List V) → Option (List V) → Nat → Option Bool
  | some d, ih, some xs, some ys, n => eqA ih xs ys d.ag d.sz n 0
  | _, _, _, _, _ => none
def eqIfc : Bool → Bool → Option Bool → Option Bool
  | true, true, r => r
  | false, _, _ => some false
  | true, false, _ => none
def eqInt : Bool → Int → Int → Option Bool
  | true, a, b => some (eqI a b)
  | false, _, _ => none
def eqPt : Bool → Bool → Nat → Nat → Option Bool
  | true, _, o, o' => some (Nat.beq o o')
  | false, true, _, _ => some false
  | false, false, _, _ => none
def big : Option TI → Bool
  | some i => Nat.blt 0 i.sz
  | none => false
def eqIf : Bool → Option Bool → Option Bool
  | true, r => r
  | false, _ => none
abbrev LV := Nat → Bool
noncomputable def eqTi : V → V → Option Bool
  | .v (.int k a), .v (.int k' b) => eqInt (eqK k k') a b
  | _, _ => none
def eqTb : V → V → Option Bool
  | .v (.bool a), .v (.bool b) => some (a == b)
  | _, _ => none
def eqTs : V → V → Option Bool
  | .v (.string a), .v (.string b) => some (eqB a.data.toList b.data.toList)
  | _, _ => none
def eqTp : V → V → Bool → LV → Option Bool
  | .v (.pointer none), .v (.pointer none), _, _ => some true
  | .v (.pointer none), .p _ _, _, _ => some false
  | .p _ _, .v (.pointer none), _, _ => some false
  | .p k o, .p k' o', c, L => eqIf c (eqPt (Nat.beq k k') (and (L k) (L k')) o o')
  | _, _, _, _ => none
def eqTsl : V → V → Option Bool
  | .v (.slice none _ _), .v (.slice none _ _) => some true
  | .v (.slice none _ _), .s _ _ _ _ => some false
  | .s _ _ _ _, .v (.slice none _ _) => some false
  | _, _ => none
def eqTm : V → V → Option Bool
  | .v (.map none), .v (.map none) => some true
  | .v (.map none), .m _ => some false
  | .m _, .v (.map none) => some false
  | _, _ => none
def eqTf : V → V → Option Bool
  | .v .nilFunc, .v .nilFunc => some true
  | .v .nilFunc, .f _ _ _ => some false
  | .f _ _ _, .v .nilFunc => some false
  | .v .nilFunc, .v (.func ..) => some false
  | .v (.func ..), .v .nilFunc => some false
  | _, _ => none
def eqTc : V → V → EQ → Cfg → Option Bool
  | .v .nilIface, .i _ _, _, _ => some false
  | .i _ _, .v .nilIface, _, _ => some false
  | .i t a, .i t' b, ih, C => eqIfc (Nat.beq t t') (C.cmp t) (ih t a b)
  | _, _, _, _ => none
noncomputable def eqT : TK → V → V → EQ → Cfg → LV → Nat → Option Bool
  | .int _, x, y, _, _, _, _ => eqTi x y
  | .bool, x, y, _, _, _, _ => eqTb x y
  | .str, x, y, _, _, _, _ => eqTs x y
  | .ptr e, x, y, _, C, L, _ => eqTp x y (big (C.ty e)) L
  | .sl _, x, y, _, _, _, _ => eqTsl x y
  | .mp _ _, x, y, _, _, _, _ => eqTm x y
  | .fn, x, y, _, _, _, _ => eqTf x y
  | .ifc, x, y, ih, C, _, _ => eqTc x y ih C
  | .st fs, x, y, ih, C, _, T => eqIf (not (C.hel T)) (eqSt x.aggC y.aggC ih fs)
  | .arr n e, x, y, ih, C, _, _ => eqAr (C.ty e) (ih e) x.aggC y.aggC n
  | .oth, _, _, _, _, _, _ => none
noncomputable def eqO : Option TI → V → V → EQ → Cfg → LV → Nat → Option Bool
  | some i, x, y, ih, C, L, T => eqT i.k x y ih C L T
  | none, _, _, _, _, _, _ => none
noncomputable def eqS (C : Cfg) (L : LV) (_ : Nat) (ih : EQ) (T : Nat) (x y : V) : Option Bool := eqO (C.ty T) x y ih C L T
def eqZ (_ : Nat) (_ _ : V) : Option Bool := none
noncomputable def eqV (C : Cfg) (L : LV) : EQ := Nat.rec (motive := fun _ => EQ) eqZ (eqS C L) 20
def noL (_ : Nat) : Bool := false
def isO : Option O → Bool
  | some (.c _ _ _) => true
  | _ => false
noncomputable def live (H : HP) (k : Nat) : Bool := isO (H.get k)
def bV : Option Bool → Option V
  | some b => some (.b b)
  | none => none
def nbV : Option Bool → Option V
  | some b => some (.b (not b))
  | none => none
def isG : Option (List V) → Bool
  | some _ => true
  | none => false
def ifcT : Option TI → Bool
  | some ⟨_, _, _, _, .ifc⟩ => true
  | _ => false
noncomputable def eqTop : V → V → Cfg → Nat → Bool → Option Bool
  | .v .nilIface, .v .nilIface, C, T, cst => eqIf (and cst (ifcT (C.ty T))) (some true)
  | x, y, C, T, _ => eqIf (not (and (isG x.aggC) (C.eg T))) (eqV C noL T x y)
noncomputable def bin4 : BinOp → V → V → Cfg → Nat → Bool → Option V
  | .eql, x, y, C, T, cst => bV (eqTop x y C T cst)
  | .neq, x, y, C, T, cst => nbV (eqTop x y C T cst)
  | _, _, _, _, _, _ => none
noncomputable def shlO : V → V → Option V
  | .v (.int k a), .v (.int _ b) => shl a b k
  | _, _ => none
noncomputable def shrO : V → V → Option V
  | .v (.int k a), .v (.int _ b) => shr a b k
  | _, _ => none
noncomputable def exUn : V → UnOp → Option V
  | .v (.bool b), .not => some (.b (not b))
  | .v (.int k n), .neg => some (iV k (wrapF (subI (.ofNat 0) n) k))
  | .v (.int k (.ofNat m)), .xor => ifS (and (fitsK k m) (wrapU k)) (iV k (.ofNat (Nat.sub (Nat.sub (limK k) 1) m)))
  | _, _ => none
def toU8 : V → Option UInt8
  | .v (.int .u8 (.ofNat n)) => some (UInt8.ofNat n)
  | _ => none
def toBy : List V → Option (List UInt8)
  | [] => some []
  | a :: r => conO (toU8 a) (toBy r)
def strV : Option (List UInt8) → Bool → HP → Nat → R
  | some bs, true, H, n => .ok (.v (.string ⟨⟨bs⟩⟩)) H n
  | _, _, _, _ => .no []
noncomputable def conv6 (l : List V) (m : Nat) (H : HP) (n : Nat) : R := strV (toBy l) (Nat.beq (lng l) m) H n
noncomputable def conv4 : Option (List V) → Nat → Nat → HP → Nat → R
  | some l, o, m, H, n => conv6 (tak (drp l o) m) m H n
  | none, _, _, _, _ => .no []
def byCells (s : ByteArray) : List V := s.data.toList.map fun b => .v (.int .u8 (.ofNat b.toNat))
noncomputable def conv3 : V → HP → Nat → R
  | .v (.string s), H, n => .ok (.v (.string s)) H n
  | .v (.slice none _ _), H, n => .ok (.v (.string ⟨#[]⟩)) H n
  | .s k o m _, H, n => conv4 (cellsOf H k) o m H n
  | _, _, _ => .no []
noncomputable def conv2 : Option TI → V → HP → Nat → R
  | some ⟨_, _, _, _, .str⟩, x, H, n => conv3 x H n
  | _, _, _, _ => .no []
def zeroW : Option Value → Option V
  | some z => some (.v z)
  | none => none
def zeroV : Option TI → Option V
  | some i => zeroW i.z
  | none => none
def okT : Option V → Bool → Bool → Option V
  | some x, true, ok => some (.t [x, .b ok])
  | some x, false, true => some x
  | _, _, _ => none
def as3 : Bool → V → Bool → Option TI → Option V
  | true, v, ok, _ => okT (some v) ok true
  | false, _, true, i => okT (zeroV i) true false
  | false, _, false, _ => none
def as2 : V → Nat → Bool → Option TI → Option V
  | .i t v, A, ok, i => as3 (Nat.beq t A) v ok i
  | .v .nilIface, _, true, i => okT (zeroV i) true false
  | _, _, _, _ => none
def isIfc : Option TI → Bool
  | some ⟨_, _, _, _, .ifc⟩ => true
  | none => true
  | _ => false
def as1 : Bool → V → Nat → Bool → Option TI → Option V
  | false, x, A, ok, i => as2 x A ok i
  | true, _, _, _, _ => none
noncomputable def exAssert (C : Cfg) (x : V) (A : Nat) (ok : Bool) : Option V := as1 (isIfc (C.ty A)) x A ok (C.ty A)
noncomputable def fill1 (l : List V) (o sz : Nat) (x : V) : Bool → Option (List V)
  | true => some (ovr l o x.cells)
  | false => none
noncomputable def fill0 (l : List V) (o sz : Nat) (x : V) : Option (List V) := fill1 l o sz x (and (Nat.beq (lng x.cells) sz) (Nat.ble (Nat.add o sz) (lng l)))
noncomputable def fillF : Option FI → List V → V → Option (List V)
  | some d, l, x => fill0 l d.off d.sz x
  | none, _, _ => none
noncomputable def fillSt : List (Nat × V) → List (Option FI) → Option (List V) → Option (List V)
  | [], _, l => l
  | _ :: _, _, none => none
  | (i, x) :: r, fs, some l => fillSt r fs (fillF (joinO (nth fs i)) l x)
noncomputable def fillAr : List (Nat × V) → Nat → Option (List V) → Option (List V)
  | [], _, l => l
  | _ :: _, _, none => none
  | (i, x) :: r, sz, some l => fillAr r sz (fill0 l (Nat.mul i sz) sz x)
def repC (z : List V) (_ : Nat) (r : List V) : List V := z ++ r
noncomputable def rep (z : List V) (n : Nat) : List V := Nat.rec (motive := fun _ => List V) [] (repC z) n
noncomputable def rep1 : Bool → List V → Nat → Option (List V)
  | true, z, n => some (rep z n)
  | false, _, _ => none
noncomputable def repO : Bool → Option (List V) → Nat → Nat → Option (List V)
  | b, some z, sz, n => rep1 (and b (Nat.beq (lng z) sz)) z n
  | _, none, _, _ => none
def gO : Option (List V) → Option V
  | some l => some (.g l)
  | none => none
def allS : List (Option FI) → Bool
  | [] => true
  | some _ :: r => allS r
  | none :: _ => false
noncomputable def bd4 : Bool → List (Nat × V) → List (Option FI) → Option (List V) → Option V
  | true, ps, fs, z => gO (fillSt ps fs z)
  | false, _, _, _ => none
noncomputable def bd3 : Option TI → Option (List V) → List (Nat × V) → Option V
  | some d, z, ps => gO (fillAr ps d.sz z)
  | none, _, _ => none
noncomputable def bd2 : Option TI → Option (List (Nat × V)) → Cfg → Option V
  | some ⟨_, _, z, _, .st fs⟩, some ps, _ => bd4 (allS fs) ps fs (zC z)
  | some ⟨_, _, z, _, .arr _ e⟩, some ps, C => bd3 (C.ty e) (zC z) ps
  | _, _, _ => none
noncomputable def exBuild (C : Cfg) (T : Nat) (ps : Option (List (Nat × V))) : Option V := bd2 (C.ty T) ps C
noncomputable def bs4 : Option (List V) → HP → Nat → Nat → Nat → R
  | some l, H, n, e, len => mkC H n e l (.s n 0 len (.ex len))
  | none, _, _, _, _ => .no []
noncomputable def bs3 : Option TI → List (Nat × V) → HP → Nat → Nat → Nat → R
  | some d, ps, H, n, e, len => bs4 (fillAr ps d.sz (repO (Nat.ble (Nat.mul len d.sz) 16777216) (zC d.z) d.sz len)) H n e len
  | none, _, _, _, _, _ => .no []
noncomputable def bs2 : Option TI → Option (List (Nat × V)) → Cfg → HP → Nat → Nat → R
  | some ⟨_, _, _, _, .sl e⟩, some ps, C, H, n, len => bs3 (C.ty e) ps H n e len
  | _, _, _, _, _, _ => .no []
noncomputable def exBuildSlice (C : Cfg) (H : HP) (n : Nat) (T len : Nat) (ps : Option (List (Nat × V))) : R := bs2 (C.ty T) ps C H n len
noncomputable def ms4 : Option (List V) → Nat → Nat → HP → Nat → Nat → R
  | some z, l, c, H, n, e => mkC H n e z (.s n 0 l (.ex c))
  | none, _, _, _, _, _ => .no []
noncomputable def ms3 : Bool → Option TI → Nat → Nat → HP → Nat → Nat → R
  | true, some d, l, c, H, n, e => ms4 (repO (Nat.ble (Nat.mul d.by_ c) 281474976710656) (zC d.z) d.sz c) l c H n e
  | _, _, _, _, _, _, _ => .no []
noncomputable def ms2 : Option TI → Option Nat → Option Nat → Cfg → HP → Nat → R
  | some ⟨_, _, _, _, .sl e⟩, some l, some c, C, H, n => ms3 (and (Nat.ble l c) (Nat.ble c 9223372036854775807)) (C.ty e) l c H n e
  | _, _, _, _, _, _ => .no []
noncomputable def exMakeSlice (C : Cfg) (H : HP) (n : Nat) (T : Nat) (len cap : V) : R := ms2 (C.ty T) len.toN cap.toN C H n
def bnd : Option V → Nat → Option Nat
  | none, d => some d
  | some x, _ => x.toN
noncomputable def sls2 (s : List UInt8) (l h : Nat) : Bool → Option V
  | true => some (.v (.string ⟨⟨tak (drp s l) (Nat.sub h l)⟩⟩))
  | false => none
noncomputable def sls : Option Nat → Option Nat → List UInt8 → Option V
  | some l, some h, s => sls2 s l h (and (Nat.ble l h) (Nat.ble h (lng s)))
  | _, _, _ => none
def cut4 : Bool → Nat → Nat → Nat → Nat → Nat → Nat → V
  | true, k, o, d, l, h, c => .s k (Nat.add o d) (Nat.sub h l) (.ex (Nat.sub c l))
  | false, k, o, _, _, _, _ => .s k o 0 (.ex 0)
def cut3 : CP → Nat → Nat → Nat → Nat → Nat → Nat → Option V
  | .ex c, k, o, sz, l, h, n => some (cut4 (Nat.blt l c) k o (Nat.mul l sz) l h c)
  | .un u, k, o, sz, l, h, n => fa3 (and (Nat.blt l n) (Nat.beq u sz)) (.s k (Nat.add o (Nat.mul l sz)) (Nat.sub h l) (.un u))
def cut2 : Nat → Nat → Nat → Nat → Nat → Nat → CP → Bool → Option V
  | 0, h, k, o, _, _, c, true => some (.s k o h c)
  | l + 1, h, k, o, sz, n, c, true => cut3 c k o sz (l + 1) h n
  | _, _, _, _, _, _, _, false => none
def cut1 : Option Nat → Option Nat → Nat → Nat → Nat → Nat → CP → Option V
  | some l, some h, k, o, sz, n, c => cut2 l h k o sz n c (and (Nat.ble l h) (Nat.ble h n))
  | _, _, _, _, _, _, _ => none
def cut0 : Option Nat → Option Nat → V → Option V
  | some 0, some 0, x => some x
  | _, _, _ => none
def sln (lo hi : Option V) : V → Option TI → Option V
  | .v (.slice none 0 0), some _ => cut0 (bnd lo 0) (bnd hi 0) (.v (.slice none 0 0))
  | .s k o n c, some d => cut1 (bnd lo 0) (bnd hi n) k o d.sz n c
  | _, _ => none
def sla2 : Option Nat → Option Nat → Nat → Nat → Nat → Nat → Option V
  | some l, some h, k, o, sz, m => fa3 (and (Nat.blt l h) (Nat.ble h m)) (.s k (Nat.add o (Nat.mul l sz)) (Nat.sub h l) (.ex (Nat.sub m l)))
  | _, _, _, _, _, _ => none
def sla (lo hi : Option V) : V → Option TI → Nat → Option V
  | .p k o, some d, m => sla2 (bnd lo 0) (bnd hi m) k o d.sz m
  | _, _, _ => none
noncomputable def slc2 : Option TI → V → Option V → Option V → Cfg → Option V
  | some ⟨_, _, _, _, .str⟩, .v (.string s), lo, hi, _ => sls (bnd lo 0) (bnd hi (lng s.data.toList)) s.data.toList
  | some ⟨_, _, _, _, .sl e⟩, x, lo, hi, C => sln lo hi x (C.ty e)
  | some ⟨_, _, _, _, .arr m e⟩, x, lo, hi, C => sla lo hi x (C.ty e) m
  | _, _, _, _, _ => none
noncomputable def exSlice (C : Cfg) (T : Nat) (x : V) (lo hi : Option V) : Option V := slc2 (C.ty T) x lo hi C
inductive SR where
  | no
  | ok (n : Nat) (l : List V)
noncomputable def src3 (n : Nat) (l : List V) : Bool → SR
  | true => .ok n l
  | false => .no
noncomputable def src4 (n : Nat) (l : List V) (m : Nat) : SR := src3 n l (Nat.beq (lng l) m)
noncomputable def src2 : Option (List V) → Nat → Nat → Nat → SR
  | some l, o, n, sz => src4 n (tak (drp l o) (Nat.mul n sz)) (Nat.mul n sz)
  | none, _, _, _ => .no
noncomputable def src : V → HP → Nat → SR
  | .v (.slice none 0 _), _, _ => .ok 0 []
  | .v (.string s), _, sz => src3 (lng s.data.toList) (byCells s) (Nat.beq sz 1)
  | .s k o n _, H, sz => src2 (cellsOf H k) o n sz
  | _, _, _ => .no
def slK : Option TI → Bool
  | some ⟨_, _, _, _, .sl _⟩ => true
  | some ⟨_, _, _, _, .str⟩ => true
  | _ => false
noncomputable def zk : Option Value → Nat → Bool
  | some z, sz => and (Nat.beq (lng (V.v z).cells) sz) (Nat.blt 0 sz)
  | none, _ => false
noncomputable def gk (d : TI) (q : Nat) : Bool := and (zk d.z d.sz) (and (Nat.ble (Nat.mul q d.by_) 140737488355328) (Nat.ble q 4611686018427387904))
def tyE : Option O → Nat → Bool
  | some (.c T _ _), e => and (Nat.beq T e) (not (zt e))
  | _, _ => false
def apW : Option HP → Nat → Nat → Nat → Nat → Nat → R
  | some H, n, k, o, q, c => .ok (.s k o q (.ex c)) H n
  | none, _, _, _, _, _ => .no []
noncomputable def apN : Bool → HP → Nat → Nat → List V → Nat → Nat → R
  | true, H, n, e, zs, q, sz => mkC H n e zs (.s n 0 q (.un sz))
  | false, _, _, _, _, _, _ => .no []
noncomputable def apIn : Bool → HP → Nat → Nat → List V → List V → Nat → Nat → Nat → Nat → TI → R
  | true, H, n, e, xs, ys, k, o, q, c, d => apW (wr H k (Nat.add o (lng xs)) ys) n k o q c
  | false, H, n, e, xs, ys, k, o, q, c, d => apN (gk d q) H n e (xs ++ ys) q d.sz
noncomputable def ap4 : CP → HP → Nat → Nat → List V → List V → Nat → Nat → Nat → TI → R
  | .ex c, H, n, e, xs, ys, k, o, q, d => apIn (Nat.ble q c) H n e xs ys k o q c d
  | .un u, H, n, e, xs, ys, k, o, q, d => apN (and (Nat.beq u d.sz) (and (okK k) (and (tyE (H.get k) e) (gk d q)))) (H.set k none) n e (xs ++ ys) q d.sz
noncomputable def ap3 : SR → CP → HP → Nat → Nat → List V → Nat → Nat → Nat → TI → R
  | .ok q xs, c, H, n, e, ys, m, k, o, d => ap4 c H n e xs ys k o (Nat.add q m) d
  | .no, _, _, _, _, _, _, _, _, _ => .no []
noncomputable def ap2 : Nat → List V → V → HP → Nat → Nat → TI → R
  | 0, _, .v (.slice none 0 0), H, n, _, _ => .ok (.v (.slice none 0 0)) H n
  | 0, _, .s k o q c, H, n, _, _ => .ok (.s k o q c) H n
  | m + 1, ys, .v (.slice none 0 0), H, n, e, d => apN (gk d (m + 1)) H n e ys (m + 1) d.sz
  | m + 1, ys, .s k o q c, H, n, e, d => ap3 (src (.s k o q c) H d.sz) c H n e ys (m + 1) k o d
  | _, _, _, _, _, _, _ => .no []
noncomputable def apA : Bool → Nat → List V → V → HP → Nat → Nat → TI → R
  | true, m, ys, x, H, n, e, d => ap2 m ys x H n e d
  | false, _, _, _, _, _, _, _ => .no []
noncomputable def ap1 : SR → V → HP → Nat → Nat → TI → R
  | .ok m ys, x, H, n, e, d => apA (allOne ys) m ys x H n e d
  | .no, _, _, _, _, _ => .no []
noncomputable def ap0 : Bool → Option TI → V → V → HP → Nat → Nat → R
  | true, some d, x, y, H, n, e => ap1 (src y H d.sz) x H n e d
  | _, _, _, _, _, _, _ => .no []
noncomputable def apT : Option TI → Option TI → V → V → Cfg → HP → Nat → R
  | some ⟨_, _, _, _, .sl e⟩, ix, x, y, C, H, n => ap0 (slK ix) (C.ty e) x y H n e
  | _, _, _, _, _, _, _ => .no []
def cpW : Option HP → Nat → Nat → R
  | some H, n, m => .ok (.nat m) H n
  | none, _, _ => .no []
noncomputable def cp2 : SR → V → HP → Nat → Nat → R
  | .ok _ _, .v (.slice none 0 _), H, n, _ => .ok (.nat 0) H n
  | .ok m ys, .s k o q _, H, n, sz => cpW (wr H k o (tak ys (Nat.mul (minN (Nat.ble m q) m q) sz))) n (minN (Nat.ble m q) m q)
  | _, _, _, _, _ => .no []
noncomputable def cp1 : Option TI → V → V → HP → Nat → R
  | some d, x, y, H, n => cp2 (src y H d.sz) x H n d.sz
  | none, _, _, _, _ => .no []
noncomputable def cp0 : Option TI → V → V → Cfg → HP → Nat → R
  | some ⟨_, _, _, _, .sl e⟩, x, y, C, H, n => cp1 (C.ty e) x y H n
  | _, _, _, _, _, _ => .no []
noncomputable def exCopy (C : Cfg) (H : HP) (n : Nat) (T : Nat) (x y : V) : R := cp0 (C.ty T) x y C H n
def kk1 : Option TI → Bool
  | some ⟨_, _, _, _, .int _⟩ => true
  | some ⟨_, _, _, _, .bool⟩ => true
  | some ⟨_, _, _, _, .str⟩ => true
  | some ⟨_, _, _, _, .ptr _⟩ => true
  | _ => false
def isV : Option V → Bool
  | some _ => true
  | none => false
noncomputable def kkF (C : Cfg) (l : List V) : List (Option FI) → Bool
  | [] => true
  | some d :: r => and (kk1 (C.ty d.T)) (and (isV (partOf d.ag d.sz l d.off)) (kkF C l r))
  | none :: _ => false
noncomputable def kkA (C : Cfg) (fs : List (Option FI)) : Option (List V) → Bool
  | some l => kkF C l fs
  | none => false
noncomputable def kk2 (C : Cfg) : Option TI → V → Bool
  | some ⟨_, _, _, _, .st fs⟩, x => kkA C fs x.aggC
  | i, _ => kk1 i
noncomputable def same1 : V → V → Bool
  | .v (.int k a), .v (.int k' b) => and (eqK k k') (eqI a b)
  | .v (.string a), .v (.string b) => eqB a.data.toList b.data.toList
  | .v (.bool a), .v (.bool b) => a == b
  | .p k o, .p k' o' => and (Nat.beq k k') (Nat.beq o o')
  | _, _ => false
noncomputable def sameL : List V → List V → Bool
  | [], [] => true
  | a :: r, b :: s => and (same1 a b) (sameL r s)
  | _, _ => false
noncomputable def sameV : V → V → Bool
  | .g l, .g l' => sameL l l'
  | a, b => same1 a b
noncomputable def sameK : Option (V × V) → V → Bool
  | some (a, _), k => sameV a k
  | none, _ => false
def mapO : Option O → Option (List (V × V))
  | some (.m es) => some es
  | _ => none
def mapW : Bool → Option O → Option (List (V × V))
  | true, o => mapO o
  | false, _ => none
noncomputable def mapOf : V → HP → Option (List (V × V))
  | .v (.map none), _ => some []
  | .m k, H => mapO (H.get k)
  | _, _ => none
inductive FD where
  | no
  | out
  | hit (i : Nat) (x : V)
def fd2 : Option Bool → Nat → V → FD → FD
  | some true, i, x, _ => .hit i x
  | some false, _, _, r => r
  | none, _, _, _ => .no
noncomputable def findL (C : Cfg) (L : LV) (K : Nat) (x : V) : List (V × V) → Nat → FD
  | [], _ => .out
  | (a, b) :: r, i => fd2 (eqV C L K x a) i b (findL C L K x r (Nat.succ i))
noncomputable def findB (C : Cfg) (L : LV) (K : Nat) (x : V) (es : List (V × V)) : Bool → FD
  | true => findL C L K x es 0
  | false => .no
noncomputable def find (C : Cfg) (L : LV) (K : Nat) (x : V) (es : List (V × V)) : FD := findB C L K x es (kk2 C (C.ty K) x)
def lk3 : FD → Bool → Option TI → Option V
  | .hit _ x, ok, _ => okT (some x) ok true
  | .out, true, i => okT (zeroV i) true false
  | .out, false, i => zeroV i
  | .no, _, _ => none
noncomputable def lk2 : Option (List (V × V)) → Nat → V → Bool → Option TI → Cfg → HP → Option V
  | some es, K, k, ok, i, C, H => lk3 (find C (live H) K k es) ok i
  | none, _, _, _, _, _, _ => none
noncomputable def lk1 : Option TI → V → V → Bool → Cfg → HP → Option V
  | some ⟨_, _, _, _, .mp K e⟩, x, k, ok, C, H => lk2 (mapOf x H) K k ok (C.ty e) C H
  | _, _, _, _, _, _ => none
noncomputable def exLookup (C : Cfg) (H : HP) (T : Nat) (x k : V) (ok : Bool) : Option V := lk1 (C.ty T) x k ok C H
def mu4 : Bool → HP → Option HP
  | true, H => some H
  | false, _ => none
noncomputable def mu3 : FD → HP → Nat → List (V × V) → V → V → Option HP
  | .hit i _, H, q, es, k, v => mu4 (sameK (nth es i) k) (H.set q (some (.m (ovr es i [(k, v)]))))
  | .out, H, q, es, k, v => some (H.set q (some (.m (es ++ [(k, v)]))))
  | .no, _, _, _, _, _ => none
noncomputable def mu2 : Option (List (V × V)) → Nat → HP → Nat → V → V → Cfg → Option HP
  | some es, K, H, q, k, v, C => mu3 (find C (live H) K k es) H q es k v
  | none, _, _, _, _, _, _ => none
noncomputable def mu1 : Option TI → V → V → V → Cfg → HP → Option HP
  | some ⟨_, _, _, _, .mp K e⟩, .m q, k, v, C, H => mu2 (mapW (okK q) (H.get q)) K H q k v C
  | _, _, _, _, _, _ => none
noncomputable def exMapUpdate (C : Cfg) (H : HP) (T : Nat) (x k v : V) : Option HP := mu1 (C.ty T) x k v C H
def me4 : Bool → V → HP → Nat → R
  | true, x, H, n => .ok x H n
  | false, _, _, _ => .no []
noncomputable def me3 : FD → HP → Nat → List (V × V) → V → Option V → Nat → R
  | .hit i x, H, _, es, k, _, n => me4 (sameK (nth es i) k) (.t [x, .nat i]) H n
  | .out, H, q, es, k, some z, n => .ok (.t [z, .nat (lng es)]) (H.set q (some (.m (es ++ [(k, z)])))) n
  | _, _, _, _, _, _, _ => .no []
noncomputable def me2 : Option (List (V × V)) → Nat → HP → Nat → V → Option V → Cfg → Nat → R
  | some es, K, H, q, k, z, C, n => me3 (find C (live H) K k es) H q es k z n
  | none, _, _, _, _, _, _, _ => .no []
noncomputable def me1 : Option TI → V → V → Cfg → HP → Nat → R
  | some ⟨_, _, _, _, .mp K e⟩, .m q, k, C, H, n => me2 (mapW (okK q) (H.get q)) K H q k (zeroV (C.ty e)) C n
  | _, _, _, _, _, _ => .no []
noncomputable def es3 : Option (V × V) → List (V × V) → Nat → V → HP → Nat → Option HP
  | some (k, _), es, i, x, H, q => some (H.set q (some (.m (ovr es i [(k, x)]))))
  | none, _, _, _, _, _ => none
noncomputable def es2 : Option (List (V × V)) → Option Nat → V → HP → Nat → Option HP
  | some es, some i, x, H, q => es3 (nth es i) es i x H q
  | _, _, _, _, _ => none
noncomputable def es1 : V → V → V → HP → Option HP
  | .m q, i, x, H => es2 (mapW (okK q) (H.get q)) i.toN x H q
  | _, _, _, _ => none
noncomputable def lenM : Option (List (V × V)) → Option V
  | some es => some (.nat (lng es))
  | none => none
noncomputable def lenK : TK → V → Option V
  | .str, .v (.string s) => some (.nat (lng s.data.toList))
  | .sl _, .v (.slice none n _) => some (.nat n)
  | .sl _, .s _ _ n _ => some (.nat n)
  | .arr n _, _ => some (.nat n)
  | _, _ => none
noncomputable def lenP : V → Option TI → Option V
  | x, some i => lenK i.k x
  | _, none => none
noncomputable def lenH : V → HP → Option V
  | .v (.map none), _ => some (.nat 0)
  | .m k, H => lenM (mapO (H.get k))
  | _, _ => none
def mx2 : Bool → V → V → V
  | true, a, _ => a
  | false, _, b => b
def max2 : Bool → V → V → Option V
  | true, .v (.int k a), .v (.int k' b) => some (mx2 (ltI a b) (iV k b) (iV k a))
  | false, .v (.int k a), .v (.int k' b) => some (mx2 (ltI b a) (iV k b) (iV k a))
  | _, _, _ => none
def maxL : List V → Bool → Option V → Option V
  | [], _, a => a
  | b :: r, mx, some a => maxL r mx (max2 mx a b)
  | _ :: _, _, none => none
end Go.CE
end
section
namespace Go.CE
def pickB : Option V → Option Bool
  | some (.v (.bool b)) => some b
  | _ => none
noncomputable def pick2 : Option Bool → Operand → Operand → FR → Option V
  | some true, a, _, F => ev a F
  | some false, _, b, F => ev b F
  | none, _, _, _ => none
noncomputable def oBox : Option V → Nat → HP → Nat → R
  | some x, T, H, n => exBox H n T x
  | none, _, _, _ => .no []
noncomputable def evP : List (Nat × Operand) → FR → Option (List (Nat × V))
  | [], _ => some []
  | (i, x) :: r, F => conO ((ev x F).map fun v => (i, v)) (evP r F)
noncomputable def oLoad : Option V → Option TI → Cfg → HP → Option V
  | some x, i, C, H => load2 i x C H
  | none, _, _, _ => none
noncomputable def oStore : Option V → Option V → Option TI → HP → Option HP
  | some a, some x, i, H => store2 i a x H
  | _, _, _, _ => none
def nilC : Option V → Option V
  | some (.p k o) => some (.p k o)
  | some (.i T x) => some (.i T x)
  | some (.f (.func f) a c) => some (.f (.func f) a c)
  | some (.v (.func (.func f) a c)) => some (.v (.func (.func f) a c))
  | some (.v (.pointer (some a))) => some (.v (.pointer (some a)))
  | _ => none
abbrev IB := Int → Int → IntKind → Option V
noncomputable def binOf : BinOp → IB
  | .add => fun a b k => some (iV k (wrapF (addI a b) k))
  | .sub => fun a b k => some (iV k (wrapF (subI a b) k))
  | .mul => fun a b k => bWrap Nat.mul a b k true
  | .quo => fun a b k => bWrap Nat.div a b k (isPos b)
  | .rem => fun a b k => bArith Nat.mod a b k (isPos b)
  | .and => fun a b k => bArith Nat.land a b k (fits2 a b k)
  | .or => fun a b k => bArith Nat.lor a b k (fits2 a b k)
  | .xor => fun a b k => bArith Nat.xor a b k (fits2 a b k)
  | .andNot => fun a b k => bArith andNotN a b k (fits2 a b k)
  | .eql => fun a b _ => some (.b (eqI a b))
  | .neq => fun a b _ => some (.b (not (eqI a b)))
  | .lss => fun a b _ => some (.b (ltI a b))
  | .leq => fun a b _ => some (.b (leI a b))
  | .gtr => fun a b _ => some (.b (ltI b a))
  | .geq => fun a b _ => some (.b (leI b a))
  | _ => fun _ _ _ => none
noncomputable def binK2 : Bool → IB → Int → Int → IntKind → Option V
  | true, f, a, b, k => f a b k
  | false, _, _, _, _ => none
noncomputable def binV (f : IB) (op : BinOp) (C : Cfg) (T : Nat) (cst : Bool) : V → V → Option V
  | .v (.int k a), .v (.int k' b) => binK2 (eqK k k') f a b k
  | .v (.string a), .v (.string b) => bin3 op a b
  | x, y => bin4 op x y C T cst
noncomputable def oBin (f : IB) (op : BinOp) (C : Cfg) (T : Nat) (cst : Bool) : Option V → Option V → Option V
  | some a, some b => binV f op C T cst a b
  | _, _ => none
def isCst : Operand → Bool
  | .const _ => true
  | _ => false
noncomputable def oShl : Option V → Option V → Option V
  | some a, some b => shlO a b
  | _, _ => none
noncomputable def oShr : Option V → Option V → Option V
  | some a, some b => shrO a b
  | _, _ => none
noncomputable def oUn : Option V → UnOp → Option V
  | some a, op => exUn a op
  | none, _ => none
noncomputable def oConv : Option V → Option TI → HP → Nat → R
  | some a, d, H, n => conv2 d a H n
  | none, _, _, _ => .no []
noncomputable def convI2 : Option V → IntKind → Option V
  | some (.v (.int _ a)), k => some (iV k (wrapF a k))
  | _, _ => none
def convS2 : Option V → Option V
  | some (.v (.string s)) => some (.v (.string s))
  | _ => none
def oIfc : Option V → Nat → Bool → Option V
  | some a, T, false => some (.i T a)
  | _, _, _ => none
def oFn : Option (List V) → Option (List V) → Fn → Option V
  | some a, some c, fn => some (.f fn a c)
  | _, _, _ => none
def hint : Option TI → Option V → Option Nat
  | some ⟨_, _, _, _, .mp _ _⟩, some x => x.toN
  | _, _ => none
noncomputable def oMap : Option Nat → HP → Nat → R
  | some _, H, n => mk H n (.m []) (.m n)
  | none, _, _ => .no []
noncomputable def oMake : Option V → Option V → Option TI → Cfg → HP → Nat → R
  | some a, some b, i, C, H, n => ms2 i a.toN b.toN C H n
  | _, _, _, _, _, _ => .no []
noncomputable def rng2 : Option (List (V × V)) → Nat → HP → Nat → R
  | some es, k, H, n => mk H n (.it k (lng es)) (.p n 0)
  | none, _, _, _ => .no []
noncomputable def oRange : Option TI → Option V → HP → Nat → R
  | some ⟨_, _, _, _, .mp _ _⟩, some (.m k), H, n => rng2 (mapO (H.get k)) k H n
  | _, _, _, _ => .no []
inductive OV where
  | bad
  | none
  | is (x : V)
def oOV : Option V → OV
  | some x => .is x
  | none => .bad
noncomputable def evO : Option Operand → FR → OV
  | some x, F => oOV (ev x F)
  | none, _ => .none
noncomputable def oSlice : Option V → OV → OV → OV → Option TI → Cfg → Option V
  | some a, .none, .none, .none, i, C => slc2 i a none none C
  | some a, .is l, .none, .none, i, C => slc2 i a (some l) none C
  | some a, .none, .is h, .none, i, C => slc2 i a none (some h) C
  | some a, .is l, .is h, .none, i, C => slc2 i a (some l) (some h) C
  | _, _, _, _, _, _ => none
noncomputable def oFA : Option V → Option FI → Option V
  | some a, d => fa2 d a
  | none, _ => none
noncomputable def oFld : Option V → Option FI → Option V
  | some a, d => field2 d a
  | none, _ => none
noncomputable def oIA : Option V → Option V → Option TI → Cfg → Option V
  | some a, some i, T, C => ia2 T i.toN a C
  | _, _, _, _ => none
noncomputable def oIx : Option V → Option V → Option TI → Cfg → Option V
  | some a, some i, T, C => ix2 T i.toN a C
  | _, _, _, _ => none
noncomputable def oLk : Option V → Option V → Option TI → Bool → Cfg → HP → Option V
  | some a, some i, T, ok, C, H => lk1 T a i ok C H
  | _, _, _, _, _, _ => none
noncomputable def oMU : Option V → Option V → Option V → Option TI → Cfg → HP → Option HP
  | some a, some k, some x, T, C, H => mu1 T a k x C H
  | _, _, _, _, _, _ => none
noncomputable def oME : Option V → Option V → Option TI → Cfg → HP → Nat → R
  | some a, some k, T, C, H, n => me1 T a k C H n
  | _, _, _, _, _, _ => .no []
noncomputable def oES : Option V → Option V → Option V → HP → Option HP
  | some a, some i, some x, H => es1 a i x H
  | _, _, _, _ => none
noncomputable def oAs : Option V → Nat → Bool → Option TI → Option V
  | some a, A, ok, i => as1 (isIfc i) a A ok i
  | none, _, _, _ => none
noncomputable def oEx : Option V → Nat → Option V
  | some (.t l), i => nth l i
  | some (.v (.tuple l)), i => (nth l.toList i).map .v
  | _, _ => none
noncomputable def exBuiltin : Builtin → List Nat → List V → Cfg → HP → Nat → R
  | .append, [T, Tx], [x, y], C, H, n => apT (C.ty T) (C.ty Tx) x y C H n
  | .copy, [T, _], [x, y], C, H, n => exCopy C H n T x y
  | _, _, _, _, _, _ => .no []
inductive CL where
  | v (f : Operand)
  | i (r : Operand) (name : String)
inductive CO where
  | p (d : DS) (f : FR → HP → Option V) (pos : String)
  | q (f : FR → HP → Option V) (pos : String)
  | e (d : Option Tmp) (f : FR → HP → Nat → R) (pos : String)
  | call (d : Option Tmp) (c : CL) (as_ : List Operand) (pos : String)
  | df (d : Option Tmp) (f : Operand) (as_ : List Operand)
  | g (t : Tmp) (b : Bool) (d : Option Tmp) (o : CO)
  | bad (pos : String)
inductive DO where
  | f (o : CO)
  | s (o : CO) (j b : Nat)
  | l (g : Option (Tmp × Bool)) (o : CO) (i : Option TI) (a : Operand) (j b : Nat)
inductive CC where
  | skip
  | reg (l : List CO)
  | regD (l : List DO)
  | seq (a b : CC)
  | cond (c : Operand) (a b : CC)
  | block (id : Nat) (b : CC)
  | loop (b : CC)
  | exit (id : Nat)
  | ret
  | hook (f : RS)
  | bad
abbrev Rec := CC → RS
noncomputable def pd (f : FR → HP → Option V) (pos : String) : Option Tmp → CO
  | some d => .p (ds d) f pos
  | none => .q f pos
noncomputable def rdyBin : BinOp → Nat → Operand → Operand → Cfg → FR → HP → Option V
  | .shl, _, x, y, _ => fun F _ => oShl (ev x F) (ev y F)
  | .shr, _, x, y, _ => fun F _ => oShr (ev x F) (ev y F)
  | op, T, x, y, C => fun F _ => oBin (binOf op) op C T (or (isCst x) (isCst y)) (ev x F) (ev y F)
noncomputable def bltO : Option (List V) → Builtin → List Nat → Cfg → HP → Nat → R
  | some l, b, Ts, C, H, n => exBuiltin b Ts l C H n
  | none, _, _, _, _, _ => .no []
noncomputable def oLen : Option V → Option TI → Option V
  | some x, i => lenP x i
  | none, _ => none
noncomputable def oLenM : Option V → HP → Option V
  | some x, H => lenH x H
  | none, _ => none
def oMx (mx : Bool) : Option (List V) → Option V
  | some (x :: r) => maxL r mx (some x)
  | _ => none
noncomputable def rdyLen : Option TI → Operand → Option Tmp → String → CO
  | some ⟨_, _, _, _, .mp _ _⟩, x, d, p => pd (fun F H => oLenM (ev x F) H) p d
  | i, x, d, p => pd (fun F _ => oLen (ev x F) i) p d
noncomputable def rdyBlt : Builtin → List Operand → List Nat → Cfg → Option Tmp → String → CO
  | .len, [x], [T], C, d, p => rdyLen (C.ty T) x d p
  | .max, as_, _, _, d, p => pd (fun F _ => oMx true (evL as_ F)) p d
  | .min, as_, _, _, d, p => pd (fun F _ => oMx false (evL as_ F)) p d
  | b, as_, Ts, C, d, p => .e d (fun F H n => bltO (evL as_ F) b Ts C H n) p
noncomputable def rdyCall : Callee → Array Operand → Array TypeId → Cfg → Option Tmp → String → CO
  | .builtin b, as_, Ts, C, d, p => rdyBlt b as_.toList Ts.toList C d p
  | .value f, as_, _, _, d, p => .call d (.v f) as_.toList p
  | .invoke r name, as_, _, _, d, p => .call d (.i r name) as_.toList p
noncomputable def rdyCall2 : Call → Cfg → Option Tmp → String → CO
  | ⟨f, as_, Ts⟩, C, d, p => rdyCall f as_ Ts C d p
def rdyDf : Call → Option Tmp → String → CO
  | ⟨.value f, as_, _⟩, d, _ => .df d f as_.toList
  | _, _, p => .bad p
def isU8 : Option TI → Bool
  | some ⟨_, _, _, _, .int .u8⟩ => true
  | _ => false
noncomputable def u8S (C : Cfg) : Option TI → Bool
  | some ⟨_, _, _, _, .sl e⟩ => isU8 (C.ty e)
  | _ => false
noncomputable def oCnv : Bool → Option V → Option TI → HP → Nat → R
  | true, x, i, H, n => oConv x i H n
  | false, _, _, _, _ => .no []
noncomputable def rdyConv (C : Cfg) : Option TI → Option TI → Operand → Option Tmp → String → CO
  | some _, some ⟨_, _, _, _, .int k⟩, x, d, p => pd (fun F _ => convI2 (ev x F) k) p d
  | some ⟨_, _, _, _, .str⟩, some ⟨_, _, _, _, .str⟩, x, d, p => pd (fun F _ => convS2 (ev x F)) p d
  | s, i, x, d, p => .e d (fun F H n => oCnv (u8S C s) (ev x F) i H n) p
noncomputable def dMove (x : Operand) (F : FR) (_ : HP) : Option V := ev x F
noncomputable def rdy : Op → Cfg → Option Tmp → String → CO
  | .move x, _, d, p => pd (dMove x) p d
  | .assign x, _, d, p => pd (dMove x) p d
  | .pick c a b, _, d, p => pd (fun F _ => pick2 (pickB (ev c F)) a b F) p d
  | .alloc T, C, d, p => .e d (fun F H n => alloc2 (C.ty T) H n T) p
  | .box T x, _, d, p => .e d (fun F H n => oBox (ev x F) T H n) p
  | .build T ps, C, d, p => pd (fun F _ => bd2 (C.ty T) (evP ps.toList F) C) p d
  | .buildSlice T len ps, C, d, p => .e d (fun F H n => bs2 (C.ty T) (evP ps.toList F) C H n len) p
  | .load T a, C, d, p => pd (fun F H => oLoad (ev a F) (C.ty T) C H) p d
  | .store T a x, C, d, p => .e d (fun F H n => ru (oStore (ev a F) (ev x F) (C.ty T) H) n) p
  | .nilCheck x, _, d, p => pd (fun F _ => nilC (ev x F)) p d
  | .binOp op T x y _, C, d, p => pd (rdyBin op T x y C) p d
  | .unOp op _ x, _, d, p => pd (fun F _ => oUn (ev x F) op) p d
  | .convert s t x, C, d, p => rdyConv C (C.ty s) (C.ty t) x d p
  | .makeInterface T x, C, d, p => pd (fun F _ => oIfc (ev x F) T (isIfc (C.ty T))) p d
  | .makeFunc fn a c, _, d, p => pd (fun F _ => oFn (evL a.toList F) (evL c.toList F) fn) p d
  | .makeMap _ none, _, d, p => .e d (fun _ H n => oMap (some 0) H n) p
  | .makeMap T (some x), C, d, p => .e d (fun F H n => oMap (hint (C.ty T) (ev x F)) H n) p
  | .makeSlice T l c, C, d, p => .e d (fun F H n => oMake (ev l F) (ev c F) (C.ty T) C H n) p
  | .slice T x lo hi mx, C, d, p => pd (fun F _ => oSlice (ev x F) (evO lo F) (evO hi F) (evO mx F) (C.ty T) C) p d
  | .fieldAddr S x f, C, d, p => pd (fun F _ => oFA (ev x F) (fldO (fieldsOf (C.ty S)) f)) p d
  | .field S x f, C, d, p => pd (fun F _ => oFld (ev x F) (fldO (fieldsOf (C.ty S)) f)) p d
  | .indexAddr T x i, C, d, p => pd (fun F _ => oIA (ev x F) (ev i F) (C.ty T) C) p d
  | .index T x i, C, d, p => pd (fun F _ => oIx (ev x F) (ev i F) (C.ty T) C) p d
  | .lookup T x i ok, C, d, p => pd (fun F H => oLk (ev x F) (ev i F) (C.ty T) ok C H) p d
  | .mapUpdate T m k x, C, d, p => .e d (fun F H n => ru (oMU (ev m F) (ev k F) (ev x F) (C.ty T) C H) n) p
  | .insert T m k x, C, d, p => .e d (fun F H n => ru (oMU (ev m F) (ev k F) (ev x F) (C.ty T) C H) n) p
  | .mapEntry T m k, C, d, p => .e d (fun F H n => oME (ev m F) (ev k F) (C.ty T) C H n) p
  | .entryStore _ m i x, _, d, p => .e d (fun F H n => ru (oES (ev m F) (ev i F) (ev x F) H) n) p
  | .range T x, C, d, p => .e d (fun F H n => oRange (C.ty T) (ev x F) H n) p
  | .typeAssert x _ A ok, C, d, p => pd (fun F _ => oAs (ev x F) A ok (C.ty A)) p d
  | .extract t i, _, d, p => pd (fun F _ => oEx (ev t F) i) p d
  | .call c, C, d, p => rdyCall2 c C d p
  | .defer c, _, d, p => rdyDf c d p
  | _, _, _, p => .bad p
def dstO : Option Oper → Option Tmp
  | some o => o.dst
  | none => none
def rdyG2 : Option Tmp → Bool → Option Tmp → CO → String → CO
  | some t, b, d, o, _ => .g t b d o
  | none, _, _, _, p => .bad p
noncomputable def rdyG : Option (Nat × Bool) → List Oper → Option Tmp → CO → String → CO
  | none, _, _, o, _ => o
  | some (j, b), ops, d, o, p => rdyG2 (dstO (nth ops j)) b d o p
def dstLt : Option Tmp → Nat → Bool
  | some t, nt => Nat.blt t nt
  | none, _ => true
def chkD : Bool → CO → String → CO
  | true, o, _ => o
  | false, _, p => .bad p
noncomputable def rdyO (C : Cfg) (nt : Nat) (ops : List Oper) : Oper → CO
  | ⟨d, op, _, p, _, g⟩ => chkD (dstLt d nt) (rdyG g ops d (rdy op C d p) p) p
noncomputable def rdyL (C : Cfg) (nt : Nat) (ops : List Oper) (l : List Oper) : List CO := List.rec (motive := fun _ => List CO) [] (fun o _ r => rdyO C nt ops o :: r) l
def hook2 : Bool → RS → Nat → CC → CC
  | true, f, _, _ => .hook f
  | false, _, id, b => .block id b
def hookO : Option (Nat × RS) → Nat → CC → CC
  | some (j, f), id, b => hook2 (Nat.beq j id) f id b
  | none, id, b => .block id b
inductive KD where
  | p | a | l | s
def isMp : Option TI → Bool
  | some ⟨_, _, _, _, .mp _ _⟩ => true
  | none => true
  | _ => false
def kdB : Bool → KD
  | true => .s
  | false => .p
def kdConv : Option TI → Option TI → KD
  | some _, some ⟨_, _, _, _, .int _⟩ => .p
  | some ⟨_, _, _, _, .str⟩, some ⟨_, _, _, _, .str⟩ => .p
  | _, _ => .s
noncomputable def kdBlt : Builtin → List Operand → List Nat → Cfg → KD
  | .len, [_], [T], C => kdB (isMp (C.ty T))
  | .max, _, _, _ => .p
  | .min, _, _, _ => .p
  | _, _, _, _ => .s
noncomputable def kdOf : Op → Cfg → KD
  | .move _, _ => .p
  | .assign _, _ => .p
  | .pick _ _ _, _ => .p
  | .build _ _, _ => .p
  | .alloc _, _ => .a
  | .load _ _, _ => .l
  | .nilCheck _, _ => .p
  | .binOp _ _ _ _ _, _ => .p
  | .unOp _ _ _, _ => .p
  | .convert s d _, C => kdConv (C.ty s) (C.ty d)
  | .makeInterface _ _, _ => .p
  | .makeFunc _ _ _, _ => .p
  | .slice _ _ _ _ _, _ => .p
  | .fieldAddr _ _ _, _ => .p
  | .field _ _ _, _ => .p
  | .indexAddr _ _ _, _ => .p
  | .index _ _ _, _ => .p
  | .typeAssert _ _ _ _, _ => .p
  | .extract _ _, _ => .p
  | .call ⟨.builtin b, as_, Ts⟩, C => kdBlt b as_.toList Ts.toList C
  | _, _ => .s
def tmpsO : List Operand → List Nat
  | [] => []
  | .tmp t :: r => t :: tmpsO r
  | _ :: r => tmpsO r
def gTmp : Option (Nat × Bool) → List Oper → List Nat
  | none, _ => []
  | some (j, _), ops => (dstO ops[j]?).toList
def looks (ops : List Oper) (o : Oper) : List Nat := tmpsO o.op.operands.toList ++ gTmp o.guard ops
def memN (x : Nat) : List Nat → Bool
  | [] => false
  | y :: r => or (Nat.beq x y) (memN x r)
def dstIn : Option Tmp → List Nat → Bool
  | some t, l => memN t l
  | none, _ => false
def sameD : Option Tmp → Option Tmp → Bool
  | some t, some u => Nat.beq t u
  | _, _ => false
def clash (a b : Oper) (la lb : List Nat) : Bool := or (sameD a.dst b.dst) (or (dstIn a.dst lb) (dstIn b.dst la))
def kdNeed : KD → KD → Bool
  | .s, .s => true
  | .a, .s => true
  | _, _ => false
def tb (b i : Nat) : Bool := Nat.beq (Nat.mod (Nat.shiftRight b i) 2) 1
structure DR where
  o : Oper
  k : KD
  l : List Nat
  b : Nat
noncomputable def drOf (C : Cfg) (ops : List Oper) : List Oper → List Nat → List DR
  | o :: r, b :: bs => ⟨o, kdOf o.op C, looks ops o, b⟩ :: drOf C ops r bs
  | _, _ => []
def pairOk (a : DR) (i : Nat) (c : DR) : Bool := or (tb c.b i) (not (or (kdNeed a.k c.k) (clash a.o c.o a.l c.l)))
def pairsOk (a : DR) (i : Nat) : List DR → Bool
  | [] => true
  | c :: r => and (pairOk a i c) (pairsOk a i r)
def edgesOk (j : Nat) : List Edge → Bool
  | [] => true
  | e :: r => and (or (not (Region.binds .any e)) (Nat.blt e.on j)) (edgesOk j r)
def drOk : List DR → Nat → Bool
  | [], _ => true
  | a :: r, i => and (edgesOk i a.o.after.toList) (and (pairsOk a i r) (drOk r (Nat.succ i)))
def isS : KD → Bool
  | .s => true
  | _ => false
def gOf : Option (Nat × Bool) → List Oper → Option (Tmp × Bool)
  | none, _ => none
  | some (j, b), ops => match dstO ops[j]? with
    | some t => some (t, b)
    | none => none
noncomputable def rdyD2 : KD → Op → CO → Option (Tmp × Bool) → Cfg → Nat → Nat → DO
  | .s, _, o, _, _, j, b => .s o j b
  | .l, .load T a, o, g, C, j, b => .l g o (C.ty T) a j b
  | .p, _, o, _, _, _, _ => .f o
  | .a, _, o, _, _, _, _ => .f o
  | _, _, _, _, _, _, _ => .f (.bad "kind")
noncomputable def rdyDs (C : Cfg) (nt : Nat) (ops : List Oper) : List DR → Nat → List DO
  | [], _ => []
  | a :: r, i => rdyD2 a.k a.o.op (rdyO C nt ops a.o) (gOf a.o.guard ops) C i a.b :: rdyDs C nt ops r (Nat.succ i)
def regD2 : Bool → List DO → CC
  | true, l => .regD l
  | false, _ => .bad
noncomputable def regD1 (C : Cfg) (nt : Nat) (ops : List Oper) (d : List DR) : CC := regD2 (drOk d 0) (rdyDs C nt ops d 0)
noncomputable def regO (C : Cfg) (nt : Nat) (ops : Array Oper) : Bool → CC
  | false => .reg (rdyL C nt ops.toList ops.toList)
  | true => regD1 C nt ops.toList (drOf C ops.toList ops.toList (Region.before ops).toList)
noncomputable def comp (C : Cfg) (f nt : Nat) : Code → CC
  | .skip => .skip
  | .label _ => .skip
  | .region _ ops draw => regO C nt ops draw
  | .seq a b => .seq (comp C f nt a) (comp C f nt b)
  | .cond c a b => .cond c (comp C f nt a) (comp C f nt b)
  | .block id b => hookO (C.bh.get f) id (comp C f nt b)
  | .loop b => .loop (comp C f nt b)
  | .exit id => .exit id
  | .ret => .ret
  | _ => .bad
noncomputable def frC (a : V) (_ : List V) (r : Nat → FR → FR) (i : Nat) (F : FR) : FR := r (Nat.succ i) (F.set i (some a))
def frE (_ : Nat) (F : FR) : FR := F
noncomputable def frame (l : List V) : FR := List.rec (motive := fun _ => Nat → FR → FR) frE frC l 0 .z
noncomputable def resOne : ResultVar → Cfg → FR → HP → Option V
  | .tmp t, _, F, _ => F.get t
  | .cell a T, C, F, H => oLoad (F.get a) (C.ty T) C H
noncomputable def resL : List ResultVar → Cfg → FR → HP → Option (List V)
  | [], _, _, _ => some []
  | x :: r, C, F, H => conO (resOne x C F H) (resL r C F H)
def tupV : Option (List V) → Option V
  | some [x] => some x
  | some l => some (.t l)
  | none => none
inductive TG where
  | no
  | to (f : FuncId) (l : List V)
def target2 : V → List V → TG
  | .v (.func (.func g) a c), l => .to g (a.toList.map .v ++ l ++ c.toList.map .v)
  | .f (.func g) a c, l => .to g (a ++ l ++ c)
  | _, _ => .no
def resO : Option Func → List ResultVar
  | some fn => fn.results.toList
  | none => []
noncomputable def enter2 : Option Code → Nat → Rec → Cfg → Nat → List V → HP → Nat → X
  | some c, nt, rec, C, f, l, H, n => rec (comp C f nt c) (frame l) H n []
  | none, _, _, _, _, _, _, _ => .no ["no body"]
noncomputable def enter : Option Func → Rec → Cfg → Nat → List V → HP → Nat → X
  | some fn, rec, C, f, l, H, n => enter2 fn.body fn.ntmps rec C f l H n
  | none, _, _, _, _, _, _ => .no ["no function"]
inductive HN where
  | no (s : List String)
  | ok (H : HP) (n : Nat)
def dfB : Bool → (HP → Nat → HN) → HP → Nat → HN
  | true, r, H, n => r H n
  | false, _, _, _ => .no ["deferred"]
noncomputable def dfC (C : Cfg) (d : FuncId × List V) (_ : DL) (r : HP → Nat → HN) (H : HP) (n : Nat) : HN := dfB (C.dh d.1) r H n
noncomputable def defers (C : Cfg) (D : DL) : HP → Nat → HN := List.rec (motive := fun _ => HP → Nat → HN) HN.ok (dfC C) D
noncomputable def fin : HN → List ResultVar → Cfg → FR → R
  | .ok H n, rs, C, F => rv (tupV (resL rs C F H)) H n
  | .no s, _, _, _ => .no s
noncomputable def leave : X → List ResultVar → Cfg → R
  | .nor F H n D, rs, C => fin (defers C D H n) rs C F
  | .ret F H n D, rs, C => fin (defers C D H n) rs C F
  | .no s, _, _ => .no s
  | _, _, _ => .no ["leave"]
noncomputable def callH : Option (List V → HP → Nat → R) → Rec → Cfg → FuncId → List V → HP → Nat → R
  | some hk, _, _, _, l, H, n => hk l H n
  | none, rec, C, f, l, H, n => leave (enter (C.fn.get f) rec C f l H n) (resO (C.fn.get f)) C
noncomputable def callF (rec : Rec) (C : Cfg) (f : FuncId) (l : List V) (H : HP) (n : Nat) : R := callH (C.hook.get f) rec C f l H n
noncomputable def callT : TG → Rec → Cfg → HP → Nat → R
  | .to f l, rec, C, H, n => callF rec C f l H n
  | .no, _, _, _, _ => .no ["target"]
def target : Option V → Option (List V) → TG
  | some f, some l => target2 f l
  | _, _ => .no
def invT2 : Option (FuncId × Bool) → V → List V → TG
  | some (f, false), x, l => .to f (x :: l)
  | _, _, _ => .no
def invT : Option V → Option (List V) → String → Cfg → TG
  | some (.i T x), some l, name, C => invT2 (C.me T name) x l
  | _, _, _, _ => .no
noncomputable def exCL : CL → List Operand → Rec → Cfg → FR → HP → Nat → R
  | .v f, as_, rec, C, F, H, n => callT (target (ev f F) (evL as_ F)) rec C H n
  | .i r name, as_, rec, C, F, H, n => callT (invT (ev r F) (evL as_ F) name C) rec C H n
noncomputable def putP (o : Option V) : DS → RS → String → RS := Option.rec (motive := fun _ => DS → RS → String → RS) (fun _ _ p _ _ _ _ => .no [p]) (fun x d r _ F H n D => r (put d (some x) F) H n D) o
noncomputable def putQ (o : Option V) : RS → String → RS := Option.rec (motive := fun _ => RS → String → RS) (fun _ p _ _ _ _ => .no [p]) (fun _ r _ F H n D => r F H n D) o
noncomputable def after : R → Option Tmp → RS → String → FR → DL → X
  | .ok x H n, some t, r, _, F, D => r (F.set t (some x)) H n D
  | .ok x H n, none, r, _, F, D => r F H n D
  | .no s, _, _, p, _, _ => .no (p :: s)
noncomputable def deferO : TG → Option Tmp → RS → RS
  | .to f l, none, r => fun F H n D => r F H n ((f, l) :: D)
  | .to f l, some t, r => fun F H n D => r (F.set t (some .un)) H n ((f, l) :: D)
  | .no, _, _ => fun _ _ _ _ => .no ["defer"]
noncomputable def exG : Option V → Bool → Option Tmp → RS → RS → RS
  | some (.v (.bool true)), true, _, y, _ => y
  | some (.v (.bool false)), false, _, y, _ => y
  | some (.v _), _, some t, _, r => fun F H n D => r (F.set t (some .un)) H n D
  | some (.v _), _, none, _, r => r
  | _, _, _, _, _ => fun _ _ _ _ => .no ["guard"]
noncomputable def exCO (o : CO) : Rec → Cfg → RS → RS := CO.rec (motive := fun _ => Rec → Cfg → RS → RS)
  (fun d f p _ _ r F H n D => putP (f F H) d r p F H n D)
  (fun f p _ _ r F H n D => putQ (f F H) r p F H n D)
  (fun d f p _ _ r F H n D => after (f F H n) d r p F D)
  (fun d c as_ p rec C r F H n D => after (exCL c as_ rec C F H n) d r p F D)
  (fun d f as_ _ _ r F H n D => deferO (target (ev f F) (evL as_ F)) d r F H n D)
  (fun t b d _ ih rec C r F H n D => exG (F.get t) b d (ih rec C r) r F H n D)
  (fun p _ _ _ _ _ _ _ => .no [p]) o
noncomputable def exCOs (l : List CO) : Rec → Cfg → RS := List.rec (motive := fun _ => Rec → Cfg → RS) (fun _ _ F H n D => X.nor F H n D) (fun o _ ih rec C F H n D => exCO o rec C (ih rec C) F H n D) l
def eqCP : CP → CP → Bool
  | .ex a, .ex b => Nat.beq a b
  | .un a, .un b => Nat.beq a b
  | _, _ => false
def nilL : List Value → Bool
  | [] => true
  | _ => false
noncomputable def eqP0 : Value → Value → Bool
  | .int k a, .int k' b => and (eqK k k') (eqI a b)
  | .string a, .string b => eqB a.data.toList b.data.toList
  | .bool a, .bool b => a == b
  | .pointer none, .pointer none => true
  | .pointer (some ⟨a, o, none⟩), .pointer (some ⟨b, p, none⟩) => and (Nat.beq a b) (Nat.beq o p)
  | .slice none a b, .slice none c d => and (Nat.beq a c) (Nat.beq b d)
  | .map none, .map none => true
  | .nilFunc, .nilFunc => true
  | .nilIface, .nilIface => true
  | .func (.func a) p q, .func (.func b) p' q' => and (Nat.beq a b) (and (and (nilL p.toList) (nilL q.toList)) (and (nilL p'.toList) (nilL q'.toList)))
  | _, _ => false
mutual
noncomputable def eqX : V → V → Bool
  | .v a, .v b => eqP0 a b
  | .u i, .u j => Nat.beq i j
  | .p k o, .p k' o' => and (Nat.beq k k') (Nat.beq o o')
  | .s k o n c, .s k' o' n' c' => and (and (Nat.beq k k') (Nat.beq o o')) (and (Nat.beq n n') (eqCP c c'))
  | .m k, .m k' => Nat.beq k k'
  | .g a, .g b => eqXL a b
  | .t a, .t b => eqXL a b
  | .i T x, .i T' y => and (Nat.beq T T') (eqX x y)
  | .f (.func f) a c, .f (.func g) b d => and (Nat.beq f g) (and (eqXL a b) (eqXL c d))
  | _, _ => false
noncomputable def eqXL : List V → List V → Bool
  | [], [] => true
  | a :: r, b :: s => and (eqX a b) (eqXL r s)
  | _, _ => false
end
noncomputable def eqXO : Option V → Option V → Bool
  | some a, some b => eqX a b
  | _, _ => false
structure PL where
  i : Option TI
  a : Option V
  x : Option V
  j : Nat
structure PM where
  j : Nat
  H : HP
noncomputable def samePast : List PM → Nat → Option V → Option V → Option TI → Cfg → Bool
  | [], _, _, _, _, _ => true
  | ⟨j, H⟩ :: r, b, a, x, i, C => and (or (tb b j) (eqXO (oLoad a i C H) x)) (samePast r b a x i C)
noncomputable def samePend : List PL → Nat → HP → Cfg → Bool
  | [], _, _, _ => true
  | ⟨i, a, x, j⟩ :: r, b, H, C => and (or (tb b j) (eqXO (oLoad a i C H) x)) (samePend r b H C)
def wantG : Option (Tmp × Bool) → Option V → Bool
  | none, _ => true
  | some (_, b), some (.v (.bool c)) => b == c
  | _, _ => false
noncomputable def gGet : Option (Tmp × Bool) → FR → Option V
  | some (t, _), F => F.get t
  | none, _ => none
abbrev DS2 := List PM → List PL → Rec → Cfg → RS
noncomputable def spK2 : Bool → DS2 → List PM → List PL → Rec → Cfg → RS
  | true, r, past, pend, rec, C => r past pend rec C
  | false, _, _, _, _, _ => fun _ _ _ _ => .no ["order"]
noncomputable def spK (r : DS2) (past : List PM) (pend : List PL) (b m : Nat) (rec : Rec) (C : Cfg) : RS := fun F H n D => spK2 (and (Nat.ble m n) (samePend pend b H C)) r past pend rec C F H n D
noncomputable def ldK2 : Bool → DS2 → List PM → List PL → PL → Rec → Cfg → RS
  | true, r, past, pend, p, rec, C => r past (p :: pend) rec C
  | false, _, _, _, _, _, _ => fun _ _ _ _ => .no ["order"]
noncomputable def ldK1 (r : DS2) (past : List PM) (pend : List PL) (i : Option TI) (a : Option V) (x : Option V) (j b : Nat) (rec : Rec) (C : Cfg) : RS := ldK2 (samePast past b a x i C) r past pend ⟨i, a, x, j⟩ rec C
noncomputable def ldK : Bool → DS2 → List PM → List PL → Option TI → Operand → Nat → Nat → Rec → Cfg → FR → HP → RS
  | true, r, past, pend, i, a, j, b, rec, C, F, H => ldK1 r past pend i (ev a F) (oLoad (ev a F) i C H) j b rec C
  | false, r, past, pend, _, _, _, _, rec, C, _, _ => r past pend rec C
noncomputable def exDO (o : DO) : DS2 → DS2 := DO.rec (motive := fun _ => DS2 → DS2)
  (fun o r past pend rec C F H n D => exCO o rec C (r past pend rec C) F H n D)
  (fun o j b r past pend rec C F H n D => exCO o rec C (spK r (⟨j, H⟩ :: past) pend b n rec C) F H n D)
  (fun g o i a j b r past pend rec C F H n D => exCO o rec C (ldK (wantG g (gGet g F)) r past pend i a j b rec C F H) F H n D) o
noncomputable def exDOs (l : List DO) : DS2 := List.rec (motive := fun _ => DS2) (fun _ _ _ _ F H n D => X.nor F H n D) (fun o _ ih past pend rec C F H n D => exDO o ih past pend rec C F H n D) l
noncomputable def seqX : X → CC → Rec → X
  | .nor F H n D, b, rec => rec b F H n D
  | x, _, _ => x
noncomputable def condX : Option Bool → CC → CC → Rec → RS
  | some true, a, _, rec => rec a
  | some false, _, b, rec => rec b
  | none, _, _, _ => fun _ _ _ _ => .no ["cond"]
def exitX : Bool → Nat → RS
  | true, _ => X.nor
  | false, j => X.exit j
def blockX : X → Nat → X
  | .exit j F H n D, id => exitX (Nat.beq j id) j F H n D
  | x, _ => x
noncomputable def exCC (c : CC) : Rec → Cfg → RS := CC.rec (motive := fun _ => Rec → Cfg → RS) (fun _ _ F H n D => X.nor F H n D) (fun l rec C F H n D => exCOs l rec C F H n D) (fun l rec C F H n D => exDOs l [] [] rec C F H n D)
  (fun a b _ _ rec _ F H n D => seqX (rec a F H n D) b rec)
  (fun c a b _ _ rec _ F H n D => condX (pickB (ev c F)) a b rec F H n D)
  (fun id b _ rec _ F H n D => blockX (rec b F H n D) id)
  (fun b _ rec _ F H n D => seqX (rec b F H n D) (.loop b) rec)
  (fun id _ _ F H n D => X.exit id F H n D) (fun _ _ F H n D => X.ret F H n D) (fun g _ _ F H n D => g F H n D) (fun _ _ _ _ _ _ => .no ["code"]) c
noncomputable def exS (C : Cfg) (_ : Nat) (rec : Rec) (c : CC) : RS := exCC c rec C
def exZ (_ : CC) (_ : FR) (_ : HP) (_ : Nat) (_ : DL) : X := .no ["fuel"]
noncomputable def exec (C : Cfg) (fuel : Nat) : Rec := Nat.rec (motive := fun _ => Rec) exZ (exS C) fuel
noncomputable def run (C : Cfg) (fuel : Nat) (f : FuncId) (l : List V) (H : HP) (n : Nat) : R := callF (exec C fuel) C f l H n
end Go.CE
end
section
namespace Go.CE
theorem div_ne {a b : Nat} (h : a ≠ b) (hm : a % 2 = b % 2) : a / 2 ≠ b / 2 := by omega
theorem HP.get_e (k : Nat) : HP.get .e k = none := rfl
theorem HP.get_0 (l : HP) (x : Option O) (r : HP) : HP.get (.n l x r) 0 = x := rfl
theorem HP.get_s (l : HP) (x : Option O) (r : HP) (k : Nat) : HP.get (.n l x r) (k + 1) = if k % 2 = 0 then l.get (k / 2) else r.get (k / 2) := by
  show Nat.rec (motive := fun _ => Option O) (HP.get l (Nat.div k 2)) (fun _ _ => HP.get r (Nat.div k 2)) (Nat.mod k 2) = _
  show Nat.rec (motive := fun _ => Option O) (HP.get l (k / 2)) (fun _ _ => HP.get r (k / 2)) (k % 2) = _
  rcases Nat.mod_two_eq_zero_or_one k with h | h <;> rw [h] <;> rfl
noncomputable def HP.setF (fuel : Nat) : HP → Nat → Option O → HP := Nat.rec (motive := fun _ => HP → Nat → Option O → HP) hpZ hpS fuel
theorem HP.setF_e0 (f : Nat) (o : Option O) : HP.setF (f + 1) .e 0 o = .n .e o .e := rfl
theorem HP.setF_n0 (f : Nat) (l r : HP) (x o : Option O) : HP.setF (f + 1) (.n l x r) 0 o = .n l o r := rfl
theorem HP.setF_es (f k : Nat) (o : Option O) : HP.setF (f + 1) .e (k + 1) o = if k % 2 = 0 then .n (HP.setF f .e (k / 2) o) none .e else .n .e none (HP.setF f .e (k / 2) o) := by
  show Nat.rec (motive := fun _ => HP) (.n (HP.setF f .e (k / 2) o) none .e) (fun _ _ => .n .e none (HP.setF f .e (k / 2) o)) (k % 2) = _
  rcases Nat.mod_two_eq_zero_or_one k with h | h <;> rw [h] <;> rfl
theorem HP.setF_ns (f k : Nat) (l r : HP) (x o : Option O) : HP.setF (f + 1) (.n l x r) (k + 1) o = if k % 2 = 0 then .n (HP.setF f l (k / 2) o) x r else .n l x (HP.setF f r (k / 2) o) := by
  show Nat.rec (motive := fun _ => HP) (.n (HP.setF f l (k / 2) o) x r) (fun _ _ => .n l x (HP.setF f r (k / 2) o)) (k % 2) = _
  rcases Nat.mod_two_eq_zero_or_one k with h | h <;> rw [h] <;> rfl
theorem HP.get_setF : ∀ (f : Nat) (t : HP) (k j : Nat) (o : Option O), k + 1 < 2 ^ f → (HP.setF f t k o).get j = if j = k then o else t.get j
  | 0, t, k, j, o, hk => by omega
  | f + 1, .e, 0, j, o, hk => by
    rw [HP.setF_e0]
    cases j with
    | zero => rfl
    | succ j => rw [HP.get_s, if_neg (show ¬ j + 1 = 0 by omega)]; split <;> rfl
  | f + 1, .n l x r, 0, j, o, hk => by
    rw [HP.setF_n0]
    cases j with
    | zero => rfl
    | succ j => rw [HP.get_s, if_neg (show ¬ j + 1 = 0 by omega), HP.get_s]
  | f + 1, .e, k + 1, j, o, hk => by
    have h2 : k / 2 + 1 < 2 ^ f := by rw [Nat.pow_succ] at hk; omega
    rw [HP.setF_es]
    cases j with
    | zero => rw [if_neg (show ¬ 0 = k + 1 by omega)]; split <;> rfl
    | succ j =>
      by_cases hjk : j = k
      · subst hjk
        rw [if_pos rfl]
        split <;> (rename_i hm; rw [HP.get_s]; simp only [hm, if_true, if_false]; rw [HP.get_setF f _ _ _ _ h2, if_pos rfl])
      · rw [if_neg (show ¬ j + 1 = k + 1 by omega), HP.get_e]
        split
        · rename_i hm
          rw [HP.get_s]
          split
          · rename_i hj; rw [HP.get_setF f _ _ _ _ h2, if_neg (div_ne hjk (by omega)), HP.get_e]
          · rfl
        · rename_i hm
          rw [HP.get_s]
          split
          · rfl
          · rename_i hj; rw [HP.get_setF f _ _ _ _ h2, if_neg (div_ne hjk (by omega)), HP.get_e]
  | f + 1, .n l x r, k + 1, j, o, hk => by
    have h2 : k / 2 + 1 < 2 ^ f := by rw [Nat.pow_succ] at hk; omega
    rw [HP.setF_ns]
    cases j with
    | zero => rw [if_neg (show ¬ 0 = k + 1 by omega)]; split <;> rfl
    | succ j =>
      by_cases hjk : j = k
      · subst hjk
        rw [if_pos rfl]
        split <;> (rename_i hm; rw [HP.get_s]; simp only [hm, if_true, if_false]; rw [HP.get_setF f _ _ _ _ h2, if_pos rfl])
      · rw [if_neg (show ¬ j + 1 = k + 1 by omega)]
        split
        · rename_i hm
          rw [HP.get_s, HP.get_s]
          split
          · rename_i hj; rw [HP.get_setF f _ _ _ _ h2, if_neg (div_ne hjk (by omega))]
          · rfl
        · rename_i hm
          rw [HP.get_s, HP.get_s]
          split
          · rfl
          · rename_i hj; rw [HP.get_setF f _ _ _ _ h2, if_neg (div_ne hjk (by omega))]
theorem okK_lt {k : Nat} (h : okK k = true) : k + 1 < 2 ^ 20 := by
  have : k < 1048575 := by simpa [okK, Nat.blt_eq] using h
  omega
theorem HP.get_set (t : HP) {k : Nat} (j : Nat) (o : Option O) (h : okK k = true) : (t.set k o).get j = if j = k then o else t.get j := HP.get_setF 20 t k j o (okK_lt h)
theorem HP.get_setF_none : ∀ (f : Nat) (t : HP) (k j : Nat) (o : O), (HP.setF f t k none).get j = some o → t.get j = some o
  | 0, t, k, j, o, h => h
  | f + 1, .e, 0, j, o, h => by
    rw [HP.setF_e0] at h
    cases j with
    | zero => cases h
    | succ j => rw [HP.get_s] at h; split at h <;> cases h
  | f + 1, .n l x r, 0, j, o, h => by
    rw [HP.setF_n0] at h
    cases j with
    | zero => cases h
    | succ j => rw [HP.get_s] at h ⊢; exact h
  | f + 1, .e, k + 1, j, o, h => by
    rw [HP.setF_es] at h
    cases j with
    | zero => split at h <;> cases h
    | succ j =>
      split at h <;> (rw [HP.get_s] at h; split at h <;> first | exact absurd (HP.get_setF_none f .e _ _ o h) (by rw [HP.get_e]; exact nofun) | cases h)
  | f + 1, .n l x r, k + 1, j, o, h => by
    rw [HP.setF_ns] at h
    cases j with
    | zero => split at h <;> exact h
    | succ j =>
      split at h <;> (rw [HP.get_s] at h ⊢; split at h <;> (rename_i hj; simp only [hj, if_true, if_false]; first | exact HP.get_setF_none f _ _ _ o h | exact h))
theorem HP.get_set_none (t : HP) {k j : Nat} {o : O} (h : (t.set k none).get j = some o) : t.get j = some o := HP.get_setF_none 20 t k j o h
theorem nth_eq {α : Type} : ∀ (l : List α) (i : Nat), nth l i = l[i]?
  | [], _ => rfl
  | _ :: _, 0 => rfl
  | _ :: r, i + 1 => by rw [List.getElem?_cons_succ]; exact nth_eq r i
theorem drp_eq {α : Type} : ∀ (l : List α) (i : Nat), drp l i = l.drop i
  | [], i => by simp [drp, nilF]
  | _ :: _, 0 => rfl
  | _ :: r, i + 1 => by rw [List.drop_succ_cons]; exact drp_eq r i
theorem tak_eq {α : Type} : ∀ (l : List α) (i : Nat), tak l i = l.take i
  | [], i => by simp [tak, nilF]
  | _ :: _, 0 => rfl
  | a :: r, i + 1 => by rw [List.take_succ_cons, ← tak_eq r i]; rfl
theorem lng_eq {α : Type} : ∀ (l : List α), lng l = l.length
  | [] => rfl
  | _ :: r => by rw [List.length_cons, ← lng_eq r]; rfl
theorem ovr_nil {α : Type} : ∀ (l : List α) (i : Nat), ovr l i [] = l
  | [], _ => rfl
  | _ :: _, 0 => rfl
  | a :: r, i + 1 => by show a :: ovr r i [] = _; rw [ovr_nil r i]
theorem ovr_eq {α : Type} : ∀ (l : List α) (i : Nat) (xs : List α), i + xs.length ≤ l.length → ovr l i xs = l.take i ++ xs ++ l.drop (i + xs.length)
  | [], i, xs, h => by
    have : xs = [] := List.length_eq_zero_iff.1 (by simp only [List.length_nil] at h; omega)
    subst this
    simp [ovr, nilF2]
  | a :: r, 0, [], h => rfl
  | a :: r, 0, x :: ys, h => by
    show x :: ovr r 0 ys = _
    rw [ovr_eq r 0 ys (by simp at h ⊢; omega)]
    simp
  | a :: r, i + 1, xs, h => by
    show a :: ovr r i xs = _
    rw [ovr_eq r i xs (by simp at h; omega)]
    simp [show i + 1 + xs.length = (i + xs.length) + 1 by omega]
theorem ovr_len {α : Type} (l : List α) (i : Nat) (xs : List α) (h : i + xs.length ≤ l.length) : (ovr l i xs).length = l.length := by
  rw [ovr_eq l i xs h]
  simp
  omega
theorem cases8 {p : Nat → Prop} (h0 : p 0) (h1 : p 1) (h2 : p 2) (h3 : p 3) (h4 : p 4) (h5 : p 5) (h6 : p 6) (h7 : p 7) : ∀ i, i < 8 → p i := by
  intro i hi
  match i, hi with
  | 0, _ => exact h0
  | 1, _ => exact h1
  | 2, _ => exact h2
  | 3, _ => exact h3
  | 4, _ => exact h4
  | 5, _ => exact h5
  | 6, _ => exact h6
  | 7, _ => exact h7
def b8S : Nat → B8 → Option V
  | 0 => B8.a
  | 1 => B8.b
  | 2 => B8.c
  | 3 => B8.d
  | 4 => B8.e
  | 5 => B8.f
  | 6 => B8.g
  | _ => B8.h
noncomputable def b8U : Nat → Option V → B8 → B8
  | 0 => B8.u0
  | 1 => B8.u1
  | 2 => B8.u2
  | 3 => B8.u3
  | 4 => B8.u4
  | 5 => B8.u5
  | 6 => B8.u6
  | _ => B8.u7
def b64S : Nat → B64 → B8
  | 0 => B64.a
  | 1 => B64.b
  | 2 => B64.c
  | 3 => B64.d
  | 4 => B64.e
  | 5 => B64.f
  | 6 => B64.g
  | _ => B64.h
noncomputable def b64U : Nat → (B8 → B8) → B64 → B64
  | 0 => B64.u0
  | 1 => B64.u1
  | 2 => B64.u2
  | 3 => B64.u3
  | 4 => B64.u4
  | 5 => B64.u5
  | 6 => B64.u6
  | _ => B64.u7
def frS : Nat → FR → B8
  | 0 => FR.a
  | 1 => FR.b
  | 2 => FR.c
  | 3 => FR.d
  | 4 => FR.e
  | 5 => FR.f
  | 6 => FR.g
  | _ => FR.h
noncomputable def frU : Nat → (B8 → B8) → FR → FR
  | 0 => FR.u0
  | 1 => FR.u1
  | 2 => FR.u2
  | 3 => FR.u3
  | 4 => FR.u4
  | 5 => FR.u5
  | 6 => FR.u6
  | _ => FR.u7
def frX : Nat → FR → B64
  | 1 => FR.x1
  | 2 => FR.x2
  | 3 => FR.x3
  | 4 => FR.x4
  | 5 => FR.x5
  | 6 => FR.x6
  | _ => FR.x7
noncomputable def frW : Nat → (B64 → B64) → FR → FR
  | 1 => FR.w1
  | 2 => FR.w2
  | 3 => FR.w3
  | 4 => FR.w4
  | 5 => FR.w5
  | 6 => FR.w6
  | _ => FR.w7
theorem b8_su : ∀ i, i < 8 → ∀ j, j < 8 → ∀ v t, b8S i (b8U j v t) = if i = j then v else b8S i t := by
  refine cases8 ?_ ?_ ?_ ?_ ?_ ?_ ?_ ?_ <;> (refine cases8 ?_ ?_ ?_ ?_ ?_ ?_ ?_ ?_ <;> (intro v t; rfl))
theorem b64_su : ∀ i, i < 8 → ∀ j, j < 8 → ∀ v t, b64S i (b64U j v t) = if i = j then v (b64S i t) else b64S i t := by
  refine cases8 ?_ ?_ ?_ ?_ ?_ ?_ ?_ ?_ <;> (refine cases8 ?_ ?_ ?_ ?_ ?_ ?_ ?_ ?_ <;> (intro v t; rfl))
theorem fr_su : ∀ i, i < 8 → ∀ j, j < 8 → ∀ v t, frS i (frU j v t) = if i = j then v (frS i t) else frS i t := by
  refine cases8 ?_ ?_ ?_ ?_ ?_ ?_ ?_ ?_ <;> (refine cases8 ?_ ?_ ?_ ?_ ?_ ?_ ?_ ?_ <;> (intro v t; rfl))
theorem cases7 {p : Nat → Prop} (h1 : p 1) (h2 : p 2) (h3 : p 3) (h4 : p 4) (h5 : p 5) (h6 : p 6) (h7 : p 7) : ∀ i, 0 < i → i < 8 → p i := by
  intro i h hi
  match i, h, hi with
  | 1, _, _ => exact h1
  | 2, _, _ => exact h2
  | 3, _, _ => exact h3
  | 4, _, _ => exact h4
  | 5, _, _ => exact h5
  | 6, _, _ => exact h6
  | 7, _, _ => exact h7
theorem fr_xw : ∀ i, 0 < i → i < 8 → ∀ j, 0 < j → j < 8 → ∀ v t, frX i (frW j v t) = if i = j then v (frX i t) else frX i t := by
  refine cases7 ?_ ?_ ?_ ?_ ?_ ?_ ?_ <;> (refine cases7 ?_ ?_ ?_ ?_ ?_ ?_ ?_ <;> (intro v t; rfl))
theorem fr_sw : ∀ i, i < 8 → ∀ j, 0 < j → j < 8 → ∀ v t, frS i (frW j v t) = frS i t := by
  refine cases8 ?_ ?_ ?_ ?_ ?_ ?_ ?_ ?_ <;> (refine cases7 ?_ ?_ ?_ ?_ ?_ ?_ ?_ <;> (intro v t; rfl))
theorem fr_xu : ∀ i, 0 < i → i < 8 → ∀ j, j < 8 → ∀ v t, frX i (frU j v t) = frX i t := by
  refine cases7 ?_ ?_ ?_ ?_ ?_ ?_ ?_ <;> (refine cases8 ?_ ?_ ?_ ?_ ?_ ?_ ?_ ?_ <;> (intro v t; rfl))
noncomputable def slG (q i j : Nat) (F : FR) : Option V := if q = 0 then b8S j (frS i F) else if q < 8 then b8S j (b64S i (frX q F)) else none
noncomputable def slP (q i j : Nat) (x : Option V) (F : FR) : FR := if q = 0 then frU i (b8U j x) F else if q < 8 then frW q (b64U i (b8U j x)) F else FR.z
theorem opB_eq (g : FR → B8) (F : FR) : ∀ j, j < 8 → gtX (opB g j) F = b8S j (g F) := by
  refine cases8 ?_ ?_ ?_ ?_ ?_ ?_ ?_ ?_ <;> rfl
theorem opF_eq (F : FR) (j : Nat) (hj : j < 8) : ∀ i, i < 8 → gtX (opF j i) F = b8S j (frS i F) := by
  refine cases8 ?_ ?_ ?_ ?_ ?_ ?_ ?_ ?_ <;> exact opB_eq _ F j hj
theorem opB3_eq (h : FR → B64) (g : B64 → B8) (F : FR) : ∀ j, j < 8 → gtX (opB3 h g j) F = b8S j (g (h F)) := by
  refine cases8 ?_ ?_ ?_ ?_ ?_ ?_ ?_ ?_ <;> rfl
theorem opF3_eq (h : FR → B64) (F : FR) (j : Nat) (hj : j < 8) : ∀ i, i < 8 → gtX (opF3 h j i) F = b8S j (b64S i (h F)) := by
  refine cases8 ?_ ?_ ?_ ?_ ?_ ?_ ?_ ?_ <;> exact opB3_eq _ _ F j hj
theorem opG_eq (F : FR) (i j : Nat) (hi : i < 8) (hj : j < 8) (q : Nat) : gtX (opG i j q) F = slG q i j F := by
  match q with
  | 0 => exact opF_eq F j hj i hi
  | 1 => exact opF3_eq _ F j hj i hi
  | 2 => exact opF3_eq _ F j hj i hi
  | 3 => exact opF3_eq _ F j hj i hi
  | 4 => exact opF3_eq _ F j hj i hi
  | 5 => exact opF3_eq _ F j hj i hi
  | 6 => exact opF3_eq _ F j hj i hi
  | 7 => exact opF3_eq _ F j hj i hi
  | q + 8 => simp [slG, opG]; rfl
theorem dsB_eq (g : (B8 → B8) → FR → FR) (x : Option V) (F : FR) : ∀ j, j < 8 → put (dsB g j) x F = g (b8U j x) F := by
  refine cases8 ?_ ?_ ?_ ?_ ?_ ?_ ?_ ?_ <;> rfl
theorem dsF_eq (x : Option V) (F : FR) (j : Nat) (hj : j < 8) : ∀ i, i < 8 → put (dsF j i) x F = frU i (b8U j x) F := by
  refine cases8 ?_ ?_ ?_ ?_ ?_ ?_ ?_ ?_ <;> exact dsB_eq _ x F j hj
theorem dsB3_eq (h : (B64 → B64) → FR → FR) (g : (B8 → B8) → B64 → B64) (x : Option V) (F : FR) : ∀ j, j < 8 → put (dsB3 h g j) x F = h (g (b8U j x)) F := by
  refine cases8 ?_ ?_ ?_ ?_ ?_ ?_ ?_ ?_ <;> rfl
theorem dsF3_eq (h : (B64 → B64) → FR → FR) (x : Option V) (F : FR) (j : Nat) (hj : j < 8) : ∀ i, i < 8 → put (dsF3 h j i) x F = h (b64U i (b8U j x)) F := by
  refine cases8 ?_ ?_ ?_ ?_ ?_ ?_ ?_ ?_ <;> exact dsB3_eq _ _ x F j hj
theorem dsG_eq (x : Option V) (F : FR) (i j : Nat) (hi : i < 8) (hj : j < 8) (q : Nat) : put (dsG i j q) x F = slP q i j x F := by
  match q with
  | 0 => exact dsF_eq x F j hj i hi
  | 1 => exact dsF3_eq _ x F j hj i hi
  | 2 => exact dsF3_eq _ x F j hj i hi
  | 3 => exact dsF3_eq _ x F j hj i hi
  | 4 => exact dsF3_eq _ x F j hj i hi
  | 5 => exact dsF3_eq _ x F j hj i hi
  | 6 => exact dsF3_eq _ x F j hj i hi
  | 7 => exact dsF3_eq _ x F j hj i hi
  | q + 8 => simp [slP, dsG]; rfl
theorem FR.get_eq (F : FR) (t : Nat) : F.get t = slG (t / 64) (t % 64 / 8) (t % 8) F := opG_eq F _ _ (by show t % 64 / 8 < 8; omega) (by show t % 8 < 8; omega) _
theorem FR.set_eq (F : FR) (t : Nat) (x : Option V) : F.set t x = slP (t / 64) (t % 64 / 8) (t % 8) x F := dsG_eq x F _ _ (by show t % 64 / 8 < 8; omega) (by show t % 8 < 8; omega) _
theorem z_get (q i j : Nat) : slG q i j FR.z = none := by
  unfold slG
  have e1 : ∀ i, frS i FR.z = B8.z := fun i => by unfold frS; split <;> rfl
  have e2 : ∀ j, b8S j B8.z = none := fun j => by unfold b8S; split <;> rfl
  have e3 : ∀ q, frX q FR.z = B64.z := fun i => by unfold frX; split <;> rfl
  have e4 : ∀ j, b64S j B64.z = B8.z := fun j => by unfold b64S; split <;> rfl
  split
  · rw [e1, e2]
  · split
    · rw [e3, e4, e2]
    · rfl
theorem FR.get_z (t : Nat) : FR.z.get t = none := by rw [FR.get_eq, z_get]
theorem FR.get_set (F : FR) (t j : Nat) (x : Option V) (v : V) (h : (F.set t x).get j = some v) : (j = t ∧ x = some v) ∨ (j ≠ t ∧ F.get j = some v) := by
  rw [FR.get_eq, FR.set_eq] at h
  rw [FR.get_eq]
  have hb : j % 8 < 8 := by omega
  have hb' : t % 8 < 8 := by omega
  have hc : j % 64 / 8 < 8 := by omega
  have hc' : t % 64 / 8 < 8 := by omega
  unfold slP at h
  split at h
  · rename_i ht
    unfold slG at h ⊢
    split at h
    · rename_i hj
      rw [if_pos hj]
      rw [fr_su _ hc _ hc'] at h
      split at h
      · rename_i he
        rw [b8_su _ hb _ hb'] at h
        split at h
        · rename_i he2; exact .inl ⟨by omega, h⟩
        · rename_i he2; exact .inr ⟨fun e => he2 (by rw [e]), h⟩
      · rename_i he; exact .inr ⟨fun e => he (by rw [e]), h⟩
    · rename_i hj
      rw [if_neg hj]
      split at h
      · rename_i hj8
        rw [if_pos hj8]
        rw [fr_xu _ (by omega) hj8 _ hc'] at h
        exact .inr ⟨fun e => hj (by rw [e]; exact ht), h⟩
      · cases h
  · rename_i ht
    split at h
    · rename_i ht8
      unfold slG at h ⊢
      split at h
      · rename_i hj
        rw [if_pos hj]
        rw [fr_sw _ hc _ (by omega) ht8] at h
        exact .inr ⟨fun e => ht (by rw [← e]; exact hj), h⟩
      · rename_i hj
        rw [if_neg hj]
        split at h
        · rename_i hj8
          rw [if_pos hj8]
          rw [fr_xw _ (by omega) hj8 _ (by omega) ht8] at h
          split at h
          · rename_i he
            rw [b64_su _ hc _ hc'] at h
            split at h
            · rename_i he2
              rw [b8_su _ hb _ hb'] at h
              split at h
              · rename_i he3; exact .inl ⟨by omega, h⟩
              · rename_i he3; exact .inr ⟨fun e => he3 (by rw [e]), h⟩
            · rename_i he2; exact .inr ⟨fun e => he2 (by rw [e]), h⟩
          · rename_i he; exact .inr ⟨fun e => he (by rw [e]), h⟩
        · cases h
    · rw [z_get] at h
      cases h
end Go.CE
end
section
namespace Go.CE
noncomputable def evC (α : Type) (a : α) (_ : List α) (ih : Bool → List α) (b : Bool) : List α := Bool.casesOn (motive := fun _ => List α) b (ih true) (a :: ih false)
def evE (α : Type) (_ : Bool) : List α := []
noncomputable def evs {α : Type} (l : List α) : Bool → List α := List.rec (motive := fun _ => Bool → List α) (evE α) (evC α) l
noncomputable def ofLC (α : Type) (ih : List α → PT α) : List α → PT α
  | [] => .e
  | a :: r => .n (ih (evs r true)) (some a) (ih (evs r false))
noncomputable def ofL {α : Type} (d : Nat) : List α → PT α := Nat.rec (motive := fun _ => List α → PT α) (fun _ => .e) (fun _ ih l => ofLC α ih l) d
section
variable (P : Program)
def aggD : TypeDesc → Bool
  | .struct _ => true
  | .array _ _ => true
  | _ => false
def udO : Option TypeInfo → Option TypeDesc
  | some i => some i.desc
  | none => none
noncomputable def udD (t : PT TypeInfo) : TypeDesc → Option TypeDesc
  | .named _ u => udO (t.get u)
  | d => some d
noncomputable def udT2 (t : PT TypeInfo) : Option TypeDesc → Option TypeDesc
  | some d => udD t d
  | none => none
noncomputable def udT (t : PT TypeInfo) (T : Nat) : Option TypeDesc := udT2 t (udO (t.get T))
def fiOf3 (off T : Nat) (bl : Bool) : Option TypeInfo → Option TypeDesc → Option FI
  | some i, some d => some ⟨off, T, i.size, aggD d, bl⟩
  | _, _ => none
noncomputable def fiOf (t : PT TypeInfo) (d : Field) : Option FI := fiOf3 d.offset d.type (d.name == "_") (t.get d.type) (udT t d.type)
noncomputable def tkOf (t : PT TypeInfo) : TypeDesc → TK
  | .bool => .bool
  | .int k => .int k
  | .string => .str
  | .pointer e => .ptr e
  | .slice e => .sl e
  | .array n e => .arr n e
  | .map k e => .mp k e
  | .struct fs => .st (fs.toList.map (fiOf t))
  | .interface _ => .ifc
  | .func _ _ _ => .fn
  | _ => .oth
noncomputable def tiOf2 (t : PT TypeInfo) (i : TypeInfo) : Option TypeDesc → Option TI
  | some u => some ⟨i.size, aggD u, i.zero, i.bytes, tkOf t u⟩
  | none => none
noncomputable def tiOf (t : PT TypeInfo) (i : TypeInfo) : Option TI := tiOf2 t i (udD t i.desc)
def meOf (T : Nat) (name : String) : Option (FuncId × Bool) := match P.info? T with
  | some i => match i.methods.toList.find? (·.name == name) with
    | some m => bif m.path.isEmpty then (match m.func with
      | some (f, p) => match P.underlying T with
        | some (.pointer _) => some (f, !p)
        | some _ => bif p then none else some (f, false)
        | none => none
      | none => none) else none
    | none => none
  | none => none
noncomputable def cfg (gl : PT (List Value)) : Cfg := ⟨ofL 10 (P.types.toList.map (tiOf (ofL 10 P.types.toList))), ofL 10 P.funcs.toList, gl, meOf P, fun T => match P.info? T with | some i => i.comparable | none => false, P.stoodInHeld, P.eqGuardType P.depth, .e, .e, fun _ => false⟩
end
end Go.CE
end
section
namespace Go.CE
def wOk : Bool → Nat → Option Nat
  | true, n => some n
  | false, _ => none
def toW : V → Option Nat
  | .v (.int .u64 (.ofNat n)) => wOk (Nat.blt n 18446744073709551616) n
  | _ => none
def toB : V → Option Nat
  | .v (.int .u8 (.ofNat n)) => wOk (Nat.blt n 256) n
  | _ => none
def toI : V → Option Nat
  | .v (.int .i64 (.ofNat n)) => wOk (Nat.blt n 256) n
  | _ => none
def word4 : Option Nat → Option Nat → Option Nat → Option Nat → Option Nat
  | some x, some y, some z, some w => some (Nat.add x (Nat.add (Nat.mul y 18446744073709551616) (Nat.add (Nat.mul z 340282366920938463463374607431768211456) (Nat.mul w 6277101735386680763835789423207666416102355444464034512896))))
  | _, _, _, _ => none
def words : List V → Option Nat
  | [a, b, c, d] => word4 (toW a) (toW b) (toW c) (toW d)
  | _ => none
def w64 (x : Nat) (p : Nat) : V := iV .u64 (.ofNat (Nat.mod (Nat.div x p) 18446744073709551616))
def setV (x : Nat) : V := .g [w64 x 1, w64 x 18446744073709551616, w64 x 340282366920938463463374607431768211456, w64 x 6277101735386680763835789423207666416102355444464034512896]
def h1 : Option Nat → Option Nat → (Nat → Nat → V) → HP → Nat → R
  | some a, some b, f, H, n => .ok (f a b) H n
  | _, _, _, _, _ => .no ["hook"]
def hasV (x b : Nat) : V := .b (tb x b)
def nx3 : Bool → Nat → HP → Nat → R
  | true, b, H, n => .ok (.t [iV .u8 (.ofNat b), .b true]) H n
  | false, _, _, _ => .no ["next"]
def nx2 (y k from_ : Nat) (H : HP) (n : Nat) : R := nx3 (and (tb y k) (Nat.beq (Nat.mod y (Nat.pow 2 k)) 0)) (Nat.add from_ k) H n
def nx1 (y from_ : Nat) : Bool → HP → Nat → R
  | true, H, n => .ok (.t [iV .u8 (.ofNat 0), .b false]) H n
  | false, H, n => nx2 y (Nat.log2 (Nat.xor y (Nat.sub y 1))) from_ H n
def nx0 : Option Nat → Option Nat → HP → Nat → R
  | some x, some from_, H, n => nx1 (Nat.shiftRight x from_) from_ (Nat.beq (Nat.shiftRight x from_) 0) H n
  | _, _, _, _ => .no ["next"]
def span3 : Bool → Nat → Nat → Nat
  | true, lo, hi => Nat.mul (Nat.sub (Nat.pow 2 (Nat.sub (Nat.succ hi) lo)) 1) (Nat.pow 2 lo)
  | false, _, _ => 0
def spanV (lo hi : Nat) : V := setV (span3 (Nat.ble lo hi) lo hi)
def full : Nat := 115792089237316195423570985008687907853269984665640564039457584007913129639935
def hkHas : List V → HP → Nat → R
  | [a, b], H, n => h1 (words a.cells) (toB b) hasV H n
  | _, _, _ => .no ["hook"]
def hkNext : List V → HP → Nat → R
  | [a, b], H, n => nx0 (words a.cells) (toI b) H n
  | _, _, _ => .no ["hook"]
def hk22 (f : Nat → Nat → V) : List V → HP → Nat → R
  | [a, b], H, n => h1 (words a.cells) (words b.cells) f H n
  | _, _, _ => .no ["hook"]
def hkN : List V → HP → Nat → R
  | [a], H, n => h1 (words a.cells) (some 0) (fun x _ => setV (Nat.xor full x)) H n
  | _, _, _ => .no ["hook"]
def hkS : List V → HP → Nat → R
  | [a, b], H, n => h1 (toB a) (toB b) spanV H n
  | _, _, _ => .no ["hook"]
def idx : List UInt8 → Nat → Nat → Int
  | [], _, _ => .negSucc 0
  | b :: r, c, i => match Nat.beq b.toNat c with
    | true => .ofNat i
    | false => idx r c (Nat.succ i)
def hkI2 : List UInt8 → Option Nat → HP → Nat → R
  | s, some c, H, n => .ok (iV .i64 (idx s c 0)) H n
  | _, none, _, _ => .no ["hook"]
def hkI : List V → HP → Nat → R
  | [.v (.string s), c], H, n => hkI2 s.data.toList (toB c) H n
  | _, _, _ => .no ["hook"]
noncomputable def setL {α : Type} (t : PT α) : List (Nat × α) → PT α
  | [] => t
  | (k, x) :: r => setL (t.set k (some x)) r
def natI : V → Option Nat
  | .v (.int .i64 (.ofNat n)) => some n
  | _ => none
def natsI : List V → Option (List Nat)
  | [] => some []
  | x :: r => conO (natI x) (natsI r)
def keysOf : List (V × V) → List V
  | [] => []
  | (k, _) :: r => k :: keysOf r
noncomputable def forget (F : FR) : List Nat → FR
  | [] => F
  | t :: r => forget (F.set t none) r
def colB : Bool → FR → HP → Nat → DL → X
  | true, F, H, n, D => .nor F H n D
  | false, _, _, _, _ => .no ["collect"]
def isN : Option (List Nat) → Bool
  | some _ => true
  | none => false
noncomputable def col3 : Option O → FR → HP → Nat → DL → List (V × V) → Nat → Nat → Nat → Nat → Nat → X
  | some (.c T l len), F, H, n, D, es, ki, km, m, k, c => colB (and (and (and (Nat.beq m (lng es)) (Nat.beq c (lng es))) (and (Nat.beq len c) (isN (natsI (keysOf es))))) (and (and (okK ki) (okK k)) (and (not (Nat.beq k ki)) (and (not (Nat.beq k km)) (Nat.beq T 3)))))
      ((forget F [8, 47, 48, 49, 50, 51, 52, 53, 54]).set 7 (some (.s k 0 c (.ex c)))) ((H.set ki none).set k (some (.q T (keysOf es)))) n D
  | _, _, _, _, _, _, _, _, _, _, _ => .no ["collect"]
noncomputable def col2 : Option O → Option V → Nat → Nat → Nat → RS
  | some (.m es), some (.s k 0 0 (.ex c)), ki, km, m => fun F H n D => col3 (H.get k) F H n D es ki km m k c
  | _, _, _, _, _ => fun _ _ _ _ => .no ["collect"]
noncomputable def col1 : Option O → Nat → RS
  | some (.it km m), ki => fun F H n D => col2 (H.get km) (F.get 7) ki km m F H n D
  | _, _ => fun _ _ _ _ => .no ["collect"]
noncomputable def col0 : Option V → RS
  | some (.p ki 0) => fun F H n D => col1 (H.get ki) ki F H n D
  | _ => fun _ _ _ _ => .no ["collect"]
noncomputable def collect : RS := fun F H n D => col0 (F.get 46) F H n D
noncomputable def insI (x : Nat) : List Nat → List Nat
  | [] => [x]
  | y :: r => match Nat.ble x y with
    | true => x :: y :: r
    | false => y :: insI x r
noncomputable def sortN : List Nat → List Nat
  | [] => []
  | x :: r => insI x (sortN r)
noncomputable def srt2 : Option (List Nat) → Nat → HP → Nat → Nat → Bool → R
  | some l, T, H, n, k, true => .ok (.t []) (H.set k (some (.c T ((sortN l).map V.nat) (lng l)))) n
  | _, _, _, _, _, _ => .no ["sort"]
noncomputable def srt1 : Option O → Nat → Nat → HP → Nat → R
  | some (.q T l), k, m, H, n => srt2 (natsI l) T H n k (and (okK k) (and (Nat.beq m (lng l)) (okK m)))
  | _, _, _, _, _ => .no ["sort"]
noncomputable def hkSort : List V → HP → Nat → R
  | [.s k 0 m _], H, n => srt1 (H.get k) k m H n
  | _, _, _ => .no ["sort"]
end Go.CE
end
