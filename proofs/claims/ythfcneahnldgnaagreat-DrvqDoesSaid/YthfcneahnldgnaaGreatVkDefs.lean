/- Vk, part 1: interaction trees of Go functions, their weakest preconditions, and the symbolic execution 'sx' that makes the tree of a function out of the loaded code. No statement about the program stands here. -/
import Derived.WalkKit
import Derived.Orders
import Derived.Deep.LoopGhost
import Derived.Recover
namespace Go.Proofs.YthfcneahnldgnaaGreat.Vk
open Go

/-! ### Kinds of values -/
inductive Sc where
  | int (k : IntKind) | bool | str | ptr | adr | slc | map | val
  deriving DecidableEq

structure Sl where
  a : Option Addr
  n : Nat
  c : Nat

@[reducible] def Sc.D : Sc → Type
  | .int _ => Int
  | .bool => Bool
  | .str => ByteArray
  | .ptr => Option Addr
  | .adr => Addr
  | .slc => Sl
  | .map => Option Nat
  | .val => Value

def Sc.v : (s : Sc) → s.D → Value
  | .int k, n => .int k n
  | .bool, b => .bool b
  | .str, s => .string s
  | .ptr, p => .pointer p
  | .adr, a => .pointer (some a)
  | .slc, s => .slice s.a s.n s.c
  | .map, r => .map r
  | .val, v => v

@[reducible] def DL : List Sc → Type
  | [] => Unit
  | s :: r => s.D × DL r
def vL : (l : List Sc) → DL l → List Value
  | [], _ => []
  | s :: r, x => s.v x.1 :: vL r x.2

inductive Kd where
  | sc (s : Sc) | agg (l : List Sc)
@[reducible] def Kd.D : Kd → Type
  | .sc s => s.D
  | .agg l => DL l
def Kd.v : (k : Kd) → k.D → Value
  | .sc s, x => s.v x
  | .agg l, x => .agg (vL l x).toArray
def Kd.cells : (k : Kd) → k.D → List Value
  | .sc s, x => [s.v x]
  | .agg l, x => vL l x

@[reducible] def DT : List Kd → Type
  | [] => Unit
  | k :: r => k.D × DT r
def vT : (l : List Kd) → DT l → List Value
  | [], _ => []
  | k :: r, x => k.v x.1 :: vT r x.2

inductive Rk where
  | one (k : Kd) | tup (l : List Kd)
@[reducible] def Rk.D : Rk → Type
  | .one k => k.D
  | .tup l => DT l
def Rk.v : (k : Rk) → k.D → Value
  | .one k, x => k.v x
  | .tup l, x => .tuple (vT l x).toArray

/-! Short names for the printed trees. -/
abbrev Sc.I : Sc := .int .i64
abbrev Sc.U8 : Sc := .int .u8
abbrev Sc.U16 : Sc := .int .u16
abbrev Sc.U32 : Sc := .int .u32
abbrev Sc.U64 : Sc := .int .u64
abbrev Kd.I : Kd := .sc .I
abbrev Kd.U8 : Kd := .sc .U8
abbrev Kd.U16 : Kd := .sc .U16
abbrev Kd.U32 : Kd := .sc .U32
abbrev Kd.U64 : Kd := .sc .U64
abbrev Kd.B : Kd := .sc .bool
abbrev Kd.S : Kd := .sc .str
abbrev Kd.P : Kd := .sc .ptr
abbrev Kd.A : Kd := .sc .adr
abbrev Kd.L : Kd := .sc .slc
abbrev Kd.M : Kd := .sc .map
abbrev Kd.V : Kd := .sc .val
abbrev Rk.I : Rk := .one .I
abbrev Rk.U8 : Rk := .one .U8
abbrev Rk.U16 : Rk := .one .U16
abbrev Rk.U32 : Rk := .one .U32
abbrev Rk.U64 : Rk := .one .U64
abbrev Rk.B : Rk := .one .B
abbrev Rk.S : Rk := .one .S
abbrev Rk.P : Rk := .one .P
abbrev Rk.L : Rk := .one .L
abbrev Rk.M : Rk := .one .M
abbrev Rk.V : Rk := .one .V

/-! ### Trees -/
inductive Tr : Type where
  | fail
  | ret (v : Value)
  | pan (v : Value)
  | jmp (l : Nat) (vs : List Value)
  | need (p : Prop) (t : Tr)
  | bind (l : Nat) (ks : List Kd) (m : Tr) (k : DT ks → Tr)
  | loop (l : Nat) (ks : List Kd) (s : DT ks) (b : DT ks → Tr)
  | ld (p : Addr) (k : Kd) (c : k.D → Tr)
  | st (p : Addr) (vs : List Value) (c : Tr)
  | new (T : TypeId) (vs : List Value) (c : Addr → Tr)
  | call (f : FuncId) (as : Array Value) (k : Rk) (c : k.D → Tr)
  | calln (f : FuncId) (as : Array Value) (k : Rk) (c : k.D → Tr)
  | callv (np : Bool) (f : Value) (as : Array Value) (k : Rk) (c : k.D → Tr)
  | sem (s : Sem Value) (k : Rk) (c : k.D → Tr)
  | semU (s : Sem Unit) (c : Tr)
  | tick (c : Tr)
  | keep (l : List (Addr × List Value)) (c : Tr)
  | both (a b : Tr)
  | dfr (f : Value) (as : Array Value) (rs : List (Addr × Kd)) (c : Tr)

/-- Two ways by a test; a literal test leaves one. -/
def Tr.cond (b : Bool) (t e : Tr) : Tr := match b with | true => t | false => e
/-- A pointer that is to be none of nil. -/
def Tr.nil (p : Option Addr) (c : Addr → Tr) : Tr := match p with | some a => c a | none => .fail

def hasL (w : World) (p : Addr) : Nat → List Value → Prop
  | _, [] => True
  | i, v :: r => w.cell? (p.add i) = some v ∧ hasL w p (i + 1) r
def stW (w : World) (p : Addr) : Nat → List Value → (World → Prop) → Prop
  | _, [], K => K w
  | i, v :: r, K => v.oneCell' = true ∧ (∃ u, w.cell? (p.add i) = some u) ∧ w.frozen? (p.add i) = false ∧ stW (w.setCell (p.add i) v) p (i + 1) r K

abbrev Cont := List Value → World → Prop
/-- What is to follow behind a jump, by its level. -/
abbrev Conts := Nat → Cont
def Conts.set (Ks : Conts) (l : Nat) (J : Cont) : Conts := fun i => bif Nat.beq i l then J else Ks i
def Conts.none : Conts := fun _ _ _ => False

/-! What follows a deferred call. -/
def ldsP (w : World) : List (Addr × Kd) → List Value → Prop
  | [], vs => vs = []
  | (p, k) :: r, vs => ∃ (x : k.D) (us : List Value), hasL w p 0 (k.cells x) ∧ vs = k.v x :: us ∧ ldsP w r us
def tupV : List Value → Value
  | [v] => v
  | vs => .tuple vs.toArray
def LeavesT (R : Ending → World → Prop) (rs : List (Addr × Kd)) : FrameMode → World → Prop
  | .returning, w => ∃ vs, ldsP w rs vs ∧ R (.returned (tupV vs)) w
  | .panicking ch, w => R (.panicked ch) w
  | .run, _ => False
def AfterD (R : Ending → World → Prop) (rs : List (Addr × Kd)) : Ending → FrameMode → World → Prop
  | .returned _, u, w => LeavesT R rs (settle u) w
  | .panicked ch, u, w => LeavesT R rs (raised u ch) w
  | .outgrown, _, _ => False
def LeaveR (P : Program) (g : FuncId) (args : Array Value) (rs : List (Addr × Kd)) (R : Ending → World → Prop) : Ending → World → Prop
  | .returned _, w => CallsD P g args .returning w (AfterD R rs)
  | .panicked ch, w => CallsD P g args (.panicking ch) w (AfterD R rs)
  | .outgrown, _ => False

def Tr.wp (P : Program) : Tr → (Ending → World → Prop) → Conts → World → Prop
  | .fail, _, _, _ => False
  | .ret v, R, _, w => R (.returned v) w
  | .pan v, R, _, w => R (.panicked [{ v, recovered := false }]) w
  | .jmp l vs, _, Ks, w => Ks l vs w
  | .need p t, R, Ks, w => p ∧ t.wp P R Ks w
  | .bind l ks m k, R, Ks, w => m.wp P R (Ks.set l fun vs w' => ∃ s, vs = vT ks s ∧ (k s).wp P R Ks w') w
  | .loop l ks s b, R, Ks, w => ∃ (I : Nat → DT ks → World → Prop) (n : Nat), I n s w ∧ ∀ n s w, I n s w →
      (b s).wp P R (Ks.set l fun vs w' => ∃ n' s', n' < n ∧ vs = vT ks s' ∧ I n' s' w') w
  | .ld p k c, R, Ks, w => ∃ x, hasL w p 0 (k.cells x) ∧ (c x).wp P R Ks w
  | .st p vs c, R, Ks, w => stW w p 0 vs (fun w' => c.wp P R Ks w')
  | .new T vs c, R, Ks, w => (∀ v ∈ vs, v.oneCell' = true) ∧ (c ⟨w.heap.size, 0, none⟩).wp P R Ks (w.alloc (.cells vs.toArray T (0, 0)))
  | .call f as k c, R, Ks, w => Calls P f as w fun e w' => match e with
      | .returned v => ∃ x, v = k.v x ∧ (c x).wp P R Ks w'
      | .panicked ch => R (.panicked ch) w'
      | .outgrown => False
  | .calln f as k c, R, Ks, w => Calls P f as w fun e w' => match e with
      | .returned v => ∃ x, v = k.v x ∧ (c x).wp P R Ks w'
      | .panicked ch => R (.panicked ch) w'
      | .outgrown => False
  | .callv np f as k c, R, Ks, w => ∃ g first caps, f = .func (.func g) first caps ∧ (∀ args w, (callFunc g args).run P w = .ok (.enter g args) w) ∧ Calls P g (first ++ as ++ caps) w fun e w' => match e with
      | .returned v => ∃ x, v = k.v x ∧ (c x).wp P R Ks w'
      | .panicked ch => np = false ∧ R (.panicked ch) w'
      | .outgrown => False
  | .sem s k c, R, Ks, w => ∃ x w', s.run P w = .ok (k.v x) w' ∧ (c x).wp P R Ks w'
  | .semU s c, R, Ks, w => ∃ w', s.run P w = .ok () w' ∧ c.wp P R Ks w'
  | .tick c, R, Ks, w => c.wp P R Ks w.drew
  | .keep l c, R, Ks, w => (∀ x ∈ l, hasL w x.1 0 x.2) ∧ c.wp P R Ks w
  | .both a b, R, Ks, w => a.wp P R Ks w ∧ b.wp P R Ks w
  | .dfr f as rs c, R, Ks, w => ∃ g first caps, f = .func (.func g) first caps ∧ (∀ args w, (callFunc g args).run P w = .ok (.enter g args) w) ∧ c.wp P (LeaveR P g (first ++ as ++ caps) rs R) Ks w

/-! ### Environments -/
abbrev Env := Nat → Option Value
def Env.set (e : Env) (d : Nat) (v : Value) : Env := fun i => bif Nat.beq i d then some v else e i
def Env.forget (e : Env) (l : List Nat) : Env := fun i => bif l.any (Nat.beq i ·) then none else e i
def Env.put (e : Env) : Option Nat → Value → Env
  | some d, v => e.set d v
  | none, _ => e
def Env.putL (e : Env) : List Nat → List Value → Env
  | d :: ds, v :: vs => (e.putL ds vs).set d v
  | _, _ => e
def Env.ofL (l : List Value) : Env := fun i => l[i]?
def Env.ev (e : Env) : Operand → Option Value
  | .tmp t => e t
  | .const v => some v
  | .global g => some (.pointer (some ⟨g, 0, none⟩))
  | .func f => some (.func (.func f) #[] #[])

/-! ### Types -/
def optL {α β : Type} (g : α → Option β) : List α → Option (List β)
  | [] => some []
  | x :: r => match g x with
    | some y => match optL g r with
      | some ys => some (y :: ys)
      | none => none
    | none => none
def scOf (P : Program) (t : TypeId) : Option Sc :=
  match P.underlying t with
  | some (.int k) => some (.int k)
  | some .bool => some .bool
  | some .string => some .str
  | some (.pointer _) => some .ptr
  | some (.slice _) => some .slc
  | some (.map _ _) => some .map
  | some (.func _ _ _) => some .val
  | some (.interface _) => some .val
  | _ => none
def repL (l : List Sc) : Nat → List Sc
  | 0 => []
  | n + 1 => l ++ repL l n
def kdL (P : Program) : Nat → TypeId → Option (List Sc)
  | 0, _ => none
  | d + 1, t =>
    match P.underlying t with
    | some (.struct fs) => (optL (fun f : Field => kdL P d f.type) fs.toList).map List.flatten
    | some (.array n e) => (kdL P d e).map (repL · n)
    | _ => (scOf P t).map ([·])
def kdOf (P : Program) (t : TypeId) : Option Kd :=
  match P.underlying t with
  | some (.struct _) => (kdL P 9 t).map .agg
  | some (.array _ _) => (kdL P 9 t).map .agg
  | _ => (scOf P t).map .sc
def rkOf (P : Program) (t : TypeId) : Option Rk :=
  match P.underlying t with
  | some (.tuple ts) => (optL (kdOf P) ts.toList).map .tup
  | _ => (kdOf P t).map .one
def sizeP (P : Program) (t : TypeId) : Option Nat := (P.info? t).map (·.size)
def zeroP (P : Program) (t : TypeId) : Option Value := (P.info? t).bind (·.zero)
def fitsK (P : Program) (t : TypeId) : Kd → Bool
  | .sc _ => true
  | .agg l => match sizeP P t with | some n => Nat.beq n l.length | none => false

end Go.Proofs.YthfcneahnldgnaaGreat.Vk
