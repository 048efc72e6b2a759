/- Vk, part 2: the symbolic execution: the tree of an operation, of a region, of a body. -/
import Derived.Test.YthfcneahnldgnaaGreatVkDefs
namespace Go.Proofs.YthfcneahnldgnaaGreat.Vk
open Go

def band (k : IntKind) (a b : Int) : Int := k.wrap (BitVec.ofInt k.bits a &&& BitVec.ofInt k.bits b).toNat
def bor (k : IntKind) (a b : Int) : Int := k.wrap (BitVec.ofInt k.bits a ||| BitVec.ofInt k.bits b).toNat
def bxor (k : IntKind) (a b : Int) : Int := k.wrap (BitVec.ofInt k.bits a ^^^ BitVec.ofInt k.bits b).toNat
def bandn (k : IntKind) (a b : Int) : Int := k.wrap (BitVec.ofInt k.bits a &&& ~~~ BitVec.ofInt k.bits b).toNat
def bshl (k : IntKind) (a b : Int) : Int := k.wrap (a * 2 ^ (min b.toNat k.bits))
def bshr (k : IntKind) (a b : Int) : Int := a.fdiv (2 ^ (min b.toNat k.bits))
def bt (s : ByteArray) (i : Int) : Int := ((s.data.getD i.toNat 0).toNat : Int)
def slB (a : Option Addr) (l size m : Nat) : Option Addr := if m = l then a else a.map (·.add (l * size))
def strLt (a b : ByteArray) : Bool := Op.bytesLess a.toList b.toList

def isConc (P : Program) (t : TypeId) : Bool := match P.underlying t with | some (.interface _) => false | some _ => true | none => false

def evL (ρ : Operand → Option Value) (l : List Operand) : Option (List Value) := optL ρ l

def strT (op : BinOp) (a b : ByteArray) (K : Option Value → Tr) : Tr :=
  match op with
  | .add => .need (a.size + b.size ≤ 9223372036854775807) (K (some (.string (a ++ b))))
  | .eql => K (some (.bool (decide (a = b))))
  | .neq => K (some (.bool (!decide (a = b))))
  | .lss => K (some (.bool (strLt a b)))
  | .leq => K (some (.bool (strLt a b || decide (a = b))))
  | .gtr => K (some (.bool !(strLt a b || decide (a = b))))
  | .geq => K (some (.bool !strLt a b))
  | _ => .fail

def intT (op : BinOp) (k : IntKind) (a b : Int) (K : Option Value → Tr) : Tr :=
  match op with
  | .add => K (some (.int k (k.wrap (a + b))))
  | .sub => K (some (.int k (k.wrap (a - b))))
  | .mul => K (some (.int k (k.wrap (a * b))))
  | .quo => .need (b ≠ 0) (K (some (.int k (k.wrap (a.tdiv b)))))
  | .rem => .need (b ≠ 0) (K (some (.int k (a.tmod b))))
  | .and => K (some (.int k (band k a b)))
  | .or => K (some (.int k (bor k a b)))
  | .xor => K (some (.int k (bxor k a b)))
  | .andNot => K (some (.int k (bandn k a b)))
  | .eql => K (some (.bool (decide (a = b))))
  | .neq => K (some (.bool (!decide (a = b))))
  | .lss => K (some (.bool (decide (a < b))))
  | .leq => K (some (.bool (decide (a ≤ b))))
  | .gtr => K (some (.bool (decide (b < a))))
  | .geq => K (some (.bool (decide (b ≤ a))))
  | _ => .fail

def eqSem (op : BinOp) (t : TypeId) (x y : Operand) (a b : Value) : Sem Value := do eqGuard op t x y a b; binOp op t a b

def isPtr (P : Program) (t : TypeId) : Bool := match P.underlying t with | some (.pointer _) => true | _ => false
def isSlc (P : Program) (t : TypeId) : Bool := match P.underlying t with | some (.slice _) => true | _ => false

def nilT (op : BinOp) (b : Bool) (K : Option Value → Tr) : Tr :=
  match op with
  | .eql => K (some (.bool b))
  | .neq => K (some (.bool !b))
  | _ => .fail

def isBool (P : Program) (t : TypeId) : Bool := match P.underlying t with | some .bool => true | _ => false

def eqT (P : Program) (op : BinOp) (t : TypeId) (x y : Operand) (a b : Value) (K : Option Value → Tr) : Tr :=
  match a, b with
  | .bool p, .bool q => match isBool P t with
    | true => nilT op (p == q) K
    | false => .fail
  | .pointer p, .pointer none => match isPtr P t with
    | true => nilT op p.isNone K
    | false => .fail
  | .slice p _ _, .slice none 0 0 => match isSlc P t with
    | true => nilT op p.isNone K
    | false => .fail
  | _, _ => .sem (eqSem op t x y a b) (.one (.sc .bool)) fun r => K (some (.bool r))

def binT (P : Program) (op : BinOp) (t : TypeId) (x y : Operand) (a b : Value) (K : Option Value → Tr) : Tr :=
  match a with
  | .int k m =>
    match b with
    | .int k' n =>
      match op with
      | .shl => .need (0 ≤ n) (K (some (.int k (bshl k m n))))
      | .shr => .need (0 ≤ n) (K (some (.int k (bshr k m n))))
      | _ => match decide (k = k') with | true => intT op k m n K | false => .fail
    | _ => .fail
  | .string s =>
    match b with
    | .string u => strT op s u K
    | _ => .fail
  | _ => eqT P op t x y a b K

def fillP (P : Program) (t : TypeId) (parts : List (Nat × Value)) : Option (List Value) :=
  match zeroP P t, P.underlying t with
  | some z, some (.struct fs) =>
    match optL (fun f : Field => (sizeP P f.type).map fun n => (f.offset, n)) fs.toList with
    | some places => (Instr.fill (fun i => places[i]?) z.cells parts).map (·.toList)
    | none => none
  | some z, some (.array _ e) =>
    match sizeP P e with
    | some size => (Instr.fill (fun i => some (i * size, size)) z.cells parts).map (·.toList)
    | none => none
  | _, _ => none

def zeroRow (z : List Value) : Nat → List Value
  | 0 => []
  | n + 1 => z ++ zeroRow z n

def evParts (ρ : Operand → Option Value) (l : List (Nat × Operand)) : Option (List (Nat × Value)) := optL (fun x => (ρ x.2).map fun v => (x.1, v)) l

def imn (x y : Int) : Int := if y < x then y else x
def imx (x y : Int) : Int := if y > x then y else x
def minG (k : IntKind) (x : Int) : List Value → Option Value
  | [] => some (.int k x)
  | .int _ y :: r => minG k (imn x y) r
  | _ => none
def maxG (k : IntKind) (x : Int) : List Value → Option Value
  | [] => some (.int k x)
  | .int _ y :: r => maxG k (imx x y) r
  | _ => none
def minT : List Value → Option Value
  | .int k x :: r => minG k x r
  | _ => none
def maxT : List Value → Option Value
  | .int k x :: r => maxG k x r
  | _ => none

def semT (P : Program) (t : TypeId) (s : Sem Value) (K : Option Value → Tr) : Tr :=
  match rkOf P t with
  | some k => .sem s k fun y => K (some (k.v y))
  | none => .fail

def strAt (P : Program) (ts : Array TypeId) : Bool := match ts.toList[0]? with
  | some t => match P.underlying t with | some .string => true | _ => false
  | none => false
def slcAt (P : Program) (ts : Array TypeId) : Bool := match ts.toList[0]? with
  | some t => match P.underlying t with | some (.slice _) => true | _ => false
  | none => false

def bltT (P : Program) (b : Builtin) (ts : Array TypeId) (t : TypeId) (args : List Value) (K : Option Value → Tr) : Tr :=
  match b with
  | .len =>
    match args with
    | [v] => match v with
      | .string s => match strAt P ts with | true => K (some (.int .i64 (s.size : Int))) | false => .fail
      | .slice _ n _ => match slcAt P ts with | true => K (some (.int .i64 (n : Int))) | false => .fail
      | _ => semT P t (Builtin.len_ ts t args.toArray) K
    | _ => .fail
  | .cap =>
    match args with
    | [v] => match v with
      | .slice _ _ n => match slcAt P ts with | true => K (some (.int .i64 (n : Int))) | false => .fail
      | _ => .fail
    | _ => .fail
  | .min => match minT args with | some v => K (some v) | none => .fail
  | .max => match maxT args with | some v => K (some v) | none => .fail
  | .append => semT P t (Builtin.append_ ts t args.toArray) K
  | .copy => semT P t (Builtin.copy_ ts t args.toArray) K
  | .delete => .sem (Builtin.delete_ ts t args.toArray) (.tup []) fun _ => K (some (.tuple #[]))
  | _ => .fail

def bndT (lo hi : Option Value) (len cap : Nat) (c : Nat → Nat → Tr) : Tr :=
  match hi with
  | none =>
    match lo with
    | none => c 0 len
    | some (.int _ l) => .need (0 ≤ l ∧ l ≤ (len : Int)) (c l.toNat len)
    | _ => .fail
  | some (.int _ h) =>
    match lo with
    | none => .need (0 ≤ h ∧ h ≤ (cap : Int)) (c 0 h.toNat)
    | some (.int _ l) => .need (0 ≤ h ∧ h ≤ (cap : Int) ∧ 0 ≤ l ∧ l ≤ h) (c l.toNat h.toNat)
    | _ => .fail
  | _ => .fail

def opt1 (ρ : Operand → Option Value) : Option Operand → Option (Option Value)
  | none => some none
  | some x => match ρ x with | some v => some (some v) | none => none

def callT (C : FuncId → Bool) (np : Bool) (f : Operand) (v : Value) (as : List Value) (k : Rk) (K : Option Value → Tr) : Tr :=
  match f with
  | .func g => match C g with
    | true => match np with
      | false => .call g as.toArray k fun y => K (some (k.v y))
      | true => .calln g as.toArray k fun y => K (some (k.v y))
    | false => .fail
  | _ => .callv np v as.toArray k fun y => K (some (k.v y))

def sxOp (P : Program) (C : FuncId → Bool) (np : Bool) (o : Oper) (ρ : Operand → Option Value) (K : Option Value → Tr) : Tr :=
  match o.op with
  | .move x => match ρ x with | some v => K (some v) | none => .fail
  | .assign x => match ρ x with | some v => K (some v) | none => .fail
  | .pick c a b => match ρ c with
    | some (.bool t) => .cond t (match ρ a with | some v => K (some v) | none => .fail) (match ρ b with | some v => K (some v) | none => .fail)
    | _ => .fail
  | .alloc T => match zeroP P T with
    | some z => .new T z.cells.toList fun a => K (some (.pointer (some a)))
    | none => .fail
  | .box T x => match ρ x, kdOf P T with
    | some v, some (.sc _) => .new T [v] fun a => K (some (.pointer (some a)))
    | some (.agg cs), some (.agg _) => .new T cs.toList fun a => K (some (.pointer (some a)))
    | _, _ => .fail
  | .build T ps => match evParts ρ ps.toList with
    | some parts => match fillP P T parts with
      | some cs => K (some (.agg cs.toArray))
      | none => .fail
    | none => .fail
  | .buildSlice T len ps => match evParts ρ ps.toList, P.underlying T with
    | some parts, some (.slice e) => match sizeP P e, zeroP P e with
      | some size, some z => match Nat.ble (len * size) 16777216 with
        | true => match Nat.beq size z.cells.size with
          | true => match Instr.fill (fun i => some (i * size, size)) (zeroRow z.cells.toList len).toArray parts with
            | some cs => .new e cs.toList fun a => K (some (.slice (some a) len len))
            | none => .fail
          | false => .fail
        | false => .fail
      | _, _ => .fail
    | _, _ => .fail
  | .load t x => match ρ x, kdOf P t with
    | some (.pointer p), some k => match fitsK P t k with
      | true => .nil p fun a => .ld a k fun y => K (some (k.v y))
      | false => .fail
    | _, _ => .fail
  | .store t x y => match ρ x, ρ y, kdOf P t with
    | some (.pointer p), some v, some (.sc _) => match sizeP P t with
      | some 1 => .nil p fun a => .st a [v] (K none)
      | _ => .fail
    | some (.pointer p), some (.agg cs), some (.agg _) => match sizeP P t with
      | some n => match Nat.beq cs.size n with
        | true => .nil p fun a => .st a cs.toList (K none)
        | false => .fail
      | none => .fail
    | _, _, _ => .fail
  | .nilCheck x => match ρ x with
    | some (.pointer p) => .nil p fun a => K (some (.pointer (some a)))
    | _ => .fail
  | .binOp op t x y _ => match ρ x, ρ y with
    | some a, some b => binT P op t x y a b K
    | _, _ => .fail
  | .unOp op _ x => match ρ x with
    | some (.bool b) => match op with | .not => K (some (.bool !b)) | _ => .fail
    | some (.int k n) => match op with | .neg => K (some (.int k (k.wrap (0 - n)))) | _ => .fail
    | _ => .fail
  | .convert src dst x => match ρ x with
    | some (.int k n) => match P.underlying src, P.underlying dst with
      | some _, some (.int k') => K (some (.int k' (k'.wrap n)))
      | _, _ => .fail
    | some v => semT P o.type (convert src dst v) K
    | none => .fail
  | .makeInterface t x => match ρ x, isConc P t with
    | some v, true => K (some (.iface t v))
    | _, _ => .fail
  | .makeFunc fn first caps => match evL ρ first.toList, evL ρ caps.toList with
    | some f, some c => K (some (.func fn f.toArray c.toArray))
    | _, _ => .fail
  | .makeMap t r => match r with
    | none => semT P o.type (Instr.makeMap t none) K
    | some _ => .fail
  | .makeSlice t l c => match ρ l, ρ c with
    | some a, some b => semT P o.type (Instr.makeSlice t a b) K
    | _, _ => .fail
  | .slice t x lo hi mx => match ρ x, opt1 ρ lo, opt1 ρ hi, mx with
    | some (.string s), some l, some h, none => match P.underlying t with
      | some .string => bndT l h s.size s.size fun i j => K (some (.string (s.extract i j)))
      | _ => .fail
    | some (.slice a n c), some l, some h, none => match P.underlying t with
      | some (.slice e) => match sizeP P e with
        | some size => bndT l h n c fun i j => K (some (.slice (slB a i size c) (j - i) (c - i)))
        | none => .fail
      | _ => .fail
    | _, _, _, _ => .fail
  | .fieldAddr s x f => match ρ x, P.underlying s with
    | some (.pointer p), some (.struct fs) => match fs.toList[f]? with
      | some fd => match sizeP P fd.type with
        | some (_ + 1) => .nil p fun a => K (some (.pointer (some (a.add fd.offset))))
        | _ => .fail
      | none => .fail
    | _, _ => .fail
  | .field t x f => match ρ x, P.underlying t with
    | some (.agg cs), some (.struct fs) => match fs.toList[f]? with
      | some fd => match kdOf P fd.type with
        | some (.sc _) => match cs.toList[fd.offset]? with | some v => K (some v) | none => .fail
        | some (.agg _) => match sizeP P fd.type with
          | some n => K (some (.agg ((cs.toList.drop fd.offset).take n).toArray))
          | none => .fail
        | none => .fail
      | none => .fail
    | _, _ => .fail
  | .indexAddr t x i => match ρ x, ρ i, P.underlying t with
    | some (.slice a n _), some (.int _ j), some (.slice e) => match sizeP P e with
      | some size => .need (0 ≤ j ∧ j < (n : Int)) (.nil a fun a => K (some (.pointer (some (a.add (j.toNat * size))))))
      | none => .fail
    | some (.pointer p), some (.int _ j), some (.array n e) => match sizeP P e with
      | some size => .nil p fun a => .need (0 ≤ j ∧ j < (n : Int)) (K (some (.pointer (some (a.add (j.toNat * size))))))
      | none => .fail
    | _, _, _ => .fail
  | .index t x i => match ρ x, ρ i with
    | some (.string s), some (.int _ j) => match P.underlying t with
      | some .string => .need (0 ≤ j ∧ j < (s.size : Int)) (K (some (.int .u8 (bt s j))))
      | _ => .fail
    | some (.agg cs), some v => semT P o.type (Instr.index t (.agg cs) v) K
    | _, _ => .fail
  | .lookup t x i ok => match ρ x, ρ i with
    | some a, some b => semT P o.type (Instr.lookup t a b ok) K
    | _, _ => .fail
  | .mapUpdate t m k x => match ρ m, ρ k, ρ x with
    | some a, some b, some c => .semU (Instr.mapUpdate t a b c) (K none)
    | _, _, _ => .fail
  | .extract x i => match ρ x with
    | some (.tuple vs) => match vs.toList[i]? with | some v => K (some v) | none => .fail
    | _ => .fail
  | .panic x => match ρ x, np with
    | some (.iface t v), false => .pan (.iface t v)
    | _, _ => .fail
  | .call c => match evL ρ c.args.toList with
    | some as => match c.callee with
      | .builtin b => bltT P b c.argTypes o.type as K
      | .value f => match ρ f, rkOf P o.type with
        | some v, some k => callT C np f v as k K
        | _, _ => .fail
      | .invoke _ _ => .fail
    | none => .fail
  | .typeAssert x xT t ok => match ρ x, kdOf P t, ok with
    | some v, some k, true => .sem (Instr.typeAssert v xT t true) (.tup [k, .sc .bool]) fun y => K (some ((Rk.tup [k, .sc .bool]).v y))
    | _, _, _ => .fail
  | _ => .fail

/-- Operations that look at their operands alone, whatever the world. -/
def pureO (o : Oper) (ρ : Operand → Option Value) : Bool :=
  match o.op with
  | .move _ | .assign _ | .pick _ _ _ | .nilCheck _ | .unOp _ _ _ | .makeFunc _ _ _ | .makeInterface _ _ | .fieldAddr _ _ _ | .field _ _ _ | .indexAddr _ _ _ | .extract _ _ | .slice _ _ _ _ _ | .build _ _ => true
  | .binOp _ _ x y _ => match ρ x with
    | some (.int _ _) => true
    | some (.string _) => true
    | some (.bool _) => match ρ y with | some (.bool _) => true | _ => false
    | some (.pointer _) => match ρ y with | some (.pointer none) => true | _ => false
    | some (.slice _ _ _) => match ρ y with | some (.slice none 0 0) => true | _ => false
    | _ => false
  | .convert _ _ x => match ρ x with | some (.int _ _) => true | _ => false
  | .index _ x _ => match ρ x with | some (.string _) => true | _ => false
  | .call c => match c.callee with
    | .builtin .min => true
    | .builtin .max => true
    | .builtin .cap => true
    | .builtin .len => match evL ρ c.args.toList with
      | some [v] => match v with | .string _ => true | .slice _ _ _ => true | _ => false
      | _ => false
    | _ => false
  | _ => false

/-! ### Regions -/
def okDst (n : Nat) : Option Nat → Bool
  | some d => Nat.blt d n
  | none => true
def dstOf (all : List Oper) (j : Nat) : Option Nat := match all[j]? with | some o => o.dst | none => none

/-- One operation under its guard. 'go' runs on with the environment as the guard leaves it. -/
def sxG (all : List Oper) (o : Oper) (e : Env) (run skip : Env → Tr) : Tr :=
  match o.guard with
  | none => run e
  | some (j, want) => match dstOf all j with
    | none => skip e
    | some d => match e d with
      | some (.bool b) => .cond b (match want with | true => run (e.set d (.bool true)) | false => skip (e.set d (.bool true)))
          (match want with | true => skip (e.set d (.bool false)) | false => run (e.set d (.bool false)))
      | some (.tuple _) => skip e
      | _ => .fail

def sxOne (P : Program) (C : FuncId → Bool) (n : Nat) (all : List Oper) (np : Bool) (o : Oper) (e : Env) (K : Env → Tr) : Tr :=
  match okDst n o.dst with
  | true => sxG all o e (fun e => sxOp P C np o e.ev fun v => K (e.put o.dst (v.getD undef))) (fun e => K (e.put o.dst undef))
  | false => .fail

def sxOps (P : Program) (C : FuncId → Bool) (n : Nat) (all : List Oper) : List Oper → Env → (Env → Tr) → Tr
  | [], e, K => K e
  | o :: r, e, K => sxOne P C n all false o e fun e => sxOps P C n all r e K

/-! ### Regions that draw their order -/
/-- Does operation j wait for i, straight or over others? -/
def reach (ops : Array Oper) : Nat → Nat → Nat → Bool
  | 0, _, _ => false
  | d + 1, j, i => match ops[j]? with
    | some o => (o.after.toList.any fun e => Region.binds .any e && Nat.beq e.on i) || (o.after.toList.any fun e => Region.binds .any e && reach ops d e.on i)
    | none => false

abbrev Pend := List (Nat × Addr × List Value)
def Pend.cut (ops : Array Oper) (j : Nat) (p : Pend) : Pend := p.filter fun x => !reach ops 4 j x.1
def Pend.facts (p : Pend) : List (Addr × List Value) := p.map fun x => x.2

def bothL : List Tr → Tr
  | [] => .fail
  | [t] => t
  | t :: r => .both t (bothL r)

/-- A load that may be taken first. -/
def sxLoad (P : Program) (n : Nat) (all : List Oper) (o : Oper) (t : TypeId) (x : Operand) (e : Env) (K : Env → Option (Addr × List Value) → Tr) : Tr :=
  match okDst n o.dst with
  | true => sxG all o e (fun e => match e.ev x, kdOf P t with
      | some (.pointer p), some k => match fitsK P t k with
        | true => .nil p fun a => .ld a k fun y => K (e.put o.dst (k.v y)) (some (a, k.cells y))
        | false => .fail
      | _, _ => .fail) (fun e => K (e.put o.dst undef) none)
  | false => .fail

/-- A pure operation that may be taken first. -/
def sxPure (P : Program) (C : FuncId → Bool) (n : Nat) (all : List Oper) (o : Oper) (e : Env) (K : Env → Tr) : Tr :=
  match okDst n o.dst with
  | true => sxG all o e (fun e => match pureO o e.ev with
      | true => sxOp P C true o e.ev fun v => K (e.put o.dst (v.getD undef))
      | false => .fail) (fun e => K (e.put o.dst undef))
  | false => .fail

/-- Is it known that the operation is skipped? -/
def skipG (all : List Oper) (e : Env) (o : Oper) : Bool :=
  match o.guard with
  | none => false
  | some (j, want) => match dstOf all j with
    | none => true
    | some d => match e d with
      | some (.bool b) => match b with | true => !want | false => want
      | some (.tuple _) => true
      | _ => false
/-- Is it another one's guard? -/
def guardsG (all : List Oper) (i : Nat) : Bool := all.any fun o => match o.guard with | some (j, _) => Nat.beq j i | none => false
/-- A guard's two ways are parted at once. -/
def splitB (all : List Oper) (i : Nat) (o : Oper) (e : Env) (K : Env → Tr) : Tr :=
  match guardsG all i with
  | true => match o.dst with
    | some d => match e d with
      | some (.bool b) => .cond b (K (e.set d (.bool true))) (K (e.set d (.bool false)))
      | _ => K e
    | none => K e
  | false => K e

/-- What may be taken first: 1: it is pure, or skipped; 2: it is a load. -/
def takeK (ops : Array Oper) (listed : Array Bool) (e : Env) (i : Nat) : Nat :=
  match ops[i]? with
  | none => 0
  | some o => match skipG ops.toList e o with
   | true => match Region.free .any ops listed i with | true => 1 | false => 0
   | false => match o.op with
    | .load _ _ => match Region.free .any ops listed i with | true => 2 | false => 0
    | _ => match pureO o e.ev with
      | true => match Region.free .any ops listed i with | true => 1 | false => 0
      | false => 0

def firstTake (ops : Array Oper) (listed : Array Bool) (e : Env) : List Nat → Option Nat
  | [] => none
  | i :: r => match takeK ops listed e i with
    | 0 => firstTake ops listed e r
    | _ => some i

def sxAny (P : Program) (C : FuncId → Bool) (n : Nat) (ops : Array Oper) : Nat → Array Bool → Pend → Env → (Env → Tr) → Tr
  | 0, listed, _, e, K => match Region.ready .any ops listed with | [] => K e | _ => .fail
  | fuel + 1, listed, pend, e, K => match Region.ready .any ops listed with
    | [] => K e
    | r => match firstTake ops listed e r with
      | some i => match ops[i]? with
        | some o => match o.op with
          | .load t x => sxLoad P n ops.toList o t x e fun e' f => splitB ops.toList i o e' fun e' => sxAny P C n ops fuel (listed.setIfInBounds i true) (match f with | some (a, l) => (i, a, l) :: pend | none => pend) e' K
          | _ => sxPure P C n ops.toList o e fun e' => splitB ops.toList i o e' fun e' => sxAny P C n ops fuel (listed.setIfInBounds i true) pend e' K
        | none => .fail
      | none => bothL (r.map fun j => match ops[j]? with
        | some o => sxOne P C n ops.toList true o e fun e' => match Pend.cut ops j pend with
          | [] => splitB ops.toList j o e' fun e' => sxAny P C n ops fuel (listed.setIfInBounds j true) [] e' K
          | p => .keep p.facts (splitB ops.toList j o e' fun e' => sxAny P C n ops fuel (listed.setIfInBounds j true) p e' K)
        | none => .fail)

end Go.Proofs.YthfcneahnldgnaaGreat.Vk
