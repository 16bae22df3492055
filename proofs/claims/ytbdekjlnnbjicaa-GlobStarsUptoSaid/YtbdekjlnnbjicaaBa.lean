/- FrA, FrB: texts of this claim, put together in build order by program. -/
import Derived.Calls
import Derived.Orders
import Derived.KernelRfl
/- The abstract machine over values: its values, objects and evaluator. Definitions alone; nothing is claimed here. -/
namespace Go.Proofs.Ytbdekjlnnbjicaa.V
open Go
set_option linter.unusedVariables false

/-- what is known of a slice's capacity: it is nil; it is the length; nothing; it is not nil; it is the length, or it is nil -/
inductive Cp where
  | nl | ex | any | nn | cl
  deriving DecidableEq, Repr, Inhabited

/-- data -/
inductive D where
  | int (k : IntKind) (n : Int)
  | bool (b : Bool)
  | str (l : List UInt8)
  | slice (c : Cp) (xs : List D)
  | agg (fs : List D)
  deriving Inhabited, Repr

/-- what a temporary holds. Types are underlying ones. -/
inductive AV where
  | undef
  | i (k : IntKind) (n : Int)
  | b (x : Bool)
  | s (l : List UInt8)
  | snil
  | sl (e : TypeId) (c : Cp) (xs : List D)
  | d (t : TypeId) (x : D)
  | vp (t : TypeId) (x : D)
  | pnil
  | ptr (j : Nat) (path : List Nat) (t : TypeId)
  | ref (e : TypeId) (j : Nat)
  | ap (j : Nat) (i : Nat) (path : List Nat) (t : TypeId)
  | fn (f : FuncId) (caps : List AV)
  | agg (t : TypeId) (l : List AV)
  | tuple (l : List AV)
  /-- a part of a row, or of an array, that may be stored into: from where on, how many -/
  | vw (e : TypeId) (j lo n : Nat)
  /-- an interface value: is it none of the nil ones? -/
  | err (x : Bool)
  /-- an address that is held: as an interface value of a type (true), as what a function is bound to (false) -/
  | hp (k : Bool) (t : Nat) (j : Nat) (path : List Nat) (u : TypeId)
  deriving Inhabited, Repr

/-- an object: a variable; a row that grows -/
inductive Obj where
  | box (t : TypeId) (v : AV)
  | arr (e : TypeId) (xs : List D) (fz : Bool)
  deriving Inhabited, Repr

abbrev Objs := List (Option Obj)
abbrev Tm := List (Nat × AV)

structure St where
  tm : Tm
  ob : Objs

/-- what goes with a program: which temporaries live at which label of which function; package variables that are known; operations that make a row of the call's own -/
structure Ctx where
  P : Program
  live : List (FuncId × Nat × List Nat)
  G : Nat → Option (TypeId × D)
  own : List (FuncId × Nat)
  /-- functions that are handed objects: how many -/
  roots : List (FuncId × Nat)
  /-- package variables that are known to hold an interface value -/
  I : List Nat := []
  /-- regions of open order: rows of these temporaries are not written any more when they begin -/
  pre : List (FuncId × Nat × List Nat) := []
  /-- functions that are handed rows as objects -/
  refs : List FuncId := []
  /-- functions that hand rows back as objects -/
  outs : List FuncId := []
  /-- functions in which rows that are stored are not written any more -/
  frzs : List FuncId := []
  /-- regions of open order in which what looks at objects stands ahead of all that makes or turns them -/
  lks : List (FuncId × Nat) := []
  /-- methods of pointers: the type, the name, the function -/
  meths : List (TypeId × String × FuncId) := []
  methsOk : ∀ m ∈ meths, ∀ (w : World) (a : Addr), (method (P.types.size + Made.depth) m.1 (.pointer (some a)) m.2.1).run P w = .ok (m.2.2, .pointer (some a)) w := by intro m h; cases h

/-- what is known of calls: whether it is so here; the result; the objects -/
abbrev Handle := FuncId → List AV → Objs → Option (Bool × AV × Objs)

variable {R : Type}

def get : Tm → Nat → AV
  | [], _ => .undef
  | (j, v) :: r, i => bif Nat.beq j i then v else get r i

def underId (P : Program) (t : TypeId) : TypeId := P.underlyingId t
/-- a struct of the runtime's that the translation holds a stand-in of: left out -/
def cutB (P : Program) (t : TypeId) : Bool := P.cutTypes.toList.any fun c => Nat.beq c.2 t || Nat.beq (P.underlyingId c.2) t
/-- what lies under a type of the table -/
def und (P : Program) (t : TypeId) : Option TypeDesc := bif Nat.blt t P.types.size then (match P.underlying t with
  | some (.struct fs) => bif cutB P t then none else some (.struct fs)
  | o => o) else none
def ds (P : Program) (t : TypeId) : TypeDesc := (und P t).getD .invalid

def ofConst : Value → AV
  | .bool b => .b b
  | .int k n => .i k n
  | .string s => .s s.data.toList
  | .slice none 0 0 => .snil
  | .pointer none => .pnil
  | .nilIface => .err false
  | _ => .undef

def evo (Γ : Ctx) (tm : Tm) : Operand → AV
  | .tmp t => get tm t
  | .const v => ofConst v
  | .global g => match Γ.G g with
    | some (t, x) => .vp t x
    | none => .undef
  | .func f => .fn f []

/-! ### opening data, one constructor at a time -/
def kEq (a b : IntKind) : Bool := match a, b with
  | .i8, .i8 | .i16, .i16 | .i32, .i32 | .i64, .i64 | .u8, .u8 | .u16, .u16 | .u32, .u32 | .u64, .u64 => true
  | _, _ => false
def dInt (k : IntKind) (x : D) (K : Int → Option R) : Option R := match x with
  | .int k' n => bif kEq k' k then K n else none
  | _ => none
def dBool (x : D) (K : Bool → Option R) : Option R := match x with | .bool b => K b | _ => none
def dStr (x : D) (K : List UInt8 → Option R) : Option R := match x with | .str l => K l | _ => none
def dSlice (x : D) (K : Cp → List D → Option R) : Option R := match x with | .slice c xs => K c xs | _ => none
def dAgg (x : D) (K : List D → Option R) : Option R := match x with | .agg fs => K fs | _ => none
def lNil {α : Type} (l : List α) (K : Option R) : Option R := match l with | [] => K | _ => none
def lCons {α : Type} (l : List α) (K : α → List α → Option R) : Option R := match l with | a :: r => K a r | _ => none
def lGet {α : Type} (l : List α) (i : Nat) (K : α → Option R) : Option R := match l[i]? with | some a => K a | none => none
def onNil {α : Type} (l : List α) (A B : Option R) : Option R := match l with | [] => A | _ :: _ => B
/-- element n of a list, as Go's index -/
def idx {α : Type} (l : List α) (n : Int) (K : α → Option R) : Option R := bif decide (0 ≤ n) then lGet l n.toNat K else none

def openL (f : TypeId → D → (D → Option R) → Option R) : List TypeId → List D → (List D → Option R) → Option R
  | [], ys, K => lNil ys (K [])
  | t :: ts, ys, K => lCons ys fun y r => f t y fun y' => openL f ts r fun r' => K (y' :: r')
/-- a struct is opened down to its leaves; an array is not -/
def openD (P : Program) : Nat → TypeId → D → (D → Option R) → Option R
  | 0, _, _, _ => none
  | n + 1, t, x, K => match ds P t with
    | .int k => dInt k x fun m => K (.int k m)
    | .bool => dBool x fun b => K (.bool b)
    | .string => dStr x fun l => K (.str l)
    | .slice _ => dSlice x fun c xs => K (.slice c xs)
    | .struct fs => dAgg x fun ys => openL (openD P n) (fs.toList.map (·.type)) ys fun ys' => K (.agg ys')
    | .array _ _ => dAgg x fun ys => K (.agg ys)
    | _ => none
def depth : Nat := 12

def elemU (P : Program) (t : TypeId) : TypeId := match ds P t with
  | .slice e | .array _ e | .pointer e => underId P e
  | _ => 0
/-- data of a type, as a temporary holds it -/
def fromD (P : Program) (t : TypeId) : D → AV
  | .int k n => .i k n
  | .bool b => .b b
  | .str l => .s l
  | .slice c xs => .sl (elemU P t) c xs
  | .agg fs => .d (underId P t) (.agg fs)

/-- data alone, of its type -/
def isTy (P : Program) (t : TypeId) (a : AV) : Bool := match a, ds P t with
  | .i k _, .int k' => kEq k k'
  | .b _, .bool => true
  | .s _, .string => true
  | .snil, .slice _ => true
  | .sl e _ _, .slice e' => Nat.beq e (underId P e')
  | .d u _, .struct _ | .d u _, .array _ _ => Nat.beq u (underId P t)
  | _, _ => false
def toD : AV → Option D
  | .i k n => some (.int k n)
  | .b b => some (.bool b)
  | .s l => some (.str l)
  | .snil => some (.slice .nl [])
  | .sl _ c xs => some (.slice c xs)
  | .d _ x => some x
  | _ => none
/-- fits a value into a variable of a type? -/
def fits (P : Program) (t : TypeId) (a : AV) : Bool := match a, ds P t with
  | .ref e _, .slice e' => Nat.beq e (underId P e')
  | .ptr _ _ u, .pointer e' => Nat.beq u (underId P e')
  | .pnil, .pointer _ => true
  | .agg u _, .struct _ => Nat.beq u (underId P t)
  | .fn _ _, .func _ _ _ => true
  | .err _, .interface _ => true
  | .hp true _ _ _ _, .interface _ => true
  | a, _ => isTy P t a

/-- freezing: a row that grows becomes a value; behind that nothing is stored into it -/
def frz (a : AV) (ob : Objs) : AV × Objs := match a with
  | .ref e j => match ob[j]? with
    | some (some (.arr e' xs _)) => (.sl e .any xs, ob.set j (some (.arr e' xs true)))
    | _ => (a, ob)
  | a => (a, ob)
def frzL : List AV → Objs → List AV × Objs
  | [], ob => ([], ob)
  | a :: r, ob => match frz a ob with
    | (a', ob') => match frzL r ob' with
      | (r', ob'') => (a' :: r', ob'')

/-- but for calls that are handed objects -/
def frzC (k : Bool) (l : List AV) (ob : Objs) : List AV × Objs := match k with | true => (l, ob) | false => frzL l ob
def memF (f : FuncId) : List FuncId → Bool
  | [] => false
  | a :: r => Nat.beq a f || memF f r

/-! ### zero values -/
def zeroL (f : TypeId → AV) (l : List TypeId) : List AV := l.map f
def allD : List AV → Option (List D)
  | [] => some []
  | a :: r => match toD a, allD r with
    | some x, some xs => some (x :: xs)
    | _, _ => none
def mkAgg (t : TypeId) (l : List AV) : AV := match allD l with
  | some xs => .d t (.agg xs)
  | none => .agg t l
/-- a struct's zero, where each part's is known -/
def mkZ (u : TypeId) (l : List AV) : AV := match l.any (fun a => match a with | .undef => true | _ => false) with | true => .undef | false => mkAgg u l
def zeroA (P : Program) : Nat → TypeId → AV
  | 0, _ => .undef
  | n + 1, t => match ds P t with
    | .int k => .i k 0
    | .bool => .b false
    | .string => .s []
    | .slice e => .sl (underId P e) .nl []
    | .pointer _ => .pnil
    | .interface _ => .err false
    | .struct fs => mkZ (underId P t) (fs.toList.map fun f => zeroA P n f.type)
    | .array len e => match toD (zeroA P n e) with
      | some x => .d (underId P t) (.agg (List.replicate len x))
      | none => .undef
    | _ => .undef

/-! ### inside a variable -/
def navD : List Nat → D → (D → Option R) → Option R
  | [], x, K => K x
  | i :: p, x, K => dAgg x fun ys => lGet ys i fun y => navD p y K
def navA (P : Program) : List Nat → AV → (AV ⊕ D → Option R) → Option R
  | [], a, K => K (.inl a)
  | i :: p, .d _ x, K => navD (i :: p) x fun y => K (.inr y)
  | i :: p, .agg _ l, K => match l[i]? with
    | some a => navA P p a K
    | none => none
  | _, _, _ => none
def setD : List Nat → D → D → D
  | [], _, v => v
  | [i], .agg ys, v => .agg (ys.set i v)
  | i :: p, .agg ys, v => .agg (ys.modify i fun y => setD p y v)
  | _, x, _ => x
def spread (P : Program) (t : TypeId) (x : D) : Option (List AV) := match x, ds P t with
  | .agg ys, .struct fs => some ((fs.toList.zip ys).map fun p => fromD P p.1.type p.2)
  | _, _ => none
def setA (P : Program) : List Nat → AV → AV → Option AV
  | [], _, v => some v
  | i :: p, .d t x, v => match toD v with
    | some y => some (.d t (setD (i :: p) x y))
    | none => match p, spread P t x with
      | [], some l => some (.agg t (l.set i v))
      | _, _ => none
  | i :: p, .agg t l, v => match l[i]? with
    | some a => match setA P p a v with
      | some a' => some (.agg t (l.set i a'))
      | none => none
    | none => none
  | _, _, _ => none

def fieldT (P : Program) (t : TypeId) (f : Nat) : Option TypeId := match ds P t with
  | .struct fs => match fs[f]? with
    | some g => bif Nat.beq (P.cellsOf g.type) 0 then none else some g.type
    | none => none
  | _ => none

/-! ### the operations -/
def bytesD (l : List UInt8) : List D := l.map fun c => .int .u8 c.toNat
def unBytes : List D → Option (List UInt8)
  | [] => some []
  | .int .u8 n :: r => (unBytes r).map (UInt8.ofNat n.toNat :: ·)
  | _ => none
def kBytes (l : List D) (K : List UInt8 → Option R) : Option R := match unBytes l with | some r => K r | none => none

def lessB : List UInt8 → List UInt8 → Bool := Op.bytesLess
mutual
def eqD : D → D → Bool
  | .int _ a, .int _ b => a == b
  | .bool a, .bool b => a == b
  | .str a, .str b => a == b
  | .agg a, .agg b => eqDs a b
  | _, _ => false
def eqDs : List D → List D → Bool
  | [], [] => true
  | a :: r, b :: s => eqD a b && eqDs r s
  | _, _ => false
end
/-- may values of a type be held against each other here? -/
def cmpTy (P : Program) : Nat → TypeId → Bool
  | 0, _ => false
  | n + 1, t => match ds P t with
    | .int _ | .bool | .string => true
    | .struct fs => fs.toList.all fun f => f.name != "_" && cmpTy P n f.type
    | .array m e => !Nat.beq m 0 && cmpTy P n e
    | _ => false

def maxStr : Nat := 4611686018427387904
def opInt (op : BinOp) (k : IntKind) (a b : Int) : Option AV := match op with
  | .add => some (.i k (k.wrap (a + b)))
  | .sub => some (.i k (k.wrap (a - b)))
  | .mul => some (.i k (k.wrap (a * b)))
  | .and => some (.i k (k.wrap (BitVec.ofInt k.bits a &&& BitVec.ofInt k.bits b).toNat))
  | .or => some (.i k (k.wrap (BitVec.ofInt k.bits a ||| BitVec.ofInt k.bits b).toNat))
  | .xor => some (.i k (k.wrap (BitVec.ofInt k.bits a ^^^ BitVec.ofInt k.bits b).toNat))
  | .andNot => some (.i k (k.wrap (BitVec.ofInt k.bits a &&& ~~~ BitVec.ofInt k.bits b).toNat))
  | .eql => some (.b (a == b))
  | .neq => some (.b (a != b))
  | .lss => some (.b (decide (a < b)))
  | .leq => some (.b (decide (a ≤ b)))
  | .gtr => some (.b (decide (a > b)))
  | .geq => some (.b (decide (a ≥ b)))
  | _ => none
def opStr (op : BinOp) (a b : List UInt8) : Option AV := match op with
  | .eql => some (.b (a == b))
  | .neq => some (.b (!(a == b)))
  | .lss => some (.b (lessB a b))
  | .leq => some (.b (lessB a b || a == b))
  | .gtr => some (.b (!(lessB a b || a == b)))
  | .geq => some (.b (!lessB a b))
  | _ => none
def isNilS : AV → Option Bool
  | .snil | .sl _ .nl _ => some true
  | .sl _ .ex _ | .sl _ .nn _ | .ref _ _ => some false
  | .sl _ _ (_ :: _) => some false
  | _ => none
def isNilP : AV → Option Bool
  | .pnil => some true
  | .ptr _ _ _ | .vp _ _ | .ap _ _ _ _ => some false
  | _ => none
def onSome {α : Type} (o : Option α) (f : α → Option R) : Option R := match o with
  | some x => f x
  | none => none
def nilK (op : BinOp) (p q : Option Bool) (K : AV → Option R) : Option R := onSome p fun p => onSome q fun q => bif p || q then (match op with
    | .eql => K (.b (p == q))
    | .neq => K (.b (!(p == q)))
    | _ => none) else none
def shlV (k : IntKind) (a b : Int) : Int := k.wrap (a * 2 ^ (min b.toNat k.bits))
def shrV (k : IntKind) (a b : Int) : Int := a.fdiv (2 ^ (min b.toNat k.bits))
def opBin (P : Program) (op : BinOp) (t : TypeId) (x y : AV) (K : AV → Option R) : Option R := match x, y with
  | .i k a, .i k' b => match op with
    | .shl => bif decide (0 ≤ b) then K (.i k (shlV k a b)) else none
    | .shr => bif decide (0 ≤ b) then K (.i k (shrV k a b)) else none
    | .quo => bif kEq k k' then (bif b == 0 then none else K (.i k (k.wrap (a.tdiv b)))) else none
    | .rem => bif kEq k k' then (bif b == 0 then none else K (.i k (a.tmod b))) else none
    | op => bif kEq k k' then (match opInt op k a b with | some r => K r | none => none) else none
  | .s a, .s b => match op with
    | .add => bif decide (a.length + b.length ≤ maxStr) then K (.s (a ++ b)) else none
    | op => match opStr op a b with | some r => K r | none => none
  | .b a, .b b => match op, ds P t with
    | .eql, .bool => K (.b (a == b))
    | .neq, .bool => K (.b (!(a == b)))
    | _, _ => none
  | .d u a, .d u' b => bif Nat.beq u (underId P t) && Nat.beq u' (underId P t) && cmpTy P depth t then
      (match op with
      | .eql => K (.b (eqD a b))
      | .neq => K (.b (!eqD a b))
      | _ => none) else none
  | x, y => match ds P t with
    | .slice _ => nilK op (isNilS x) (isNilS y) K
    | .pointer _ => nilK op (isNilP x) (isNilP y) K
    | _ => none
def opUn (op : UnOp) (x : AV) : Option AV := match op, x with
  | .neg, .i k n => some (.i k (k.wrap (0 - n)))
  | .xor, .i k n => some (.i k (k.wrap (BitVec.ofInt k.bits (if k.signed then -1 else k.max) ^^^ BitVec.ofInt k.bits n).toNat))
  | .not, .b x => some (.b (!x))
  | _, _ => none

/-- the elements that an append's, a copy's source has -/
def elems (P : Program) (e : TypeId) (ob : Objs) : AV → Option (List D)
  | .snil => some []
  | .sl e' _ xs => bif Nat.beq e' e then some xs else none
  | .ref e' j => bif Nat.beq e' e then (match ob[j]? with
    | some (some (.arr _ xs _)) => some xs
    | _ => none) else none
  | .s l => match ds P e with
    | .int .u8 => some (bytesD l)
    | _ => none
  | _ => none
def lenA (ob : Objs) (a : AV) : Option Nat := match a with
  | .snil => some 0
  | .sl _ _ xs => some xs.length
  | .ref _ j => match ob[j]? with
    | some (some (.arr _ xs _)) => some xs.length
    | _ => none
  | _ => none
def roomB (n bytes : Nat) : Bool := Nat.blt 0 bytes && decide (n * bytes ≤ 70368744177664)
def opAppend (P : Program) (t : TypeId) (s x : AV) (ob : Objs) (K : AV → Objs → Option R) : Option R := match ds P t with
  | .slice e0 => bif fits P e0 (zeroA P depth e0) then (match elems P (underId P e0) ob x with
    | none => none
    | some ys => match s with
      | .snil => onNil ys (K .snil ob) (bif roomB ys.length (P.bytesOf e0) then K (.ref (underId P e0) ob.length) (ob ++ [some (.arr (underId P e0) ys false)]) else none)
      | .sl e' .nl [] => onNil ys (K (.sl e' .nl []) ob) (bif roomB ys.length (P.bytesOf e0) then K (.ref (underId P e0) ob.length) (ob ++ [some (.arr (underId P e0) ys false)]) else none)
      | .sl e' .ex xs => onNil ys (K (.sl e' .ex xs) ob)
          (bif Nat.beq e' (underId P e0) && roomB (xs.length + ys.length) (P.bytesOf e0) then K (.ref (underId P e0) ob.length) (ob ++ [some (.arr (underId P e0) (xs ++ ys) false)]) else none)
      | .sl e' .cl xs => onNil ys (K (.sl e' .cl xs) ob)
          (bif Nat.beq e' (underId P e0) && roomB (xs.length + ys.length) (P.bytesOf e0) then K (.ref (underId P e0) ob.length) (ob ++ [some (.arr (underId P e0) (xs ++ ys) false)]) else none)
      | .ref e' j => match ob[j]? with
        | some (some (.arr _ xs fz)) => bif Nat.beq e' (underId P e0) && roomB (xs.length + ys.length) (P.bytesOf e0) then
            K (.ref e' ob.length) (ob.set j none ++ [some (.arr e' (xs ++ ys) fz)]) else none
        | _ => none
      | _ => none) else none
  | _ => none

def minL (k : IntKind) : Int → List AV → Option Int
  | x, [] => some x
  | x, .i _ y :: r => minL k (bif decide (y < x) then y else x) r
  | _, _ => none
def maxL (k : IntKind) : Int → List AV → Option Int
  | x, [] => some x
  | x, .i _ y :: r => maxL k (bif decide (x < y) then y else x) r
  | _, _ => none
/-- elements put over others, from a place on -/
def putL {α : Type} (xs : List α) (lo : Nat) (ys : List α) : List α := xs.take lo ++ ys ++ xs.drop (lo + ys.length)
def opCopy (P : Program) (t : TypeId) (d x : AV) (ob : Objs) (K : AV → Objs → Option R) : Option R := match ds P t with
  | .slice e0 => match elems P (underId P e0) ob x with
    | some ys => match d with
      | .vw e j lo n => bif Nat.beq e (underId P e0) then (match ob[j]? with
        | some (some (.box tb (.d u (.agg xs)))) => K (.i .i64 (Nat.min ys.length n)) (ob.set j (some (.box tb (.d u (.agg (putL xs lo (ys.take n)))))))
        | some (some (.arr e' xs false)) => K (.i .i64 (Nat.min ys.length n)) (ob.set j (some (.arr e' (putL xs lo (ys.take n)) false)))
        | _ => none) else none
      | _ => none
    | none => none
  | _ => none
def opBuiltin (P : Program) (b : Builtin) (ts : List TypeId) (args : List AV) (ob : Objs) (K : AV → Objs → Option R) : Option R :=
  match b, ts, args with
  | .len, t :: _, a :: _ => match ds P t with
    | .array n _ => K (.i .i64 n) ob
    | .pointer p => match ds P p with | .array n _ => K (.i .i64 n) ob | _ => none
    | .string => (match a with | .s l => K (.i .i64 l.length) ob | _ => none)
    | .slice _ => (match lenA ob a with | some n => K (.i .i64 n) ob | none => none)
    | _ => none
  | .append, [t, t'], [s, x] => match ds P t' with
    | .slice _ | .string => opAppend P t s x ob K
    | _ => none
  | .copy, [t, _], [d, x] => opCopy P t d x ob K
  | .min, _, .i k x :: r => match minL k x r with | some y => K (.i k y) ob | none => none
  | .max, _, .i k x :: r => match maxL k x r with | some y => K (.i k y) ob | none => none
  | .unsafeSliceData, _, [x] => match x with
    | .ref e j => match ob[j]? with
      | some (some (.arr _ xs _)) => onNil xs none (K (.ap j 0 [] (underId P e)) ob)
      | _ => none
    | .snil | .sl _ .nl _ => K .pnil ob
    | _ => none
  | .unsafeString, [pt, _], [p, .i .i64 n] => match p with
    | .pnil => bif n == 0 then K (.s []) ob else none
    | .ap j 0 [] _ => match ds P pt with
      | .pointer e0 => match ds P e0 with
        | .int .u8 => match ob[j]? with
          | some (some (.arr e xs _)) => bif Nat.beq e (underId P e0) && n == (xs.length : Int) && decide (n ≤ 9223372036854775807) then onNil xs none (kBytes xs fun l => K (.s l) (ob.set j none)) else none
          | _ => none
        | _ => none
      | _ => none
    | _ => none
  | _, _, _ => none

/-! ### addresses -/
def isPtr : AV → Bool
  | .ptr _ _ _ => true
  | _ => false
def eqP : List Nat → List Nat → Bool
  | [], [] => true
  | a :: r, b :: s => Nat.beq a b && eqP r s
  | _, _ => false
/-- the very same address -/
def opPtrEq (P : Program) (op : BinOp) (t : TypeId) (x y : AV) (ob : Objs) (K : AV → Option R) : Option R := match x, y with
  | .ptr j p _, .ptr j' p' _ => match ob[j]?, ds P t with
    | some (some (.box _ _)), .pointer e => bif Nat.beq j j' && eqP p p' && (P.info? e).isSome then (match op with
      | .eql => K (.b true)
      | .neq => K (.b false)
      | _ => none) else none
    | _, _ => none
  | _, _ => none
def sizeB (P : Program) (t : TypeId) : Bool := match P.info? t with
  | some j => !(Nat.beq j.size 0)
  | none => false
/-- an address, made unsafe, and back -/
def opPtrConv (P : Program) (src dst : TypeId) (x : AV) (ob : Objs) (K : AV → Option R) : Option R := match x with
  | .ptr j [] u => match ob[j]? with
    | some (some (.box tb _)) => match und P src, ds P dst with
      | some (.pointer t), .unsafePointer => bif Nat.beq tb (underId P t) && Nat.blt 0 (P.cellsOf tb) && sizeB P t then K (.ptr j [] u) else none
      | some .unsafePointer, .pointer t => bif Nat.beq tb (underId P t) && Nat.blt 0 (P.cellsOf tb) && sizeB P t then K (.ptr j [] u) else none
      | _, _ => none
    | _ => none
  | .ptr j (i :: p) u => match ob[j]? with
    | some (some (.box _ c)) => match und P src, ds P dst, navA P (i :: p) c fun _ => some () with
      | some (.pointer t), .unsafePointer, some _ => bif Nat.blt 0 (P.cellsOf u) && sizeB P t then K (.ptr j (i :: p) u) else none
      | _, _, _ => none
    | _ => none
  | _ => none
def opConvert (P : Program) (own : Bool) (src dst : TypeId) (x : AV) (ob : Objs) (K : AV → Objs → Option R) : Option R :=
  match und P src with
  | none => none
  | some sd => match ds P dst, x with
    | .int k, .i _ n => K (.i k (k.wrap n)) ob
    | .string, .s l => K (.s l) ob
    | .slice e, .s l => match ds P e with
      | .int .u8 => bif own then K (.ref (underId P e) ob.length) (ob ++ [some (.arr (underId P e) (bytesD l) false)]) else K (.sl (underId P e) .any (bytesD l)) ob
      | _ => none
    | .slice e, .ref e1 j => match ds P e with
      | .int .u8 => bif own && Nat.beq src dst then (match ob[j]? with
        | some (some (.arr e2 xs _)) => bif Nat.beq e2 e1 then K (.sl e1 .any xs) (ob.set j none) else none
        | _ => none) else none
      | _ => none
    | .string, .snil => match sd with
      | .slice e => match ds P e with
        | .int .u8 => K (.s []) ob
        | _ => none
      | _ => none
    | .string, x => match sd with
      | .slice e => match ds P e with
        | .int .u8 => match elems P (underId P e) ob x with
          | some xs => kBytes xs fun l => K (.s l) ob
          | none => none
        | _ => none
      | _ => none
    | _, _ => none

/-- the bounds of a slice of so many -/
def bnd (a : Option AV) (df : Nat) (top : Nat) (K : Nat → Option R) : Option R := match a with
  | none => K df
  | some (.i _ n) => bif decide (0 ≤ n) && decide (n ≤ (top : Int)) then K n.toNat else none
  | _ => none
def opSlice (P : Program) (own : Bool) (t : TypeId) (x : AV) (lo hi mx : Option AV) (ob : Objs) (K : AV → Objs → Option R) : Option R :=
  match ds P t, x with
  | .string, .s l => match mx with
    | none => bnd hi l.length l.length fun h => bnd lo 0 h fun a => K (.s ((l.drop a).take (h - a))) ob
    | _ => none
  | .slice _, .snil => match mx with
    | none => bnd hi 0 0 fun h => bnd lo 0 h fun a => K .snil ob
    | _ => none
  | .slice e0, .sl e c xs => bif Nat.beq e (underId P e0) then (match mx with
    | none => bnd hi xs.length xs.length fun h => bnd lo 0 h fun a => K (.sl e .any ((xs.drop a).take (h - a))) ob
    | some m => match hi with
      | some hi => bnd (some m) 0 xs.length fun m => bnd (some hi) 0 m fun h => bnd lo 0 h fun a => bif Nat.beq h m then K (.sl e .cl ((xs.drop a).take (h - a))) ob else none
      | none => none) else none
  | .slice e0, .ref e j => bif Nat.beq e (underId P e0) then (match ob[j]?, mx with
    | some (some (.arr e' xs fz)), none => bif own then
        (match lo, fz with
        | none, false => bnd hi xs.length xs.length fun h => K (.ref e ob.length) (ob.set j none ++ [some (.arr e' (xs.take h) false)])
        | some l, false => bnd hi xs.length xs.length fun h => bnd (some l) 0 h fun a => K (.vw e j a (h - a)) ob
        | _, _ => none)
      else bnd hi xs.length xs.length fun h => bnd lo 0 h fun a => K (.sl e .any ((xs.drop a).take (h - a))) (ob.set j (some (.arr e' xs true)))
    | some (some (.arr e' xs fz)), some m => match hi with
      | some hi => bnd (some m) 0 xs.length fun m => bnd (some hi) 0 m fun h => bnd lo 0 h fun a => bif Nat.beq h m then K (.sl e .cl ((xs.drop a).take (h - a))) (ob.set j (some (.arr e' xs true))) else none
      | none => none
    | _, _ => none) else none
  | .array n e0, .ptr j [] _ => bif own then (match mx, ob[j]? with
      | none, some (some (.box tb _)) => bif Nat.beq tb (underId P t) then bnd hi n n fun h => bnd lo 0 h fun a => K (.vw (underId P e0) j a (h - a)) ob else none
      | _, _ => none)
    else match lo, hi, mx, ob[j]? with
    | none, none, none, some (some (.box tb (.d _ (.agg xs)))) => bif Nat.beq tb (underId P t) then K (.sl (underId P e0) .ex xs) (ob.set j none) else none
    | _, _, _, _ => none
  | .array _ e0, .vp u (.agg xs) => match lo, hi, mx with
    | none, none, none => bif Nat.beq u (underId P t) then K (.sl (underId P e0) .ex xs) ob else none
    | _, _, _ => none
  | _, _ => none

/-- the parts of a literal -/
def partT (P : Program) (t : TypeId) (i : Nat) : Option TypeId := match ds P t with
  | .struct fs => (fs[i]?).map (·.type)
  | .array n e => bif Nat.blt i n then some e else none
  | _ => none
def fillA (P : Program) (t : TypeId) : AV → List (Nat × AV) → Option AV
  | a, [] => some a
  | a, (i, v) :: r => match partT P t i, setA P [i] a v with
    | some ft, some a' => bif fits P ft v then fillA P t a' r else none
    | _, _ => none
def fillL (P : Program) (e : TypeId) : List D → List (Nat × AV) → Objs → Option (List D × Objs)
  | xs, [], ob => some (xs, ob)
  | xs, (i, v) :: r, ob => match frz v ob with
    | (v', ob') => match toD v' with
      | some y => bif isTy P e v' && Nat.blt i xs.length then fillL P e (xs.set i y) r ob' else none
      | none => none

/-! ### results of calls -/
def aInt (k : IntKind) (a : AV) (K : Int → Option R) : Option R := match a with | .i k' n => bif kEq k' k then K n else none | _ => none
def aBool (a : AV) (K : Bool → Option R) : Option R := match a with | .b x => K x | _ => none
def aStr (a : AV) (K : List UInt8 → Option R) : Option R := match a with | .s l => K l | _ => none
def aSl (e : TypeId) (a : AV) (K : Cp → List D → Option R) : Option R := match a with
  | .snil => K .nl []
  | .sl e' c xs => bif Nat.beq e' e then K c xs else none
  | _ => none
def aRow (e : TypeId) (a : AV) (K : AV → Option R) : Option R := match a with
  | .snil => K (.sl e .nl [])
  | .sl e' c xs => bif Nat.beq e' e then K (.sl e c xs) else none
  | .ref e' j => bif Nat.beq e' e then K (.ref e j) else none
  | _ => none
def aD (t : TypeId) (a : AV) (K : D → Option R) : Option R := match a with | .d t' x => bif Nat.beq t' t then K x else none | _ => none
def aPtr (e : TypeId) (a : AV) (K : AV → Option R) : Option R := match a with
  | .pnil => K .pnil
  | .ptr j p u => bif Nat.beq u e then K (.ptr j p u) else none
  | _ => none
def aUnsafe (a : AV) (K : AV → Option R) : Option R := match a with
  | .ptr j p u => K (.ptr j p u)
  | _ => none
/-- what is not kept -/
def aNone (a : AV) (K : AV → Option R) : Option R := match a with
  | .undef => K .undef
  | .err x => K (.err x)
  | .hp k t j p u => K (.hp k t j p u)
  | _ => none
def aTuple (a : AV) (K : List AV → Option R) : Option R := match a with | .tuple l => K l | _ => none
def openA (P : Program) (t : TypeId) (a : AV) (K : AV → Option R) : Option R := match ds P t with
  | .int k => aInt k a fun n => K (.i k n)
  | .bool => aBool a fun x => K (.b x)
  | .string => aStr a fun l => K (.s l)
  | .slice e => aRow (underId P e) a K
  | .struct _ => aD (underId P t) a fun x => openD P depth t x fun x' => K (.d (underId P t) x')
  | .array _ _ => aD (underId P t) a fun x => dAgg x fun ys => K (.d (underId P t) (.agg ys))
  | .pointer e => aPtr (underId P e) a K
  | .unsafePointer => aUnsafe a K
  | .interface _ => aNone a K
  | _ => none
def openAs (P : Program) : List TypeId → List AV → (List AV → Option R) → Option R
  | [], l, K => lNil l (K [])
  | t :: ts, l, K => lCons l fun a r => openA P t a fun a' => openAs P ts r fun r' => K (a' :: r')
def openR (P : Program) (t : TypeId) (a : AV) (K : AV → Option R) : Option R := match ds P t with
  | .tuple ts => aTuple a fun l => openAs P ts.toList l fun l' => K (.tuple l')
  | _ => openA P t a K
def dataArgs : List AV → Bool
  | [] => true
  | a :: r => (toD a).isSome && dataArgs r

def isOwn (Γ : Ctx) (f : FuncId) (dst : Option Nat) : Bool := match dst with
  | none => false
  | some d => Γ.own.any fun p => Nat.beq p.1 f && Nat.beq p.2 d

def opLoad (P : Program) (t : TypeId) (a : AV) (ob : Objs) (K : AV → Objs → Option R) : Option R := match a with
    | .vp u x => bif Nat.beq u (underId P t) then openD P depth t x fun y => K (fromD P t y) ob else none
    | .ptr j p u => bif Nat.beq u (underId P t) then (match ob[j]? with
      | some (some (.box _ v)) => navA P p v fun r => match r with
        | .inl a => bif fits P t a then K a ob else none
        | .inr y => openD P depth t y fun y' => K (fromD P t y') ob
      | _ => none) else none
    | .ap j i p u => bif Nat.beq u (underId P t) then (match ob[j]? with
      | some (some (.arr _ xs _)) => lGet xs i fun x => navD p x fun y => openD P depth t y fun y' => K (fromD P t y') ob
      | _ => none) else none
    | _ => none
def opStore (P : Program) (t : TypeId) (a x : AV) (ob : Objs) (K : AV → Objs → Option R) : Option R := match a with
    | .ptr j p u => bif Nat.beq u (underId P t) && fits P t x then (match ob[j]? with
      | some (some (.box u' v)) => match setA P p v x with
        | some v' => K .undef (ob.set j (some (.box u' v')))
        | none => none
      | _ => none) else none
    | .ap j i p u => bif Nat.beq u (underId P t) && isTy P t x then (match ob[j]?, toD x with
      | some (some (.arr e xs false)), some y => lGet xs i fun x => K .undef (ob.set j (some (.arr e (xs.set i (setD p x y)) false)))
      | _, _ => none) else none
    | _ => none
/-- what is stored, where it is not written any more -/
def frzV (P : Program) (t : TypeId) (a : AV) (ob : Objs) : AV × Objs := match a with
  | .snil => (.sl (elemU P t) .any [], ob)
  | a => frz a ob
def opStoreZ (P : Program) (z : Bool) (t : TypeId) (a x : AV) (ob : Objs) (K : AV → Objs → Option R) : Option R := match z with
  | true => match frzV P t x ob with
    | (x', ob') => opStore P t a x' ob' K
  | false => opStore P t a x ob K
def opFieldAddr (P : Program) (s : TypeId) (i : Nat) (a : AV) (K : AV → Option R) : Option R := match a, fieldT P s i with
    | .vp u y, some ft => bif Nat.beq u (underId P s) then dAgg y fun ys => lGet ys i fun z => K (.vp (underId P ft) z) else none
    | .ptr j p u, some ft => bif Nat.beq u (underId P s) then K (.ptr j (p ++ [i]) (underId P ft)) else none
    | .ap j n p u, some ft => bif Nat.beq u (underId P s) then K (.ap j n (p ++ [i]) (underId P ft)) else none
    | _, _ => none
def opField (P : Program) (t : TypeId) (i : Nat) (a : AV) (K : AV → Option R) : Option R := match a, fieldT P t i with
    | .d u y, some ft => bif Nat.beq u (underId P t) then dAgg y fun ys => lGet ys i fun z => openD P depth ft z fun z' => K (fromD P ft z') else none
    | .agg u l, some _ => bif Nat.beq u (underId P t) then (match l[i]? with | some a => K a | none => none) else none
    | _, _ => none
def opIndexAddr (P : Program) (t : TypeId) (x ix : AV) (ob : Objs) (K : AV → Option R) : Option R := match x, ix with
    | .sl e _ xs, .i _ n => match ds P t with
      | .slice e' => bif Nat.beq e (underId P e') then idx xs n fun y => K (.vp e y) else none
      | _ => none
    | .ref e j, .i _ n => match ds P t with
      | .slice e' => bif Nat.beq e (underId P e') then (match ob[j]? with
        | some (some (.arr _ xs _)) => bif decide (0 ≤ n) && decide (n < (xs.length : Int)) then K (.ap j n.toNat [] e) else none
        | _ => none) else none
      | _ => none
    | .vp u x, .i _ n => match ds P t with
      | .array _ e => bif Nat.beq u (underId P t) then dAgg x fun ys => idx ys n fun y => K (.vp (underId P e) y) else none
      | _ => none
    | .ptr j p u, .i _ n => match ds P t with
      | .array len e => bif Nat.beq u (underId P t) && decide (0 ≤ n) && decide (n < (len : Int)) then K (.ptr j (p ++ [n.toNat]) (underId P e)) else none
      | _ => none
    | .ap j m p u, .i _ n => match ds P t with
      | .array len e => bif Nat.beq u (underId P t) && decide (0 ≤ n) && decide (n < (len : Int)) then K (.ap j m (p ++ [n.toNat]) (underId P e)) else none
      | _ => none
    | _, _ => none
def opIndex (P : Program) (t : TypeId) (x ix : AV) (K : AV → Option R) : Option R := match x, ix with
    | .s l, .i _ n => match ds P t with
      | .string => idx l n fun c => K (.i .u8 c.toNat)
      | _ => none
    | .d u x, .i _ n => match ds P t with
      | .array _ e => bif Nat.beq u (underId P t) then dAgg x fun ys => idx ys n fun y => openD P depth e y fun y' => K (fromD P e y') else none
      | _ => none
    | _, _ => none
def opExtract (x : AV) (i : Nat) (K : AV → Option R) : Option R := match x with
    | .tuple l => match l[i]? with
      | some a => K a
      | none => none
    | _ => none
def rowT (P : Program) (t : TypeId) : Bool := match ds P t with
  | .struct _ | .array _ _ => true
  | _ => false
def opBuild (P : Program) (t : TypeId) (ps : List (Nat × AV)) (K : AV → Option R) : Option R := bif rowT P t && fits P t (zeroA P depth t) then (match fillA P t (zeroA P depth t) ps with
    | some a => K a
    | none => none) else none
def opBuildSlice (P : Program) (own : Bool) (t : TypeId) (n : Nat) (ps : List (Nat × AV)) (ob : Objs) (K : AV → Objs → Option R) : Option R := match ds P t with
    | .slice e => match toD (zeroA P depth e) with
      | some z => bif fits P e (zeroA P depth e) && Nat.ble (n * P.cellsOf e) 16777216 then (match fillL P e (List.replicate n z) ps ob with
        | some (xs, ob') => bif own then K (.ref (underId P e) ob'.length) (ob' ++ [some (.arr (underId P e) xs false)])
          else K (.sl (underId P e) .ex xs) ob'
        | none => none) else none
      | none => none
    | _ => none
def opMakeSlice (P : Program) (t : TypeId) (l c : AV) (ob : Objs) (K : AV → Objs → Option R) : Option R := match ds P t with
    | .slice e => match l, c, toD (zeroA P depth e) with
      | .i _ n, .i _ m, some z => bif fits P e (zeroA P depth e) && decide (0 ≤ n) && decide (n ≤ m) && roomB m.toNat (P.bytesOf e) then
          K (.ref (underId P e) ob.length) (ob ++ [some (.arr (underId P e) (List.replicate n.toNat z) false)]) else none
      | _, _, _ => none
    | _ => none
mutual
def idsA : AV → List Nat
  | .ptr j _ _ => [j]
  | .ref _ j => [j]
  | .ap j _ _ _ => [j]
  | .vw _ j _ _ => [j]
  | .hp _ _ j _ _ => [j]
  | .fn _ l => idsL l
  | .agg _ l => idsL l
  | .tuple l => idsL l
  | _ => []
def idsL : List AV → List Nat
  | [] => []
  | a :: r => idsA a ++ idsL r
end
def idsO : Option Obj → List Nat
  | some (.box _ v) => idsA v
  | _ => []
def memN (j : Nat) : List Nat → Bool
  | [] => false
  | a :: r => Nat.beq a j || memN j r
def reach (ob : Objs) : Nat → List Nat → List Nat → List Nat
  | 0, _, acc => acc
  | _, [], acc => acc
  | n + 1, j :: r, acc => bif memN j acc then reach ob n r acc else reach ob n (idsO (ob.getD j none) ++ r) (acc ++ [j])
def posN (j : Nat) : List Nat → Nat
  | [] => 0
  | a :: r => bif Nat.beq a j then 0 else posN j r + 1
mutual
def renA (g : Nat → Nat) : AV → AV
  | .ptr j p t => .ptr (g j) p t
  | .ref e j => .ref e (g j)
  | .ap j i p t => .ap (g j) i p t
  | .vw e j lo n => .vw e (g j) lo n
  | .hp k t j p u => .hp k t (g j) p u
  | .fn f l => .fn f (renL g l)
  | .agg t l => .agg t (renL g l)
  | .tuple l => .tuple (renL g l)
  | a => a
def renL (g : Nat → Nat) : List AV → List AV
  | [] => []
  | a :: r => renA g a :: renL g r
end
def renO (g : Nat → Nat) : Option Obj → Option Obj
  | some (.box t v) => some (.box t (renA g v))
  | o => o
def allIn (ord : List Nat) : List Nat → Bool
  | [] => true
  | j :: r => memN j ord && allIn ord r
def nodupN : List Nat → Bool
  | [] => true
  | a :: r => !memN a r && nodupN r
def allO (ord : List Nat) (ob : Objs) : List Nat → Bool
  | [] => true
  | j :: r => allIn ord (idsO (ob.getD j none)) && allO ord ob r
/-- a list of objects that leads to no other ones -/
def clsd (ob : Objs) (ord ids : List Nat) : Bool := nodupN ord && allIn ord ids && allO ord ob ord
def idsOb (ob : Objs) : List Nat → List Nat
  | [] => []
  | j :: r => idsO (ob.getD j none) ++ idsOb ob r
def rootsOf : List (FuncId × Nat) → FuncId → Nat
  | [], _ => 0
  | (g, n) :: r, f => bif Nat.beq g f then n else rootsOf r f
/-- objects that are handed on, in a call -/
def killAll (ob : Objs) : List Nat → Objs
  | [] => ob
  | j :: r => (killAll ob r).set j none
def sameObj (o : Option (Option Obj)) (o' : Obj) : Bool := match o, o' with
  | some (some (.box t _)), .box t' _ => Nat.beq t t'
  | some (some (.arr e xs _)), .arr e' xs' _ => Nat.beq e e' && Nat.beq xs.length xs'.length
  | _, _ => false
def sameBoxes (ob : Objs) : List Nat → Objs → Bool
  | [], _ => true
  | j :: r, some o' :: os => sameObj ob[j]? o' && sameBoxes ob r os
  | _, _ => false
def putRoots (g : Nat → Nat) : Objs → List Nat → Objs → Objs
  | ob, j :: r, o :: os => putRoots g (ob.set j (renO g o)) r os
  | ob, _, _ => ob
def backN (rts : List Nat) (n : Nat) (i : Nat) : Nat := match rts[i]? with
  | some j => j
  | none => n + (i - rts.length)
/-- each but once -/
def nubN : List Nat → List Nat
  | [] => []
  | a :: r => a :: (nubN r).filter fun b => !Nat.beq a b
def opCall1 (Γ : Ctx) (call : Handle) (t : TypeId) (g : FuncId) (all : List AV) (ob : Objs) (K : AV → Objs → Option R) : Option R :=
  match frzC (memF g Γ.refs) all ob with
      | (args, ob1) => match nubN (idsL args) with
        | rts => match reach ob1 400 (idsOb ob1 rts) rts with
          | ord => bif clsd ob1 ord rts && Nat.beq (rootsOf Γ.roots g) rts.length then
              (match call g (renL (fun j => posN j ord) args) (ord.map fun j => renO (fun j => posN j ord) (ob1.getD j none)) with
              | some (c, r, obs) => bif sameBoxes ob1 rts obs && c then
                  openR Γ.P t (renA (backN rts ob1.length) r) fun r' => K r' (putRoots (backN rts ob1.length) (killAll ob1 ord) rts obs ++ (obs.drop rts.length).map (renO (backN rts ob1.length)))
                else none
              | none => none) else none
def opCall (Γ : Ctx) (call : Handle) (t : TypeId) (g : AV) (as : List AV) (ob : Objs) (K : AV → Objs → Option R) : Option R := match g with
    | .fn g caps => opCall1 Γ call t g (as ++ caps) ob K
    | .hp false g j p u => opCall1 Γ call t g (.ptr j p u :: as) ob K
    | _ => none
def methG : List (TypeId × String × FuncId) → TypeId → String → Option FuncId
  | [], _, _ => none
  | (t, n, g) :: r, u, m => bif Nat.beq t u && decide (n = m) then some g else methG r u m
def opInvoke (Γ : Ctx) (call : Handle) (t : TypeId) (x : AV) (name : String) (as : List AV) (ob : Objs) (K : AV → Objs → Option R) : Option R := match x with
    | .hp true d j p u => match methG Γ.meths d name with
      | some g => opCall1 Γ call t g (.ptr j p u :: as) ob K
      | none => none
    | _ => none
def opMakeI (P : Program) (t : TypeId) (x : AV) (K : AV → Option R) : Option R := match x, ds P t with
    | .ptr j p u, .pointer _ => K (.hp true t j p u)
    | _, _ => none
def isNilC : Operand → Bool
  | .const .nilIface => true
  | _ => false
/-- an interface value, compared with nil -/
def errK (P : Program) (op : BinOp) (t : TypeId) (a : AV) (K : AV → Option R) : Option R := match a, ds P t, op with
  | .err x, .interface _, .eql => K (.b (!x))
  | .err x, .interface _, .neq => K (.b x)
  | _, _, _ => none
/-- one operation -/
def stepOp (Γ : Ctx) (call : Handle) (f : FuncId) (o : Oper) (ρ : Operand → AV) (ob : Objs) (K : AV → Objs → Option R) : Option R :=
  match o.op with
  | .move x | .assign x => K (ρ x) ob
  | .pick c a b => match ρ c with
    | .b x => bif x then K (ρ a) ob else K (ρ b) ob
    | _ => none
  | .alloc e => bif fits Γ.P e (zeroA Γ.P depth e) then K (.ptr ob.length [] (underId Γ.P e)) (ob ++ [some (.box (underId Γ.P e) (zeroA Γ.P depth e))]) else none
  | .box e x => bif fits Γ.P e (ρ x) then K (.ptr ob.length [] (underId Γ.P e)) (ob ++ [some (.box (underId Γ.P e) (ρ x))]) else none
  | .build t ps => opBuild Γ.P t (ps.toList.map fun p => (p.1, ρ p.2)) fun a => K a ob
  | .buildSlice t n ps => opBuildSlice Γ.P (isOwn Γ f o.dst) t n (ps.toList.map fun p => (p.1, ρ p.2)) ob K
  | .load t a => opLoad Γ.P t (ρ a) ob K
  | .store t a x => opStoreZ Γ.P (memF f Γ.frzs) t (ρ a) (ρ x) ob K
  | .nilCheck x => match ρ x with
    | .ptr j p u => K (.ptr j p u) ob
    | .vp u x => K (.vp u x) ob
    | _ => none
  | .binOp op t x y _ => bif isNilC y then errK Γ.P op t (ρ x) (fun a => K a ob) else bif isPtr (ρ x) && isPtr (ρ y) then opPtrEq Γ.P op t (ρ x) (ρ y) ob fun a => K a ob else opBin Γ.P op t (ρ x) (ρ y) fun a => K a ob
  | .unOp op _ x => match opUn op (ρ x) with
    | some a => K a ob
    | none => none
  | .convert s d x => bif isPtr (ρ x) then opPtrConv Γ.P s d (ρ x) ob fun a => K a ob else opConvert Γ.P (isOwn Γ f o.dst) s d (ρ x) ob K
  | .makeSlice t l c => opMakeSlice Γ.P t (ρ l) (ρ c) ob K
  | .slice t x lo hi mx => opSlice Γ.P (isOwn Γ f o.dst) t (ρ x) (lo.map ρ) (hi.map ρ) (mx.map ρ) ob K
  | .fieldAddr s x i => opFieldAddr Γ.P s i (ρ x) fun a => K a ob
  | .field t x i => opField Γ.P t i (ρ x) fun a => K a ob
  | .indexAddr t x ix => opIndexAddr Γ.P t (ρ x) (ρ ix) ob fun a => K a ob
  | .index t x ix => opIndex Γ.P t (ρ x) (ρ ix) fun a => K a ob
  | .extract x i => opExtract (ρ x) i fun a => K a ob
  | .makeFunc fn first caps => match fn, first.toList with
    | .func g, [] => K (.fn g (caps.toList.map ρ)) ob
    | .func g, [x] => match ρ x, caps.toList with
      | .ptr j p u, [] => K (.hp false g j p u) ob
      | _, _ => none
    | _, _ => none
  | .makeInterface t x => opMakeI Γ.P t (ρ x) fun a => K a ob
  | .call c => match c.callee with
    | .builtin b => opBuiltin Γ.P b c.argTypes.toList (c.args.toList.map ρ) ob K
    | .value g => opCall Γ call o.type (ρ g) (c.args.toList.map ρ) ob K
    | .invoke x name => opInvoke Γ call o.type (ρ x) name (c.args.toList.map ρ) ob K
  | _ => none

/-- is an operation wanted? its guard is looked at; what it says is known from then on -/
def guardK (ops : List Oper) (o : Oper) (tm : Tm) (K : Bool → Tm → Option R) : Option R := match o.guard with
  | none => K true tm
  | some (j, want) => match (ops[j]?).bind (·.dst) with
    | none => none
    | some d => match get tm d with
      | .b x => bif x then K (want == true) ((d, .b true) :: tm) else K (want == false) ((d, .b false) :: tm)
      | .tuple [] => K false tm
      | _ => none

def put (dst : Option Nat) (v : AV) (tm : Tm) : Tm := match dst with
  | none => tm
  | some d => (d, v) :: tm

def stepOps (Γ : Ctx) (call : Handle) (f : FuncId) (ops : List Oper) : List Oper → St → (St → Option R) → Option R
  | [], st, K => K st
  | o :: r, st, K => guardK ops o st.tm fun w tm => bif w then stepOp Γ call f o (evo Γ tm) st.ob fun v ob => stepOps Γ call f ops r ⟨put o.dst v tm, ob⟩ K
      else stepOps Γ call f ops r ⟨put o.dst (.tuple []) tm, st.ob⟩ K

end Go.Proofs.Ytbdekjlnnbjicaa.V

/- The abstract machine over values: code, labels, results, and a machine that runs by itself. Definitions alone. -/
namespace Go.Proofs.Ytbdekjlnnbjicaa.V
open Go
set_option linter.unusedVariables false

/-- what is still to do: code; code at a label; the ends of blocks, loops, scopes -/
inductive AI where
  | c (c : Code)
  | j (c : Code)
  | blk (id : Nat)
  | lp (c : Code)
  | sc (c : Code)
  deriving Inhabited

def AI.item : AI → Item
  | .c x | .j x => .code x
  | .blk id => .inBlock id
  | .lp x => .inLoop x
  | .sc x => .inScope x
abbrev items (l : List AI) : List Item := l.map AI.item

/-- the number of the first region of a text -/
def keyC : Code → Nat
  | .region id _ _ => id
  | .seq a _ => keyC a
  | .cond _ a _ => keyC a
  | .block _ c => keyC c
  | .loop c => keyC c
  | .scope c => keyC c
  | _ => 0
def keyT : List AI → Nat
  | .lp c :: _ => keyC c
  | .j c :: _ => keyC c + 100000
  | _ => 0
def liveAt : List (FuncId × Nat × List Nat) → FuncId → Nat → Option (List Nat)
  | [], _, _ => none
  | (f, k, l) :: r, g, n => bif Nat.beq f g && Nat.beq k n then some l else liveAt r g n

/-- a reference to a row that is gone tells nothing -/
def clean (ob : Objs) : AV → AV
  | .ref e j => match ob.getD j none with
    | some _ => .ref e j
    | none => .undef
  | .ap j i p t => match ob.getD j none with
    | some _ => .ap j i p t
    | none => .undef
  | .vw e j a n => match ob.getD j none with
    | some _ => .vw e j a n
    | none => .undef
  | a => a
/-- what is kept at a label -/
def restrict (m : Nat) (live : List Nat) (st : St) : St :=
  let tm := live.map fun t => (t, clean st.ob (get st.tm t))
  let ord := reach st.ob 400 (idsOb st.ob (List.range m) ++ idsL (tm.map (·.2))) (List.range m)
  ⟨tm.map fun p => (p.1, renA (fun j => posN j ord) p.2), ord.map fun j => renO (fun j => posN j ord) (st.ob.getD j none)⟩

/-- nothing is lost -/
def closedR (m : Nat) (live : List Nat) (st : St) : Bool :=
  let tm := live.map fun t => (t, clean st.ob (get st.tm t))
  let ord := reach st.ob 400 (idsOb st.ob (List.range m) ++ idsL (tm.map (·.2))) (List.range m)
  clsd st.ob ord (idsL (tm.map (·.2)))
/-- are all temporaries there that operations yield into? -/
def dstOk (Γ : Ctx) (f : FuncId) (ops : List Oper) : Bool :=
  let n := match Γ.P.funcs[f]? with
    | some fn => fn.ntmps
    | none => 0
  ops.all fun o => match o.dst with
    | none => true
    | some d => Nat.blt d n

/-- where 'exit' leads to -/
def exitA (id : Nat) : List AI → Option (List AI)
  | [] => none
  | .blk i :: k => bif Nat.beq i id then some k else exitA id k
  | _ :: k => exitA id k

/-! ### regions whose order is open: pairs that may come up in either order do not touch each other -/
/-- what an operation does to objects: 0 nothing; 1 it looks; 2 it turns them -/
def kindOp (Γ : Ctx) (f : FuncId) (o : Oper) : Nat := match o.op with
  | .move _ | .assign _ | .pick .. | .build .. | .nilCheck _ | .binOp .. | .unOp .. | .fieldAddr .. | .field .. | .index .. | .extract .. => 0
  | .load .. | .indexAddr .. => 1
  | .convert .. | .slice .. => bif isOwn Γ f o.dst then 2 else 1
  | .call { callee := .builtin .len, .. } => 1
  | .call { callee := .builtin .min, .. } => 0
  | .call { callee := .builtin .max, .. } => 0
  | _ => 2
/-- before: for each operation the bits of those that come up ahead of it -/
def orderOk (Γ : Ctx) (f : FuncId) (ops : Array Oper) : Bool :=
  let b := (Region.before ops).toList
  let ks := ops.toList.map (kindOp Γ f)
  let rec inner (j kj bj : Nat) : List Nat → Nat → Bool
    | [], _ => true
    | ki :: r, i => (bif Nat.ble j i then true else (bif Nat.ble 2 ki && Nat.ble 1 kj || Nat.ble 1 ki && Nat.ble 2 kj then bj.testBit i else true) && inner j kj bj r (i + 1))
  let rec outer : List Nat → List Nat → Nat → Bool
    | kj :: r, bj :: br, j => inner j kj bj ks 0 && outer r br (j + 1)
    | _, _, _ => true
  outer ks b 0

/-- of calls: those alone that hand on nothing but data and leave nothing -/
def calmH (call : Handle) : Handle := fun g args obs => lNil obs (match call g args [] with
  | some (c, r, os) => lNil os (lNil (idsA r) (some (c, r, [])))
  | none => none)
def noRef : AV → Bool
  | .ref _ _ => false
  | _ => true
/-- nor an address -/
def noObj : AV → Bool
  | .ref _ _ => false
  | .ptr _ _ _ => false
  | _ => true
def isRefA : AV → Bool
  | .ref _ _ => true
  | _ => false
def noCaps : AV → Bool
  | .fn _ [] => true
  | _ => false
def isCalm (Γ : Ctx) (f : FuncId) (o : Oper) (ρ : Operand → AV) : Bool := match o.op with
  | .makeFunc .. | .move _ | .assign _ | .pick .. | .build .. | .nilCheck _ | .binOp .. | .unOp .. | .fieldAddr .. | .field .. | .index .. | .extract .. | .load .. | .indexAddr .. => true
  | .convert .. => !isOwn Γ f o.dst
  | .slice _ x lo _ mx => (!isOwn Γ f o.dst && noObj (ρ x)) || (isOwn Γ f o.dst && (lo.isSome && (mx.isNone && isRefA (ρ x))))
  | .buildSlice _ _ ps => !isOwn Γ f o.dst && ps.toList.all fun p => noRef (ρ p.2)
  | .call c => match c.callee with
    | .builtin .len | .builtin .min | .builtin .max | .builtin .unsafeSliceData => true
    | .value g => noCaps (ρ g) && c.args.toList.all fun x => noRef (ρ x)
    | _ => false
  | _ => false
/-- operations that make an object, or put one in another's place: among themselves their order is fixed -/
def isMk (Γ : Ctx) (o : Oper) : Bool := match o.op, o.guard with
  | .alloc _, none => true
  | .store _ _ _, none => true
  | .call c, none => match c.callee with
    | .builtin .append => true
    | .builtin .copy => true
    | .value (.func g) => memF g Γ.outs || !Nat.beq (rootsOf Γ.roots g) 0
    | _ => false
  | _, _ => false
/-- operations that put something into an object -/
def isSt (o : Oper) : Bool := match o.op, o.guard with
  | .store _ _ _, none => true
  | _, _ => false
/-- operations on temporaries alone -/
def pureK (o : Oper) : Bool := match o.op with
  | .makeFunc .. | .move _ | .assign _ | .pick .. | .build .. | .nilCheck _ | .binOp .. | .unOp .. | .fieldAddr .. | .field .. | .index .. | .extract .. => true
  | _ => false
def noRowV : AV → Bool
  | .ref _ _ => false
  | _ => true
/-- no older object is touched -/
def mkFresh (n : Nat) (o : Oper) (ρ : Operand → AV) : Bool := match o.op with
  | .alloc _ => true
  | .store _ a x => match ρ a with
    | .ptr j _ _ => Nat.ble n j && noRowV (ρ x)
    | _ => false
  | .call c => match c.callee with
    | .value g => noCaps (ρ g) && ((c.args.toList.map ρ).all noRef && (idsL (c.args.toList.map ρ)).isEmpty)
    | _ => match c.args.toList.map ρ with
      | .ref _ j :: _ => Nat.ble n j
      | .vw _ _ _ _ :: _ => false
      | _ => true
  | _ => false
/-- what comes to the same whatever the objects -/
def isFree (o : Oper) (ρ : Operand → AV) : Bool := match o.op with
  | .load _ a => match ρ a with
    | .vp _ _ => true
    | _ => false
  | .slice _ x .. => noObj (ρ x)
  | .buildSlice .. => true
  | .call c => match c.callee with
    | .value _ => true
    | _ => false
  | _ => false
def isIn (ea : List Nat) : Option Nat → Bool
  | some d => memN d ea
  | none => false
/-- of calm operations: those that do not feel new objects -/
def isCalm2 (o : Oper) (ρ : Operand → AV) : Bool := match o.op with
  | .makeFunc .. | .move _ | .assign _ | .pick .. | .build .. | .nilCheck _ | .unOp .. | .fieldAddr .. | .field .. | .index .. | .extract .. | .load .. | .indexAddr .. | .buildSlice .. | .slice .. => true
  | .binOp _ _ x y _ => !(isPtr (ρ x) && isPtr (ρ y))
  | .call c => match c.callee with
    | .builtin .len => true
    | .value _ => true
    | _ => false
  | _ => false
/-- al: are objects made, or turned, among them? T: the objects as they are by now -/
def stepOpsD {R : Type} (Γ : Ctx) (call : Handle) (f : FuncId) (lk al : Bool) (ea : List Nat) (ops : List Oper) : List Oper → Objs → St → (St → Option R) → Option R
  | [], T, st, K => K ⟨st.tm, T⟩
  | o :: r, T, st, K => bif isMk Γ o then (bif al && (lk || mkFresh st.ob.length o (evo Γ st.tm)) then stepOp Γ call f o (evo Γ st.tm) T fun v ob => stepOpsD Γ call f lk al ea ops r ob ⟨put o.dst v st.tm, st.ob⟩ K else none)
    else guardK ops o st.tm fun w tm => bif w then (bif isCalm Γ f o (evo Γ tm) && ((!al || isCalm2 o (evo Γ tm)) && (!lk || (pureK o || (isIn ea o.dst || isFree o (evo Γ tm))))) then stepOp Γ (calmH call) f o (evo Γ tm) st.ob fun v ob => stepOpsD Γ call f lk al ea ops r T ⟨put o.dst v tm, ob⟩ K else none)
      else stepOpsD Γ call f lk al ea ops r T ⟨put o.dst (.tuple []) tm, st.ob⟩ K
/-- rows that are not written any more -/
def frzP (a : AV) (ob : Objs) : AV × Objs := match a with
  | .ptr j [] u => match ob[j]? with
    | some (some (.box _ v)) => match toD v with
      | some x => (.vp u x, ob.set j none)
      | none => (.ptr j [] u, ob)
    | _ => (.ptr j [] u, ob)
  | a => frz a ob
def frzT : List Nat → St → St
  | [], st => st
  | t :: r, st => match frzP (get st.tm t) st.ob with
    | (a, ob) => frzT r ⟨put (some t) a st.tm, ob⟩
def preAt : List (FuncId × Nat × List Nat) → FuncId → Nat → List Nat
  | [], _, _ => []
  | (g, i, l) :: q, f, id => bif Nat.beq g f && Nat.beq i id then l else preAt q f id
/-- what stands ahead of an operation, in whatever order: as bits -/
def ancOf (A : List Nat) (o : Oper) : Nat := o.after.toList.foldl (fun m e => bif Region.binds .any e then Nat.lor (Nat.lor m (Nat.shiftLeft 1 e.on)) (A.getD e.on 0) else m) 0
def ancs : List Oper → List Nat → List Nat
  | [], A => A
  | o :: r, A => ancs r (A ++ [ancOf A o])
def ancOk (ops : List Oper) (A : List Nat) : Bool := ops.zipIdx.all fun p => Nat.beq (A.getD p.2 0) (ancOf A p.1) && p.1.after.toList.all fun e => !Region.binds .any e || Nat.blt e.on p.2
def looks (ops : List Oper) (o : Oper) : List Nat :=
  (o.op.operands.toList.filterMap fun | .tmp t => some t | _ => none) ++
  (match o.guard with
   | some (g, _) => ((ops[g]?).bind (·.dst)).toList
   | none => [])
def dstsL (ops : List Oper) : List Nat := ops.filterMap (·.dst)
def readOk (ops pre : List Oper) (A : List Nat) : Bool := pre.zipIdx.all fun p => (looks ops p.1).all fun t => pre.zipIdx.all fun q => match q.1.dst with
  | none => true
  | some d => !Nat.beq d t || Nat.beq q.2 p.2 || (bif Nat.blt q.2 p.2 then (A.getD p.2 0).testBit q.2 else (A.getD q.2 0).testBit p.2)
/-- all that is written ahead stands ahead -/
def fullAt (A : List Nat) (i : Nat) : Bool := (List.range i).all fun j => (A.getD i 0).testBit j
def cutAt (A : List Nat) : Nat → Nat
  | 0 => 0
  | n + 1 => bif fullAt A n then cutAt A n else n + 1
/-- what makes objects is written in order -/
def chainOk (Γ : Ctx) (pre : List Oper) (A : List Nat) : Bool := pre.zipIdx.all fun p => !isMk Γ p.1 || pre.zipIdx.all fun q => !isMk Γ q.1 || !Nat.blt q.2 p.2 || (A.getD p.2 0).testBit q.2
/-- where something is put into objects: what looks at objects stands ahead of it -/
def lookAll (Γ : Ctx) (pre : List Oper) (A : List Nat) : Bool := pre.zipIdx.all fun p => isMk Γ p.1 || (pureK p.1 || pre.zipIdx.all fun q => !isMk Γ q.1 || (A.getD q.2 0).testBit p.2)
/-- what stands ahead of all that makes or turns objects -/
def earlyL (Γ : Ctx) (pre : List Oper) (A : List Nat) : List Nat := pre.zipIdx.filterMap fun p => bif pre.zipIdx.all (fun q => !isMk Γ q.1 || (A.getD q.2 0).testBit p.2) then p.1.dst else none
def memP (f i : Nat) : List (FuncId × Nat) → Bool
  | [] => false
  | (g, j) :: r => (Nat.beq g f && Nat.beq j i) || memP f i r
def drawCut (ops : List Oper) : Nat := cutAt (ancs ops []) ops.length
def drawOk (Γ : Ctx) (ops : List Oper) : Bool :=
  let A := ancs ops []
  ancOk ops A && readOk ops (ops.take (drawCut ops)) A && (nodupN (dstsL (ops.take (drawCut ops))) && chainOk Γ (ops.take (drawCut ops)) A)

/-! ### results -/
def resL (P : Program) : List ResultVar → St → Option (List AV)
  | [], _ => some []
  | .tmp t :: r, st => (resL P r st).map (get st.tm t :: ·)
  | .cell a t :: r, st => match get st.tm a with
    | .ptr j [] _ => match st.ob[j]? with
      | some (some (.box _ v)) => bif fits P t v then (resL P r st).map (v :: ·) else none
      | _ => none
    | _ => none
def oneR : List AV → AV
  | [a] => a
  | l => .tuple l
def fin (P : Program) (m : Nat) (out : Bool) (res : List ResultVar) (st : St) : Option (AV × Objs) := match resL P res st with
  | some l => match frzC out l st.ob with
    | (l', ob') => match reach ob' 400 (idsOb ob' (List.range m) ++ idsL l') (List.range m) with
      | ord => bif clsd ob' ord (idsL l') then some (renA (fun j => posN j ord) (oneR l'), ord.map fun j => renO (fun j => posN j ord) (ob'.getD j none)) else none
  | none => none

/-! ### code -/
abbrev Lab := List AI → St → Option (AV × Objs)
def ev (Γ : Ctx) (call : Handle) (lab : Lab) (f : FuncId) (res : List ResultVar) : Nat → List AI → St → Option (AV × Objs)
  | 0, _, _ => none
  | n + 1, todo, st => match todo with
    | [] => fin Γ.P (rootsOf Γ.roots f) (memF f Γ.outs) res st
    | .blk _ :: k | .sc _ :: k => ev Γ call lab f res n k st
    | .lp c :: k => match liveAt Γ.live f (keyC c) with
      | some l => bif closedR (rootsOf Γ.roots f) l st then lab (.lp c :: k) (restrict (rootsOf Γ.roots f) l st) else none
      | none => none
    | .j c :: k => match liveAt Γ.live f (keyC c + 100000) with
      | some l => bif closedR (rootsOf Γ.roots f) l st then lab (.j c :: k) (restrict (rootsOf Γ.roots f) l st) else none
      | none => none
    | .c x :: k => match x with
      | .ret => fin Γ.P (rootsOf Γ.roots f) (memF f Γ.outs) res st
      | .skip | .label _ => ev Γ call lab f res n k st
      | .seq a b => match liveAt Γ.live f (keyC b + 100000) with
        | some _ => ev Γ call lab f res n (.c a :: .j b :: k) st
        | none => ev Γ call lab f res n (.c a :: .c b :: k) st
      | .cond c a b => match evo Γ st.tm c with
        | .b x => bif x then ev Γ call lab f res n (.c a :: k) st else ev Γ call lab f res n (.c b :: k) st
        | _ => none
      | .block id c => ev Γ call lab f res n (.c c :: .blk id :: k) st
      | .scope c => ev Γ call lab f res n (.c c :: .sc c :: k) st
      | .loop c => match liveAt Γ.live f (keyC c) with
        | some l => bif closedR (rootsOf Γ.roots f) l st then lab (.lp c :: k) (restrict (rootsOf Γ.roots f) l st) else none
        | none => none
      | .exit id => match exitA id k with
        | some k' => ev Γ call lab f res n k' st
        | none => none
      | .region id ops draw => bif dstOk Γ f ops.toList then (bif draw then (bif drawOk Γ ops.toList && Γ.P.follows .mixedOrders then (match drawCut ops.toList with
            | m => match frzT (preAt Γ.pre f id) st with
            | st0 => stepOpsD Γ call f (memP f id Γ.lks || lookAll Γ (ops.toList.take m) (ancs ops.toList [])) ((ops.toList.take m).any (isMk Γ)) (earlyL Γ (ops.toList.take m) (ancs ops.toList [])) ops.toList (ops.toList.take m) st0.ob st0 fun st1 => stepOps Γ call f ops.toList (ops.toList.drop m) st1 fun st' => ev Γ call lab f res n k st') else none)
          else stepOps Γ call f ops.toList ops.toList st fun st' => ev Γ call lab f res n k st') else none
      | _ => none

/-- behind a label -/
def enterL : List AI → List AI
  | .lp c :: k => .c c :: .lp c :: k
  | .j c :: k => .c c :: k
  | k => k
def params (args : List AV) : Tm := args.zipIdx.map fun p => (p.2, p.1)
def steps : Nat := 5000
end Go.Proofs.Ytbdekjlnnbjicaa.V
