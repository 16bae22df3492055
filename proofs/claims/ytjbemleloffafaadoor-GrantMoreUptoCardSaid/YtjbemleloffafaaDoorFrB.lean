/- The abstract machine over values: code, labels, results, and a machine that runs by itself. Definitions alone. -/
import Derived.Test.YtjbemleloffafaaDoorFrA
namespace Go.Proofs.YtjbemleloffafaaDoor.V
open Go
set_option linter.unusedVariables false

/-- what is still to do: code; code at a label; the ends of blocks, loops, scopes -/
inductive AI where
  | c (c : Code)
  | j (c : Code)
  | blk (id : Nat)
  | lp (c : Code)
  | sc (c : Code)
  deriving Inhabited

def AI.item : AI → Item
  | .c x | .j x => .code x
  | .blk id => .inBlock id
  | .lp x => .inLoop x
  | .sc x => .inScope x
abbrev items (l : List AI) : List Item := l.map AI.item

/-- the number of the first region of a text -/
def keyC : Code → Nat
  | .region id _ _ => id
  | .seq a _ => keyC a
  | .cond _ a _ => keyC a
  | .block _ c => keyC c
  | .loop c => keyC c
  | .scope c => keyC c
  | _ => 0
def keyT : List AI → Nat
  | .lp c :: _ => keyC c
  | .j c :: _ => keyC c + 100000
  | _ => 0
def liveAt : List (FuncId × Nat × List Nat) → FuncId → Nat → Option (List Nat)
  | [], _, _ => none
  | (f, k, l) :: r, g, n => bif Nat.beq f g && Nat.beq k n then some l else liveAt r g n

/-- a reference to a row that is gone tells nothing -/
def clean (ob : Objs) : AV → AV
  | .ref e j => match ob.getD j none with
    | some _ => .ref e j
    | none => .undef
  | .ap j i p t => match ob.getD j none with
    | some _ => .ap j i p t
    | none => .undef
  | a => a
/-- what is kept at a label -/
def restrict (m : Nat) (live : List Nat) (st : St) : St :=
  let tm := live.map fun t => (t, clean st.ob (get st.tm t))
  let ord := reach st.ob 400 (idsOb st.ob (List.range m) ++ idsL (tm.map (·.2))) (List.range m)
  ⟨tm.map fun p => (p.1, renA (fun j => posN j ord) p.2), ord.map fun j => renO (fun j => posN j ord) (st.ob.getD j none)⟩

/-- nothing is lost -/
def closedR (m : Nat) (live : List Nat) (st : St) : Bool :=
  let tm := live.map fun t => (t, clean st.ob (get st.tm t))
  let ord := reach st.ob 400 (idsOb st.ob (List.range m) ++ idsL (tm.map (·.2))) (List.range m)
  clsd st.ob ord (idsL (tm.map (·.2)))
/-- are all temporaries there that operations yield into? -/
def dstOk (Γ : Ctx) (f : FuncId) (ops : List Oper) : Bool :=
  let n := match Γ.P.funcs[f]? with
    | some fn => fn.ntmps
    | none => 0
  ops.all fun o => match o.dst with
    | none => true
    | some d => Nat.blt d n

/-- where 'exit' leads to -/
def exitA (id : Nat) : List AI → Option (List AI)
  | [] => none
  | .blk i :: k => bif Nat.beq i id then some k else exitA id k
  | _ :: k => exitA id k

/-! ### regions whose order is open: pairs that may come up in either order do not touch each other -/
/-- what an operation does to objects: 0 nothing; 1 it looks; 2 it turns them -/
def kindOp (Γ : Ctx) (f : FuncId) (o : Oper) : Nat := match o.op with
  | .move _ | .assign _ | .pick .. | .build .. | .nilCheck _ | .binOp .. | .unOp .. | .fieldAddr .. | .field .. | .index .. | .extract .. => 0
  | .load .. | .indexAddr .. => 1
  | .convert .. | .slice .. => bif isOwn Γ f o.dst then 2 else 1
  | .call { callee := .builtin .len, .. } => 1
  | .call { callee := .builtin .min, .. } => 0
  | .call { callee := .builtin .max, .. } => 0
  | _ => 2
/-- before: for each operation the bits of those that come up ahead of it -/
def orderOk (Γ : Ctx) (f : FuncId) (ops : Array Oper) : Bool :=
  let b := (Region.before ops).toList
  let ks := ops.toList.map (kindOp Γ f)
  let rec inner (j kj bj : Nat) : List Nat → Nat → Bool
    | [], _ => true
    | ki :: r, i => (bif Nat.ble j i then true else (bif Nat.ble 2 ki && Nat.ble 1 kj || Nat.ble 1 ki && Nat.ble 2 kj then bj.testBit i else true) && inner j kj bj r (i + 1))
  let rec outer : List Nat → List Nat → Nat → Bool
    | kj :: r, bj :: br, j => inner j kj bj ks 0 && outer r br (j + 1)
    | _, _, _ => true
  outer ks b 0

/-- of calls: those alone that hand on nothing but data and leave nothing -/
def calmH (call : Handle) : Handle := fun g args obs => lNil obs (match call g args [] with
  | some (c, r, os) => lNil os (some (c, r, []))
  | none => none)
def noRef : AV → Bool
  | .ref _ _ => false
  | _ => true
def isCalm (Γ : Ctx) (f : FuncId) (o : Oper) (ρ : Operand → AV) : Bool := match o.op with
  | .move _ | .assign _ | .pick .. | .build .. | .nilCheck _ | .binOp .. | .unOp .. | .fieldAddr .. | .field .. | .index .. | .extract .. | .load .. | .indexAddr .. => true
  | .convert .. => !isOwn Γ f o.dst
  | .slice _ x .. => !isOwn Γ f o.dst && noRef (ρ x)
  | .buildSlice _ _ ps => !isOwn Γ f o.dst && ps.toList.all fun p => noRef (ρ p.2)
  | .call c => match c.callee with
    | .builtin .len | .builtin .min | .builtin .max | .builtin .unsafeSliceData => true
    | .value _ => c.args.toList.all fun x => noRef (ρ x)
    | _ => false
  | _ => false
/-- operations that make an object, or put one in another's place: among themselves their order is fixed -/
def isMk (o : Oper) : Bool := match o.op, o.guard with
  | .alloc _, none => true
  | .call c, none => match c.callee with
    | .builtin .append => true
    | _ => false
  | _, _ => false
/-- no older object is touched -/
def mkFresh (n : Nat) (o : Oper) (ρ : Operand → AV) : Bool := match o.op with
  | .alloc _ => true
  | .call c => match c.args.toList.map ρ with
    | .ref _ j :: _ => Nat.ble n j
    | _ => true
  | _ => false
/-- of calm operations: those that do not feel new objects -/
def isCalm2 (o : Oper) (ρ : Operand → AV) : Bool := match o.op with
  | .move _ | .assign _ | .pick .. | .build .. | .nilCheck _ | .unOp .. | .fieldAddr .. | .field .. | .index .. | .extract .. | .load .. | .indexAddr .. | .buildSlice .. | .slice .. => true
  | .binOp _ _ x y _ => !(isPtr (ρ x) && isPtr (ρ y))
  | .call c => match c.callee with
    | .builtin .len => true
    | _ => false
  | _ => false
/-- al: are objects made among them? T: the objects made so far -/
def stepOpsD {R : Type} (Γ : Ctx) (call : Handle) (f : FuncId) (al : Bool) (ops : List Oper) : List Oper → Objs → St → (St → Option R) → Option R
  | [], T, st, K => K ⟨st.tm, st.ob ++ T⟩
  | o :: r, T, st, K => bif isMk o then (bif al && mkFresh st.ob.length o (evo Γ st.tm) then stepOp Γ (calmH call) f o (evo Γ st.tm) (st.ob ++ T) fun v ob => stepOpsD Γ call f al ops r (ob.drop st.ob.length) ⟨put o.dst v st.tm, st.ob⟩ K else none)
    else guardK ops o st.tm fun w tm => bif w then (bif isCalm Γ f o (evo Γ tm) && (!al || isCalm2 o (evo Γ tm)) then stepOp Γ (calmH call) f o (evo Γ tm) st.ob fun v ob => stepOpsD Γ call f al ops r T ⟨put o.dst v tm, ob⟩ K else none)
      else stepOpsD Γ call f al ops r T ⟨put o.dst (.tuple []) tm, st.ob⟩ K
/-- rows that are not written any more -/
def frzT : List Nat → St → St
  | [], st => st
  | t :: r, st => match frz (get st.tm t) st.ob with
    | (a, ob) => frzT r ⟨put (some t) a st.tm, ob⟩
def preAt : List (FuncId × Nat × List Nat) → FuncId → Nat → List Nat
  | [], _, _ => []
  | (g, i, l) :: q, f, id => bif Nat.beq g f && Nat.beq i id then l else preAt q f id
/-- what stands ahead of an operation, in whatever order: as bits -/
def ancOf (A : List Nat) (o : Oper) : Nat := o.after.toList.foldl (fun m e => bif Region.binds .any e then Nat.lor (Nat.lor m (Nat.shiftLeft 1 e.on)) (A.getD e.on 0) else m) 0
def ancs : List Oper → List Nat → List Nat
  | [], A => A
  | o :: r, A => ancs r (A ++ [ancOf A o])
def ancOk (ops : List Oper) (A : List Nat) : Bool := ops.zipIdx.all fun p => Nat.beq (A.getD p.2 0) (ancOf A p.1) && p.1.after.toList.all fun e => !Region.binds .any e || Nat.blt e.on p.2
def looks (ops : List Oper) (o : Oper) : List Nat :=
  (o.op.operands.toList.filterMap fun | .tmp t => some t | _ => none) ++
  (match o.guard with
   | some (g, _) => ((ops[g]?).bind (·.dst)).toList
   | none => [])
def dstsL (ops : List Oper) : List Nat := ops.filterMap (·.dst)
def readOk (ops pre : List Oper) (A : List Nat) : Bool := pre.zipIdx.all fun p => (looks ops p.1).all fun t => pre.zipIdx.all fun q => match q.1.dst with
  | none => true
  | some d => !Nat.beq d t || Nat.beq q.2 p.2 || (bif Nat.blt q.2 p.2 then (A.getD p.2 0).testBit q.2 else (A.getD q.2 0).testBit p.2)
/-- all that is written ahead stands ahead -/
def fullAt (A : List Nat) (i : Nat) : Bool := (List.range i).all fun j => (A.getD i 0).testBit j
def cutAt (A : List Nat) : Nat → Nat
  | 0 => 0
  | n + 1 => bif fullAt A n then cutAt A n else n + 1
/-- what makes objects is written in order -/
def chainOk (pre : List Oper) (A : List Nat) : Bool := pre.zipIdx.all fun p => !isMk p.1 || pre.zipIdx.all fun q => !isMk q.1 || !Nat.blt q.2 p.2 || (A.getD p.2 0).testBit q.2
def drawCut (ops : List Oper) : Nat := cutAt (ancs ops []) ops.length
def drawOk (ops : List Oper) : Bool :=
  let A := ancs ops []
  ancOk ops A && readOk ops (ops.take (drawCut ops)) A && (nodupN (dstsL (ops.take (drawCut ops))) && chainOk (ops.take (drawCut ops)) A)

/-! ### results -/
def resL (P : Program) : List ResultVar → St → Option (List AV)
  | [], _ => some []
  | .tmp t :: r, st => (resL P r st).map (get st.tm t :: ·)
  | .cell a t :: r, st => match get st.tm a with
    | .ptr j [] _ => match st.ob[j]? with
      | some (some (.box _ v)) => bif fits P t v then (resL P r st).map (v :: ·) else none
      | _ => none
    | _ => none
def oneR : List AV → AV
  | [a] => a
  | l => .tuple l
def fin (P : Program) (m : Nat) (res : List ResultVar) (st : St) : Option (AV × Objs) := match resL P res st with
  | some l => match frzL l st.ob with
    | (l', ob') => match reach ob' 400 (idsOb ob' (List.range m) ++ idsL l') (List.range m) with
      | ord => bif clsd ob' ord (idsL l') then some (renA (fun j => posN j ord) (oneR l'), ord.map fun j => renO (fun j => posN j ord) (ob'.getD j none)) else none
  | none => none

/-! ### code -/
abbrev Lab := List AI → St → Option (AV × Objs)
def ev (Γ : Ctx) (call : Handle) (lab : Lab) (f : FuncId) (res : List ResultVar) : Nat → List AI → St → Option (AV × Objs)
  | 0, _, _ => none
  | n + 1, todo, st => match todo with
    | [] => fin Γ.P (rootsOf Γ.roots f) res st
    | .blk _ :: k | .sc _ :: k => ev Γ call lab f res n k st
    | .lp c :: k => match liveAt Γ.live f (keyC c) with
      | some l => bif closedR (rootsOf Γ.roots f) l st then lab (.lp c :: k) (restrict (rootsOf Γ.roots f) l st) else none
      | none => none
    | .j c :: k => match liveAt Γ.live f (keyC c + 100000) with
      | some l => bif closedR (rootsOf Γ.roots f) l st then lab (.j c :: k) (restrict (rootsOf Γ.roots f) l st) else none
      | none => none
    | .c x :: k => match x with
      | .ret => fin Γ.P (rootsOf Γ.roots f) res st
      | .skip | .label _ => ev Γ call lab f res n k st
      | .seq a b => match liveAt Γ.live f (keyC b + 100000) with
        | some _ => ev Γ call lab f res n (.c a :: .j b :: k) st
        | none => ev Γ call lab f res n (.c a :: .c b :: k) st
      | .cond c a b => match evo Γ st.tm c with
        | .b x => bif x then ev Γ call lab f res n (.c a :: k) st else ev Γ call lab f res n (.c b :: k) st
        | _ => none
      | .block id c => ev Γ call lab f res n (.c c :: .blk id :: k) st
      | .scope c => ev Γ call lab f res n (.c c :: .sc c :: k) st
      | .loop c => match liveAt Γ.live f (keyC c) with
        | some l => bif closedR (rootsOf Γ.roots f) l st then lab (.lp c :: k) (restrict (rootsOf Γ.roots f) l st) else none
        | none => none
      | .exit id => match exitA id k with
        | some k' => ev Γ call lab f res n k' st
        | none => none
      | .region id ops draw => bif dstOk Γ f ops.toList then (bif draw then (bif drawOk ops.toList && Γ.P.follows .mixedOrders then (match drawCut ops.toList with
            | m => stepOpsD Γ call f ((ops.toList.take m).any isMk) ops.toList (ops.toList.take m) [] (frzT (preAt Γ.pre f id) st) fun st1 => stepOps Γ call f ops.toList (ops.toList.drop m) st1 fun st' => ev Γ call lab f res n k st') else none)
          else stepOps Γ call f ops.toList ops.toList st fun st' => ev Γ call lab f res n k st') else none
      | _ => none

/-- behind a label -/
def enterL : List AI → List AI
  | .lp c :: k => .c c :: .lp c :: k
  | .j c :: k => .c c :: k
  | k => k
def params (args : List AV) : Tm := args.zipIdx.map fun p => (p.2, p.1)
def steps : Nat := 5000
end Go.Proofs.YtjbemleloffafaaDoor.V
