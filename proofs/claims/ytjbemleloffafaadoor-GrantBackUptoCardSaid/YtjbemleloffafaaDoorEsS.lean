/- Contracts that the texts of escaping and reading back lean on: definitions. -/
import Derived.Test.YtjbemleloffafaaDoorGrG
namespace Go.Proofs.YtjbemleloffafaaDoor.V
open Go
set_option maxRecDepth 100000
set_option linter.unusedVariables false
variable {mx : Int}

def lowZ (n : Int) : Bool := (decide (n ≥ 97) && decide (n ≤ 122)) || (decide (n ≥ 48) && decide (n ≤ 57))
def plainZ (n : Int) : Bool := lowZ n || (decide (n ≥ 65) && decide (n ≤ 90)) || n == 45 || n == 46 || n == 95 || n == 47
def digitZ (n : Int) : Int := if 48 ≤ n ∧ n ≤ 57 then n - 48 else if 65 ≤ n ∧ n ≤ 70 then n - 55 else -1
def idxZ (l : List UInt8) (n : Int) : Int := Lib.indexByte l n.toNat.toUInt8
def amongZ (l : List UInt8) (n : Int) : Bool := decide (idxZ l n ≥ 0)
def unB (xs : List D) : List UInt8 := (unBytes xs).getD []
/-- a row that a text may be made of -/
def textB (xs : List D) : Bool := (unBytes xs).isSome && Nat.blt 0 xs.length && decide ((xs.length : Int) ≤ 9223372036854775807)
/-- of one byte -/
def spB (f : Int → AV) : List AV → Option (Bool × AV)
  | [.i .u8 n] => some (true, f n)
  | _ => none
def spSB (f : List UInt8 → Int → AV) : List AV → Option (Bool × AV)
  | [.s l, .i .u8 n] => some (true, f l n)
  | _ => none
theorem spB_ok {g : FuncId} {f : Int → AV} (h : ∀ n, RetX (Γ mx) g [.i .u8 n] [] (f n) []) : SpecOK (Γ mx) ⟨g, dat (spB f)⟩ := dat_ok fun args r hr => by
  unfold spB at hr
  split at hr
  · cases hr; exact h _
  · exact absurd hr (by simp)
theorem spSB_ok {g : FuncId} {f : List UInt8 → Int → AV} (h : ∀ l n, RetX (Γ mx) g [.s l, .i .u8 n] [] (f l n) []) : SpecOK (Γ mx) ⟨g, dat (spSB f)⟩ := dat_ok fun args r hr => by
  unfold spSB at hr
  split at hr
  · cases hr; exact h _ _
  · exact absurd hr (by simp)
/-- a Builder that is used: its own address; its row -/
def usedBox : Option Obj := some (.box 108 (.agg 108 [.ptr 0 [] 108, .ref 5 1]))
/-- (*strings.Builder).WriteByte -/
def wByte : List AV → Objs → Option (Bool × AV × Objs)
  | [.ptr 0 [] t, .i .u8 n], [some (.box b (.agg a [.pnil, .sl e .nl []]))] =>
    some (Nat.beq t 108 && Nat.beq b 108 && Nat.beq a 108 && Nat.beq e 5, .err false, [usedBox, some (.arr 5 [.int .u8 n] false)])
  | [.ptr 0 [] t, .i .u8 n], [some (.box b (.agg a [.ptr 0 [] t', .ref e 1])), some (.arr e' xs false)] =>
    some (Nat.beq t 108 && Nat.beq b 108 && Nat.beq a 108 && Nat.beq t' 108 && Nat.beq e 5 && Nat.beq e' 5 && roomB (xs.length + 1) 1, .err false, [usedBox, some (.arr 5 (xs ++ [.int .u8 n]) false)])
  | _, _ => none
/-- (*strings.Builder).String -/
def bStr : List AV → Objs → Option (Bool × AV × Objs)
  | [.ptr 0 [] t], [some (.box b (.agg a [.pnil, .sl e .nl []]))] =>
    some (Nat.beq t 108 && Nat.beq b 108 && Nat.beq a 108 && Nat.beq e 5, .s [], [some (.box b (.agg a [.pnil, .sl e .nl []]))])
  | [.ptr 0 [] t], [some (.box b (.agg a [.ptr 0 [] t', .ref e 1])), some (.arr e' xs false)] =>
    some (Nat.beq t 108 && Nat.beq b 108 && Nat.beq a 108 && Nat.beq t' 108 && Nat.beq e 5 && Nat.beq e' 5 && textB xs, .s (unB xs), [some (.box b (.agg a [.ptr 0 [] t', .ref e 1])), none])
  | _, _ => none
def Hlow : Handle := runS [⟨104, dat (spB fun n => .b (lowZ n))⟩]
def escSpecs : List Spec := [⟨77, dat (spB fun n => .b (plainZ n))⟩, ⟨78, dat (spB fun n => .i .i64 (digitZ n))⟩, ⟨83, dat (spSB fun l n => .b (amongZ l n))⟩, ⟨86, dat (spSB fun l n => .i .i64 (idxZ l n))⟩, ⟨84, wByte⟩, ⟨75, bStr⟩]
def Hesc : Handle := runS escSpecs
end Go.Proofs.YtjbemleloffafaaDoor.V
