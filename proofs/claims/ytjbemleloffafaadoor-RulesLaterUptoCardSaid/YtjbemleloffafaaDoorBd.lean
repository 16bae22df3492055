/- GrG, EsS, EsA, EsB, GrD, GrE, EsC, EsD, EsE, EsF, EtA, GtP, TgQ, GtB, GrF, GtC, ClA, ClB, ClC: texts of this claim, put together in build order by program. -/
import Derived.Test.YtjbemleloffafaaDoorBc
import Derived.Lib.Bytealg
import Derived.Lib.Builder
import Derived.Laws.Externs
import Derived.Shelf.Strings.Split
import Derived.Shelf.Strings.OnBuilder
import Derived.Shelf.Unicode.ValidAny
/- The functions without a text that the law reaches: what they come to. -/
namespace Go.Proofs.YtjbemleloffafaaDoor.V
open Go
set_option maxRecDepth 100000
set_option linter.unusedVariables false
set_option linter.unusedSimpArgs false
variable {mx : Int}
def spSU (f : List UInt8 → Int → AV) : List AV → Option (Bool × AV)
  | [.s l, .i .u8 c] => some (true, f l c)
  | _ => none
theorem spSU_ok {Γ : Ctx} {g : FuncId} {f : List UInt8 → Int → AV} (h : ∀ l c, RetX Γ g [.s l, .i .u8 c] [] (f l c) []) : SpecOK Γ ⟨g, dat (spSU f)⟩ := dat_ok fun args r hr => by
  unfold spSU at hr
  split at hr
  · simp only [Option.some.injEq, Prod.mk.injEq] at hr
    obtain ⟨_, rfl⟩ := hr
    exact h _ _
  · exact absurd hr (by simp)
/-- internal/bytealg.IndexByteString -/
def ixB (l : List UInt8) (c : Int) : AV := .i .i64 (Lib.indexByte l c.toNat.toUInt8)
theorem x143 (l : List UInt8) (c : Int) : RetX (Γ mx) 143 [.s l, .i .u8 c] [] (ixB l c) [] := by
  refine Ret.x ?_
  rintro w S vals - - ha
  have hv : ∃ s : ByteArray, vals = [.string s, .int .u8 c] ∧ s.data.toList = l := by
    simp only [RepAs, RepA] at ha
    obtain ⟨v, _, rfl, ⟨s, rfl, rfl⟩, v', _, rfl, rfl, rfl⟩ := ha
    exact ⟨s, rfl, rfl⟩
  refine Exists.elim hv fun s hs => ?_
  rw [hs.1]
  show UponOK Tryd.prog _ ((callFunc 143 #[.string s, .int .u8 c]).run Tryd.prog w)
  rw [run_callFunc_extern Tryd.func143 (by kernel_rfl) (by kernel_rfl) (by kernel_rfl) (e := Extern.BytealgIndexByte.indexByte) (by kernel_rfl), Lib.run_indexByteString]
  exact ⟨S, ⟨fun _ _ => rfl, Nat.le_refl _, fun _ h => h, fun _ h => .inl h, rfl, rfl⟩, by rw [← hs.2]; unfold ixB; simp only [RepA]⟩
/-- internal/bytealg.CountString -/
def ctB (l : List UInt8) (c : Int) : AV := .i .i64 (Lib.countByte l c.toNat.toUInt8 : Nat)
theorem x133 (l : List UInt8) (c : Int) : RetX (Γ mx) 133 [.s l, .i .u8 c] [] (ctB l c) [] := by
  refine Ret.x ?_
  rintro w S vals - - ha
  have hv : ∃ s : ByteArray, vals = [.string s, .int .u8 c] ∧ s.data.toList = l := by
    simp only [RepAs, RepA] at ha
    obtain ⟨v, _, rfl, ⟨s, rfl, rfl⟩, v', _, rfl, rfl, rfl⟩ := ha
    exact ⟨s, rfl, rfl⟩
  refine Exists.elim hv fun s hs => ?_
  rw [hs.1]
  show UponOK Tryd.prog _ ((callFunc 133 #[.string s, .int .u8 c]).run Tryd.prog w)
  rw [run_callFunc_extern Tryd.func133 (by kernel_rfl) (by kernel_rfl) (by kernel_rfl) (e := Extern.BytealgCount.count) (by kernel_rfl), Lib.run_countString]
  exact ⟨S, ⟨fun _ _ => rfl, Nat.le_refl _, fun _ h => h, fun _ h => .inl h, rfl, rfl⟩, by rw [← hs.2]; unfold ctB; simp only [RepA]⟩
/-- internal/abi.NoEscape -/
def xNoEscape : List AV → Objs → Option (Bool × AV × Objs)
  | [a], ob => some (true, a, ob)
  | _, _ => none
theorem x129 (a : AV) (ob : Objs) : RetX (Γ mx) 129 [a] ob a ob := by
  rintro w S σ X vals - hM ha
  have hv : ∃ v, vals = [v] ∧ RepA (Γ mx).P w S σ ob a v := by
    simp only [RepAs] at ha
    obtain ⟨v, _, rfl, hv, rfl⟩ := ha
    exact ⟨v, rfl, hv⟩
  refine Exists.elim hv fun v hv => ?_
  rw [hv.1]
  show UponOK Tryd.prog _ ((callFunc 129 #[v]).run Tryd.prog w)
  rw [run_callFunc_extern Tryd.func129 (by kernel_rfl) (by kernel_rfl) (by kernel_rfl) (e := Extern.AbiNoEscape.same) (by kernel_rfl), Lib.run_noEscape]
  exact ⟨S, σ, hM, Keeps.refl w S, hv.2⟩
theorem xNoEscape_ok : SpecOK (Γ mx) ⟨129, xNoEscape⟩ := fun args obs r obs' h => by
  change xNoEscape args obs = some (true, r, obs') at h
  unfold xNoEscape at h
  split at h
  · simp only [Option.some.injEq, Prod.mk.injEq, true_and] at h
    obtain ⟨rfl, rfl⟩ := h
    exact x129 _ _
  · exact absurd h (by simp)
def ext : Handle := runS [⟨143, dat (spSU ixB)⟩, ⟨129, xNoEscape⟩, ⟨133, dat (spSU ctB)⟩]
set_option maxHeartbeats 6400000 in
theorem ext_ok : CallsOK (Γ mx) ext := by
  have h1 : SpecOK (Γ mx) ⟨143, dat (spSU ixB)⟩ := spSU_ok x143
  have h2 : SpecOK (Γ mx) ⟨129, xNoEscape⟩ := @xNoEscape_ok mx
  have h3 : SpecOK (Γ mx) ⟨133, dat (spSU ctB)⟩ := spSU_ok x133
  exact specs_ok (SpecsOK.cons h1 (SpecsOK.cons h2 (SpecsOK.cons h3 SpecsOK.nil)))
end Go.Proofs.YtjbemleloffafaaDoor.V

/- Contracts that the texts of escaping and reading back lean on: definitions. -/
namespace Go.Proofs.YtjbemleloffafaaDoor.V
open Go
set_option maxRecDepth 100000
set_option linter.unusedVariables false
variable {mx : Int}

def lowZ (n : Int) : Bool := (decide (n ≥ 97) && decide (n ≤ 122)) || (decide (n ≥ 48) && decide (n ≤ 57))
def plainZ (n : Int) : Bool := lowZ n || (decide (n ≥ 65) && decide (n ≤ 90)) || n == 45 || n == 46 || n == 95 || n == 47
def digitZ (n : Int) : Int := if 48 ≤ n ∧ n ≤ 57 then n - 48 else if 65 ≤ n ∧ n ≤ 70 then n - 55 else -1
def idxZ (l : List UInt8) (n : Int) : Int := Lib.indexByte l n.toNat.toUInt8
def amongZ (l : List UInt8) (n : Int) : Bool := decide (idxZ l n ≥ 0)
def unB (xs : List D) : List UInt8 := (unBytes xs).getD []
/-- a row that a text may be made of -/
def textB (xs : List D) : Bool := (unBytes xs).isSome && Nat.blt 0 xs.length && decide ((xs.length : Int) ≤ 9223372036854775807)
/-- of one byte -/
def spB (f : Int → AV) : List AV → Option (Bool × AV)
  | [.i .u8 n] => some (true, f n)
  | _ => none
def spSB (f : List UInt8 → Int → AV) : List AV → Option (Bool × AV)
  | [.s l, .i .u8 n] => some (true, f l n)
  | _ => none
theorem spB_ok {g : FuncId} {f : Int → AV} (h : ∀ n, RetX (Γ mx) g [.i .u8 n] [] (f n) []) : SpecOK (Γ mx) ⟨g, dat (spB f)⟩ := dat_ok fun args r hr => by
  unfold spB at hr
  split at hr
  · cases hr; exact h _
  · exact absurd hr (by simp)
theorem spSB_ok {g : FuncId} {f : List UInt8 → Int → AV} (h : ∀ l n, RetX (Γ mx) g [.s l, .i .u8 n] [] (f l n) []) : SpecOK (Γ mx) ⟨g, dat (spSB f)⟩ := dat_ok fun args r hr => by
  unfold spSB at hr
  split at hr
  · cases hr; exact h _ _
  · exact absurd hr (by simp)
/-- a Builder that is used: its own address; its row -/
def usedBox : Option Obj := some (.box 108 (.agg 108 [.ptr 0 [] 108, .ref 5 1]))
/-- (*strings.Builder).WriteByte -/
def wByte : List AV → Objs → Option (Bool × AV × Objs)
  | [.ptr 0 [] t, .i .u8 n], [some (.box b (.agg a [.pnil, .sl e .nl []]))] =>
    some (Nat.beq t 108 && Nat.beq b 108 && Nat.beq a 108 && Nat.beq e 5, .err false, [usedBox, some (.arr 5 [.int .u8 n] false)])
  | [.ptr 0 [] t, .i .u8 n], [some (.box b (.agg a [.ptr 0 [] t', .ref e 1])), some (.arr e' xs false)] =>
    some (Nat.beq t 108 && Nat.beq b 108 && Nat.beq a 108 && Nat.beq t' 108 && Nat.beq e 5 && Nat.beq e' 5 && roomB (xs.length + 1) 1, .err false, [usedBox, some (.arr 5 (xs ++ [.int .u8 n]) false)])
  | _, _ => none
/-- (*strings.Builder).String -/
def bStr : List AV → Objs → Option (Bool × AV × Objs)
  | [.ptr 0 [] t], [some (.box b (.agg a [.pnil, .sl e .nl []]))] =>
    some (Nat.beq t 108 && Nat.beq b 108 && Nat.beq a 108 && Nat.beq e 5, .s [], [some (.box b (.agg a [.pnil, .sl e .nl []]))])
  | [.ptr 0 [] t], [some (.box b (.agg a [.ptr 0 [] t', .ref e 1])), some (.arr e' xs false)] =>
    some (Nat.beq t 108 && Nat.beq b 108 && Nat.beq a 108 && Nat.beq t' 108 && Nat.beq e 5 && Nat.beq e' 5 && textB xs, .s (unB xs), [some (.box b (.agg a [.ptr 0 [] t', .ref e 1])), none])
  | _, _ => none
def Hlow : Handle := runS [⟨104, dat (spB fun n => .b (lowZ n))⟩]
def escSpecs : List Spec := [⟨77, dat (spB fun n => .b (plainZ n))⟩, ⟨78, dat (spB fun n => .i .i64 (digitZ n))⟩, ⟨83, dat (spSB fun l n => .b (amongZ l n))⟩, ⟨86, dat (spSB fun l n => .i .i64 (idxZ l n))⟩, ⟨84, wByte⟩, ⟨75, bStr⟩]
def Hesc : Handle := runS escSpecs
end Go.Proofs.YtjbemleloffafaaDoor.V

/- The bytes that stand as they are; escaping and reading back: what the machine over values makes of the texts. Written by program. -/
namespace Go.Proofs.YtjbemleloffafaaDoor.V
open Go
set_option maxRecDepth 100000
set_option linter.unusedVariables false
variable {mx : Int}
theorem r104 (lab : Lab) (n : Int) : evF (Γ mx) ext lab 104 [.i .u8 n] [] =
  bif decide (n ≥ 97) then (bif decide (n ≤ 122) then (some (.b true, [])) else (bif decide (n ≥ 48) then (some (.b (decide (n ≤ 57)), [])) else (some (.b false, [])))) else (bif decide (n ≥ 48) then (some (.b (decide (n ≤ 57)), [])) else (some (.b false, []))) := by kernel_rfl
theorem r77 (lab : Lab) (n : Int) : evF (Γ mx) Hlow lab 77 [.i .u8 n] [] =
  bif lowZ n then (some (.b true, [])) else (bif decide (n ≥ 65) then (bif decide (n ≤ 90) then (some (.b true, [])) else (bif n == 45 then (some (.b true, [])) else (bif n == 46 then (some (.b true, [])) else (bif n == 95 then (some (.b true, [])) else (some (.b (n == 47), [])))))) else (bif n == 45 then (some (.b true, [])) else (bif n == 46 then (some (.b true, [])) else (bif n == 95 then (some (.b true, [])) else (some (.b (n == 47), [])))))) := by kernel_rfl
theorem r78 (lab : Lab) (n : Int) : evF (Γ mx) ext lab 78 [.i .u8 n] [] =
  bif decide (n ≥ 48) then (bif decide (n ≤ 57) then (some (.i .i64 (IntKind.wrap .i64 (IntKind.wrap .u8 (n - 48))), [])) else (bif decide (n ≥ 65) then (bif decide (n ≤ 70) then (some (.i .i64 (IntKind.wrap .i64 ((IntKind.wrap .i64 (IntKind.wrap .u8 (n - 65))) + 10)), [])) else (some (.i .i64 (-1), []))) else (some (.i .i64 (-1), [])))) else (bif decide (n ≥ 65) then (bif decide (n ≤ 70) then (some (.i .i64 (IntKind.wrap .i64 ((IntKind.wrap .i64 (IntKind.wrap .u8 (n - 65))) + 10)), [])) else (some (.i .i64 (-1), []))) else (some (.i .i64 (-1), []))) := by kernel_rfl
theorem r60 (lab : Lab) (s : List UInt8) : evF (Γ mx) Hesc lab 60 [.s s] [] =
  lab (todoAt (Γ mx) 60 3) ⟨[(0, .s s), (4, .snil), (5, .i .i64 0)], []⟩ := by kernel_rfl
theorem r60_3a (lab : Lab) (s1 : List UInt8) (n2 : Int) : evL (Γ mx) Hesc lab 60 3 ⟨[(0, .s s1), (4, .snil), (5, .i .i64 n2)], []⟩ =
  bif decide (n2 < ((List.length s1 : Int))) then (idx s1 n2 fun c3 => bif ((c3.toNat : Int)) == 37 then (bif decide ((IntKind.wrap .i64 (((List.length s1 : Int)) - n2)) < 3) then (some (.tuple [.s ([] : List UInt8), .i .i64 5], [])) else (idx s1 (IntKind.wrap .i64 (n2 + 1)) fun c4 => idx s1 (IntKind.wrap .i64 (n2 + 2)) fun c5 => bif decide ((idxZ ([48, 49, 50, 51, 52, 53, 54, 55, 56, 57, 65, 66, 67, 68, 69, 70] : List UInt8) ((c4.toNat : Int))) < 0) then (some (.tuple [.s ([] : List UInt8), .i .i64 5], [])) else (bif decide ((idxZ ([48, 49, 50, 51, 52, 53, 54, 55, 56, 57, 65, 66, 67, 68, 69, 70] : List UInt8) ((c5.toNat : Int))) < 0) then (some (.tuple [.s ([] : List UInt8), .i .i64 5], [])) else (bif amongZ ([97, 98, 99, 100, 101, 102, 103, 104, 105, 106, 107, 108, 109, 110, 111, 112, 113, 114, 115, 116, 117, 118, 119, 120, 121, 122, 65, 66, 67, 68, 69, 70, 71, 72, 73, 74, 75, 76, 77, 78, 79, 80, 81, 82, 83, 84, 85, 86, 87, 88, 89, 90, 48, 49, 50, 51, 52, 53, 54, 55, 56, 57, 45, 46, 95, 47] : List UInt8) (IntKind.wrap .u8 (IntKind.wrap .i64 ((BitVec.ofInt 64 (shlV .i64 (idxZ ([48, 49, 50, 51, 52, 53, 54, 55, 56, 57, 65, 66, 67, 68, 69, 70] : List UInt8) ((c4.toNat : Int))) 4) ||| BitVec.ofInt 64 (idxZ ([48, 49, 50, 51, 52, 53, 54, 55, 56, 57, 65, 66, 67, 68, 69, 70] : List UInt8) ((c5.toNat : Int)))).toNat : Int))) then (some (.tuple [.s ([] : List UInt8), .i .i64 5], [])) else (lab (todoAt (Γ mx) 60 3) ⟨[(0, .s s1), (4, .ref 5 0), (5, .i .i64 (IntKind.wrap .i64 ((IntKind.wrap .i64 (n2 + 2)) + 1)))], [some (.arr 5 [D.int .u8 (IntKind.wrap .u8 (IntKind.wrap .i64 ((BitVec.ofInt 64 (shlV .i64 (idxZ ([48, 49, 50, 51, 52, 53, 54, 55, 56, 57, 65, 66, 67, 68, 69, 70] : List UInt8) ((c4.toNat : Int))) 4) ||| BitVec.ofInt 64 (idxZ ([48, 49, 50, 51, 52, 53, 54, 55, 56, 57, 65, 66, 67, 68, 69, 70] : List UInt8) ((c5.toNat : Int)))).toNat : Int)))] false)]⟩))))) else (bif !(amongZ ([97, 98, 99, 100, 101, 102, 103, 104, 105, 106, 107, 108, 109, 110, 111, 112, 113, 114, 115, 116, 117, 118, 119, 120, 121, 122, 65, 66, 67, 68, 69, 70, 71, 72, 73, 74, 75, 76, 77, 78, 79, 80, 81, 82, 83, 84, 85, 86, 87, 88, 89, 90, 48, 49, 50, 51, 52, 53, 54, 55, 56, 57, 45, 46, 95, 47] : List UInt8) ((c3.toNat : Int))) then (some (.tuple [.s ([] : List UInt8), .i .i64 5], [])) else (lab (todoAt (Γ mx) 60 3) ⟨[(0, .s s1), (4, .ref 5 0), (5, .i .i64 (IntKind.wrap .i64 (n2 + 1)))], [some (.arr 5 [D.int .u8 ((c3.toNat : Int))] false)]⟩))) else (some (.tuple [.s ([] : List UInt8), .i .i64 0], [])) := by kernel_rfl
theorem r60_3b (lab : Lab) (s1 : List UInt8) (n2 : Int) (l3 : List D) : evL (Γ mx) Hesc lab 60 3 ⟨[(0, .s s1), (4, .ref 5 0), (5, .i .i64 n2)], [some (.arr 5 l3 false)]⟩ =
  bif decide (n2 < ((List.length s1 : Int))) then (idx s1 n2 fun c4 => bif ((c4.toNat : Int)) == 37 then (bif decide ((IntKind.wrap .i64 (((List.length s1 : Int)) - n2)) < 3) then (some (.tuple [.s ([] : List UInt8), .i .i64 5], [])) else (idx s1 (IntKind.wrap .i64 (n2 + 1)) fun c5 => idx s1 (IntKind.wrap .i64 (n2 + 2)) fun c6 => bif decide ((idxZ ([48, 49, 50, 51, 52, 53, 54, 55, 56, 57, 65, 66, 67, 68, 69, 70] : List UInt8) ((c5.toNat : Int))) < 0) then (some (.tuple [.s ([] : List UInt8), .i .i64 5], [])) else (bif decide ((idxZ ([48, 49, 50, 51, 52, 53, 54, 55, 56, 57, 65, 66, 67, 68, 69, 70] : List UInt8) ((c6.toNat : Int))) < 0) then (some (.tuple [.s ([] : List UInt8), .i .i64 5], [])) else (bif amongZ ([97, 98, 99, 100, 101, 102, 103, 104, 105, 106, 107, 108, 109, 110, 111, 112, 113, 114, 115, 116, 117, 118, 119, 120, 121, 122, 65, 66, 67, 68, 69, 70, 71, 72, 73, 74, 75, 76, 77, 78, 79, 80, 81, 82, 83, 84, 85, 86, 87, 88, 89, 90, 48, 49, 50, 51, 52, 53, 54, 55, 56, 57, 45, 46, 95, 47] : List UInt8) (IntKind.wrap .u8 (IntKind.wrap .i64 ((BitVec.ofInt 64 (shlV .i64 (idxZ ([48, 49, 50, 51, 52, 53, 54, 55, 56, 57, 65, 66, 67, 68, 69, 70] : List UInt8) ((c5.toNat : Int))) 4) ||| BitVec.ofInt 64 (idxZ ([48, 49, 50, 51, 52, 53, 54, 55, 56, 57, 65, 66, 67, 68, 69, 70] : List UInt8) ((c6.toNat : Int)))).toNat : Int))) then (some (.tuple [.s ([] : List UInt8), .i .i64 5], [])) else (bif roomB (l3.length + 1) 1 then (lab (todoAt (Γ mx) 60 3) ⟨[(0, .s s1), (4, .ref 5 0), (5, .i .i64 (IntKind.wrap .i64 ((IntKind.wrap .i64 (n2 + 2)) + 1)))], [some (.arr 5 (l3 ++ [D.int .u8 (IntKind.wrap .u8 (IntKind.wrap .i64 ((BitVec.ofInt 64 (shlV .i64 (idxZ ([48, 49, 50, 51, 52, 53, 54, 55, 56, 57, 65, 66, 67, 68, 69, 70] : List UInt8) ((c5.toNat : Int))) 4) ||| BitVec.ofInt 64 (idxZ ([48, 49, 50, 51, 52, 53, 54, 55, 56, 57, 65, 66, 67, 68, 69, 70] : List UInt8) ((c6.toNat : Int)))).toNat : Int)))]) false)]⟩) else none))))) else (bif !(amongZ ([97, 98, 99, 100, 101, 102, 103, 104, 105, 106, 107, 108, 109, 110, 111, 112, 113, 114, 115, 116, 117, 118, 119, 120, 121, 122, 65, 66, 67, 68, 69, 70, 71, 72, 73, 74, 75, 76, 77, 78, 79, 80, 81, 82, 83, 84, 85, 86, 87, 88, 89, 90, 48, 49, 50, 51, 52, 53, 54, 55, 56, 57, 45, 46, 95, 47] : List UInt8) ((c4.toNat : Int))) then (some (.tuple [.s ([] : List UInt8), .i .i64 5], [])) else (bif roomB (l3.length + 1) 1 then (lab (todoAt (Γ mx) 60 3) ⟨[(0, .s s1), (4, .ref 5 0), (5, .i .i64 (IntKind.wrap .i64 (n2 + 1)))], [some (.arr 5 (l3 ++ [D.int .u8 ((c4.toNat : Int))]) false)]⟩) else none))) else (kBytes l3 fun s7 => some (.tuple [.s s7, .i .i64 0], [])) := by kernel_rfl
theorem r49 (lab : Lab) (s : List UInt8) : evF (Γ mx) Hesc lab 49 [.s s] [] =
  lab (todoAt (Γ mx) 49 3) ⟨[(0, .s s), (4, .s ([] : List UInt8)), (5, .i .i64 0)], []⟩ := by kernel_rfl
theorem r49_3a (lab : Lab) (s1 : List UInt8) (s2 : List UInt8) (n3 : Int) : evL (Γ mx) Hesc lab 49 3 ⟨[(0, .s s1), (4, .s s2), (5, .i .i64 n3)], []⟩ =
  bif decide (n3 < ((List.length s1 : Int))) then (idx s1 n3 fun c4 => bif plainZ ((c4.toNat : Int)) then (bif decide ((0:Int) ≤ (IntKind.wrap .i64 (n3 + 1))) && decide ((IntKind.wrap .i64 (n3 + 1)) ≤ (List.length s1 : Int)) then (bif decide ((0:Int) ≤ n3) && decide (n3 ≤ (Int.toNat (IntKind.wrap .i64 (n3 + 1)) : Int)) then (bif decide (List.length s2 + List.length (List.take ((Int.toNat (IntKind.wrap .i64 (n3 + 1))) - (Int.toNat n3)) (List.drop (Int.toNat n3) s1)) ≤ maxStr) then (lab (todoAt (Γ mx) 49 3) ⟨[(0, .s s1), (4, .s (s2 ++ (List.take ((Int.toNat (IntKind.wrap .i64 (n3 + 1))) - (Int.toNat n3)) (List.drop (Int.toNat n3) s1)))), (5, .i .i64 (IntKind.wrap .i64 (n3 + 1)))], []⟩) else none) else none) else none) else (idx s1 n3 fun c5 => bif ((c5.toNat : Int)) != 37 then (some (.tuple [.s ([] : List UInt8), .i .i64 5], [])) else (bif decide ((IntKind.wrap .i64 (n3 + 2)) ≥ ((List.length s1 : Int))) then (some (.tuple [.s ([] : List UInt8), .i .i64 5], [])) else (idx s1 (IntKind.wrap .i64 (n3 + 1)) fun c6 => bif decide ((digitZ ((c6.toNat : Int))) < 0) then (some (.tuple [.s ([] : List UInt8), .i .i64 5], [])) else (idx s1 (IntKind.wrap .i64 (n3 + 2)) fun c7 => bif decide ((digitZ ((c7.toNat : Int))) < 0) then (some (.tuple [.s ([] : List UInt8), .i .i64 5], [])) else (idx s1 (IntKind.wrap .i64 (n3 + 1)) fun c8 => idx s1 (IntKind.wrap .i64 (n3 + 2)) fun c9 => bif plainZ (IntKind.wrap .u8 (IntKind.wrap .i64 ((IntKind.wrap .i64 ((digitZ ((c8.toNat : Int))) * 16)) + (digitZ ((c9.toNat : Int)))))) then (some (.tuple [.s ([] : List UInt8), .i .i64 5], [])) else (kBytes [D.int .u8 (IntKind.wrap .u8 (IntKind.wrap .i64 ((IntKind.wrap .i64 ((digitZ ((c8.toNat : Int))) * 16)) + (digitZ ((c9.toNat : Int))))))] fun s10 => bif decide (List.length s2 + List.length s10 ≤ maxStr) then (lab (todoAt (Γ mx) 49 3) ⟨[(0, .s s1), (4, .s (s2 ++ s10)), (5, .i .i64 (IntKind.wrap .i64 ((IntKind.wrap .i64 (n3 + 2)) + 1)))], []⟩) else none))))))) else (some (.tuple [.s s2, .i .i64 0], [])) := by kernel_rfl
theorem r57 (lab : Lab) (s : List UInt8) : evF (Γ mx) Hesc lab 57 [.s s] [] =
  lab (todoAt (Γ mx) 57 3) ⟨[(3, .ptr 0 [] 108), (7, .sl 5 .any (bytesD s)), (8, .i .i64 (((bytesD s).length : Int))), (9, .i .i64 0)], [some (.box 108 (.agg 108 [.pnil, .sl 5 .nl []]))]⟩ := by kernel_rfl
theorem r57_3a (lab : Lab) (l1 : List D) (n2 : Int) (n3 : Int) : evL (Γ mx) Hesc lab 57 3 ⟨[(3, .ptr 0 [] 108), (7, .sl 5 .any l1), (8, .i .i64 n2), (9, .i .i64 n3)], [some (.box 108 (.agg 108 [.pnil, .sl 5 .nl []]))]⟩ =
  bif decide (n3 < n2) then (idx l1 n3 fun y4 => dInt .u8 y4 fun n5 => bif amongZ ([97, 98, 99, 100, 101, 102, 103, 104, 105, 106, 107, 108, 109, 110, 111, 112, 113, 114, 115, 116, 117, 118, 119, 120, 121, 122, 65, 66, 67, 68, 69, 70, 71, 72, 73, 74, 75, 76, 77, 78, 79, 80, 81, 82, 83, 84, 85, 86, 87, 88, 89, 90, 48, 49, 50, 51, 52, 53, 54, 55, 56, 57, 45, 46, 95, 47] : List UInt8) n5 then (lab (todoAt (Γ mx) 57 3) ⟨[(3, .ptr 0 [] 108), (7, .sl 5 .any l1), (8, .i .i64 n2), (9, .i .i64 (IntKind.wrap .i64 (n3 + 1)))], [some (.box 108 (.agg 108 [.ptr 0 [] 108, .ref 5 1])), some (.arr 5 [D.int .u8 n5] false)]⟩) else (idx ([48, 49, 50, 51, 52, 53, 54, 55, 56, 57, 65, 66, 67, 68, 69, 70] : List UInt8) (shrV .u8 n5 4) fun c6 => bif roomB ([D.int .u8 37].length + 1) 1 then (idx ([48, 49, 50, 51, 52, 53, 54, 55, 56, 57, 65, 66, 67, 68, 69, 70] : List UInt8) (IntKind.wrap .u8 ((BitVec.ofInt 8 n5 &&& BitVec.ofInt 8 15).toNat : Int)) fun c7 => bif roomB ([D.int .u8 37, D.int .u8 ((c6.toNat : Int))].length + 1) 1 then (lab (todoAt (Γ mx) 57 3) ⟨[(3, .ptr 0 [] 108), (7, .sl 5 .any l1), (8, .i .i64 n2), (9, .i .i64 (IntKind.wrap .i64 (n3 + 1)))], [some (.box 108 (.agg 108 [.ptr 0 [] 108, .ref 5 1])), some (.arr 5 [D.int .u8 37, D.int .u8 ((c6.toNat : Int)), D.int .u8 ((c7.toNat : Int))] false)]⟩) else none) else none)) else (some (.s ([] : List UInt8), [])) := by kernel_rfl
theorem r57_3b (lab : Lab) (l1 : List D) (n2 : Int) (n3 : Int) (l4 : List D) : evL (Γ mx) Hesc lab 57 3 ⟨[(3, .ptr 0 [] 108), (7, .sl 5 .any l1), (8, .i .i64 n2), (9, .i .i64 n3)], [some (.box 108 (.agg 108 [.ptr 0 [] 108, .ref 5 1])), some (.arr 5 l4 false)]⟩ =
  bif decide (n3 < n2) then (idx l1 n3 fun y5 => dInt .u8 y5 fun n6 => bif amongZ ([97, 98, 99, 100, 101, 102, 103, 104, 105, 106, 107, 108, 109, 110, 111, 112, 113, 114, 115, 116, 117, 118, 119, 120, 121, 122, 65, 66, 67, 68, 69, 70, 71, 72, 73, 74, 75, 76, 77, 78, 79, 80, 81, 82, 83, 84, 85, 86, 87, 88, 89, 90, 48, 49, 50, 51, 52, 53, 54, 55, 56, 57, 45, 46, 95, 47] : List UInt8) n6 then (bif roomB (l4.length + 1) 1 then (lab (todoAt (Γ mx) 57 3) ⟨[(3, .ptr 0 [] 108), (7, .sl 5 .any l1), (8, .i .i64 n2), (9, .i .i64 (IntKind.wrap .i64 (n3 + 1)))], [some (.box 108 (.agg 108 [.ptr 0 [] 108, .ref 5 1])), some (.arr 5 (l4 ++ [D.int .u8 n6]) false)]⟩) else none) else (bif roomB (l4.length + 1) 1 then (idx ([48, 49, 50, 51, 52, 53, 54, 55, 56, 57, 65, 66, 67, 68, 69, 70] : List UInt8) (shrV .u8 n6 4) fun c7 => bif roomB ((l4 ++ [D.int .u8 37]).length + 1) 1 then (idx ([48, 49, 50, 51, 52, 53, 54, 55, 56, 57, 65, 66, 67, 68, 69, 70] : List UInt8) (IntKind.wrap .u8 ((BitVec.ofInt 8 n6 &&& BitVec.ofInt 8 15).toNat : Int)) fun c8 => bif roomB (((l4 ++ [D.int .u8 37]) ++ [D.int .u8 ((c7.toNat : Int))]).length + 1) 1 then (lab (todoAt (Γ mx) 57 3) ⟨[(3, .ptr 0 [] 108), (7, .sl 5 .any l1), (8, .i .i64 n2), (9, .i .i64 (IntKind.wrap .i64 (n3 + 1)))], [some (.box 108 (.agg 108 [.ptr 0 [] 108, .ref 5 1])), some (.arr 5 (((l4 ++ [D.int .u8 37]) ++ [D.int .u8 ((c7.toNat : Int))]) ++ [D.int .u8 ((c8.toNat : Int))]) false)]⟩) else none) else none) else none)) else (bif textB l4 then (some (.s (unB l4), [])) else none) := by kernel_rfl
theorem r58 (lab : Lab) (s : List UInt8) : evF (Γ mx) Hesc lab 58 [.s s] [] =
  lab (todoAt (Γ mx) 58 4) ⟨[(0, .s s), (3, .s ([48, 49, 50, 51, 52, 53, 54, 55, 56, 57, 65, 66, 67, 68, 69, 70] : List UInt8)), (4, .s ([] : List UInt8)), (5, .i .i64 0)], []⟩ := by kernel_rfl
theorem r58_4a (lab : Lab) (s1 : List UInt8) (s2 : List UInt8) (s3 : List UInt8) (n4 : Int) : evL (Γ mx) Hesc lab 58 4 ⟨[(0, .s s1), (3, .s s2), (4, .s s3), (5, .i .i64 n4)], []⟩ =
  bif decide (n4 < ((List.length s1 : Int))) then (idx s1 n4 fun c5 => bif plainZ ((c5.toNat : Int)) then (bif decide ((0:Int) ≤ (IntKind.wrap .i64 (n4 + 1))) && decide ((IntKind.wrap .i64 (n4 + 1)) ≤ (List.length s1 : Int)) then (bif decide ((0:Int) ≤ n4) && decide (n4 ≤ (Int.toNat (IntKind.wrap .i64 (n4 + 1)) : Int)) then (bif decide (List.length s3 + List.length (List.take ((Int.toNat (IntKind.wrap .i64 (n4 + 1))) - (Int.toNat n4)) (List.drop (Int.toNat n4) s1)) ≤ maxStr) then (lab (todoAt (Γ mx) 58 4) ⟨[(0, .s s1), (3, .s s2), (4, .s (s3 ++ (List.take ((Int.toNat (IntKind.wrap .i64 (n4 + 1))) - (Int.toNat n4)) (List.drop (Int.toNat n4) s1)))), (5, .i .i64 (IntKind.wrap .i64 (n4 + 1)))], []⟩) else none) else none) else none) else (idx s1 n4 fun c6 => idx s1 n4 fun c7 => bif decide ((0:Int) ≤ (IntKind.wrap .u8 ((IntKind.wrap .u8 (Int.tdiv ((c7.toNat : Int)) 16)) + 1))) && decide ((IntKind.wrap .u8 ((IntKind.wrap .u8 (Int.tdiv ((c7.toNat : Int)) 16)) + 1)) ≤ (List.length s2 : Int)) then (bif decide ((0:Int) ≤ (IntKind.wrap .u8 (Int.tdiv ((c6.toNat : Int)) 16))) && decide ((IntKind.wrap .u8 (Int.tdiv ((c6.toNat : Int)) 16)) ≤ (Int.toNat (IntKind.wrap .u8 ((IntKind.wrap .u8 (Int.tdiv ((c7.toNat : Int)) 16)) + 1)) : Int)) then (bif decide (List.length ([37] : List UInt8) + List.length (List.take ((Int.toNat (IntKind.wrap .u8 ((IntKind.wrap .u8 (Int.tdiv ((c7.toNat : Int)) 16)) + 1))) - (Int.toNat (IntKind.wrap .u8 (Int.tdiv ((c6.toNat : Int)) 16)))) (List.drop (Int.toNat (IntKind.wrap .u8 (Int.tdiv ((c6.toNat : Int)) 16))) s2)) ≤ maxStr) then (idx s1 n4 fun c8 => idx s1 n4 fun c9 => bif decide ((0:Int) ≤ (IntKind.wrap .u8 ((Int.tmod ((c9.toNat : Int)) 16) + 1))) && decide ((IntKind.wrap .u8 ((Int.tmod ((c9.toNat : Int)) 16) + 1)) ≤ (List.length s2 : Int)) then (bif decide ((0:Int) ≤ (Int.tmod ((c8.toNat : Int)) 16)) && decide ((Int.tmod ((c8.toNat : Int)) 16) ≤ (Int.toNat (IntKind.wrap .u8 ((Int.tmod ((c9.toNat : Int)) 16) + 1)) : Int)) then (bif decide (List.length (([37] : List UInt8) ++ (List.take ((Int.toNat (IntKind.wrap .u8 ((IntKind.wrap .u8 (Int.tdiv ((c7.toNat : Int)) 16)) + 1))) - (Int.toNat (IntKind.wrap .u8 (Int.tdiv ((c6.toNat : Int)) 16)))) (List.drop (Int.toNat (IntKind.wrap .u8 (Int.tdiv ((c6.toNat : Int)) 16))) s2))) + List.length (List.take ((Int.toNat (IntKind.wrap .u8 ((Int.tmod ((c9.toNat : Int)) 16) + 1))) - (Int.toNat (Int.tmod ((c8.toNat : Int)) 16))) (List.drop (Int.toNat (Int.tmod ((c8.toNat : Int)) 16)) s2)) ≤ maxStr) then (bif decide (List.length s3 + List.length ((([37] : List UInt8) ++ (List.take ((Int.toNat (IntKind.wrap .u8 ((IntKind.wrap .u8 (Int.tdiv ((c7.toNat : Int)) 16)) + 1))) - (Int.toNat (IntKind.wrap .u8 (Int.tdiv ((c6.toNat : Int)) 16)))) (List.drop (Int.toNat (IntKind.wrap .u8 (Int.tdiv ((c6.toNat : Int)) 16))) s2))) ++ (List.take ((Int.toNat (IntKind.wrap .u8 ((Int.tmod ((c9.toNat : Int)) 16) + 1))) - (Int.toNat (Int.tmod ((c8.toNat : Int)) 16))) (List.drop (Int.toNat (Int.tmod ((c8.toNat : Int)) 16)) s2))) ≤ maxStr) then (lab (todoAt (Γ mx) 58 4) ⟨[(0, .s s1), (3, .s s2), (4, .s (s3 ++ ((([37] : List UInt8) ++ (List.take ((Int.toNat (IntKind.wrap .u8 ((IntKind.wrap .u8 (Int.tdiv ((c7.toNat : Int)) 16)) + 1))) - (Int.toNat (IntKind.wrap .u8 (Int.tdiv ((c6.toNat : Int)) 16)))) (List.drop (Int.toNat (IntKind.wrap .u8 (Int.tdiv ((c6.toNat : Int)) 16))) s2))) ++ (List.take ((Int.toNat (IntKind.wrap .u8 ((Int.tmod ((c9.toNat : Int)) 16) + 1))) - (Int.toNat (Int.tmod ((c8.toNat : Int)) 16))) (List.drop (Int.toNat (Int.tmod ((c8.toNat : Int)) 16)) s2))))), (5, .i .i64 (IntKind.wrap .i64 (n4 + 1)))], []⟩) else none) else none) else none) else none) else none) else none) else none)) else (some (.s s3, [])) := by kernel_rfl
end Go.Proofs.YtjbemleloffafaaDoor.V

/- Contracts: the bytes that stand as they are, digits, IndexByte; Builder.WriteByte and String. -/
namespace Go.Proofs.YtjbemleloffafaaDoor.V
open Go
set_option maxRecDepth 100000
set_option linter.unusedVariables false
set_option linter.unusedSimpArgs false
variable {mx : Int}

theorem low_ret (n : Int) : RetX (Γ mx) 104 [.i .u8 n] [] (.b (lowZ n)) [] := by
  refine ret_goes hP hZ ext_ok (by kernel_rfl) ⟨0, ?_⟩
  rw [r104]
  unfold lowZ
  cases h1 : decide (n ≥ 97) <;> cases h2 : decide (n ≤ 122) <;> cases h3 : decide (n ≥ 48) <;> simp only [cond_true, cond_false, Bool.true_and, Bool.false_and, Bool.and_true, Bool.and_false, Bool.true_or, Bool.false_or]
theorem hlow_ok : CallsOK (Γ mx) Hlow := specs_ok (.cons (spB_ok low_ret) .nil)
theorem plain_ret (n : Int) : RetX (Γ mx) 77 [.i .u8 n] [] (.b (plainZ n)) [] := by
  refine ret_goes hP hZ hlow_ok (by kernel_rfl) ⟨0, ?_⟩
  rw [r77]
  unfold plainZ
  cases lowZ n <;> cases h1 : decide (n ≥ 65) <;> cases h2 : decide (n ≤ 90) <;> cases h3 : (n == 45) <;> cases h4 : (n == 46) <;> cases h5 : (n == 95) <;> simp only [cond_true, cond_false, Bool.true_and, Bool.false_and, Bool.and_true, Bool.and_false, Bool.true_or, Bool.false_or, Bool.or_true, Bool.or_false]
theorem digit_ret (n : Int) : RetX (Γ mx) 78 [.i .u8 n] [] (.i .i64 (digitZ n)) [] := by
  refine ret_goes hP hZ ext_ok (by kernel_rfl) ⟨0, ?_⟩
  rw [r78]
  have e1 : 48 ≤ n → n ≤ 57 → IntKind.wrap .i64 (IntKind.wrap .u8 (n - 48)) = n - 48 := fun h1 h2 => by
    have : IntKind.u8.wrap (n - 48) = n - 48 := by
      simp only [IntKind.wrap, IntKind.signed, IntKind.bits, Bool.false_and, Bool.false_eq_true, if_false]; omega
    rw [this]; exact wrap_id (by omega) (by omega)
  have e2 : 65 ≤ n → n ≤ 70 → IntKind.wrap .i64 ((IntKind.wrap .i64 (IntKind.wrap .u8 (n - 65))) + 10) = n - 55 := fun h1 h2 => by
    have : IntKind.u8.wrap (n - 65) = n - 65 := by
      simp only [IntKind.wrap, IntKind.signed, IntKind.bits, Bool.false_and, Bool.false_eq_true, if_false]; omega
    have h3 : IntKind.wrap .i64 (n - 65) = n - 65 := wrap_id (by omega) (by omega)
    rw [this, h3, show n - 65 + 10 = n - 55 by omega]; exact wrap_id (by omega) (by omega)
  unfold digitZ
  by_cases h1 : 48 ≤ n
  · have d1 : decide (n ≥ 48) = true := decide_eq_true h1
    by_cases h2 : n ≤ 57
    · rw [d1, decide_eq_true h2, if_pos ⟨h1, h2⟩, e1 h1 h2]; rfl
    · rw [d1, decide_eq_false h2, if_neg (fun h => h2 h.2)]
      by_cases h3 : 65 ≤ n
      · have d3 : decide (n ≥ 65) = true := decide_eq_true h3
        by_cases h4 : n ≤ 70
        · rw [d3, decide_eq_true h4, if_pos ⟨h3, h4⟩, e2 h3 h4]; rfl
        · rw [d3, decide_eq_false h4, if_neg (fun h => h4 h.2)]; rfl
      · have d3 : decide (n ≥ 65) = false := decide_eq_false h3
        rw [d3, if_neg (fun h => h3 h.1)]; rfl
  · have d1 : decide (n ≥ 48) = false := decide_eq_false h1
    have d3 : decide (n ≥ 65) = false := decide_eq_false (by omega)
    rw [d1, d3, if_neg (fun h => h1 h.1), if_neg (by omega)]; rfl
theorem r83 (lab : Lab) (l : List UInt8) (n : Int) : evF (Γ mx) (callN (Γ mx) ext 5) lab 83 [.s l, .i .u8 n] [] = some (.b (amongZ l n), []) := by kernel_rfl
theorem r86 (lab : Lab) (l : List UInt8) (n : Int) : evF (Γ mx) (callN (Γ mx) ext 5) lab 86 [.s l, .i .u8 n] [] = some (.i .i64 (idxZ l n), []) := by kernel_rfl
theorem call5_ok : CallsOK (Γ mx) (callN (Γ mx) ext 5) := (runN_ok hP hZ hN ext_ok 5).2
theorem among_ret (l : List UInt8) (n : Int) : RetX (Γ mx) 83 [.s l, .i .u8 n] [] (.b (amongZ l n)) [] := ret_goes hP hZ call5_ok (by kernel_rfl) ⟨0, r83 _ l n⟩
theorem idx_ret (l : List UInt8) (n : Int) : RetX (Γ mx) 86 [.s l, .i .u8 n] [] (.i .i64 (idxZ l n)) [] := ret_goes hP hZ call5_ok (by kernel_rfl) ⟨0, r86 _ l n⟩
theorem r84a (lab : Lab) (n : Int) : evF (Γ mx) (callN (Γ mx) ext 5) lab 84 [.ptr 0 [] 108, .i .u8 n] [some (.box 108 (.agg 108 [.pnil, .sl 5 .nl []]))] = some (.err false, [usedBox, some (.arr 5 [.int .u8 n] false)]) := by kernel_rfl
theorem r84b (lab : Lab) (n : Int) (xs : List D) : evF (Γ mx) (callN (Γ mx) ext 5) lab 84 [.ptr 0 [] 108, .i .u8 n] [some (.box 108 (.agg 108 [.ptr 0 [] 108, .ref 5 1])), some (.arr 5 xs false)] = bif roomB (xs.length + 1) 1 then some (.err false, [usedBox, some (.arr 5 (xs ++ [.int .u8 n]) false)]) else none := by kernel_rfl
theorem r75a (lab : Lab) : evF (Γ mx) (callN (Γ mx) ext 5) lab 75 [.ptr 0 [] 108] [some (.box 108 (.agg 108 [.pnil, .sl 5 .nl []]))] = some (.s [], [some (.box 108 (.agg 108 [.pnil, .sl 5 .nl []]))]) := by kernel_rfl
theorem r75b (lab : Lab) (xs : List D) : evF (Γ mx) (callN (Γ mx) ext 5) lab 75 [.ptr 0 [] 108] [some (.box 108 (.agg 108 [.ptr 0 [] 108, .ref 5 1])), some (.arr 5 xs false)] =
    onNil xs none (bif ((xs.length : Int) == (xs.length : Int)) && decide ((xs.length : Int) ≤ 9223372036854775807) then onNil xs none (kBytes xs fun l => some (.s l, [usedBox, none])) else none) := by kernel_rfl
theorem wByte_ok : SpecOK (Γ mx) ⟨84, wByte⟩ := by
  intro args obs r obs' h
  change wByte args obs = some (true, r, obs') at h
  unfold wByte at h
  split at h
  · simp only [Option.some.injEq, Prod.mk.injEq, Bool.and_eq_true] at h
    obtain ⟨⟨⟨⟨h1, h2⟩, h3⟩, h4⟩, rfl, rfl⟩ := h
    obtain rfl := beq_id h1; obtain rfl := beq_id h2; obtain rfl := beq_id h3; obtain rfl := beq_id h4
    exact ret_goes hP hZ call5_ok (by kernel_rfl) ⟨0, r84a _ _⟩
  · simp only [Option.some.injEq, Prod.mk.injEq, Bool.and_eq_true] at h
    obtain ⟨⟨⟨⟨⟨⟨⟨h1, h2⟩, h3⟩, h4⟩, h5⟩, h6⟩, h7⟩, rfl, rfl⟩ := h
    obtain rfl := beq_id h1; obtain rfl := beq_id h2; obtain rfl := beq_id h3; obtain rfl := beq_id h4; obtain rfl := beq_id h5; obtain rfl := beq_id h6
    exact ret_goes hP hZ call5_ok (by kernel_rfl) ⟨0, by rw [r84b, h7]; rfl⟩
  · exact absurd h (by simp)
theorem bStr_ok : SpecOK (Γ mx) ⟨75, bStr⟩ := by
  intro args obs r obs' h
  change bStr args obs = some (true, r, obs') at h
  unfold bStr at h
  split at h
  · simp only [Option.some.injEq, Prod.mk.injEq, Bool.and_eq_true] at h
    obtain ⟨⟨⟨⟨h1, h2⟩, h3⟩, h4⟩, rfl, rfl⟩ := h
    obtain rfl := beq_id h1; obtain rfl := beq_id h2; obtain rfl := beq_id h3; obtain rfl := beq_id h4
    exact ret_goes hP hZ call5_ok (by kernel_rfl) ⟨0, r75a _⟩
  · rename_i xs
    simp only [Option.some.injEq, Prod.mk.injEq, Bool.and_eq_true] at h
    obtain ⟨⟨⟨⟨⟨⟨⟨h1, h2⟩, h3⟩, h4⟩, h5⟩, h6⟩, h7⟩, rfl, rfl⟩ := h
    obtain rfl := beq_id h1; obtain rfl := beq_id h2; obtain rfl := beq_id h3; obtain rfl := beq_id h4; obtain rfl := beq_id h5; obtain rfl := beq_id h6
    refine ret_goes hP hZ call5_ok (by kernel_rfl) ⟨0, ?_⟩
    rw [r75b]
    unfold textB at h7
    simp only [Bool.and_eq_true] at h7
    obtain ⟨⟨g1, g2⟩, g3⟩ := h7
    obtain ⟨l, hl⟩ := Option.isSome_iff_exists.1 g1
    cases xs with
    | nil => simp at g2
    | cons x xs =>
      simp only [onNil, beq_self_eq_true, Bool.true_and, g3, cond_true, kBytes, hl, unB, Option.getD_some]
      rfl
  · exact absurd h (by simp)
theorem esc_ok : CallsOK (Γ mx) Hesc := specs_ok (.cons (spB_ok plain_ret) (.cons (spB_ok digit_ret) (.cons (spSB_ok among_ret) (.cons (spSB_ok idx_ret) (.cons wByte_ok (.cons bStr_ok .nil))))))
end Go.Proofs.YtjbemleloffafaaDoor.V

/- Grants: contracts: sound patterns, sound grants, words. -/
namespace Go.Proofs.YtjbemleloffafaaDoor.V
open Go
set_option maxRecDepth 100000
set_option linter.unusedVariables false
set_option linter.unusedSimpArgs false
variable {mx : Int}
theorem h68_ok : CallsOK (Γ mx) H68 := specs_ok (.cons (sp1_ok c97) .nil)
theorem c68 (p : List UInt8) (_ : true = true) : RetX (Γ mx) 68 [.s p] [] (.b (pcB p)) [] := ret_goes (Γ := Γ mx) hP hZ h68_ok (by kernel_rfl) ⟨0, by rw [r68]⟩
theorem h42_ok : CallsOK (Γ mx) H42 := specs_ok (.cons (sp1_ok c72) .nil)
theorem c42 (p : List UInt8) (_ : true = true) : RetX (Γ mx) 42 [.s p] [] (.b (pcB p)) [] := ret_goes (Γ := Γ mx) hP hZ h42_ok (by kernel_rfl) ⟨0, by rw [r42]⟩
theorem isG_eq {g : D} (h : isG g = true) : ∃ b w t k, g = .agg [.bool b, .str w, .str t, .str k] := by
  unfold isG at h
  split at h
  · exact ⟨_, _, _, _, rfl⟩
  · exact absurd h (by simp)
theorem h67_ok : CallsOK (Γ mx) H67 := specs_ok (.cons (sp1_ok c68) .nil)
theorem c67 (g : D) (h : isG g = true) : RetX (Γ mx) 67 [.d 29 g] [] (.b (!gSound g)) [] := by
  obtain ⟨b, w, t, k, rfl⟩ := isG_eq h
  refine ret_goes (Γ := Γ mx) hP hZ h67_ok (by kernel_rfl) ⟨0, ?_⟩
  have e : gSound (.agg [.bool b, .str w, .str t, .str k]) = (pcB w && (pcB t && pcB k)) := rfl
  rw [r67, e]
  cases pcB w <;> cases pcB t <;> rfl
theorem h96_ok : CallsOK (Γ mx) H96 := specs_ok (.cons (spD1_ok c67) .nil)
theorem g96 (l : List D) (hl : l.length ≤ 1099511627776) : ∀ (rest pre : List D) (i : Int), rest.all isG = true → l = pre ++ rest → i = (pre.length : Int) →
    Goes (Γ mx) H96 96 2 ⟨[(0, .sl 29 .any l), (1, .fn 67 []), (7, .i .i64 (l.length : Int)), (8, .i .i64 i)], []⟩ (.i .i64 (badN rest i), [])
  | [], pre, i, hg, he, hi => by
    subst hi
    refine Goes.step ⟨0, ?_⟩
    rw [r96_2a, decide_eq_false (show ¬ (pre.length : Int) < (l.length : Int) by rw [he]; simp)]; rfl
  | g :: r, pre, i, hg, he, hi => by
    subst hi
    have hlen : l.length = pre.length + (r.length + 1) := by rw [he]; simp
    have hg' : isG g = true ∧ r.all isG = true := by simpa using hg
    obtain ⟨b, w, t, k, rfl⟩ := isG_eq hg'.1
    have hid : ∀ {R : Type} (K : D → Option R), idx l (pre.length : Int) K = K (.agg [.bool b, .str w, .str t, .str k]) := fun K => by rw [he]; exact idx_mid pre r _ K
    have hw : IntKind.wrap .i64 ((pre.length : Int) + 1) = (pre.length : Int) + 1 := wrapI (by omega) (by omega)
    cases hs : gSound (.agg [.bool b, .str w, .str t, .str k]) with
    | false =>
      refine Goes.step ⟨0, ?_⟩
      rw [r96_2a, decide_eq_true (show (pre.length : Int) < (l.length : Int) by omega), cond_true, hid, badN, hs]
      simp only [dAgg, lCons, dBool, dStr, lNil, hg'.1, cond_true, hs, Bool.not_false, cond_false]
    | true =>
      obtain ⟨n, hn⟩ := g96 l hl r (pre ++ [.agg [.bool b, .str w, .str t, .str k]]) ((pre.length : Int) + 1) hg'.2 (by rw [he]; simp) (by simp)
      refine Goes.step ⟨n, ?_⟩
      rw [r96_2a, decide_eq_true (show (pre.length : Int) < (l.length : Int) by omega), cond_true, hid, badN, hs]
      simp only [dAgg, lCons, dBool, dStr, lNil, hg'.1, cond_true, hs, Bool.not_true, cond_false, hw]
      exact hn
theorem badN_sound : ∀ (l : List D) (i : Int), 0 ≤ i → decide (badN l i ≥ 0) = !gsSound l
  | [], i, h => rfl
  | g :: r, i, h => by
    rw [badN]
    unfold gsSound
    rw [List.all_cons]
    cases gSound g with
    | true => rw [cond_true, Bool.true_and]; exact badN_sound r (i + 1) (by omega)
    | false => rw [cond_false, Bool.false_and]; exact decide_eq_true h
theorem allG_eq {l : List D} (h : allG l = true) : l.length ≤ 1099511627776 ∧ l.all isG = true := by
  simpa [allG] using h
theorem c96 (l : List D) (h : allG l = true) : RetX (Γ mx) 96 [.sl 29 .any l, .fn 67 []] [] (.i .i64 (badI l)) [] := by
  obtain ⟨h1, h2⟩ := allG_eq h
  obtain ⟨n, hn⟩ := g96 (mx := mx) l h1 l [] 0 h2 rfl rfl
  exact ret_goes (Γ := Γ mx) hP hZ h96_ok (by kernel_rfl) ⟨n, by rw [r96]; exact hn⟩
theorem h66_ok : CallsOK (Γ mx) H66 := specs_ok (.cons (spLF_ok c96) .nil)
theorem c66 (l : List D) (h : allG l = true) : RetX (Γ mx) 66 [.sl 29 .any l, .fn 67 []] [] (.b (!gsSound l)) [] :=
  ret_goes (Γ := Γ mx) hP hZ h66_ok (by kernel_rfl) ⟨0, by rw [r66, h, cond_true, show badI l = badN l 0 from rfl, badN_sound l 0 (by omega)]⟩
theorem h38_ok : CallsOK (Γ mx) H38 := specs_ok (.cons (spLF_ok c66) .nil)
theorem c38 (l : List D) (h : allG l = true) : RetX (Γ mx) 38 [.sl 29 .any l] [] (.b (grB l)) [] := by
  refine ret_goes (Γ := Γ mx) hP hZ h38_ok (by kernel_rfl) ⟨0, ?_⟩
  unfold grB
  rw [r38, h, show decide ((l.length : Int) ≤ 8) = decide (l.length ≤ 8) from decide_eq_decide.2 (by omega)]
  cases decide (l.length ≤ 8) <;> simp
theorem h17_ok : CallsOK (Γ mx) H17 := specs_ok (.cons (sp1_ok c42) .nil)
theorem g17 (l : List D) (hl : l.length ≤ 1099511627776) : ∀ (rest pre : List D) (i : Int), rest.all isG = true → l = pre ++ rest → i = (pre.length : Int) →
    Goes (Γ mx) H17 17 4 ⟨[(0, .sl 29 .any l), (3, .i .i64 i)], []⟩ (.b (gsSound rest), [])
  | [], pre, i, hg, he, hi => by
    subst hi
    refine Goes.step ⟨0, ?_⟩
    rw [r17_4a, decide_eq_false (show ¬ (pre.length : Int) < (l.length : Int) by rw [he]; simp)]; rfl
  | g :: r, pre, i, hg, he, hi => by
    subst hi
    have hlen : l.length = pre.length + (r.length + 1) := by rw [he]; simp
    have hg' : isG g = true ∧ r.all isG = true := by simpa using hg
    obtain ⟨b, w, t, k, rfl⟩ := isG_eq hg'.1
    have hid : ∀ {R : Type} (K : D → Option R), idx l (pre.length : Int) K = K (.agg [.bool b, .str w, .str t, .str k]) := fun K => by rw [he]; exact idx_mid pre r _ K
    have hw : IntKind.wrap .i64 ((pre.length : Int) + 1) = (pre.length : Int) + 1 := wrapI (by omega) (by omega)
    obtain ⟨n, hn⟩ := g17 l hl r (pre ++ [.agg [.bool b, .str w, .str t, .str k]]) ((pre.length : Int) + 1) hg'.2 (by rw [he]; simp) (by simp)
    refine Goes.step ⟨n, ?_⟩
    have e : gsSound (.agg [.bool b, .str w, .str t, .str k] :: r) = ((pcB w && (pcB t && pcB k)) && gsSound r) := rfl
    rw [r17_4a, decide_eq_true (show (pre.length : Int) < (l.length : Int) by omega), cond_true, e]
    simp only [hid, hw]
    show (bif !(pcB w) then _ else (bif !(pcB t) then _ else (bif !(pcB k) then _ else _))) = _
    cases pcB w with
    | false => simp
    | true =>
      cases pcB t with
      | false => simp
      | true =>
        cases pcB k with
        | false => simp
        | true => simp only [Bool.not_true, cond_false, Bool.and_self, Bool.true_and]; exact hn
theorem c17 (l : List D) (h : allG l = true) : RetX (Γ mx) 17 [.sl 29 .any l] [] (.b (grB l)) [] := by
  obtain ⟨h1, h2⟩ := allG_eq h
  unfold grB
  by_cases h8 : l.length ≤ 8
  · obtain ⟨n, hn⟩ := g17 (mx := mx) l h1 l [] 0 h2 rfl rfl
    refine ret_goes (Γ := Γ mx) hP hZ h17_ok (by kernel_rfl) ⟨n, ?_⟩
    rw [r17, decide_eq_false (show ¬ (l.length : Int) > 8 by omega), decide_eq_true h8, Bool.true_and]; exact hn
  · refine ret_goes (Γ := Γ mx) hP hZ h17_ok (by kernel_rfl) ⟨0, ?_⟩
    rw [r17, decide_eq_true (show (l.length : Int) > 8 by omega), decide_eq_false h8]; rfl
/-! ### words -/
theorem isS_eq {g : D} (h : isS g = true) : ∃ s, g = .str s := by
  unfold isS at h
  split at h
  · exact ⟨_, rfl⟩
  · exact absurd h (by simp)
theorem g71 (l : List D) (x : List UInt8) (hl : l.length ≤ 1099511627776) : ∀ (rest pre : List D) (i : Int), rest.all isS = true → l = pre ++ rest → i = (pre.length : Int) →
    Goes (Γ mx) (runS []) 71 2 ⟨[(0, .sl 9 .any l), (1, .s x), (7, .i .i64 (l.length : Int)), (8, .i .i64 i)], []⟩ (.i .i64 (idxN x rest i), [])
  | [], pre, i, hg, he, hi => by
    subst hi
    refine Goes.step ⟨0, ?_⟩
    rw [r71_2a, decide_eq_false (show ¬ (pre.length : Int) < (l.length : Int) by rw [he]; simp)]; rfl
  | g :: r, pre, i, hg, he, hi => by
    subst hi
    have hlen : l.length = pre.length + (r.length + 1) := by rw [he]; simp
    have hg' : isS g = true ∧ r.all isS = true := by simpa using hg
    obtain ⟨s, rfl⟩ := isS_eq hg'.1
    have hid : ∀ {R : Type} (K : D → Option R), idx l (pre.length : Int) K = K (.str s) := fun K => by rw [he]; exact idx_mid pre r _ K
    have hw : IntKind.wrap .i64 ((pre.length : Int) + 1) = (pre.length : Int) + 1 := wrapI (by omega) (by omega)
    obtain ⟨n, hn⟩ := g71 l x hl r (pre ++ [.str s]) ((pre.length : Int) + 1) hg'.2 (by rw [he]; simp) (by simp)
    refine Goes.step ⟨n, ?_⟩
    rw [r71_2a, decide_eq_true (show (pre.length : Int) < (l.length : Int) by omega), cond_true, hid, idxN, show eqS x (.str s) = (x == s) from rfl]
    simp only [dStr, hw]
    cases (x == s) with
    | true => rfl
    | false => exact hn
theorem idxN_has (x : List UInt8) : ∀ (l : List D) (i : Int), 0 ≤ i → decide (idxN x l i ≥ 0) = hasS l x
  | [], i, h => rfl
  | g :: r, i, h => by
    rw [idxN]
    unfold hasS
    rw [List.any_cons]
    cases eqS x g with
    | false => rw [cond_false, Bool.false_or]; exact idxN_has x r (i + 1) (by omega)
    | true => rw [cond_true, Bool.true_or]; exact decide_eq_true h
theorem c71 (l : List D) (x : List UInt8) (h : allS l = true) : RetX (Γ mx) 71 [.sl 9 .any l, .s x] [] (.i .i64 (idxS l x)) [] := by
  have h : l.length ≤ 1099511627776 ∧ l.all isS = true := by simpa [allS] using h
  obtain ⟨n, hn⟩ := g71 (mx := mx) l x h.1 l [] 0 h.2 rfl rfl
  exact ret_goes (Γ := Γ mx) hP hZ none_ok (by kernel_rfl) ⟨n, by rw [r71]; exact hn⟩
theorem h41_ok : CallsOK (Γ mx) H41 := specs_ok (.cons (spLS_ok c71) .nil)
theorem c41 (l : List D) (x : List UInt8) (h : allS l = true) : RetX (Γ mx) 41 [.sl 9 .any l, .s x] [] (.b (hasS l x)) [] :=
  ret_goes (Γ := Γ mx) hP hZ h41_ok (by kernel_rfl) ⟨0, by rw [r41, h, cond_true, show idxS l x = idxN x l 0 from rfl, idxN_has x l 0 (by omega)]⟩
theorem h15_ok : CallsOK (Γ mx) H15 := specs_ok (.cons (spLS_ok c41) .nil)
theorem c15 (x : List UInt8) (_ : true = true) : RetX (Γ mx) 15 [.s x] [] (.b (knownW x)) [] :=
  ret_goes (Γ := Γ mx) hP hZ h15_ok (by kernel_rfl) ⟨0, by rw [r15]; rfl⟩
theorem c16 (x : List UInt8) (_ : true = true) : RetX (Γ mx) 16 [.s x] [] (.b (knownW x)) [] := by
  refine ret_goes (Γ := Γ mx) hP hZ none_ok (by kernel_rfl) ⟨0, ?_⟩
  have e : knownW x = ((x == [103, 101, 116]) || ((x == [112, 117, 116]) || ((x == [100, 101, 108, 101, 116, 101]) || ((x == [101, 114, 97, 115, 101]) || ((x == [108, 111, 99, 107]) || ((x == [98, 121, 112, 97, 115, 115]) || ((x == [108, 105, 115, 116]) || ((x == [116, 97, 103]) || ((x == [97, 100, 109, 105, 110]) || false))))))))) := rfl
  rw [r16, e]
  cases (x == [103, 101, 116]) with
  | true => rfl
  | false =>
  cases (x == [112, 117, 116]) with
  | true => rfl
  | false =>
  cases (x == [100, 101, 108, 101, 116, 101]) with
  | true => rfl
  | false =>
  cases (x == [101, 114, 97, 115, 101]) with
  | true => rfl
  | false =>
  cases (x == [108, 111, 99, 107]) with
  | true => rfl
  | false =>
  cases (x == [98, 121, 112, 97, 115, 115]) with
  | true => rfl
  | false =>
  cases (x == [108, 105, 115, 116]) with
  | true => rfl
  | false =>
  cases (x == [116, 97, 103]) with
  | true => rfl
  | false => cases (x == [97, 100, 109, 105, 110]) <;> rfl
theorem isP_eq {g : D} (h : isP g = true) : ∃ k b, g = .agg [.int .i64 k, .int .u8 b] := by
  unfold isP at h
  split at h
  · exact ⟨_, _, rfl⟩
  · exact absurd h (by simp)
theorem c98 (p : D) (c : Int) (h : isP p = true) : RetX (Γ mx) 98 [.d 142 p, .i .u8 c] [] (.b (fitsD p c)) [] := by
  obtain ⟨k, b, rfl⟩ := isP_eq h
  refine ret_goes (Γ := Γ mx) hP hZ none_ok (by kernel_rfl) ⟨0, ?_⟩
  have e : fitsD (.agg [.int .i64 k, .int .u8 b]) c = (k == 1 || (k == 0 && b == c)) := rfl
  rw [r98, e]
  cases (k == 1) <;> cases (k == 0) <;> rfl
end Go.Proofs.YtjbemleloffafaaDoor.V

/- Patterns: contracts of Match, by greed, and of the document's Match, by a table. -/
namespace Go.Proofs.YtjbemleloffafaaDoor.V
open Go
set_option maxRecDepth 100000
set_option linter.unusedVariables false
set_option linter.unusedSimpArgs false
variable {mx : Int}
theorem pd_get {L : List Pc} {n : Nat} {x : Pc} (h : L[n]? = some x) {R : Type} (K : D → Option R) : idx (L.map pD) (n : Int) K = K (pD x) := idx_at K (by omega) (by simp [h])
theorem s_get {s : List UInt8} {n : Nat} {x : UInt8} (h : s[n]? = some x) {R : Type} (K : UInt8 → Option R) : idx s (n : Int) K = K x := idx_at K (by omega) (by simpa using h)
theorem int_beq (a b : Nat) : ((a : Int) == (b : Int)) = (a == b) := by
  rw [Bool.eq_iff_iff, beq_iff_eq, beq_iff_eq]; omega
theorem u8_beq (a b : UInt8) : ((a.toNat : Int) == (b.toNat : Int)) = (a == b) := by
  rw [int_beq, Bool.eq_iff_iff, beq_iff_eq, beq_iff_eq, UInt8.toNat_inj]
theorem fits_pd (x : Pc) (c : UInt8) : fitsD (.agg [.int .i64 (x.1 : Int), .int .u8 (x.2.toNat : Int)]) (c.toNat : Int) = fit x c := by
  show ((x.1 : Int) == 1 || ((x.1 : Int) == 0 && (x.2.toNat : Int) == (c.toNat : Int))) = fit x c
  rw [u8_beq, show ((x.1 : Int) == 1) = (x.1 == 1) from int_beq x.1 1, show ((x.1 : Int) == 0) = (x.1 == 0) from int_beq x.1 0]; rfl
theorem open1 {R : Type} (x : Pc) (K : Int → Option R) : (dAgg (pD x) fun y => lGet y 0 fun z => dInt .i64 z K) = K (x.1 : Int) := rfl
theorem open1b {R : Type} (x : Pc) (K : Int → Option R) : (dAgg (pD x) fun y => lGet y 1 fun z => dInt .u8 z K) = K (x.2.toNat : Int) := rfl
theorem open2 {R : Type} (x : Pc) (K : Int → Int → Option R) : (dAgg (pD x) fun y => lCons y fun a r => dInt .i64 a fun n => lCons r fun a r => dInt .u8 a fun m => lNil r (K n m)) = K (x.1 : Int) (x.2.toNat : Int) := rfl
theorem isP_pd (x : Pc) : isP (.agg [.int .i64 (x.1 : Int), .int .u8 (x.2.toNat : Int)]) = true := rfl
theorem h69_ok : CallsOK (Γ mx) H69 := specs_ok (.cons (sp1_ok c97) (.cons (spDI_ok c98) .nil))
theorem g69_16 (L : List Pc) (hL : L.length ≤ 200) : ∀ (rest pre : List Pc) (i : Int), L = pre ++ rest → i = (pre.length : Int) →
    Goes (Γ mx) H69 69 16 ⟨[(6, .sl 142 .any (L.map pD)), (8, .i .i64 i)], []⟩ (.tuple [.b (rest.all fun x => x.1 == 2), .i .i64 0], [])
  | [], pre, i, he, hi => by
    subst hi
    refine Goes.step ⟨0, ?_⟩
    have e : ((pre.length : Int) == (((L.map pD).length : Nat) : Int)) = true := by rw [he]; simp
    rw [r69_16a, decide_eq_false (show ¬ (pre.length : Int) < (((L.map pD).length : Nat) : Int) by rw [he]; simp), cond_false, e]; rfl
  | x :: r, pre, i, he, hi => by
    subst hi
    have hlen : L.length = pre.length + (r.length + 1) := by rw [he]; simp
    have hx : L[pre.length]? = some x := by rw [he]; simp
    have hw : IntKind.wrap .i64 ((pre.length : Int) + 1) = (pre.length : Int) + 1 := wrapI (by omega) (by omega)
    have hm : (((L.map pD).length : Nat) : Int) = (L.length : Int) := by simp
    obtain ⟨n, hn⟩ := g69_16 L hL r (pre ++ [x]) ((pre.length : Int) + 1) (by rw [he]; simp) (by simp)
    refine Goes.step ⟨n, ?_⟩
    rw [r69_16a, hm, decide_eq_true (show (pre.length : Int) < (L.length : Int) by omega), cond_true, pd_get hx, List.all_cons]
    simp only [open1, hw]
    rw [show ((x.1 : Int) == 2) = (x.1 == 2) from int_beq x.1 2]
    cases (x.1 == 2) with
    | true => rw [cond_true, Bool.true_and]; exact hn
    | false =>
      have e : ((pre.length : Int) == (L.length : Int)) = false := by apply Bool.eq_false_iff.2; intro h; have := eq_of_beq h; omega
      rw [cond_false, e]; rfl
theorem g69 (L : List Pc) (s : List UInt8) (hL : L.length ≤ 200) (hs : s.length ≤ 4194304) : ∀ (m at_ i fr : Nat) (star : Int), (s.length - fr) * (s.length + L.length + 2) + (s.length - i) + (L.length - at_) ≤ m → fr ≤ i → Inv L s at_ i star fr →
    Goes (Γ mx) H69 69 6 ⟨[(1, .s s), (6, .sl 142 .any (L.map pD)), (8, .i .i64 (at_ : Int)), (9, .i .i64 (i : Int)), (10, .i .i64 star), (11, .i .i64 (fr : Int))], []⟩ (.tuple [.b (mt L s), .i .i64 0], []) := by
  intro m
  induction m with
  | zero =>
    intro at_ i fr star hm hfr h
    -- the text is at its end, the pieces too
    have hi : ¬ i < s.length := by
      intro hi
      have := h.hi
      generalize (s.length - fr) * (s.length + L.length + 2) = q at hm
      omega
    obtain ⟨n, hn⟩ := g69_16 (mx := mx) L hL (L.drop at_) (L.take at_) (at_ : Int) (by simp) (by rw [List.length_take]; have := h.ha; omega)
    refine Goes.step ⟨n, ?_⟩
    rw [r69_6a, decide_eq_false (show ¬ (i : Int) < (s.length : Int) by omega), h.done (by omega)]
    exact hn
  | succ m ih =>
    intro at_ i fr star hm hfr h
    have ha0 := h.ha
    have hi0 := h.hi
    by_cases hi : i < s.length
    · have hw1 : IntKind.wrap .i64 ((at_ : Int) + 1) = ((at_ + 1 : Nat) : Int) := by rw [wrapI (by omega) (by omega)]; omega
      have hw2 : IntKind.wrap .i64 ((i : Int) + 1) = ((i + 1 : Nat) : Int) := by rw [wrapI (by omega) (by omega)]; omega
      have hw3 : IntKind.wrap .i64 ((fr : Int) + 1) = ((fr + 1 : Nat) : Int) := by rw [wrapI (by omega) (by omega)]; omega
      have hlm : (((L.map pD).length : Nat) : Int) = (L.length : Int) := by simp
      obtain ⟨c, hc⟩ : ∃ c, s[i]? = some c := ⟨s[i], List.getElem?_eq_getElem hi⟩
      -- it does not go on so
      have failing : stuck L s at_ i → ∃ n, (bif decide (star ≥ 0) then (V.L (Γ mx) H69 69 n (todoAt (Γ mx) 69 6) ⟨[(1, .s s), (6, .sl 142 .any (L.map pD)), (8, .i .i64 (IntKind.wrap .i64 (star + 1))), (9, .i .i64 (IntKind.wrap .i64 ((fr : Int) + 1))), (10, .i .i64 star), (11, .i .i64 (IntKind.wrap .i64 ((fr : Int) + 1)))], []⟩) else (some (.tuple [.b false, .i .i64 0], []))) = some (AV.tuple [.b (mt L s), .i .i64 0], ([] : Objs)) := fun hk => by
        by_cases hst : 0 ≤ star
        · obtain ⟨hinv, hf2, hf3⟩ := h.back hi hst hk
          have e1 : IntKind.wrap .i64 (star + 1) = ((star.toNat + 1 : Nat) : Int) := by rw [wrapI (by omega) (by omega)]; omega
          obtain ⟨n, hn⟩ := ih (star.toNat + 1) (fr + 1) (fr + 1) star (by
            have e : s.length - fr = (s.length - (fr + 1)) + 1 := by omega
            rw [e, Nat.succ_mul] at hm
            generalize (s.length - (fr + 1)) * (s.length + L.length + 2) = q at hm ⊢
            omega) (Nat.le_refl _) hinv
          refine ⟨n, ?_⟩
          rw [decide_eq_true hst, e1, hw3]; exact hn
        · exact ⟨0, by rw [decide_eq_false hst, h.fail (by omega) hk]; rfl⟩
      by_cases ha : at_ < L.length
      · obtain ⟨x, hx⟩ : ∃ x, L[at_]? = some x := ⟨L[at_], List.getElem?_eq_getElem ha⟩
        cases h2 : (x.1 == 2) with
        | true =>
          obtain ⟨n, hn⟩ := ih (at_ + 1) i i (at_ : Int) (by
            have := Nat.mul_le_mul_right (s.length + L.length + 2) (show s.length - i ≤ s.length - fr by omega)
            generalize (s.length - i) * (s.length + L.length + 2) = q1 at *
            generalize (s.length - fr) * (s.length + L.length + 2) = q2 at *
            omega) (Nat.le_refl _) (h.many hx h2)
          refine Goes.step ⟨n, ?_⟩
          rw [r69_6a, hlm, decide_eq_true (show (i : Int) < (s.length : Int) by omega), decide_eq_true (show (at_ : Int) < (L.length : Int) by omega), cond_true, cond_true, pd_get hx]
          simp only [open1, hw1]
          rw [show ((x.1 : Int) == 2) = (x.1 == 2) from int_beq x.1 2, h2, cond_true]
          exact hn
        | false =>
          cases hf : fit x c with
          | true =>
            obtain ⟨n, hn⟩ := ih (at_ + 1) (i + 1) fr star (by
              generalize (s.length - fr) * (s.length + L.length + 2) = q2 at *
              omega) (by omega) (h.fits hx h2 hc hf)
            refine Goes.step ⟨n, ?_⟩
            rw [r69_6a, hlm, decide_eq_true (show (i : Int) < (s.length : Int) by omega), decide_eq_true (show (at_ : Int) < (L.length : Int) by omega), cond_true, cond_true, pd_get hx]
            simp only [open1, hw1, hw2]
            rw [show ((x.1 : Int) == 2) = (x.1 == 2) from int_beq x.1 2, h2, cond_false, cond_true, pd_get hx]
            simp only [open2, s_get hc]
            rw [isP_pd, fits_pd, hf]
            exact hn
          | false =>
            obtain ⟨n, hn⟩ := failing (stuck_fit hx h2 hc hf)
            refine Goes.step ⟨n, ?_⟩
            rw [r69_6a, hlm, decide_eq_true (show (i : Int) < (s.length : Int) by omega), decide_eq_true (show (at_ : Int) < (L.length : Int) by omega), cond_true, cond_true, pd_get hx]
            simp only [open1]
            rw [show ((x.1 : Int) == 2) = (x.1 == 2) from int_beq x.1 2, h2, cond_false, cond_true, pd_get hx]
            simp only [open2, s_get hc]
            rw [isP_pd, fits_pd, hf]
            exact hn
      · obtain ⟨n, hn⟩ := failing (stuck_end (by omega) hi)
        refine Goes.step ⟨n, ?_⟩
        rw [r69_6a, hlm, decide_eq_true (show (i : Int) < (s.length : Int) by omega), decide_eq_false (show ¬ (at_ : Int) < (L.length : Int) by omega)]
        exact hn
    · obtain ⟨n, hn⟩ := g69_16 (mx := mx) L hL (L.drop at_) (L.take at_) (at_ : Int) (by simp) (by rw [List.length_take]; omega)
      refine Goes.step ⟨n, ?_⟩
      rw [r69_6a, decide_eq_false (show ¬ (i : Int) < (s.length : Int) by omega), h.done (by omega)]
      exact hn
theorem pcL_len (p : List UInt8) : (pcL p).length ≤ 200 := by
  unfold pcL
  by_cases h : p.length ≤ 200
  · rw [decide_eq_true h, cond_true]; exact Nat.le_trans (pcs_len p) h
  · rw [decide_eq_false h]; simp
theorem c69 (p s : List UInt8) (h : short s = true) : RetX (Γ mx) 69 [.s p, .s s] [] (.tuple [.b (matB p s), .i .i64 (matE p)]) [] := by
  have hs : s.length ≤ 4194304 := of_decide_eq_true h
  unfold matB matE
  cases hp : pcB p with
  | false =>
    refine ret_goes (Γ := Γ mx) hP hZ h69_ok (by kernel_rfl) ⟨0, ?_⟩
    rw [r69, hp]; rfl
  | true =>
    obtain ⟨n, hn⟩ := g69 (mx := mx) (pcL p) s (pcL_len p) hs _ 0 0 0 (-1) (Nat.le_refl _) (Nat.le_refl _) (inv_start _ _)
    refine ret_goes (Γ := Γ mx) hP hZ h69_ok (by kernel_rfl) ⟨n, ?_⟩
    have e : pcV p = (pcL p).map pD := by unfold pcV; rw [hp]; rfl
    rw [r69, hp, e]
    exact hn
/-! ### the table -/
def rowD (q : List Pc) (s : List UInt8) : List D := (rowM q s).map D.bool
theorem rowD_len (q : List Pc) (s : List UInt8) : (rowD q s).length = s.length + 1 := by unfold rowD; rw [List.length_map, rowM_len]
theorem rowD_get (q : List Pc) {s : List UInt8} {i : Nat} (h : i ≤ s.length) : (rowD q s)[i]? = some (D.bool (mt q (s.drop i))) := by
  unfold rowD; rw [List.getElem?_map, rowM_get q s i h]; rfl
theorem lget {α R : Type} {l : List α} {i : Nat} {a : α} (h : l[i]? = some a) (K : α → Option R) : lGet l i K = K a := by unfold lGet; rw [h]
theorem set_rep {α : Type} (a v : α) (t : List α) : ∀ j, (List.replicate (j + 1) a ++ t).set j v = List.replicate j a ++ v :: t
  | 0 => rfl
  | j + 1 => by
    rw [List.replicate_succ, List.cons_append, List.set_cons_succ, set_rep a v t j]; rfl
theorem rowD_drop (q : List Pc) {s : List UInt8} {j : Nat} (h : j ≤ s.length) : (rowD q s).drop j = D.bool (mt q (s.drop j)) :: (rowD q s).drop (j + 1) := drop_cons (rowD_get q h)
/-- the row that is being made -/
def nextD (x : Pc) (q : List Pc) (s : List UInt8) (j : Nat) : List D := List.replicate j (D.bool false) ++ (rowD (x :: q) s).drop j
theorem nextD_len (x : Pc) (q : List Pc) (s : List UInt8) {j : Nat} (h : j ≤ s.length + 1) : (nextD x q s j).length = s.length + 1 := by
  unfold nextD; rw [List.length_append, List.length_replicate, List.length_drop, rowD_len]; omega
theorem nextD_set (x : Pc) (q : List Pc) (s : List UInt8) {j : Nat} (h : j ≤ s.length) {v : Bool} (hv : v = mt (x :: q) (s.drop j)) : (nextD x q s (j + 1)).set j (D.bool v) = nextD x q s j := by
  unfold nextD
  rw [set_rep, hv, ← rowD_drop _ h]
theorem nextD_at (x : Pc) (q : List Pc) (s : List UInt8) {j : Nat} (h : j ≤ s.length) : (nextD x q s (j + 1))[j]? = some (D.bool false) := by
  unfold nextD
  rw [List.getElem?_append_left (by simp)]; simp
theorem nextD_at1 (x : Pc) (q : List Pc) (s : List UInt8) {j : Nat} (h : j < s.length) : (nextD x q s (j + 1))[j + 1]? = some (D.bool (mt (x :: q) (s.drop (j + 1)))) := by
  unfold nextD
  rw [List.getElem?_append_right (by simp)]
  simp only [List.length_replicate, Nat.sub_self, List.getElem?_drop, Nat.add_zero]
  exact rowD_get _ h
theorem nextD_keep (x : Pc) (q : List Pc) (s : List UInt8) {j : Nat} (h : j ≤ s.length) (hv : mt (x :: q) (s.drop j) = false) : nextD x q s (j + 1) = nextD x q s j := by
  unfold nextD
  rw [rowD_drop _ h, hv, List.replicate_succ']
  simp
theorem h70_ok : CallsOK (Γ mx) H70 := specs_ok (.cons (sp1_ok c72) .nil)
theorem g70_11 (L : List Pc) (s : List UInt8) (hs : s.length ≤ 4194304) (k : Nat) (hk : k < 200) (x : Pc) (hx : L[k]? = some x) (hx2 : x.1 ≤ 2) (R : AV × Objs)
    (hR : Goes (Γ mx) H70 70 7 ⟨[(1, .s s), (6, .sl 145 .any (L.map pD)), (8, .ref 4 0), (9, .i .i64 ((k : Int) - 1))], [some (.arr 4 (rowD (x :: L.drop (k + 1)) s) false)]⟩ R) :
    ∀ j, j ≤ s.length + 1 → Goes (Γ mx) H70 70 11 ⟨[(1, .s s), (6, .sl 145 .any (L.map pD)), (8, .ref 4 0), (9, .i .i64 (k : Int)), (10, .ref 4 1), (11, .i .i64 ((j : Int) - 1))], [some (.arr 4 (rowD (L.drop (k + 1)) s) false), some (.arr 4 (nextD x (L.drop (k + 1)) s j) false)]⟩ R
  | 0, h => by
    obtain ⟨n, hn⟩ := hR
    refine Goes.step ⟨n, ?_⟩
    have hw : IntKind.wrap .i64 ((k : Int) - 1) = (k : Int) - 1 := wrapI (by omega) (by omega)
    rw [r70_11a, decide_eq_false (show ¬ (((0 : Nat) : Int) - 1) ≥ 0 by omega), hw]
    exact hn
  | j + 1, h => by
    have hj : j ≤ s.length := by omega
    have ej : (((j + 1 : Nat) : Int) - 1) = (j : Int) := by omega
    have hw1 : IntKind.wrap .i64 ((j : Int) + 1) = ((j + 1 : Nat) : Int) := by rw [wrapI (by omega) (by omega)]; omega
    have hw2 : IntKind.wrap .i64 ((j : Int) - 1) = (j : Int) - 1 := wrapI (by omega) (by omega)
    obtain ⟨n, hn⟩ := g70_11 L s hs k hk x hx hx2 R hR j (by omega)
    generalize hq : L.drop (k + 1) = q at *
    have t1 : (Int.toNat (j : Int)) = j := by omega
    have t2 : (Int.toNat ((j + 1 : Nat) : Int)) = j + 1 := by omega
    have l5 : (((rowD q s).length : Nat) : Int) = (s.length : Int) + 1 := by rw [rowD_len]; omega
    have l6 : (((nextD x q s (j + 1)).length : Nat) : Int) = (s.length : Int) + 1 := by rw [nextD_len _ _ _ h]; omega
    have d0 : decide ((0 : Int) ≤ (j : Int)) = true := decide_eq_true (by omega)
    have d1 : decide ((j : Int) < (s.length : Int) + 1) = true := decide_eq_true (by omega)
    refine Goes.step ⟨n, ?_⟩
    rw [ej, r70_11a, decide_eq_true (show (j : Int) ≥ 0 by omega), cond_true, pd_get hx]
    simp only [open1, open1b, hw1, hw2, l5, l6, d0, d1, t1, t2, Bool.and_self, cond_true, lget (rowD_get q hj), lget (nextD_at x q s hj), dBool]
    rw [show ((x.1 : Int) == 2) = (x.1 == 2) from int_beq x.1 2]
    by_cases hjs : j < s.length
    · obtain ⟨c, hc⟩ : ∃ c, s[j]? = some c := ⟨s[j], List.getElem?_eq_getElem hjs⟩
      have d2 : decide ((j : Int) < (s.length : Int)) = true := decide_eq_true (by omega)
      have d3 : decide ((0 : Int) ≤ ((j + 1 : Nat) : Int)) = true := decide_eq_true (by omega)
      have d4 : decide (((j + 1 : Nat) : Int) < (s.length : Int) + 1) = true := decide_eq_true (by omega)
      simp only [d2, d3, d4, Bool.and_self, cond_true, lget (rowD_get q (show j + 1 ≤ s.length by omega)), lget (nextD_at1 x q s hjs), dBool, pd_get hx, open1, open1b, s_get hc]
      have hsd := drop_cons hc
      cases h2 : (x.1 == 2) with
      | true =>
        have hv : mt (x :: q) (s.drop j) = (mt q (s.drop j) || mt (x :: q) (s.drop (j + 1))) := by rw [hsd, mt_cons_2 h2, mt_cons_2 h2, anyS]
        rw [cond_true]
        cases hb : mt q (s.drop j) with
        | true => rw [cond_true, nextD_set x q s hj (by rw [hv, hb]; rfl)]; exact hn
        | false => rw [cond_false, nextD_set x q s hj (by rw [hv, hb]; rfl)]; exact hn
      | false =>
        have hv : mt (x :: q) (s.drop j) = (fit x c && mt q (s.drop (j + 1))) := by rw [hsd, mt_cons_ne h2]
        rw [cond_false]
        cases hb : mt q (s.drop (j + 1)) with
        | false => rw [cond_false, nextD_set x q s hj (by rw [hv, hb, Bool.and_false])]; exact hn
        | true =>
          rw [cond_true, show ((x.1 : Int) == 1) = (x.1 == 1) from int_beq x.1 1, u8_beq]
          cases h1 : (x.1 == 1) with
          | true => rw [cond_true, nextD_set x q s hj (by rw [hv, hb]; simp [fit, h1])]; exact hn
          | false =>
            have h0 : (x.1 == 0) = true := by
              have := beq_eq_false_iff_ne.1 h1
              have := beq_eq_false_iff_ne.1 h2
              rw [beq_iff_eq]; omega
            rw [cond_false, nextD_set x q s hj (by rw [hv, hb]; simp [fit, h1, h0])]; exact hn
    · have hje : j = s.length := by omega
      have hsd : s.drop j = [] := List.drop_eq_nil_of_le (by omega)
      have d2 : decide ((j : Int) < (s.length : Int)) = false := decide_eq_false (by omega)
      simp only [d2, cond_false]
      cases h2 : (x.1 == 2) with
      | true =>
        have hv : mt (x :: q) (s.drop j) = mt q (s.drop j) := by rw [hsd, mt_cons_2 h2, anyS]
        rw [cond_true]
        cases hb : mt q (s.drop j) with
        | true => rw [cond_true, nextD_set x q s hj (by rw [hv, hb])]; exact hn
        | false => rw [cond_false, nextD_set x q s hj (by rw [hv, hb])]; exact hn
      | false =>
        have hv : mt (x :: q) (s.drop j) = false := by rw [hsd, mt_cons_ne h2]
        rw [cond_false, nextD_keep x q s hj hv]; exact hn
theorem room1 {n : Nat} (h : n ≤ 10000000) : roomB n 1 = true := by
  unfold roomB
  simp only [Bool.and_eq_true, decide_eq_true_eq]
  exact ⟨rfl, by omega⟩
theorem g70_7 (L : List Pc) (s : List UInt8) (hs : s.length ≤ 4194304) (hL : L.length ≤ 200) (hk2 : ∀ x ∈ L, x.1 ≤ 2) : ∀ k, k ≤ L.length →
    Goes (Γ mx) H70 70 7 ⟨[(1, .s s), (6, .sl 145 .any (L.map pD)), (8, .ref 4 0), (9, .i .i64 ((k : Int) - 1))], [some (.arr 4 (rowD (L.drop k) s) false)]⟩ (.tuple [.b (mt L s), .i .i64 0], [])
  | 0, h => by
    refine Goes.step ⟨0, ?_⟩
    have l4 : (((rowD (L.drop 0) s).length : Nat) : Int) = (s.length : Int) + 1 := by rw [rowD_len]; omega
    rw [r70_7a, decide_eq_false (show ¬ (((0 : Nat) : Int) - 1) ≥ 0 by omega), l4, decide_eq_true (show (0 : Int) ≤ 0 by omega), decide_eq_true (show (0 : Int) < (s.length : Int) + 1 by omega)]
    simp only [Bool.and_self, cond_true, cond_false, lget (rowD_get (L.drop 0) (Nat.zero_le s.length)), dBool]
    simp
  | k + 1, h => by
    have hw : IntKind.wrap .i64 ((s.length : Int) + 1) = ((s.length + 1 : Nat) : Int) := by rw [wrapI (by omega) (by omega)]; omega
    have ek : (((k + 1 : Nat) : Int) - 1) = (k : Int) := by omega
    obtain ⟨x, hx⟩ : ∃ x, L[k]? = some x := ⟨L[k], List.getElem?_eq_getElem (by omega)⟩
    have hR := g70_7 L s hs hL hk2 k (by omega)
    rw [drop_cons hx] at hR
    obtain ⟨n, hn⟩ := g70_11 (mx := mx) L s hs k (by omega) x hx (hk2 x (List.mem_of_getElem? hx)) _ hR (s.length + 1) (Nat.le_refl _)
    refine Goes.step ⟨n, ?_⟩
    rw [ek, r70_7a, decide_eq_true (show (k : Int) ≥ 0 by omega), hw, decide_eq_true (show (0 : Int) ≤ ((s.length + 1 : Nat) : Int) by omega), decide_eq_true (Int.le_refl _), Int.toNat_natCast, room1 (by omega)]
    simp only [Bool.and_self, cond_true]
    have e : nextD x (L.drop (k + 1)) s (s.length + 1) = List.replicate (s.length + 1) (D.bool false) := by
      unfold nextD
      rw [List.drop_eq_nil_of_le (by rw [rowD_len]; omega), List.append_nil]
    rw [e, show (((s.length + 1 : Nat) : Int) - 1) = (s.length : Int) by omega] at hn
    exact hn
theorem row_nil : ∀ (s : List UInt8), rowD [] s = List.replicate s.length (D.bool false) ++ [D.bool true]
  | [] => rfl
  | c :: t => by
    show D.bool _ :: rowD [] t = _
    rw [row_nil t]; rfl
theorem c70 (p s : List UInt8) (h : short s = true) : RetX (Γ mx) 70 [.s p, .s s] [] (.tuple [.b (matB p s), .i .i64 (matE p)]) [] := by
  have hs : s.length ≤ 4194304 := of_decide_eq_true h
  unfold matB matE
  cases hp : pcB p with
  | false =>
    refine ret_goes (Γ := Γ mx) hP hZ h70_ok (by kernel_rfl) ⟨0, ?_⟩
    rw [r70, hp]; rfl
  | true =>
    have hk2 : ∀ x ∈ pcL p, x.1 ≤ 2 := by
      unfold pcL
      cases decide (p.length ≤ 200)
      · intro x hx; cases hx
      · exact pcs_kind p
    obtain ⟨n, hn⟩ := g70_7 (mx := mx) (pcL p) s hs (pcL_len p) hk2 (pcL p).length (Nat.le_refl _)
    rw [List.drop_length] at hn
    refine ret_goes (Γ := Γ mx) hP hZ h70_ok (by kernel_rfl) ⟨n, ?_⟩
    have hw : IntKind.wrap .i64 ((s.length : Int) + 1) = ((s.length + 1 : Nat) : Int) := by rw [wrapI (by omega) (by omega)]; omega
    have e : pcR p = (pcL p).map pD := rfl
    have hl := pcL_len p
    have hw2 : IntKind.wrap .i64 ((((pcL p).map pD).length : Int) - 1) = ((pcL p).length : Int) - 1 := by rw [List.length_map]; exact wrapI (by omega) (by omega)
    have e2 : List.replicate (s.length + 1) (D.bool false) = List.replicate (s.length + 1) (D.bool false) ++ [] := by simp
    have e3 : (List.replicate (s.length + 1) (D.bool false)).set s.length (D.bool true) = rowD [] s := by rw [e2, set_rep, row_nil]
    rw [r70, hp, hw, e, hw2, decide_eq_true (show (0 : Int) ≤ ((s.length + 1 : Nat) : Int) by omega), decide_eq_true (Int.le_refl _), Int.toNat_natCast, room1 (by omega), Int.toNat_natCast, decide_eq_true (show (0 : Int) ≤ (s.length : Int) by omega),
      decide_eq_true (show (s.length : Int) < (((List.replicate (s.length + 1) (D.bool false)).length : Nat) : Int) by rw [List.length_replicate]; omega), lget (a := D.bool false) (by simp), e3]
    exact hn
end Go.Proofs.YtjbemleloffafaaDoor.V

/- Escaping and reading back, over lists of bytes; what the machine over values makes of the loops. -/
namespace Go.Proofs.YtjbemleloffafaaDoor.V
open Go
set_option maxRecDepth 100000
set_option linter.unusedVariables false
set_option linter.unusedSimpArgs false
variable {mx : Int}

theorem bytesD_snoc (m : List UInt8) (c : UInt8) : bytesD (m ++ [c]) = bytesD m ++ [.int .u8 c.toNat] := by simp [bytesD]
theorem bytesD_len (m : List UInt8) : (bytesD m).length = m.length := by simp [bytesD]
theorem unBytes_bytesD : ∀ l : List UInt8, unBytes (bytesD l) = some l
  | [] => rfl
  | c :: r => by
    have ih := unBytes_bytesD r
    unfold bytesD at ih ⊢
    simp only [List.map_cons, unBytes, ih, Option.map_some, Int.toNat_natCast, UInt8.ofNat_toNat]
theorem kBytes_bytesD {R : Type} (l : List UInt8) (K : List UInt8 → Option R) : kBytes (bytesD l) K = K l := by unfold kBytes; rw [unBytes_bytesD]
theorem byte_le (c : UInt8) : c.toNat ≤ 255 := by have := c.toNat_lt; omega
def hxL : List UInt8 := [48, 49, 50, 51, 52, 53, 54, 55, 56, 57, 65, 66, 67, 68, 69, 70]
def hx (k : Nat) : UInt8 := hxL.getD k 0
def plainB (c : UInt8) : Bool := plainZ (c.toNat : Int)
def encB (c : UInt8) : List UInt8 := if plainB c = true then [c] else [37, hx (c.toNat / 16), hx (c.toNat % 16)]
def escV : List UInt8 → List UInt8
  | [] => []
  | c :: r => encB c ++ escV r
def digV (c : UInt8) : Int := digitZ (c.toNat : Int)
def byteV (h l : UInt8) : UInt8 := UInt8.ofNat (digV h * 16 + digV l).toNat
def unV : List UInt8 → Option (List UInt8)
  | [] => some []
  | [c] => if c = 37 then none else if plainB c = true then some [c] else none
  | [c, d] => if c = 37 then none else if plainB c = true then (unV [d]).map (c :: ·) else none
  | c :: h :: l :: r => if c = 37 then (if digV h < 0 ∨ digV l < 0 then none else if plainB (byteV h l) = true then none else (unV r).map (byteV h l :: ·))
      else if plainB c = true then (unV (h :: l :: r)).map (c :: ·) else none
theorem unV_plain {c : UInt8} (hc : c ≠ 37) (hp : plainB c = true) : ∀ r : List UInt8, unV (c :: r) = (unV r).map (c :: ·)
  | [] => by simp [unV, hc, hp]
  | [d] => by simp [unV, hc, hp]
  | h :: l :: r => by simp only [unV, if_neg hc, if_pos hp]
theorem unV_bad {c : UInt8} (hc : c ≠ 37) (hp : plainB c = false) : ∀ r : List UInt8, unV (c :: r) = none
  | [] => by simp [unV, hc, hp]
  | [d] => by simp [unV, hc, hp]
  | h :: l :: r => by simp [unV, hc, hp]

/-! ### closed facts, byte by byte -/
theorem idx_mid2 {R : Type} {α : Type} (pre r : List α) (c d e : α) (K : α → Option R) : idx (pre ++ c :: d :: e :: r) ((pre.length : Int) + 2) K = K e :=
  idx_at K (by omega) (by rw [show ((pre.length : Int) + 2).toNat = pre.length + 2 by omega, List.getElem?_append_right (by omega)]; simp)
theorem bytesD_app (a b : List UInt8) : bytesD (a ++ b) = bytesD a ++ bytesD b := by simp [bytesD]
theorem idx_bytes {R : Type} (pre r : List UInt8) (c : UInt8) (K : D → Option R) : idx (bytesD (pre ++ c :: r)) (pre.length : Int) K = K (.int .u8 c.toNat) := by
  rw [bytesD_app, ← bytesD_len pre]
  exact idx_mid _ _ _ K
theorem among_plain (c : UInt8) : amongZ ([97, 98, 99, 100, 101, 102, 103, 104, 105, 106, 107, 108, 109, 110, 111, 112, 113, 114, 115, 116, 117, 118, 119, 120, 121, 122, 65, 66, 67, 68, 69, 70, 71, 72, 73, 74, 75, 76, 77, 78, 79, 80, 81, 82, 83, 84, 85, 86, 87, 88, 89, 90, 48, 49, 50, 51, 52, 53, 54, 55, 56, 57, 45, 46, 95, 47] : List UInt8) (c.toNat : Int) = plainB c :=
  (by decide +kernel : ∀ n : Nat, n < 256 → amongZ ([97, 98, 99, 100, 101, 102, 103, 104, 105, 106, 107, 108, 109, 110, 111, 112, 113, 114, 115, 116, 117, 118, 119, 120, 121, 122, 65, 66, 67, 68, 69, 70, 71, 72, 73, 74, 75, 76, 77, 78, 79, 80, 81, 82, 83, 84, 85, 86, 87, 88, 89, 90, 48, 49, 50, 51, 52, 53, 54, 55, 56, 57, 45, 46, 95, 47] : List UInt8) (n : Int) = plainZ (n : Int)) c.toNat c.toNat_lt
theorem hi_ok {R : Type} (c : UInt8) (K : UInt8 → Option R) : idx ([48, 49, 50, 51, 52, 53, 54, 55, 56, 57, 65, 66, 67, 68, 69, 70] : List UInt8) (shrV .u8 (c.toNat : Int) 4) K = K (hx (c.toNat / 16)) := by
  have h := (by decide +kernel : ∀ n : Nat, n < 256 → 0 ≤ shrV .u8 (n : Int) 4 ∧ hxL[(shrV .u8 (n : Int) 4).toNat]? = some (hx (n / 16))) c.toNat c.toNat_lt
  exact idx_at K h.1 h.2
theorem lo_ok {R : Type} (c : UInt8) (K : UInt8 → Option R) : idx ([48, 49, 50, 51, 52, 53, 54, 55, 56, 57, 65, 66, 67, 68, 69, 70] : List UInt8) (IntKind.wrap .u8 ((BitVec.ofInt 8 (c.toNat : Int) &&& BitVec.ofInt 8 15).toNat : Int)) K = K (hx (c.toNat % 16)) := by
  have h := (by decide +kernel : ∀ n : Nat, n < 256 → 0 ≤ IntKind.wrap .u8 ((BitVec.ofInt 8 (n : Int) &&& BitVec.ofInt 8 15).toNat : Int) ∧ hxL[(IntKind.wrap .u8 ((BitVec.ofInt 8 (n : Int) &&& BitVec.ofInt 8 15).toNat : Int)).toNat]? = some (hx (n % 16))) c.toNat c.toNat_lt
  exact idx_at K h.1 h.2
theorem room_ok {n : Nat} (h : n ≤ 70368744177664) : roomB n 1 = true := by
  unfold roomB
  simp only [Bool.and_eq_true]
  exact ⟨rfl, decide_eq_true (by omega)⟩
theorem text_bytes {l : List UInt8} (h0 : l ≠ []) (h : l.length ≤ 70368744177664) : textB (bytesD l) = true ∧ unB (bytesD l) = l := by
  unfold textB unB
  rw [unBytes_bytesD, bytesD_len]
  refine ⟨?_, rfl⟩
  simp only [Option.isSome_some, Bool.true_and, Bool.and_eq_true]
  refine ⟨?_, decide_eq_true (by omega)⟩
  cases l with
  | nil => exact absurd rfl h0
  | cons a l => simp [Nat.blt_eq]
theorem d37 : D.int .u8 37 = D.int .u8 (((37 : UInt8).toNat : Nat) : Int) := rfl

/-! ### label.Escape -/
theorem esc_goes : ∀ (rest pre out s : List UInt8) (i : Int), s = pre ++ rest → i = (pre.length : Int) → s.length ≤ 1099511627776 → out ≠ [] → out.length + 3 * rest.length ≤ 4398046511104 →
    Goes (Γ mx) Hesc 57 3 ⟨[(3, .ptr 0 [] 108), (7, .sl 5 .any (bytesD s)), (8, .i .i64 (s.length : Int)), (9, .i .i64 i)], [some (.box 108 (.agg 108 [.ptr 0 [] 108, .ref 5 1])), some (.arr 5 (bytesD out) false)]⟩ (.s (out ++ escV rest), [])
  | [], pre, out, s, i, hs, hi, hl, h0, hb => by
    refine Goes.step ⟨0, ?_⟩
    rw [r57_3b]
    subst hs hi
    have d1 : decide ((pre.length : Int) < (pre.length : Int)) = false := decide_eq_false (by omega)
    obtain ⟨t1, t2⟩ := text_bytes h0 (by simp at hb; omega)
    simp only [List.append_nil, d1, cond_false, t1, t2, cond_true, escV]
  | c :: r, pre, out, s, i, hs, hi, hl, h0, hb => by
    subst hs hi
    simp only [List.length_append, List.length_cons] at hl hb
    refine Goes.step ?_
    have d1 : decide ((pre.length : Int) < ((pre ++ c :: r).length : Int)) = true := decide_eq_true (by simp <;> omega)
    have hw : IntKind.wrap .i64 ((pre.length : Int) + 1) = (pre.length : Int) + 1 := wrap_id (by omega) (by omega)
    cases hp : plainB c with
    | true =>
      obtain ⟨k, hk⟩ := esc_goes r (pre ++ [c]) (out ++ [c]) (pre ++ c :: r) ((pre.length : Int) + 1) (by simp) (by simp) (by simp <;> omega) (by simp) (by simp <;> omega)
      refine ⟨k, ?_⟩
      rw [r57_3b]
      simp only [d1, cond_true, idx_bytes, dInt, kEq, among_plain, hp, hw, bytesD_len, room_ok (show out.length + 1 ≤ 70368744177664 by omega)]
      rw [← bytesD_snoc, hk]
      simp [escV, encB, hp]
    | false =>
      obtain ⟨k, hk⟩ := esc_goes r (pre ++ [c]) (out ++ [37] ++ [hx (c.toNat / 16)] ++ [hx (c.toNat % 16)]) (pre ++ c :: r) ((pre.length : Int) + 1) (by simp) (by simp) (by simp <;> omega) (by simp) (by simp <;> omega)
      refine ⟨k, ?_⟩
      rw [r57_3b]
      simp only [d1, cond_true, cond_false, idx_bytes, dInt, kEq, among_plain, hp, hw, hi_ok, lo_ok]
      have q1 : roomB (out.length + 1) 1 = true := room_ok (by omega)
      have q2 : roomB ((out ++ [37]).length + 1) 1 = true := room_ok (by simp only [List.length_append, List.length_cons, List.length_nil]; omega)
      have q3 : roomB ((out ++ [37] ++ [hx (c.toNat / 16)]).length + 1) 1 = true := room_ok (by simp only [List.length_append, List.length_cons, List.length_nil]; omega)
      rw [d37, ← bytesD_snoc, ← bytesD_snoc, ← bytesD_snoc, bytesD_len, bytesD_len, bytesD_len, q1, q2, q3]
      simp only [cond_true]
      rw [hk]
      simp [escV, encB, hp]
theorem esc_ret {s : List UInt8} (hl : s.length ≤ 1099511627776) : RetX (Γ mx) 57 [.s s] [] (.s (escV s)) [] := by
  refine ret_goes hP hZ esc_ok (by kernel_rfl) ?_
  suffices h : Goes (Γ mx) Hesc 57 3 ⟨[(3, .ptr 0 [] 108), (7, .sl 5 .any (bytesD s)), (8, .i .i64 (((bytesD s).length : Int))), (9, .i .i64 0)], [some (.box 108 (.agg 108 [.pnil, .sl 5 .nl []]))]⟩ (.s (escV s), []) by
    obtain ⟨n, hn⟩ := h
    exact ⟨n, by rw [r57]; exact hn⟩
  rw [bytesD_len]
  refine Goes.step ?_
  cases s with
  | nil => exact ⟨0, by rw [r57_3a]; rfl⟩
  | cons c r =>
    simp only [List.length_cons] at hl
    have d1 : decide ((0 : Int) < ((c :: r).length : Int)) = true := decide_eq_true (by simp <;> omega)
    have hw : IntKind.wrap .i64 ((0 : Int) + 1) = 1 := by decide
    have hi : ∀ {R : Type} (K : D → Option R), idx (bytesD (c :: r)) 0 K = K (.int .u8 c.toNat) := fun K => idx_bytes [] r c K
    cases hp : plainB c with
    | true =>
      obtain ⟨k, hk⟩ := esc_goes r [c] [c] (c :: r) 1 (by simp) (by simp) (by simp <;> omega) (by simp) (by simp <;> omega)
      refine ⟨k, ?_⟩
      rw [r57_3a]
      simp only [d1, cond_true, hi, dInt, kEq, among_plain, hp, hw]
      rw [show [D.int .u8 (c.toNat : Int)] = bytesD [c] from rfl, hk]
      simp [escV, encB, hp]
    | false =>
      obtain ⟨k, hk⟩ := esc_goes r [c] [37, hx (c.toNat / 16), hx (c.toNat % 16)] (c :: r) 1 (by simp) (by simp) (by simp <;> omega) (by simp) (by simp <;> omega)
      refine ⟨k, ?_⟩
      rw [r57_3a]
      simp only [d1, cond_true, cond_false, hi, dInt, kEq, among_plain, hp, hw, hi_ok, lo_ok]
      have q2 : roomB ([D.int .u8 37].length + 1) 1 = true := rfl
      have q3 : roomB ([D.int .u8 37, D.int .u8 ((hx (c.toNat / 16)).toNat : Int)].length + 1) 1 = true := rfl
      rw [q2, q3]
      simp only [cond_true]
      rw [show [D.int .u8 37, D.int .u8 ((hx (c.toNat / 16)).toNat : Int), D.int .u8 ((hx (c.toNat % 16)).toNat : Int)] = bytesD [37, hx (c.toNat / 16), hx (c.toNat % 16)] from rfl, hk]
      simp [escV, encB, hp]
end Go.Proofs.YtjbemleloffafaaDoor.V

/- label.Unescape, and the document's Escape and Unescape: their loops. -/
namespace Go.Proofs.YtjbemleloffafaaDoor.V
open Go
set_option maxRecDepth 100000
set_option linter.unusedVariables false
set_option linter.unusedSimpArgs false
variable {mx : Int}

def unR (out : List UInt8) (o : Option (List UInt8)) : AV := match o with
  | some r => .tuple [.s (out ++ r), .i .i64 0]
  | none => .tuple [.s [], .i .i64 5]
theorem unR_more (out : List UInt8) (b : UInt8) (o : Option (List UInt8)) : unR out (o.map (b :: ·)) = unR (out ++ [b]) o := by
  cases o <;> simp [unR]
theorem dgt (c : UInt8) : idxZ ([48, 49, 50, 51, 52, 53, 54, 55, 56, 57, 65, 66, 67, 68, 69, 70] : List UInt8) (c.toNat : Int) = digV c :=
  (by decide +kernel : ∀ n : Nat, n < 256 → idxZ ([48, 49, 50, 51, 52, 53, 54, 55, 56, 57, 65, 66, 67, 68, 69, 70] : List UInt8) (n : Int) = digitZ (n : Int)) c.toNat c.toNat_lt
theorem dig_nat (c : UInt8) (h : ¬ digV c < 0) : ∃ a : Nat, a < 16 ∧ digV c = (a : Int) := by
  have := (by decide +kernel : ∀ n : Nat, n < 256 → digitZ (n : Int) < 16) c.toNat c.toNat_lt
  exact ⟨(digV c).toNat, by unfold digV at *; omega, by omega⟩
theorem byte_nat {h l : UInt8} {a b : Nat} (ha : a < 16) (hb : b < 16) (e1 : digV h = (a : Int)) (e2 : digV l = (b : Int)) : ((byteV h l).toNat : Int) = (a : Int) * 16 + (b : Int) := by
  unfold byteV
  rw [e1, e2]
  have : ((a : Int) * 16 + (b : Int)).toNat = a * 16 + b := by omega
  rw [this, UInt8.toNat_ofNat']
  omega
theorem val14 {h l : UInt8} (hh : ¬ digV h < 0) (hl : ¬ digV l < 0) : IntKind.wrap .u8 (IntKind.wrap .i64 ((BitVec.ofInt 64 (shlV .i64 (digV h) 4) ||| BitVec.ofInt 64 (digV l)).toNat : Int)) = ((byteV h l).toNat : Int) := by
  obtain ⟨a, ha, e1⟩ := dig_nat h hh
  obtain ⟨b, hb, e2⟩ := dig_nat l hl
  rw [byte_nat ha hb e1 e2, e1, e2]
  exact (by decide +kernel : ∀ a : Nat, a < 16 → ∀ b : Nat, b < 16 → IntKind.wrap .u8 (IntKind.wrap .i64 ((BitVec.ofInt 64 (shlV .i64 (a : Int) 4) ||| BitVec.ofInt 64 (b : Int)).toNat : Int)) = (a : Int) * 16 + (b : Int)) a ha b hb
theorem val15 {h l : UInt8} (hh : ¬ digV h < 0) (hl : ¬ digV l < 0) : IntKind.wrap .u8 (IntKind.wrap .i64 ((IntKind.wrap .i64 ((digV h) * 16)) + (digV l))) = ((byteV h l).toNat : Int) := by
  obtain ⟨a, ha, e1⟩ := dig_nat h hh
  obtain ⟨b, hb, e2⟩ := dig_nat l hl
  rw [byte_nat ha hb e1 e2, e1, e2]
  exact (by decide +kernel : ∀ a : Nat, a < 16 → ∀ b : Nat, b < 16 → IntKind.wrap .u8 (IntKind.wrap .i64 ((IntKind.wrap .i64 ((a : Int) * 16)) + (b : Int))) = (a : Int) * 16 + (b : Int)) a ha b hb
theorem is37 (c : UInt8) : ((c.toNat : Int) == 37) = decide (c = 37) := by
  by_cases h : c = 37
  · subst h; rfl
  · rw [decide_eq_false h]
    have : c.toNat ≠ 37 := fun e => h (UInt8.toNat_inj.1 (by rw [e]; rfl))
    simp; omega
theorem not37 : plainB 37 = false := by decide
theorem unV_37 (h l : UInt8) (r : List UInt8) : unV (37 :: h :: l :: r) = if digV h < 0 ∨ digV l < 0 then none else if plainB (byteV h l) = true then none else (unV r).map (byteV h l :: ·) := by simp [unV]
theorem ne37 {c : UInt8} (h : plainB c = true) : c ≠ 37 := fun e => by rw [e, not37] at h; simp at h

/-! ### label.Unescape -/
theorem un_goes : ∀ (n : Nat) (rest pre out s : List UInt8) (i : Int) (_ : rest.length ≤ n) (hs : s = pre ++ rest) (hi : i = (pre.length : Int)) (hl : s.length ≤ 1099511627776) (hb : out.length + rest.length ≤ 4398046511104),
    Goes (Γ mx) Hesc 60 3 ⟨[(0, .s s), (4, .ref 5 0), (5, .i .i64 i)], [some (.arr 5 (bytesD out) false)]⟩ (unR out (unV rest), [])
  | n, [], pre, out, s, i, hn, hs, hi, hl, hb => by
    subst hs hi
    refine Goes.step ⟨0, ?_⟩
    rw [r60_3b]
    have d1 : decide ((pre.length : Int) < (pre.length : Int)) = false := decide_eq_false (by omega)
    simp only [List.append_nil, d1, cond_false, kBytes_bytesD, unV, unR]
  | 0, c :: r, pre, out, s, i, hn, hs, hi, hl, hb => by simp at hn
  | n + 1, c :: r, pre, out, s, i, hn, hs, hi, hl, hb => by
    subst hs hi
    simp only [List.length_append, List.length_cons] at hl hb hn
    refine Goes.step ?_
    have d1 : decide ((pre.length : Int) < ((pre ++ c :: r).length : Int)) = true := decide_eq_true (by simp <;> omega)
    have hw : IntKind.wrap .i64 ((pre.length : Int) + 1) = (pre.length : Int) + 1 := wrap_id (by omega) (by omega)
    have hw2 : IntKind.wrap .i64 ((pre.length : Int) + 2) = (pre.length : Int) + 2 := wrap_id (by omega) (by omega)
    have hw3 : IntKind.wrap .i64 ((pre.length : Int) + 2 + 1) = (pre.length : Int) + 2 + 1 := wrap_id (by omega) (by omega)
    have q1 : roomB (out.length + 1) 1 = true := room_ok (by omega)
    by_cases hc : c = 37
    · subst hc
      match r, hl, hb, hn with
      | [], hl, hb, hn =>
        refine ⟨0, ?_⟩
        rw [r60_3b]
        have d2 : decide (IntKind.wrap .i64 (((pre ++ [37]).length : Int) - (pre.length : Int)) < 3) = true := by
          have e : (((pre ++ [37]).length : Nat) : Int) - (pre.length : Int) = 1 := by simp <;> omega
          rw [e]; rfl
        simp only [d1, cond_true, idx_mid, is37, decide_true, d2]
        rfl
      | [d], hl, hb, hn =>
        refine ⟨0, ?_⟩
        rw [r60_3b]
        have d2 : decide (IntKind.wrap .i64 (((pre ++ [37, d]).length : Int) - (pre.length : Int)) < 3) = true := by
          have e : (((pre ++ [37, d]).length : Nat) : Int) - (pre.length : Int) = 2 := by simp <;> omega
          rw [e]; rfl
        simp only [d1, cond_true, idx_mid, is37, decide_true, d2]
        simp [unV, unR]
      | h :: l :: r', hl, hb, hn =>
        simp only [List.length_cons] at hl hb hn
        have d2 : decide (IntKind.wrap .i64 (((pre ++ 37 :: h :: l :: r').length : Int) - (pre.length : Int)) < 3) = false := by
          have e : (((pre ++ 37 :: h :: l :: r').length : Nat) : Int) - (pre.length : Int) = (r'.length : Int) + 3 := by simp <;> omega
          rw [e, wrap_id (by omega) (by omega)]
          exact decide_eq_false (by omega)
        rw [unV_37]
        by_cases h1 : digV h < 0
        · refine ⟨0, ?_⟩
          rw [r60_3b]
          simp only [d1, cond_true, cond_false, idx_mid, is37, decide_true, d2, hw, hw2, idx_mid1, idx_mid2, dgt, decide_eq_true h1, if_pos (Or.inl h1), unR]
        · by_cases h2 : digV l < 0
          · refine ⟨0, ?_⟩
            rw [r60_3b]
            simp only [d1, cond_true, cond_false, idx_mid, is37, decide_true, d2, hw, hw2, idx_mid1, idx_mid2, dgt, decide_eq_false h1, decide_eq_true h2, if_pos (Or.inr h2), unR]
          · rw [if_neg (by rintro (h | h) <;> contradiction)]
            cases hp : plainB (byteV h l) with
            | true =>
              refine ⟨0, ?_⟩
              rw [r60_3b]
              simp only [d1, cond_true, cond_false, idx_mid, is37, decide_true, d2, hw, hw2, idx_mid1, idx_mid2, dgt, decide_eq_false h1, decide_eq_false h2, val14 h1 h2, among_plain, hp, if_true, unR]
            | false =>
              obtain ⟨k, hk⟩ := un_goes n r' (pre ++ [37, h, l]) (out ++ [byteV h l]) (pre ++ 37 :: h :: l :: r') ((pre.length : Int) + 2 + 1) (by omega) (by simp) (by simp <;> omega) (by simp <;> omega) (by simp <;> omega)
              refine ⟨k, ?_⟩
              rw [r60_3b]
              simp only [d1, cond_true, cond_false, idx_mid, is37, decide_true, d2, hw, hw2, hw3, idx_mid1, idx_mid2, dgt, decide_eq_false h1, decide_eq_false h2, val14 h1 h2, among_plain, hp, bytesD_len, q1]
              rw [← bytesD_snoc, hk]
              simp only [Bool.false_eq_true, if_false, unR_more]
    · cases hp : plainB c with
      | true =>
        obtain ⟨k, hk⟩ := un_goes n r (pre ++ [c]) (out ++ [c]) (pre ++ c :: r) ((pre.length : Int) + 1) (by omega) (by simp) (by simp) (by simp <;> omega) (by simp <;> omega)
        refine ⟨k, ?_⟩
        rw [r60_3b]
        simp only [d1, cond_true, cond_false, idx_mid, is37, decide_eq_false hc, among_plain, hp, Bool.not_true, hw, bytesD_len, q1]
        rw [← bytesD_snoc, hk, unV_plain hc hp, unR_more]
      | false =>
        refine ⟨0, ?_⟩
        rw [r60_3b]
        simp only [d1, cond_true, cond_false, idx_mid, is37, decide_eq_false hc, among_plain, hp, Bool.not_false, unV_bad hc hp, unR]
end Go.Proofs.YtjbemleloffafaaDoor.V

/- label.Unescape from its head on; the document's Escape and Unescape. -/
namespace Go.Proofs.YtjbemleloffafaaDoor.V
open Go
set_option maxRecDepth 100000
set_option linter.unusedVariables false
set_option linter.unusedSimpArgs false
variable {mx : Int}

theorem i0 {R : Type} {α : Type} (r : List α) (c : α) (K : α → Option R) : idx (c :: r) 0 K = K c := idx_mid [] r c K
theorem i1 {R : Type} {α : Type} (r : List α) (c d : α) (K : α → Option R) : idx (c :: d :: r) 1 K = K d := idx_mid1 [] r c d K
theorem i2 {R : Type} {α : Type} (r : List α) (c d e : α) (K : α → Option R) : idx (c :: d :: e :: r) 2 K = K e := idx_mid2 [] r c d e K
theorem un_first (s : List UInt8) (hl : s.length ≤ 1099511627776) : Goes (Γ mx) Hesc 60 3 ⟨[(0, .s s), (4, .snil), (5, .i .i64 0)], []⟩ (unR [] (unV s), []) := by
  match s, hl with
  | [], hl => exact Goes.step ⟨0, by rw [r60_3a]; rfl⟩
  | c :: r, hl =>
    simp only [List.length_cons] at hl
    refine Goes.step ?_
    have d1 : decide ((0 : Int) < ((c :: r).length : Int)) = true := decide_eq_true (by simp <;> omega)
    have hw : IntKind.wrap .i64 ((0 : Int) + 1) = 1 := by decide
    have hw2 : IntKind.wrap .i64 ((0 : Int) + 2) = 2 := by decide
    have hw3 : IntKind.wrap .i64 ((2 : Int) + 1) = 3 := by decide
    by_cases hc : c = 37
    · subst hc
      match r, hl with
      | [], hl => exact ⟨0, by rw [r60_3a]; rfl⟩
      | [d], hl =>
        refine ⟨0, ?_⟩
        rw [r60_3a]
        have d2 : decide (IntKind.wrap .i64 (((([37, d] : List UInt8).length : Nat) : Int) - 0) < 3) = true := rfl
        simp only [d1, cond_true, i0, is37, decide_true, d2]
        simp [unV, unR]
      | h :: l :: r', hl =>
        simp only [List.length_cons] at hl
        have d2 : decide (IntKind.wrap .i64 ((((37 :: h :: l :: r').length : Nat) : Int) - 0) < 3) = false := by
          have e : (((37 :: h :: l :: r').length : Nat) : Int) - 0 = (r'.length : Int) + 3 := by simp <;> omega
          rw [e, wrap_id (by omega) (by omega)]
          exact decide_eq_false (by omega)
        rw [unV_37]
        by_cases h1 : digV h < 0
        · refine ⟨0, ?_⟩
          rw [r60_3a]
          simp only [d1, cond_true, cond_false, i0, is37, decide_true, d2, hw, hw2, i1, i2, dgt, decide_eq_true h1, if_pos (Or.inl h1), unR]
        · by_cases h2 : digV l < 0
          · refine ⟨0, ?_⟩
            rw [r60_3a]
            simp only [d1, cond_true, cond_false, i0, is37, decide_true, d2, hw, hw2, i1, i2, dgt, decide_eq_false h1, decide_eq_true h2, if_pos (Or.inr h2), unR]
          · rw [if_neg (by rintro (h | h) <;> contradiction)]
            cases hp : plainB (byteV h l) with
            | true =>
              refine ⟨0, ?_⟩
              rw [r60_3a]
              simp only [d1, cond_true, cond_false, i0, is37, decide_true, d2, hw, hw2, i1, i2, dgt, decide_eq_false h1, decide_eq_false h2, val14 h1 h2, among_plain, hp, if_true, unR]
            | false =>
              obtain ⟨k, hk⟩ := un_goes _ r' [37, h, l] [byteV h l] (37 :: h :: l :: r') 3 (Nat.le_refl _) (by simp) (by simp) (by simp <;> omega) (by simp <;> omega)
              refine ⟨k, ?_⟩
              rw [r60_3a]
              simp only [d1, cond_true, cond_false, i0, is37, decide_true, d2, hw, hw2, hw3, i1, i2, dgt, decide_eq_false h1, decide_eq_false h2, val14 h1 h2, among_plain, hp]
              rw [show [D.int .u8 ((byteV h l).toNat : Int)] = bytesD [byteV h l] from rfl, hk]
              simp only [Bool.false_eq_true, if_false, unR_more, List.nil_append]
    · cases hp : plainB c with
      | true =>
        obtain ⟨k, hk⟩ := un_goes _ r [c] [c] (c :: r) 1 (Nat.le_refl _) (by simp) (by simp) (by simp <;> omega) (by simp <;> omega)
        refine ⟨k, ?_⟩
        rw [r60_3a]
        simp only [d1, cond_true, cond_false, i0, is37, decide_eq_false hc, among_plain, hp, Bool.not_true, hw]
        rw [show [D.int .u8 (c.toNat : Int)] = bytesD [c] from rfl, hk, unV_plain hc hp, unR_more, List.nil_append]
      | false =>
        refine ⟨0, ?_⟩
        rw [r60_3a]
        simp only [d1, cond_true, cond_false, i0, is37, decide_eq_false hc, among_plain, hp, Bool.not_false, unV_bad hc hp, unR]
def unS (s : List UInt8) : List UInt8 := (unV s).getD []
def unE (s : List UInt8) : Int := bif (unV s).isSome then 0 else 5
theorem unR_eq (s : List UInt8) : unR [] (unV s) = .tuple [.s (unS s), .i .i64 (unE s)] := by
  unfold unR unS unE
  cases unV s <;> rfl
theorem un_ret {s : List UInt8} (hl : s.length ≤ 1099511627776) : RetX (Γ mx) 60 [.s s] [] (.tuple [.s (unS s), .i .i64 (unE s)]) [] := by
  refine ret_goes hP hZ esc_ok (by kernel_rfl) ?_
  obtain ⟨n, hn⟩ := un_first s hl
  exact ⟨n, by rw [r60, ← unR_eq]; exact hn⟩

/-! ### the document's -/
theorem plainZ_B (c : UInt8) : plainZ (c.toNat : Int) = plainB c := rfl
theorem cut_one (pre r : List UInt8) (c : UInt8) : List.take (Int.toNat ((pre.length : Int) + 1) - Int.toNat (pre.length : Int)) (List.drop (Int.toNat (pre.length : Int)) (pre ++ c :: r)) = [c] := by
  rw [show Int.toNat ((pre.length : Int) + 1) - Int.toNat (pre.length : Int) = 1 by omega, show Int.toNat (pre.length : Int) = pre.length by omega]
  simp
theorem hxA (c : UInt8) : List.take ((Int.toNat (IntKind.wrap .u8 ((IntKind.wrap .u8 (Int.tdiv ((c.toNat : Int)) 16)) + 1))) - (Int.toNat (IntKind.wrap .u8 (Int.tdiv ((c.toNat : Int)) 16)))) (List.drop (Int.toNat (IntKind.wrap .u8 (Int.tdiv ((c.toNat : Int)) 16))) hxL) = [hx (c.toNat / 16)] :=
  (by decide +kernel : ∀ n : Nat, n < 256 → List.take ((Int.toNat (IntKind.wrap .u8 ((IntKind.wrap .u8 (Int.tdiv ((n : Int)) 16)) + 1))) - (Int.toNat (IntKind.wrap .u8 (Int.tdiv ((n : Int)) 16)))) (List.drop (Int.toNat (IntKind.wrap .u8 (Int.tdiv ((n : Int)) 16))) hxL) = [hx (n / 16)]) c.toNat c.toNat_lt
theorem hxB (c : UInt8) : List.take ((Int.toNat (IntKind.wrap .u8 ((Int.tmod ((c.toNat : Int)) 16) + 1))) - (Int.toNat (Int.tmod ((c.toNat : Int)) 16))) (List.drop (Int.toNat (Int.tmod ((c.toNat : Int)) 16)) hxL) = [hx (c.toNat % 16)] :=
  (by decide +kernel : ∀ n : Nat, n < 256 → List.take ((Int.toNat (IntKind.wrap .u8 ((Int.tmod ((n : Int)) 16) + 1))) - (Int.toNat (Int.tmod ((n : Int)) 16))) (List.drop (Int.toNat (Int.tmod ((n : Int)) 16)) hxL) = [hx (n % 16)]) c.toNat c.toNat_lt
theorem hxC (c : UInt8) : (decide ((0:Int) ≤ (IntKind.wrap .u8 ((IntKind.wrap .u8 (Int.tdiv ((c.toNat : Int)) 16)) + 1))) && decide ((IntKind.wrap .u8 ((IntKind.wrap .u8 (Int.tdiv ((c.toNat : Int)) 16)) + 1)) ≤ (List.length hxL : Int))) = true :=
  (by decide +kernel : ∀ n : Nat, n < 256 → (decide ((0:Int) ≤ (IntKind.wrap .u8 ((IntKind.wrap .u8 (Int.tdiv ((n : Int)) 16)) + 1))) && decide ((IntKind.wrap .u8 ((IntKind.wrap .u8 (Int.tdiv ((n : Int)) 16)) + 1)) ≤ (List.length hxL : Int))) = true) c.toNat c.toNat_lt
theorem hxD (c : UInt8) : (decide ((0:Int) ≤ (IntKind.wrap .u8 (Int.tdiv ((c.toNat : Int)) 16))) && decide ((IntKind.wrap .u8 (Int.tdiv ((c.toNat : Int)) 16)) ≤ (Int.toNat (IntKind.wrap .u8 ((IntKind.wrap .u8 (Int.tdiv ((c.toNat : Int)) 16)) + 1)) : Int))) = true :=
  (by decide +kernel : ∀ n : Nat, n < 256 → (decide ((0:Int) ≤ (IntKind.wrap .u8 (Int.tdiv ((n : Int)) 16))) && decide ((IntKind.wrap .u8 (Int.tdiv ((n : Int)) 16)) ≤ (Int.toNat (IntKind.wrap .u8 ((IntKind.wrap .u8 (Int.tdiv ((n : Int)) 16)) + 1)) : Int))) = true) c.toNat c.toNat_lt
theorem hxE (c : UInt8) : (decide ((0:Int) ≤ (IntKind.wrap .u8 ((Int.tmod ((c.toNat : Int)) 16) + 1))) && decide ((IntKind.wrap .u8 ((Int.tmod ((c.toNat : Int)) 16) + 1)) ≤ (List.length hxL : Int))) = true :=
  (by decide +kernel : ∀ n : Nat, n < 256 → (decide ((0:Int) ≤ (IntKind.wrap .u8 ((Int.tmod ((n : Int)) 16) + 1))) && decide ((IntKind.wrap .u8 ((Int.tmod ((n : Int)) 16) + 1)) ≤ (List.length hxL : Int))) = true) c.toNat c.toNat_lt
theorem hxF (c : UInt8) : (decide ((0:Int) ≤ (Int.tmod ((c.toNat : Int)) 16)) && decide ((Int.tmod ((c.toNat : Int)) 16) ≤ (Int.toNat (IntKind.wrap .u8 ((Int.tmod ((c.toNat : Int)) 16) + 1)) : Int))) = true :=
  (by decide +kernel : ∀ n : Nat, n < 256 → (decide ((0:Int) ≤ (Int.tmod ((n : Int)) 16)) && decide ((Int.tmod ((n : Int)) 16) ≤ (Int.toNat (IntKind.wrap .u8 ((Int.tmod ((n : Int)) 16) + 1)) : Int))) = true) c.toNat c.toNat_lt
theorem fits_max {n : Nat} (h : n ≤ 70368744177664) : decide (n ≤ maxStr) = true := decide_eq_true (by unfold maxStr; omega)

theorem refEsc_goes : ∀ (rest pre out s : List UInt8) (i : Int), s = pre ++ rest → i = (pre.length : Int) → s.length ≤ 1099511627776 → out.length + 3 * rest.length ≤ 4398046511104 →
    Goes (Γ mx) Hesc 58 4 ⟨[(0, .s s), (3, .s hxL), (4, .s out), (5, .i .i64 i)], []⟩ (.s (out ++ escV rest), [])
  | [], pre, out, s, i, hs, hi, hl, hb => by
    refine Goes.step ⟨0, ?_⟩
    rw [r58_4a]
    subst hs hi
    have d1 : decide ((pre.length : Int) < (pre.length : Int)) = false := decide_eq_false (by omega)
    simp only [List.append_nil, d1, cond_false, escV]
  | c :: r, pre, out, s, i, hs, hi, hl, hb => by
    subst hs hi
    simp only [List.length_append, List.length_cons] at hl hb
    refine Goes.step ?_
    have d1 : decide ((pre.length : Int) < ((pre ++ c :: r).length : Int)) = true := decide_eq_true (by simp <;> omega)
    have hw : IntKind.wrap .i64 ((pre.length : Int) + 1) = (pre.length : Int) + 1 := wrap_id (by omega) (by omega)
    cases hp : plainB c with
    | true =>
      obtain ⟨k, hk⟩ := refEsc_goes r (pre ++ [c]) (out ++ [c]) (pre ++ c :: r) ((pre.length : Int) + 1) (by simp) (by simp) (by simp <;> omega) (by simp <;> omega)
      refine ⟨k, ?_⟩
      rw [r58_4a]
      have d2 : (decide ((0 : Int) ≤ (pre.length : Int) + 1) && decide ((pre.length : Int) + 1 ≤ ((pre ++ c :: r).length : Int))) = true := by simp <;> omega
      have d3 : (decide ((0 : Int) ≤ (pre.length : Int)) && decide ((pre.length : Int) ≤ (Int.toNat ((pre.length : Int) + 1) : Int))) = true := by simp <;> omega
      have d4 : decide (out.length + ([c] : List UInt8).length ≤ maxStr) = true := fits_max (by simp <;> omega)
      simp only [d1, cond_true, idx_mid, plainZ_B, hp, hw, d2, d3, cut_one, d4]
      rw [hk]
      simp [escV, encB, hp]
    | false =>
      obtain ⟨k, hk⟩ := refEsc_goes r (pre ++ [c]) (out ++ (([37] ++ [hx (c.toNat / 16)]) ++ [hx (c.toNat % 16)])) (pre ++ c :: r) ((pre.length : Int) + 1) (by simp) (by simp) (by simp <;> omega) (by simp <;> omega)
      refine ⟨k, ?_⟩
      rw [r58_4a]
      have d3 : decide (([37] : List UInt8).length + [hx (c.toNat / 16)].length ≤ maxStr) = true := fits_max (by simp)
      have d4 : decide ((([37] : List UInt8) ++ [hx (c.toNat / 16)]).length + [hx (c.toNat % 16)].length ≤ maxStr) = true := fits_max (by simp)
      have d5 : decide (out.length + ((([37] : List UInt8) ++ [hx (c.toNat / 16)]) ++ [hx (c.toNat % 16)]).length ≤ maxStr) = true := fits_max (by simp <;> omega)
      simp only [d1, cond_true, cond_false, idx_mid, plainZ_B, hp, hw, hxA, hxB, hxC, hxD, hxE, hxF, d3, d4, d5]
      rw [hk]
      simp [escV, encB, hp]
theorem refEsc_ret {s : List UInt8} (hl : s.length ≤ 1099511627776) : RetX (Γ mx) 58 [.s s] [] (.s (escV s)) [] := by
  refine ret_goes hP hZ esc_ok (by kernel_rfl) ?_
  obtain ⟨n, hn⟩ := refEsc_goes s [] [] s 0 rfl rfl hl (by simp <;> omega)
  exact ⟨n, by rw [r58]; exact hn⟩
end Go.Proofs.YtjbemleloffafaaDoor.V

/- The document's Unescape; escaping and reading back are each other's. -/
namespace Go.Proofs.YtjbemleloffafaaDoor.V
open Go
set_option maxRecDepth 100000
set_option linter.unusedVariables false
set_option linter.unusedSimpArgs false
variable {mx : Int}

theorem refUn_goes : ∀ (n : Nat) (rest pre out s : List UInt8) (i : Int) (_ : rest.length ≤ n) (hs : s = pre ++ rest) (hi : i = (pre.length : Int)) (hl : s.length ≤ 1099511627776) (hb : out.length + rest.length ≤ 4398046511104),
    Goes (Γ mx) Hesc 49 3 ⟨[(0, .s s), (4, .s out), (5, .i .i64 i)], []⟩ (unR out (unV rest), [])
  | n, [], pre, out, s, i, hn, hs, hi, hl, hb => by
    subst hs hi
    refine Goes.step ⟨0, ?_⟩
    rw [r49_3a]
    have d1 : decide ((pre.length : Int) < (pre.length : Int)) = false := decide_eq_false (by omega)
    simp only [List.append_nil, d1, cond_false, unV, unR]
  | 0, c :: r, pre, out, s, i, hn, hs, hi, hl, hb => by simp at hn
  | n + 1, c :: r, pre, out, s, i, hn, hs, hi, hl, hb => by
    subst hs hi
    simp only [List.length_append, List.length_cons] at hl hb hn
    refine Goes.step ?_
    have d1 : decide ((pre.length : Int) < ((pre ++ c :: r).length : Int)) = true := decide_eq_true (by simp <;> omega)
    have hw : IntKind.wrap .i64 ((pre.length : Int) + 1) = (pre.length : Int) + 1 := wrap_id (by omega) (by omega)
    have hw2 : IntKind.wrap .i64 ((pre.length : Int) + 2) = (pre.length : Int) + 2 := wrap_id (by omega) (by omega)
    have hw3 : IntKind.wrap .i64 ((pre.length : Int) + 2 + 1) = (pre.length : Int) + 2 + 1 := wrap_id (by omega) (by omega)
    cases hp : plainB c with
    | true =>
      obtain ⟨k, hk⟩ := refUn_goes n r (pre ++ [c]) (out ++ [c]) (pre ++ c :: r) ((pre.length : Int) + 1) (by omega) (by simp) (by simp) (by simp <;> omega) (by simp <;> omega)
      refine ⟨k, ?_⟩
      rw [r49_3a]
      have d2 : (decide ((0 : Int) ≤ (pre.length : Int) + 1) && decide ((pre.length : Int) + 1 ≤ ((pre ++ c :: r).length : Int))) = true := by simp <;> omega
      have d3 : (decide ((0 : Int) ≤ (pre.length : Int)) && decide ((pre.length : Int) ≤ (Int.toNat ((pre.length : Int) + 1) : Int))) = true := by simp <;> omega
      have d4 : decide (out.length + ([c] : List UInt8).length ≤ maxStr) = true := fits_max (by simp <;> omega)
      simp only [d1, cond_true, idx_mid, plainZ_B, hp, hw, d2, d3, cut_one, d4]
      rw [hk, unV_plain (ne37 hp) hp, unR_more]
    | false =>
      by_cases hc : c = 37
      · subst hc
        have n37 : (((37 : UInt8).toNat : Int) != 37) = false := rfl
        match r, hl, hb, hn with
        | [], hl, hb, hn =>
          refine ⟨0, ?_⟩
          rw [r49_3a]
          have d2 : decide ((pre.length : Int) + 2 ≥ ((pre ++ [37]).length : Int)) = true := decide_eq_true (by simp <;> omega)
          simp only [d1, cond_true, cond_false, idx_mid, plainZ_B, hp, n37, hw2, d2]
          rfl
        | [d], hl, hb, hn =>
          refine ⟨0, ?_⟩
          rw [r49_3a]
          have d2 : decide ((pre.length : Int) + 2 ≥ ((pre ++ [37, d]).length : Int)) = true := decide_eq_true (by simp <;> omega)
          simp only [d1, cond_true, cond_false, idx_mid, plainZ_B, hp, n37, hw2, d2]
          simp [unV, unR]
        | h :: l :: r', hl, hb, hn =>
          simp only [List.length_cons] at hl hb hn
          have d2 : decide ((pre.length : Int) + 2 ≥ ((pre ++ 37 :: h :: l :: r').length : Int)) = false := decide_eq_false (by simp <;> omega)
          have dz : ∀ x : UInt8, digitZ (x.toNat : Int) = digV x := fun _ => rfl
          rw [unV_37]
          by_cases h1 : digV h < 0
          · refine ⟨0, ?_⟩
            rw [r49_3a]
            simp only [d1, cond_true, cond_false, idx_mid, plainZ_B, hp, n37, hw, hw2, d2, idx_mid1, idx_mid2, dz, decide_eq_true h1, if_pos (Or.inl h1), unR]
          · by_cases h2 : digV l < 0
            · refine ⟨0, ?_⟩
              rw [r49_3a]
              simp only [d1, cond_true, cond_false, idx_mid, plainZ_B, hp, n37, hw, hw2, d2, idx_mid1, idx_mid2, dz, decide_eq_false h1, decide_eq_true h2, if_pos (Or.inr h2), unR]
            · rw [if_neg (by rintro (h | h) <;> contradiction)]
              cases hp2 : plainB (byteV h l) with
              | true =>
                refine ⟨0, ?_⟩
                rw [r49_3a]
                simp only [d1, cond_true, cond_false, idx_mid, plainZ_B, hp, n37, hw, hw2, d2, idx_mid1, idx_mid2, dz, decide_eq_false h1, decide_eq_false h2, val15 h1 h2, hp2, if_true, unR]
              | false =>
                obtain ⟨k, hk⟩ := refUn_goes n r' (pre ++ [37, h, l]) (out ++ [byteV h l]) (pre ++ 37 :: h :: l :: r') ((pre.length : Int) + 2 + 1) (by omega) (by simp) (by simp <;> omega) (by simp <;> omega) (by simp <;> omega)
                refine ⟨k, ?_⟩
                rw [r49_3a]
                have d4 : decide (out.length + ([byteV h l] : List UInt8).length ≤ maxStr) = true := fits_max (by simp <;> omega)
                simp only [d1, cond_true, cond_false, idx_mid, plainZ_B, hp, n37, hw, hw2, hw3, d2, idx_mid1, idx_mid2, dz, decide_eq_false h1, decide_eq_false h2, val15 h1 h2, hp2]
                rw [show [D.int .u8 ((byteV h l).toNat : Int)] = bytesD [byteV h l] from rfl, kBytes_bytesD]
                simp only [d4, cond_true]
                rw [hk]
                simp only [Bool.false_eq_true, if_false, unR_more]
      · refine ⟨0, ?_⟩
        rw [r49_3a]
        have n37 : ((c.toNat : Int) != 37) = true := by
          have := is37 c
          rw [decide_eq_false hc] at this
          simp only [bne, this, Bool.not_false]
        simp only [d1, cond_true, cond_false, idx_mid, plainZ_B, hp, n37, unV_bad hc hp, unR]
theorem refUn_ret {s : List UInt8} (hl : s.length ≤ 1099511627776) : RetX (Γ mx) 49 [.s s] [] (.tuple [.s (unS s), .i .i64 (unE s)]) [] := by
  refine ret_goes hP hZ esc_ok (by kernel_rfl) ?_
  obtain ⟨n, hn⟩ := refUn_goes _ s [] [] s 0 (Nat.le_refl _) rfl rfl hl (by simp <;> omega)
  exact ⟨n, by rw [r49, ← unR_eq]; exact hn⟩

/-! ### the pure laws -/
/-- of a byte that does not stand as it is: two digits, which are read as it -/
theorem enc_dec (c : UInt8) (h : plainB c = false) : ¬ digV (hx (c.toNat / 16)) < 0 ∧ ¬ digV (hx (c.toNat % 16)) < 0 ∧ byteV (hx (c.toNat / 16)) (hx (c.toNat % 16)) = c := by
  have := (by decide +kernel : ∀ n : Nat, n < 256 → ¬ digV (hx (n / 16)) < 0 ∧ ¬ digV (hx (n % 16)) < 0 ∧ byteV (hx (n / 16)) (hx (n % 16)) = UInt8.ofNat n) c.toNat c.toNat_lt
  rw [UInt8.ofNat_toNat] at this
  exact this
theorem un_esc : ∀ s : List UInt8, unV (escV s) = some s
  | [] => rfl
  | c :: r => by
    unfold escV encB
    cases hp : plainB c with
    | true =>
      simp only [if_true, List.cons_append, List.nil_append]
      rw [unV_plain (ne37 hp) hp, un_esc r]; rfl
    | false =>
      obtain ⟨h1, h2, h3⟩ := enc_dec c hp
      simp only [Bool.false_eq_true, if_false, List.cons_append, List.nil_append]
      rw [unV_37, if_neg (by rintro (h | h) <;> contradiction), h3, hp, un_esc r]; rfl
/-- two digits are those of the byte that they are read as -/
theorem dec_enc (h l : UInt8) (h1 : ¬ digV h < 0) (h2 : ¬ digV l < 0) : hx ((byteV h l).toNat / 16) = h ∧ hx ((byteV h l).toNat % 16) = l := by
  obtain ⟨a, ha, e1⟩ := dig_nat h h1
  obtain ⟨b, hb, e2⟩ := dig_nat l h2
  have hn := byte_nat ha hb e1 e2
  have hn : (byteV h l).toNat = a * 16 + b := by omega
  have key := (by decide +kernel : ∀ n : Nat, n < 256 → ¬ digitZ (n : Int) < 0 → hx (digitZ (n : Int)).toNat = UInt8.ofNat n)
  have k1 := key h.toNat h.toNat_lt h1
  have k2 := key l.toNat l.toNat_lt h2
  rw [UInt8.ofNat_toNat] at k1 k2
  have e1' : (digitZ (h.toNat : Int)).toNat = a := by have : digitZ (h.toNat : Int) = (a : Int) := e1; omega
  have e2' : (digitZ (l.toNat : Int)).toNat = b := by have : digitZ (l.toNat : Int) = (b : Int) := e2; omega
  rw [e1'] at k1
  rw [e2'] at k2
  rw [hn, show (a * 16 + b) / 16 = a by omega, show (a * 16 + b) % 16 = b by omega]
  exact ⟨k1, k2⟩
theorem esc_un : ∀ (n : Nat) (s c : List UInt8), s.length ≤ n → unV s = some c → escV c = s
  | n, [], c, _, h => by simp [unV] at h; subst h; rfl
  | 0, x :: r, c, hn, h => by simp at hn
  | n + 1, x :: r, c, hn, h => by
    simp only [List.length_cons] at hn
    by_cases hx37 : x = 37
    · subst hx37
      match r, hn, h with
      | [], hn, h => simp [unV] at h
      | [d], hn, h => simp [unV] at h
      | a :: b :: r', hn, h =>
        rw [unV_37] at h
        split at h
        · simp at h
        · rename_i hd
          have h1 : ¬ digV a < 0 := fun e => hd (.inl e)
          have h2 : ¬ digV b < 0 := fun e => hd (.inr e)
          split at h
          · simp at h
          · rename_i hpl
            obtain ⟨c', hc', rfl⟩ := Option.map_eq_some_iff.1 h
            have ih := esc_un n r' c' (by simp at hn; omega) hc'
            obtain ⟨g1, g2⟩ := dec_enc a b h1 h2
            unfold escV encB
            rw [if_neg hpl, g1, g2, ih]; rfl
    · cases hp : plainB x with
      | true =>
        rw [unV_plain hx37 hp] at h
        obtain ⟨c', hc', rfl⟩ := Option.map_eq_some_iff.1 h
        have ih := esc_un n r c' (by omega) hc'
        unfold escV encB
        rw [if_pos hp, ih]; rfl
      | false => rw [unV_bad hx37 hp] at h; simp at h
/-- what is escaped holds no blank, no = and no & -/
def okB (c : UInt8) : Bool := !(decide ((c.toNat : Int) ≤ 32)) && !((c.toNat : Int) == 61) && !((c.toNat : Int) == 38) && !(decide ((c.toNat : Int) > 126))
theorem enc_ok (c : UInt8) : (encB c).all okB = true := by
  have := (by decide +kernel : ∀ n : Nat, n < 256 → (encB (UInt8.ofNat n)).all okB = true) c.toNat c.toNat_lt
  rwa [UInt8.ofNat_toNat] at this
theorem esc_all : ∀ s : List UInt8, (escV s).all okB = true
  | [] => rfl
  | c :: r => by unfold escV; rw [List.all_append, enc_ok c, esc_all r]; rfl
theorem esc_len : ∀ s : List UInt8, (escV s).length ≤ 3 * s.length
  | [] => Nat.le_refl _
  | c :: r => by
    have := esc_len r
    unfold escV encB
    split <;> simp <;> omega
theorem un_len : ∀ (n : Nat) (s c : List UInt8), s.length ≤ n → unV s = some c → c.length ≤ s.length := fun n s c hn h => by
  have := esc_un n s c hn h
  rw [← this]
  clear this h
  induction c with
  | nil => simp
  | cons a r ih => unfold escV encB; split <;> simp <;> omega
end Go.Proofs.YtjbemleloffafaaDoor.V

/- strings.Split at a blank, strings.Join, as the library's contracts have them. The layings are written by program. -/
namespace Go.Proofs
set_option maxRecDepth 100000
def Lg.lays146_ren : Go.Shelf.Ren := ⟨fun | 138 => 102 | 143 => 103 | 146 => 46 | 195 => 131 | 197 => 132 | 217 => 118 | 218 => 133 | 219 => 117 | 221 => 76 | 224 => 141 | 225 => 140 | 260 => 153 | 266 => 143 | 267 => 142 | 268 => 101 | 314 => 155 | n => n, fun | 0 => 0 | 3 => 3 | 4 => 4 | 5 => 5 | 9 => 9 | 21 => 21 | 31 => 70 | 46 => 121 | 51 => 157 | 105 => 168 | 119 => 177 | 138 => 179 | 139 => 180 | 146 => 190 | n => n, fun | 1 => 3 | 3 => 1 | 4 => 2 | n => n⟩
theorem Lg.lays146 : Go.Proofs.Lays.n146 Tryd.prog Lg.lays146_ren :=
  { mixed := by kernel_rfl, f138 := Tryd.func102.trans (congrArg some (by kernel_rfl)), f143 := Tryd.func103.trans (congrArg some (by kernel_rfl)), f146 := Tryd.func46.trans (congrArg some (by kernel_rfl)), f195 := Tryd.func131.trans (congrArg some (by kernel_rfl)), f197 := Tryd.func132.trans (congrArg some (by kernel_rfl)), f217 := Tryd.func118.trans (congrArg some (by kernel_rfl)), f218 := Tryd.func133.trans (congrArg some (by kernel_rfl)), f219 := Tryd.func117.trans (congrArg some (by kernel_rfl)), f221 := Tryd.func76.trans (congrArg some (by kernel_rfl)), f224 := Tryd.func141.trans (congrArg some (by kernel_rfl)), f225 := Tryd.func140.trans (congrArg some (by kernel_rfl)), f260 := Tryd.func153.trans (congrArg some (by kernel_rfl)), f266 := Tryd.func143.trans (congrArg some (by kernel_rfl)), f267 := Tryd.func142.trans (congrArg some (by kernel_rfl)), f268 := Tryd.func101.trans (congrArg some (by kernel_rfl)), f314 := Tryd.func155.trans (congrArg some (by kernel_rfl)), t0 := Tryd.underlying0, a0 := Tryd.isAgg0, z0 := Tryd.sizeOf0, v0 := Tryd.zeroValue0, t3 := Tryd.underlying3, a3 := Tryd.isAgg3, z3 := Tryd.sizeOf3, v3 := Tryd.zeroValue3, t4 := Tryd.underlying4, a4 := Tryd.isAgg4, z4 := Tryd.sizeOf4, v4 := Tryd.zeroValue4, t5 := Tryd.underlying5, a5 := Tryd.isAgg5, z5 := Tryd.sizeOf5, v5 := Tryd.zeroValue5, t9 := Tryd.underlying9, a9 := Tryd.isAgg9, z9 := Tryd.sizeOf9, v9 := Tryd.zeroValue9, t21 := Tryd.underlying21, a21 := Tryd.isAgg21, z21 := Tryd.sizeOf21, v21 := Tryd.zeroValue21, t31 := Tryd.underlying70, a31 := Tryd.isAgg70, z31 := Tryd.sizeOf70, v31 := Tryd.zeroValue70, t46 := Tryd.underlying121, a46 := Tryd.isAgg121, z46 := Tryd.sizeOf121, v46 := Tryd.zeroValue121, t51 := Tryd.underlying157, a51 := Tryd.isAgg157, z51 := Tryd.sizeOf157, v51 := Tryd.zeroValue157, t105 := Tryd.underlying168, a105 := Tryd.isAgg168, z105 := Tryd.sizeOf168, v105 := Tryd.zeroValue168, t119 := Tryd.underlying177, a119 := Tryd.isAgg177, z119 := Tryd.sizeOf177, t138 := Tryd.underlying179, a138 := Tryd.isAgg179, z138 := Tryd.sizeOf179, v138 := Tryd.zeroValue179, t139 := Tryd.underlying180, a139 := Tryd.isAgg180, z139 := Tryd.sizeOf180, v139 := Tryd.zeroValue180, t146 := Tryd.underlying190, a146 := Tryd.isAgg190, z146 := Tryd.sizeOf190, v146 := Tryd.zeroValue190, g1 := by kernel_rfl, g3 := by kernel_rfl, g4 := by kernel_rfl }
def Lg.lays156_ren : Go.Shelf.Ren := ⟨fun | 156 => 43 | 165 => 73 | 166 => 74 | 169 => 75 | 240 => 99 | 241 => 100 | 276 => 129 | 277 => 130 | n => n, fun | 0 => 0 | 3 => 3 | 4 => 4 | 9 => 9 | 20 => 20 | 31 => 70 | 37 => 107 | 70 => 106 | 72 => 109 | 75 => 112 | 76 => 113 | 127 => 147 | 164 => 164 | 80 => 115 | n => n, fun | n => n⟩
theorem Lg.lays156 : Go.Proofs.Lays.n156 Tryd.prog Lg.lays156_ren :=
  { mixed := by kernel_rfl, f156 := Tryd.func43.trans (congrArg some (by kernel_rfl)), f165 := Tryd.func73.trans (congrArg some (by kernel_rfl)), f166 := Tryd.func74.trans (congrArg some (by kernel_rfl)), f169 := Tryd.func75.trans (congrArg some (by kernel_rfl)), f240 := Tryd.func99.trans (congrArg some (by kernel_rfl)), f241 := Tryd.func100.trans (congrArg some (by kernel_rfl)), f276 := Tryd.func129.trans (congrArg some (by kernel_rfl)), f277 := Tryd.func130.trans (congrArg some (by kernel_rfl)), t0 := Tryd.underlying0, a0 := Tryd.isAgg0, z0 := Tryd.sizeOf0, v0 := Tryd.zeroValue0, t3 := Tryd.underlying3, a3 := Tryd.isAgg3, z3 := Tryd.sizeOf3, v3 := Tryd.zeroValue3, t4 := Tryd.underlying4, a4 := Tryd.isAgg4, z4 := Tryd.sizeOf4, v4 := Tryd.zeroValue4, t9 := Tryd.underlying9, a9 := Tryd.isAgg9, z9 := Tryd.sizeOf9, v9 := Tryd.zeroValue9, t20 := Tryd.underlying20, a20 := Tryd.isAgg20, z20 := Tryd.sizeOf20, v20 := Tryd.zeroValue20, t31 := Tryd.underlying70, a31 := Tryd.isAgg70, z31 := Tryd.sizeOf70, v31 := Tryd.zeroValue70, t37 := Tryd.underlying107, a37 := Tryd.isAgg107, z37 := Tryd.sizeOf107, v37 := Tryd.zeroValue107, t70 := Tryd.underlying106, a70 := Tryd.isAgg106, z70 := Tryd.sizeOf106, v70 := Tryd.zeroValue106, t72 := Tryd.underlying109, a72 := Tryd.isAgg109, z72 := Tryd.sizeOf109, v72 := Tryd.zeroValue109, t75 := Tryd.underlying112, a75 := Tryd.isAgg112, z75 := Tryd.sizeOf112, v75 := Tryd.zeroValue112, t76 := Tryd.underlying113, a76 := Tryd.isAgg113, z76 := Tryd.sizeOf113, v76 := Tryd.zeroValue113, t127 := Tryd.underlying147, a127 := Tryd.isAgg147, z127 := Tryd.sizeOf147, v127 := Tryd.zeroValue147, t164 := Tryd.underlying164, a164 := Tryd.isAgg164, z164 := Tryd.sizeOf164, v164 := Tryd.zeroValue164 }

theorem Lg.extra : Builder.Extra Tryd.prog Lg.lays156_ren := { sizeBuilder := by kernel_rfl, liesBuilder := by kernel_rfl, t5 := Tryd.underlying5, a5 := Tryd.isAgg5, z5 := Tryd.sizeOf5, v5 := Tryd.zeroValue5, infoByte := by kernel_rfl, cellsByte := by kernel_rfl, sizeByte := by kernel_rfl, neB5 := by decide }
end Go.Proofs
namespace Go.Proofs.YtjbemleloffafaaDoor.V
open Go Go.RowKit
set_option maxRecDepth 100000
set_option linter.unusedVariables false
variable {mx : Int}
theorem max_cell {w : World} {S : Addr → Prop} (h : GlobOK (Γ mx) w S) : w.cell? ⟨3, 0, none⟩ = some (.int .i64 mx) := by
  obtain ⟨vs, h1, h2, _⟩ := h.data 3 3 (.int .i64 mx) rfl
  exact glob_int h1 h2
def s32 (l : List UInt8) : Bool := decide (l.length < 4294967281)
theorem ba_eq {u : ByteArray} {l : List UInt8} (h : u.data.toList = l) : u = ⟨l.toArray⟩ := by subst h; simp
theorem sep_ne (c : UInt8) : 1 ≤ (⟨#[c]⟩ : ByteArray).size := Nat.le_refl 1
/-- what lies between signs -/
def splitC (c : UInt8) (s : List UInt8) : List D := (Lib.split s [c]).map D.str
theorem split_ret (c : UInt8) (s : List UInt8) (h : s32 s = true) : RetX (Γ mx) 46 [.s s, .s [c]] [] (.sl 9 .ex (splitC c s)) [] := by
  refine ret_shelfN (by kernel_rfl) fun w S vals hS hG ha => ?_
  simp only [RepAs, RepA] at ha
  obtain ⟨v, _, rfl, ⟨s, rfl, rfl⟩, v', _, rfl, ⟨u, hu, rfl⟩, rfl⟩ := ha
  obtain rfl := ba_eq hu
  refine (Any.strings_Split Lg.lays146 (by kernel_rfl) s ⟨#[c]⟩ mx w (by simpa [s32] using h) (max_cell hG) (sep_ne c)).mono fun e w' ⟨he, hw⟩ => ?_
  have hl := Lib.splitB_all ⟨#[c]⟩ (sep_ne c) 0 _ s rfl
  have hd := Lib.splitB_data ⟨#[c]⟩ 0 (Lib.countB s ⟨#[c]⟩) s
  have hx : splitC c s.data.toList = (Lib.splitB ⟨#[c]⟩ 0 (Lib.countB s ⟨#[c]⟩) s).map fun b => D.str b.data.toList := by
    have : Lib.split s.data.toList [c] = (Lib.splitB ⟨#[c]⟩ 0 (Lib.countB s ⟨#[c]⟩) s).map (·.data.toList) := hd.symm
    unfold splitC
    rw [this, List.map_map]
    rfl
  subst hw
  refine ⟨_, he, (Below.refl _ w).alloc (Nat.le_refl _) _, fun a => S a ∨ a.block = w.heap.size, fun _ h => .inl h, fun a h => ?_, ?_⟩
  · rcases h with h | h
    · exact .inl h
    · exact .inr ⟨Nat.le_of_eq h.symm, by rw [h, und_len]; exact Nat.lt_succ_self _⟩
  · rw [hx]
    simp only [RepA]
    refine ⟨some ⟨w.heap.size, 0, none⟩, Lib.countB s ⟨#[c]⟩ + 1, by rw [List.length_map, hl], ⟨rfl, by rw [List.length_map, hl]⟩, .inr ⟨_, _, rfl, row_strs (by kernel_rfl) (by kernel_rfl) _ _ _ fun j v hj => ⟨?_, .inr rfl⟩⟩⟩
    rw [Nat.zero_add, World.cell?_alloc_at _ _ _ _ rfl]
    simpa using hj
/-- the texts of a row of texts -/
def txt : D → List UInt8
  | .str l => l
  | _ => []
def joinV (l : List D) (sep : List UInt8) : List UInt8 := Lib.join (l.map txt) sep
def isStr : D → Bool
  | .str _ => true
  | _ => false
def joinC (l : List D) (sep : List UInt8) : Bool := l.all isStr && decide (l.length ≤ 1099511627776) && decide ((joinV l sep).length ≤ 140737488355328)
theorem row_texts {P : Program} {w : World} {S : Addr → Prop} {e : TypeId} (h1 : P.cellsOf e = 1) : ∀ (l : List D) (b o : Nat), l.all isStr = true → RepRow P w S l e b o →
    ∃ xs : List ByteArray, xs.length = l.length ∧ xs.map (·.data.toList) = l.map txt ∧ ∀ (j : Nat) x, xs[j]? = some x → w.cell? ⟨b, o + j, none⟩ = some (.string x) ∧ S ⟨b, o + j, none⟩
  | [], b, o, _, _ => ⟨[], rfl, rfl, fun j x h => by simp at h⟩
  | d :: l, b, o, ha, h => by
    simp only [RepRow] at h
    obtain ⟨vs, hc, hr, h⟩ := h
    have ha : isStr d = true ∧ l.all isStr = true := by simpa using ha
    obtain ⟨xs, g1, g2, g3⟩ := row_texts h1 l b _ ha.2 h
    cases d with
    | str q =>
      simp only [RepT] at hr
      obtain ⟨_, s, hs, rfl⟩ := hr
      refine ⟨s :: xs, by simp [g1], by simp [g2, hs, txt], fun j x hj => ?_⟩
      cases j with
      | zero => cases hj; exact hc 0 _ rfl
      | succ j =>
        have := g3 j x (by simpa using hj)
        rw [h1, show o + 1 + j = o + (j + 1) by omega] at this
        exact this
    | int _ _ => exact absurd ha.1 (by simp [isStr])
    | bool _ => exact absurd ha.1 (by simp [isStr])
    | slice _ _ => exact absurd ha.1 (by simp [isStr])
    | agg _ => exact absurd ha.1 (by simp [isStr])
theorem capC {c : Cp} {a : Option Addr} {n cap : Nat} (h : CapOK c a n cap) : n ≤ cap := by
  cases c <;> simp only [CapOK] at h <;> omega
theorem join_ret (c : Cp) (l : List D) (sep : List UInt8) (h : joinC l sep = true) : RetX (Γ mx) 43 [.sl 9 c l, .s sep] [] (.s (joinV l sep)) [] := by
  refine ret_shelfN (by kernel_rfl) fun w S vals hS hG ha => ?_
  simp only [RepAs, RepA] at ha
  obtain ⟨v, _, rfl, ⟨a, cap, rfl, hcap, hrow⟩, v', _, rfl, ⟨u, rfl, rfl⟩, rfl⟩ := ha
  simp only [joinC, Bool.and_eq_true, decide_eq_true_eq] at h
  obtain ⟨⟨h1, h2⟩, h3⟩ := h
  have hcap := capC hcap
  rcases hrow with rfl | ⟨b, o, rfl, hrow⟩
  · refine (Any.strings_Join_none Lg.lays156 Lg.extra a cap u w).mono fun e w' ⟨he, hw⟩ => ⟨_, he, by rw [hw]; exact Below.refl _ _, S, fun _ h => h, fun _ h => .inl h, ?_⟩
    simp only [RepA]
    exact ⟨_, list_eta _, rfl⟩
  · obtain ⟨xs, g1, g2, g3⟩ := row_texts (P := (Γ mx).P) (by kernel_rfl) l b o h1 hrow
    cases l with
    | nil =>
      refine (Any.strings_Join_none Lg.lays156 Lg.extra _ cap u w).mono fun e w' ⟨he, hw⟩ => ⟨_, he, by rw [hw]; exact Below.refl _ _, S, fun _ h => h, fun _ h => .inl h, ?_⟩
      simp only [RepA]
      exact ⟨_, list_eta _, rfl⟩
    | cons d r =>
      have hb : b < w.heap.size := by
        cases xs with
        | nil => simp at g1
        | cons x xs => exact hS _ (g3 0 x rfl).2
      have e : joinV (d :: r) u.data.toList = Lib.join (xs.map (·.data.toList)) u.data.toList := by unfold joinV; rw [g2]
      have hj := Any.strings_Join Lg.lays156 Lg.extra b o cap xs u w (fun j x hj => (g3 j x hj).1) hb (by omega) (by omega) (by rw [← e]; exact h3)
      rw [g1] at hj
      refine hj.mono fun e' w' ⟨he, hw⟩ => ⟨_, he, hw, S, fun _ h => h, fun _ h => .inl h, ?_⟩
      simp only [RepA]
      exact ⟨_, by rw [list_eta, e], rfl⟩
end Go.Proofs.YtjbemleloffafaaDoor.V

/- Grants as text: what the functions come to; splitting at blanks; a grant's text read again. No program in sight. -/
namespace Go.Proofs.YtjbemleloffafaaDoor.V
open Go
set_option maxRecDepth 100000
set_option linter.unusedVariables false
set_option linter.unusedSimpArgs false
def wordV (p : List UInt8) : List UInt8 := bif p == [] then [37] else escV p
def uwS (s : List UInt8) : List UInt8 := bif s == [37] then [] else unS s
def uwB (s : List UInt8) : Bool := s == [37] || (unE s == 0 && !(unS s == []))
def denyW : List UInt8 := [100, 101, 110, 121]
def allowW : List UInt8 := [97, 108, 108, 111, 119]
def firstW (b : Bool) : List UInt8 := bif b then denyW else allowW
/-! ### splitting -/
def consHd (c : UInt8) : List (List UInt8) → List (List UInt8)
  | [] => [[c]]
  | p :: r => (c :: p) :: r
def spl (k : UInt8) : List UInt8 → List (List UInt8)
  | [] => [[]]
  | c :: r => if c = k then [] :: spl k r else consHd c (spl k r)
theorem splitK_cons {k : UInt8} {c : UInt8} (hc : c ≠ k) (r : List UInt8) (n : Nat) : Lib.splitK [k] 0 n (c :: r) = consHd c (Lib.splitK [k] 0 n r) := by
  cases n with
  | zero => rfl
  | succ n =>
    have hp : List.isPrefixOf [k] (c :: r) = false := by simp [List.isPrefixOf, Ne.symm hc]
    have hge := Lib.index_ge r [k]
    simp only [Lib.splitK]
    rw [Lib.index, hp]
    simp only [Bool.false_eq_true, if_false]
    by_cases h : Lib.index r [k] = -1
    · rw [h]; rfl
    · have h2 : (Lib.index r [k] == -1) = false := by simpa using h
      have h3 : (Lib.index r [k] + 1 == -1) = false := by simp <;> omega
      rw [h2]
      simp only [Bool.false_eq_true, if_false]
      rw [h3]
      simp only [Bool.false_eq_true, if_false, Nat.add_zero]
      rw [show (Lib.index r [k] + 1).toNat = (Lib.index r [k]).toNat + 1 by omega, List.take_succ_cons, show (Lib.index r [k]).toNat + 1 + [(k : UInt8)].length = ((Lib.index r [k]).toNat + [(k : UInt8)].length) + 1 by omega, List.drop_succ_cons]
      rfl
theorem split_spl (k : UInt8) : ∀ s : List UInt8, Lib.split s [k] = spl k s
  | [] => by rfl
  | c :: r => by
    have ih := split_spl k r
    unfold Lib.split at ih ⊢
    rw [Lib.count_one] at ih ⊢
    by_cases hc : c = k
    · subst hc
      have hp : List.isPrefixOf [c] (c :: r) = true := by simp [List.isPrefixOf]
      rw [List.count_cons_self, Lib.splitK, Lib.index, if_pos hp]
      simp only [spl, if_true]
      rw [← ih]
      rfl
    · rw [List.count_cons_of_ne (by simpa using hc), splitK_cons hc, ih]
      simp only [spl, if_neg hc]
theorem spl_ne (k : UInt8) (s : List UInt8) : spl k s ≠ [] := by
  cases s with
  | nil => simp [spl]
  | cons c r =>
    rw [spl]
    split
    · simp
    · cases spl k r <;> simp [consHd]
theorem spl_app (k : UInt8) : ∀ (x r : List UInt8), (∀ c ∈ x, c ≠ k) → spl k (x ++ k :: r) = x :: spl k r
  | [], r, _ => by simp [spl]
  | c :: x, r, h => by
    rw [List.cons_append, spl, if_neg (h c (by simp)), spl_app k x r fun d hd => h d (by simp [hd])]; rfl
theorem spl_one (k : UInt8) : ∀ (x : List UInt8), (∀ c ∈ x, c ≠ k) → spl k x = [x]
  | [], _ => rfl
  | c :: x, h => by rw [spl, if_neg (h c (by simp)), spl_one k x fun d hd => h d (by simp [hd])]; rfl
theorem join_cons (x : List UInt8) {l : List (List UInt8)} (h : l ≠ []) (sep : List UInt8) : Lib.join (x :: l) sep = x ++ sep ++ Lib.join l sep := by
  cases l with
  | nil => exact absurd rfl h
  | cons y r => simp [Lib.join, List.intercalate]
theorem join_spl (k : UInt8) : ∀ s : List UInt8, Lib.join (spl k s) [k] = s
  | [] => by simp [spl, Lib.join_one]
  | c :: r => by
    rw [spl]
    have ih := join_spl k r
    split
    · rename_i h
      rw [join_cons [] (spl_ne k r), ih, h]; rfl
    · have hn := spl_ne k r
      cases hs : spl k r with
      | nil => exact absurd hs hn
      | cons p q =>
        rw [hs] at ih
        cases q with
        | nil => simp only [consHd, Lib.join_one] at ih ⊢; rw [ih]
        | cons y z => rw [consHd, join_cons (c :: p) (by simp)]; rw [join_cons p (by simp)] at ih; rw [List.cons_append, List.cons_append, ih]
theorem spl_len (k : UInt8) : ∀ (s : List UInt8), ∀ p ∈ spl k s, p.length ≤ s.length
  | [], p, h => by simp [spl] at h; subst h; simp
  | c :: r, p, h => by
    rw [spl] at h
    have ih := spl_len k r
    split at h
    · rcases List.mem_cons.1 h with rfl | h
      · simp
      · have := ih p h; simp; omega
    · cases hs : spl k r with
      | nil => exact absurd hs (spl_ne k r)
      | cons y z =>
        rw [hs] at h ih
        rw [consHd] at h
        rcases List.mem_cons.1 h with rfl | h
        · have := ih y (by simp); simp; omega
        · have := ih p (List.mem_cons_of_mem _ h); simp; omega
theorem spl_num (k : UInt8) : ∀ (s : List UInt8), (spl k s).length ≤ s.length + 1
  | [] => Nat.le_refl _
  | c :: r => by
    rw [spl]
    have ih := spl_num k r
    split
    · simp; omega
    · cases hs : spl k r with
      | nil => simp [consHd]
      | cons y z => rw [hs] at ih; rw [consHd]; simp at ih ⊢; omega
/-! ### a word -/
theorem okB32 {c : UInt8} (h : okB c = true) : c ≠ 32 := fun e => by subst e; revert h; decide
theorem word_ok (p : List UInt8) : ∀ c ∈ wordV p, c ≠ 32 := by
  unfold wordV
  cases h : (p == []) with
  | true => simp
  | false => exact fun c hc => okB32 (List.all_eq_true.1 (esc_all p) c hc)
theorem encB_ne (c : UInt8) : encB c ≠ [] := by unfold encB; split <;> simp
theorem esc_ne {p : List UInt8} (h : p ≠ []) : escV p ≠ [] := by
  cases p with
  | nil => exact absurd rfl h
  | cons c r => rw [escV]; intro e; exact encB_ne c (List.append_eq_nil_iff.1 e).1
theorem esc_ne37 (p : List UInt8) : escV p ≠ [37] := by
  cases p with
  | nil => simp [escV]
  | cons c r =>
    rw [escV, encB]
    split
    · rename_i h
      intro e
      simp only [List.cons_append, List.nil_append, List.cons.injEq] at e
      exact ne37 h e.1
    · simp
theorem uw_word (p : List UInt8) : uwB (wordV p) = true ∧ uwS (wordV p) = p := by
  unfold wordV
  cases h : (p == []) with
  | true => exact ⟨rfl, (eq_of_beq h).symm⟩
  | false =>
    have h : p ≠ [] := fun e => by rw [e] at h; simp at h
    have h1 : (escV p == [37]) = false := beq_eq_false_iff_ne.2 (esc_ne37 p)
    unfold uwB uwS
    rw [cond_false, h1]
    have e1 : unE (escV p) = 0 := by unfold unE; rw [un_esc]; rfl
    have e2 : unS (escV p) = p := by unfold unS; rw [un_esc]; rfl
    rw [e1, e2, beq_eq_false_iff_ne.2 h]
    exact ⟨rfl, rfl⟩
theorem word_uw {w : List UInt8} (h : uwB w = true) : wordV (uwS w) = w := by
  unfold uwB at h
  unfold uwS
  cases h1 : (w == [37]) with
  | true => rw [eq_of_beq h1]; rfl
  | false =>
    rw [h1] at h
    simp only [Bool.false_or, Bool.and_eq_true, Bool.not_eq_true'] at h
    obtain ⟨h2, h3⟩ := h
    rw [cond_false]
    unfold wordV
    rw [h3, cond_false]
    unfold unE at h2
    cases hu : unV w with
    | none => rw [hu] at h2; exact absurd h2 (by decide)
    | some c =>
      have : unS w = c := by unfold unS; rw [hu]; rfl
      rw [this]
      exact esc_un _ w c (Nat.le_refl _) hu
theorem first_ok (b : Bool) : ∀ c ∈ firstW b, c ≠ 32 := by cases b <;> decide
/-! ### a grant's text -/
def gD (q : Bool × List UInt8 × List UInt8 × List UInt8) : D := .agg [.bool q.1, .str q.2.1, .str q.2.2.1, .str q.2.2.2]
def textS : D → List UInt8
  | .agg [.bool b, .str w, .str t, .str k] => bif grB [.agg [.bool b, .str w, .str t, .str k]] then joinV [.str (firstW b), .str (wordV w), .str (wordV t), .str (wordV k)] [32] else []
  | _ => []
def textE (g : D) : Int := bif grB [g] then 0 else 2
def paL (s : List UInt8) : Option (Bool × List UInt8 × List UInt8 × List UInt8) := match spl 32 s with
  | [a, b, c, d] => bif (a == allowW || a == denyW) && (uwB b && (uwB c && uwB d)) then some (a == denyW, uwS b, uwS c, uwS d) else none
  | _ => none
def paE (s : List UInt8) : Int := match paL s with
  | none => 5
  | some q => bif grB [gD q] then 0 else 2
def paQ (s : List UInt8) : Bool × List UInt8 × List UInt8 × List UInt8 := match paL s with
  | none => (false, [], [], [])
  | some q => bif grB [gD q] then q else (false, [], [], [])
def pa0 (s : List UInt8) : Bool := (paQ s).1
def pa1 (s : List UInt8) : List UInt8 := (paQ s).2.1
def pa2 (s : List UInt8) : List UInt8 := (paQ s).2.2.1
def pa3 (s : List UInt8) : List UInt8 := (paQ s).2.2.2
theorem join4 (a b c d : List UInt8) : joinV [.str a, .str b, .str c, .str d] [32] = a ++ 32 :: (b ++ 32 :: (c ++ 32 :: d)) := by
  simp [joinV, txt, Lib.join, List.intercalate]
theorem gD_eq (s : List UInt8) : D.agg [.bool (pa0 s), .str (pa1 s), .str (pa2 s), .str (pa3 s)] = gD (paQ s) := rfl
theorem text_gD (q : Bool × List UInt8 × List UInt8 × List UInt8) : textS (gD q) = bif grB [gD q] then firstW q.1 ++ 32 :: (wordV q.2.1 ++ 32 :: (wordV q.2.2.1 ++ 32 :: wordV q.2.2.2)) else [] := by
  obtain ⟨b, w, t, k⟩ := q
  show (bif _ then _ else _) = _
  rw [join4]; rfl
theorem first_in (b : Bool) : (firstW b == allowW || firstW b == denyW) = true ∧ (firstW b == denyW) = b := by cases b <;> decide
theorem pa_text {q : Bool × List UInt8 × List UInt8 × List UInt8} (h : grB [gD q] = true) : paL (textS (gD q)) = some q := by
  obtain ⟨b, w, t, k⟩ := q
  rw [text_gD, h, cond_true]
  unfold paL
  rw [spl_app 32 _ _ (first_ok b), spl_app 32 _ _ (word_ok w), spl_app 32 _ _ (word_ok t), spl_one 32 _ (word_ok k)]
  show (bif (firstW b == allowW || firstW b == denyW) && (uwB (wordV w) && (uwB (wordV t) && uwB (wordV k))) then some (firstW b == denyW, uwS (wordV w), uwS (wordV t), uwS (wordV k)) else none) = _
  rw [(first_in b).1, (first_in b).2, (uw_word w).1, (uw_word w).2, (uw_word t).1, (uw_word t).2, (uw_word k).1, (uw_word k).2]
  rfl
theorem first_of {a : List UInt8} (h : (a == allowW || a == denyW) = true) : firstW (a == denyW) = a := by
  cases hd : (a == denyW) with
  | true => exact (eq_of_beq hd).symm
  | false => rw [hd, Bool.or_false] at h; exact (eq_of_beq h).symm
theorem text_pa {s : List UInt8} {q : Bool × List UInt8 × List UInt8 × List UInt8} (h : paL s = some q) (hg : grB [gD q] = true) : textS (gD q) = s := by
  rw [text_gD, hg, cond_true]
  have hj := join_spl 32 s
  unfold paL at h
  split at h
  · rename_i a b c d hs
    obtain ⟨hc, h⟩ := cond_some h
    simp only [Bool.and_eq_true] at hc
    obtain ⟨h1, h2, h3, h4⟩ := hc
    cases h
    rw [hs] at hj
    simp only [first_of h1, word_uw h2, word_uw h3, word_uw h4]
    rw [← hj]
    simp [Lib.join, List.intercalate]
  · exact absurd h (by simp)
end Go.Proofs.YtjbemleloffafaaDoor.V

/- Tags as text: what the functions come to, and what the laws say of it. No program in sight. -/
namespace Go.Proofs.YtjbemleloffafaaDoor.V
open Go
set_option maxRecDepth 100000
set_option linter.unusedVariables false
set_option linter.unusedSimpArgs false
/-! ### a text at a sign -/
def cutE : List UInt8 → Option (List UInt8 × List UInt8)
  | [] => none
  | c :: r => if c = 61 then some ([], r) else (cutE r).map fun q => (c :: q.1, q.2)
theorem cutE_some : ∀ {p a b : List UInt8}, cutE p = some (a, b) → p = a ++ 61 :: b ∧ (61 : UInt8) ∉ a
  | [], a, b, h => by simp [cutE] at h
  | c :: r, a, b, h => by
    rw [cutE] at h
    by_cases hc : c = 61
    · rw [if_pos hc] at h
      cases h
      exact ⟨by rw [hc]; rfl, by simp⟩
    · rw [if_neg hc] at h
      cases hr : cutE r with
      | none => rw [hr] at h; simp at h
      | some q =>
        obtain ⟨a', b'⟩ := q
        rw [hr] at h
        simp only [Option.map_some, Option.some.injEq, Prod.mk.injEq] at h
        obtain ⟨rfl, rfl⟩ := h
        obtain ⟨h1, h2⟩ := cutE_some hr
        exact ⟨by rw [h1]; rfl, by simp [h2, Ne.symm hc]⟩
theorem cutE_app : ∀ {a : List UInt8} (b : List UInt8), (61 : UInt8) ∉ a → cutE (a ++ 61 :: b) = some (a, b)
  | [], b, _ => by rw [List.nil_append, cutE, if_pos rfl]
  | c :: a, b, h => by
    have h : ¬ (61 = c) ∧ (61 : UInt8) ∉ a := by simpa using h
    rw [List.cons_append, cutE, if_neg (Ne.symm h.1), cutE_app b h.2]; rfl
theorem cutE_none : ∀ {p : List UInt8}, cutE p = none → (61 : UInt8) ∉ p
  | [], _ => by simp
  | c :: r, h => by
    rw [cutE] at h
    by_cases hc : c = 61
    · rw [if_pos hc] at h; exact absurd h (by simp)
    · rw [if_neg hc] at h
      have := cutE_none (p := r) (by simpa using h)
      simp [this, Ne.symm hc]
theorem cut_cutE : ∀ p : List UInt8, Lib.cut p [61] = match cutE p with | some (a, b) => (a, b, true) | none => (p, [], false)
  | [] => rfl
  | c :: r => by
    have ih := cut_cutE r
    have hge := Lib.index_ge r [61]
    rw [cutE]
    by_cases hc : c = 61
    · subst hc
      have : Lib.index (61 :: r) [61] = 0 := by rw [Lib.index]; simp [List.isPrefixOf]
      unfold Lib.cut
      rw [this, if_pos (Int.le_refl 0), if_pos rfl]
      simp
    · rw [if_neg hc]
      have hp : List.isPrefixOf [61] (c :: r) = false := by simp [List.isPrefixOf, Ne.symm hc]
      by_cases hi : Lib.index r [61] = -1
      · have h1 : Lib.index (c :: r) [61] = -1 := by rw [Lib.index, hp, hi]; rfl
        unfold Lib.cut at ih ⊢
        rw [hi, if_neg (by omega)] at ih
        rw [h1, if_neg (by omega)]
        cases hr : cutE r with
        | none => rfl
        | some q => obtain ⟨a, b⟩ := q; rw [hr] at ih; simp at ih
      · have h1 : Lib.index (c :: r) [61] = Lib.index r [61] + 1 := by
          rw [Lib.index, hp]
          simp only [Bool.false_eq_true, if_false]
          have h2 : (Lib.index r [61] == -1) = false := by simpa using hi
          rw [h2]; simp
        unfold Lib.cut at ih ⊢
        rw [if_pos (by omega)] at ih
        rw [h1, if_pos (by omega)]
        cases hr : cutE r with
        | none => rw [hr] at ih; simp at ih
        | some q =>
          obtain ⟨a, b⟩ := q
          rw [hr] at ih
          simp only [Prod.mk.injEq, and_true] at ih
          rw [show (Lib.index r [61] + 1).toNat = (Lib.index r [61]).toNat + 1 by omega, List.take_succ_cons, ih.1, show (Lib.index r [61]).toNat + 1 + [(61 : UInt8)].length = ((Lib.index r [61]).toNat + [(61 : UInt8)].length) + 1 by omega, List.drop_succ_cons, ih.2]
          rfl
/-! ### a part -/
def ptT (t : D) : List UInt8 := escV (nmT t) ++ 61 :: escV (vlT t)
def prP (p : List UInt8) : Option D := match cutE p with
  | none => none
  | some (a, b) => bif unE a == 0 && unE b == 0 then some (mkT (unS a) (unS b)) else none
def prL : List (List UInt8) → Option (List D)
  | [] => some []
  | p :: r => match prP p with
    | none => none
    | some t => (prL r).map (t :: ·)
def joinT (l : List D) : List UInt8 := Lib.join (l.map ptT) [38]
def txS (l : List D) : List UInt8 := bif tsB l then joinT l else []
def txE (l : List D) : Int := bif tsB l then 0 else 2
def psE (s : List UInt8) : Int := bif s == [] then 0 else match prL (spl 38 s) with
  | none => 5
  | some l => bif tsB l then 0 else 2
def psL (s : List UInt8) : List D := bif s == [] then [] else match prL (spl 38 s) with
  | none => []
  | some l => bif tsB l then l else []
theorem okB61 {c : UInt8} (h : okB c = true) : c ≠ 61 := fun e => by subst e; revert h; decide
theorem okB38 {c : UInt8} (h : okB c = true) : c ≠ 38 := fun e => by subst e; revert h; decide
theorem esc_no61 (s : List UInt8) : (61 : UInt8) ∉ escV s := fun h => okB61 (List.all_eq_true.1 (esc_all s) _ h) rfl
theorem esc_no38 (s : List UInt8) : ∀ c ∈ escV s, c ≠ 38 := fun c hc => okB38 (List.all_eq_true.1 (esc_all s) c hc)
theorem un_escE (s : List UInt8) : unE (escV s) = 0 ∧ unS (escV s) = s := by unfold unE unS; rw [un_esc]; exact ⟨rfl, rfl⟩
theorem esc_unS {s : List UInt8} (h : unE s = 0) : escV (unS s) = s := by
  unfold unE at h
  cases hu : unV s with
  | none => rw [hu] at h; exact absurd h (by decide)
  | some c => unfold unS; rw [hu]; exact esc_un _ s c (Nat.le_refl _) hu
theorem un_no61 {s : List UInt8} (h : unE s = 0) : (61 : UInt8) ∉ s := by rw [← esc_unS h]; exact esc_no61 _
theorem pt_no38 (t : D) : ∀ c ∈ ptT t, c ≠ 38 := by
  intro c hc
  unfold ptT at hc
  rw [List.mem_append, List.mem_cons] at hc
  rcases hc with hc | rfl | hc
  · exact esc_no38 _ c hc
  · decide
  · exact esc_no38 _ c hc
theorem pr_pt {t : D} (h : isT t = true) : prP (ptT t) = some t := by
  unfold prP ptT
  rw [cutE_app _ (esc_no61 _)]
  simp only
  rw [(un_escE _).1, (un_escE _).1, (un_escE _).2, (un_escE _).2, ← isT_eq h]
  rfl
theorem pt_pr {p : List UInt8} {t : D} (h : prP p = some t) : ptT t = p ∧ isT t = true := by
  unfold prP at h
  split at h
  · exact absurd h (by simp)
  · rename_i a b hc
    obtain ⟨h1, h⟩ := cond_some h
    cases h
    simp only [Bool.and_eq_true, beq_iff_eq] at h1
    refine ⟨?_, rfl⟩
    unfold ptT
    show escV (unS a) ++ 61 :: escV (unS b) = p
    rw [esc_unS h1.1, esc_unS h1.2, (cutE_some hc).1]
theorem prL_pts : ∀ {l : List D}, l.all isT = true → prL (l.map ptT) = some l
  | [], _ => rfl
  | t :: r, h => by
    have h : isT t = true ∧ r.all isT = true := by simpa using h
    rw [List.map_cons, prL, pr_pt h.1]
    simp only
    rw [prL_pts h.2]; rfl
theorem pts_prL : ∀ {q : List (List UInt8)} {l : List D}, prL q = some l → l.map ptT = q ∧ l.all isT = true
  | [], l, h => by rw [prL] at h; cases h; exact ⟨rfl, rfl⟩
  | p :: q, l, h => by
    rw [prL] at h
    cases hp : prP p with
    | none => rw [hp] at h; exact absurd h (by simp)
    | some t =>
      rw [hp] at h
      simp only at h
      cases hq : prL q with
      | none => rw [hq] at h; exact absurd h (by simp)
      | some m =>
        rw [hq] at h
        simp only [Option.map_some, Option.some.injEq] at h
        subst h
        obtain ⟨h1, h2⟩ := pts_prL hq
        obtain ⟨h3, h4⟩ := pt_pr hp
        exact ⟨by rw [List.map_cons, h1, h3], by rw [List.all_cons, h2, h4]; rfl⟩
theorem spl_parts : ∀ {q : List (List UInt8)}, q ≠ [] → (∀ p ∈ q, ∀ c ∈ p, c ≠ (38 : UInt8)) → spl 38 (Lib.join q [38]) = q
  | [], h, _ => absurd rfl h
  | [p], _, h => by rw [Lib.join_one, spl_one 38 p (h p (by simp))]
  | p :: x :: q, _, h => by
    rw [join_cons p (by simp), List.append_assoc]
    show spl 38 (p ++ 38 :: Lib.join (x :: q) [38]) = _
    rw [spl_app 38 p _ (h p (by simp)), spl_parts (by simp) fun y hy => h y (List.mem_cons_of_mem _ hy)]
theorem join_ne {t : D} {r : List D} : joinT (t :: r) ≠ [] := by
  unfold joinT
  rw [List.map_cons]
  have : ptT t ≠ [] := by unfold ptT; simp
  cases r with
  | nil => rw [List.map_nil, Lib.join_one]; exact this
  | cons x r => rw [join_cons _ (by simp)]; simp
/-- what is written is read as it was -/
theorem read_written {l : List D} (hl : l.all isT = true) (h : tsB l = true) : psE (txS l) = 0 ∧ psL (txS l) = l := by
  unfold txS
  rw [h, cond_true]
  cases l with
  | nil => exact ⟨rfl, rfl⟩
  | cons t r =>
    have h1 : (joinT (t :: r) == []) = false := beq_eq_false_iff_ne.2 join_ne
    have h2 : spl 38 (joinT (t :: r)) = (t :: r).map ptT := spl_parts (by simp) fun p hp c hc => by
      obtain ⟨t', _, rfl⟩ := List.mem_map.1 hp
      exact pt_no38 t' c hc
    unfold psE psL
    rw [h1, h2, prL_pts hl]
    simp only [cond_false, h, cond_true, and_self]
/-- what is read is written so -/
theorem written_read {s : List UInt8} (h : psE s = 0) : txE (psL s) = 0 ∧ txS (psL s) = s := by
  unfold psE at h
  unfold psL
  cases hs : s == [] with
  | true => rw [eq_of_beq hs]; exact ⟨rfl, rfl⟩
  | false =>
    rw [hs, cond_false] at h
    rw [cond_false]
    cases hp : prL (spl 38 s) with
    | none => rw [hp] at h; exact absurd h (by decide)
    | some l =>
      rw [hp] at h
      simp only at h ⊢
      cases ht : tsB l with
      | false => rw [ht] at h; exact absurd h (by decide)
      | true =>
        rw [cond_true]
        unfold txE txS
        rw [ht]
        refine ⟨rfl, ?_⟩
        rw [cond_true]
        unfold joinT
        rw [(pts_prL hp).1, join_spl]
/-- parts with more than one sign -/
theorem pr_count {p : List UInt8} (h : p.count 61 ≠ 1) : prP p = none := by
  unfold prP
  cases hc : cutE p with
  | none => rfl
  | some q =>
    obtain ⟨a, b⟩ := q
    obtain ⟨h1, h2⟩ := cutE_some hc
    simp only
    cases hb : unE b == 0 with
    | false => simp
    | true =>
      have := un_no61 (eq_of_beq hb)
      rw [h1, List.count_append, List.count_cons_self, List.count_eq_zero.2 h2, List.count_eq_zero.2 this] at h
      exact absurd rfl h
end Go.Proofs.YtjbemleloffafaaDoor.V

/- Grants as text: what the machine over values makes of the texts: equations, written by program; the functions of the contracts are variables. -/
namespace Go.Proofs.YtjbemleloffafaaDoor.V
open Go
set_option maxRecDepth 100000
set_option linter.unusedVariables false
def spJ (C : List D → List UInt8 → Bool) (J : List D → List UInt8 → List UInt8) (args : List AV) : Option (Bool × AV) := match args with
  | [.sl 9 _ l, .s p] => some (C l p, .s (J l p))
  | _ => none
def spSp (sh : List UInt8 → Bool) (Sp : List UInt8 → List D) (args : List AV) : Option (Bool × AV) := match args with
  | [.s s, .s [32]] => some (sh s, .sl 9 .ex (Sp s))
  | _ => none
variable {mx : Int}
def H44v (sh : List UInt8 → Bool) (EV : List UInt8 → List UInt8) : Handle := runS [⟨57, dat (sp1 sh fun p => .s (EV p))⟩]
theorem r44 (sh : List UInt8 → Bool) (EV : List UInt8 → List UInt8) (lab : Lab) (p : List UInt8) : evF (Γ mx) (H44v sh EV) lab 44 [.s p] [] =
  bif p == ([] : List UInt8) then (some (.s ([37] : List UInt8), [])) else (bif sh p then (some (.s (EV p), [])) else none) := by kernel_rfl
def H45v (sh : List UInt8 → Bool) (EV : List UInt8 → List UInt8) : Handle := runS [⟨58, dat (sp1 sh fun p => .s (EV p))⟩]
theorem r45 (sh : List UInt8 → Bool) (EV : List UInt8 → List UInt8) (lab : Lab) (p : List UInt8) : evF (Γ mx) (H45v sh EV) lab 45 [.s p] [] =
  bif p == ([] : List UInt8) then (some (.s ([37] : List UInt8), [])) else (bif sh p then (some (.s (EV p), [])) else none) := by kernel_rfl
def H47v (sh : List UInt8 → Bool) (NS : List UInt8 → List UInt8) (NE : List UInt8 → Int) : Handle := runS [⟨60, dat (sp1 sh fun p => .tuple [.s (NS p), .i .i64 (NE p)])⟩]
theorem r47 (sh : List UInt8 → Bool) (NS : List UInt8 → List UInt8) (NE : List UInt8 → Int) (lab : Lab) (p : List UInt8) : evF (Γ mx) (H47v sh NS NE) lab 47 [.s p] [] =
  bif p == ([37] : List UInt8) then (some (.tuple [.s ([] : List UInt8), .b true], [])) else (bif sh p then (bif (NE p) == 0 then (some (.tuple [.s (NS p), .b (!((NS p) == ([] : List UInt8)))], [])) else (some (.tuple [.s (NS p), .b false], []))) else none) := by kernel_rfl
def H18v (G : List D → Bool) (B : List D → Bool) (C : List D → List UInt8 → Bool) (J : List D → List UInt8 → List UInt8) (W : List UInt8 → List UInt8) (sh : List UInt8 → Bool) : Handle := runS [⟨38, dat (spL1 29 G fun l => .b (B l))⟩, ⟨44, dat (sp1 sh fun p => .s (W p))⟩, ⟨43, dat (spJ C J)⟩]
theorem r18 (G : List D → Bool) (B : List D → Bool) (C : List D → List UInt8 → Bool) (J : List D → List UInt8 → List UInt8) (W : List UInt8 → List UInt8) (sh : List UInt8 → Bool) (lab : Lab) (b : Bool) (w : List UInt8) (t : List UInt8) (k : List UInt8) : evF (Γ mx) (H18v G B C J W sh) lab 18 [.d 29 (D.agg [D.bool b, D.str w, D.str t, D.str k])] [] =
  bif G ([D.agg [D.bool b, D.str w, D.str t, D.str k]]) then (bif !(B ([D.agg [D.bool b, D.str w, D.str t, D.str k]])) then (some (.tuple [.s ([] : List UInt8), .i .i64 2], [])) else (bif b then (bif sh w then (bif sh t then (bif sh k then (bif C ([D.str ([100, 101, 110, 121] : List UInt8), D.str (W w), D.str (W t), D.str (W k)]) ([32] : List UInt8) then (some (.tuple [.s (J ([D.str ([100, 101, 110, 121] : List UInt8), D.str (W w), D.str (W t), D.str (W k)]) ([32] : List UInt8)), .i .i64 0], [])) else none) else none) else none) else none) else (bif sh w then (bif sh t then (bif sh k then (bif C ([D.str ([97, 108, 108, 111, 119] : List UInt8), D.str (W w), D.str (W t), D.str (W k)]) ([32] : List UInt8) then (some (.tuple [.s (J ([D.str ([97, 108, 108, 111, 119] : List UInt8), D.str (W w), D.str (W t), D.str (W k)]) ([32] : List UInt8)), .i .i64 0], [])) else none) else none) else none) else none))) else none := by kernel_rfl
def H19v (G : List D → Bool) (B : List D → Bool) (W : List UInt8 → List UInt8) (sh : List UInt8 → Bool) : Handle := runS [⟨17, dat (spL1 29 G fun l => .b (B l))⟩, ⟨45, dat (sp1 sh fun p => .s (W p))⟩]
theorem r19 (G : List D → Bool) (B : List D → Bool) (W : List UInt8 → List UInt8) (sh : List UInt8 → Bool) (lab : Lab) (b : Bool) (w : List UInt8) (t : List UInt8) (k : List UInt8) : evF (Γ mx) (H19v G B W sh) lab 19 [.d 29 (D.agg [D.bool b, D.str w, D.str t, D.str k])] [] =
  bif G ([D.agg [D.bool b, D.str w, D.str t, D.str k]]) then (bif !(B ([D.agg [D.bool b, D.str w, D.str t, D.str k]])) then (some (.tuple [.s ([] : List UInt8), .i .i64 2], [])) else (bif b then (bif sh w then (bif decide (List.length ([100, 101, 110, 121, 32] : List UInt8) + List.length (W w) ≤ maxStr) then (bif decide (List.length (([100, 101, 110, 121, 32] : List UInt8) ++ (W w)) + List.length ([32] : List UInt8) ≤ maxStr) then (bif sh t then (bif decide (List.length ((([100, 101, 110, 121, 32] : List UInt8) ++ (W w)) ++ ([32] : List UInt8)) + List.length (W t) ≤ maxStr) then (bif decide (List.length (((([100, 101, 110, 121, 32] : List UInt8) ++ (W w)) ++ ([32] : List UInt8)) ++ (W t)) + List.length ([32] : List UInt8) ≤ maxStr) then (bif sh k then (bif decide (List.length ((((([100, 101, 110, 121, 32] : List UInt8) ++ (W w)) ++ ([32] : List UInt8)) ++ (W t)) ++ ([32] : List UInt8)) + List.length (W k) ≤ maxStr) then (some (.tuple [.s (((((([100, 101, 110, 121, 32] : List UInt8) ++ (W w)) ++ ([32] : List UInt8)) ++ (W t)) ++ ([32] : List UInt8)) ++ (W k)), .i .i64 0], [])) else none) else none) else none) else none) else none) else none) else none) else none) else (bif sh w then (bif decide (List.length ([97, 108, 108, 111, 119, 32] : List UInt8) + List.length (W w) ≤ maxStr) then (bif decide (List.length (([97, 108, 108, 111, 119, 32] : List UInt8) ++ (W w)) + List.length ([32] : List UInt8) ≤ maxStr) then (bif sh t then (bif decide (List.length ((([97, 108, 108, 111, 119, 32] : List UInt8) ++ (W w)) ++ ([32] : List UInt8)) + List.length (W t) ≤ maxStr) then (bif decide (List.length (((([97, 108, 108, 111, 119, 32] : List UInt8) ++ (W w)) ++ ([32] : List UInt8)) ++ (W t)) + List.length ([32] : List UInt8) ≤ maxStr) then (bif sh k then (bif decide (List.length ((((([97, 108, 108, 111, 119, 32] : List UInt8) ++ (W w)) ++ ([32] : List UInt8)) ++ (W t)) ++ ([32] : List UInt8)) + List.length (W k) ≤ maxStr) then (some (.tuple [.s (((((([97, 108, 108, 111, 119, 32] : List UInt8) ++ (W w)) ++ ([32] : List UInt8)) ++ (W t)) ++ ([32] : List UInt8)) ++ (W k)), .i .i64 0], [])) else none) else none) else none) else none) else none) else none) else none) else none))) else none := by kernel_rfl
def H20v (G : List D → Bool) (B : List D → Bool) (sh : List UInt8 → Bool) (Sp : List UInt8 → List D) (UB : List UInt8 → Bool) (US : List UInt8 → List UInt8) : Handle := runS [⟨46, dat (spSp sh Sp)⟩, ⟨47, dat (sp1 sh fun p => .tuple [.s (US p), .b (UB p)])⟩, ⟨38, dat (spL1 29 G fun l => .b (B l))⟩]
theorem r20 (G : List D → Bool) (B : List D → Bool) (sh : List UInt8 → Bool) (Sp : List UInt8 → List D) (UB : List UInt8 → Bool) (US : List UInt8 → List UInt8) (lab : Lab) (s : List UInt8) : evF (Γ mx) (H20v G B sh Sp UB US) lab 20 [.s s] [] =
  bif sh s then (bif (((Sp s).length : Int)) != 4 then (some (.tuple [.d 29 (D.agg [D.bool false, D.str ([] : List UInt8), D.str ([] : List UInt8), D.str ([] : List UInt8)]), .i .i64 5], [])) else (idx (Sp s) 0 fun y1 => dStr y1 fun s2 => bif !(s2 == ([97, 108, 108, 111, 119] : List UInt8)) then (idx (Sp s) 0 fun y3 => dStr y3 fun s4 => bif !(s4 == ([100, 101, 110, 121] : List UInt8)) then (some (.tuple [.d 29 (D.agg [D.bool false, D.str ([] : List UInt8), D.str ([] : List UInt8), D.str ([] : List UInt8)]), .i .i64 5], [])) else (lab (todoAt (Γ mx) 20 6) ⟨[(2, .ptr 0 [] 29), (4, .sl 9 .ex (Sp s)), (5, .ptr 1 [] 74), (27, .i .i64 0)], [some (.box 29 (.d 29 (D.agg [D.bool false, D.str ([] : List UInt8), D.str ([] : List UInt8), D.str ([] : List UInt8)]))), some (.box 74 (.d 74 (D.agg [D.str ([] : List UInt8), D.str ([] : List UInt8), D.str ([] : List UInt8)])))]⟩)) else (lab (todoAt (Γ mx) 20 6) ⟨[(2, .ptr 0 [] 29), (4, .sl 9 .ex (Sp s)), (5, .ptr 1 [] 74), (27, .i .i64 0)], [some (.box 29 (.d 29 (D.agg [D.bool false, D.str ([] : List UInt8), D.str ([] : List UInt8), D.str ([] : List UInt8)]))), some (.box 74 (.d 74 (D.agg [D.str ([] : List UInt8), D.str ([] : List UInt8), D.str ([] : List UInt8)])))]⟩))) else none := by kernel_rfl
theorem r20_6a (G : List D → Bool) (B : List D → Bool) (sh : List UInt8 → Bool) (Sp : List UInt8 → List D) (UB : List UInt8 → Bool) (US : List UInt8 → List UInt8) (lab : Lab) (l1 : List D) (n2 : Int) (b3 : Bool) (s4 : List UInt8) (s5 : List UInt8) (s6 : List UInt8) (s7 : List UInt8) (s8 : List UInt8) (s9 : List UInt8) : evL (Γ mx) (H20v G B sh Sp UB US) lab 20 6 ⟨[(2, .ptr 0 [] 29), (4, .sl 9 .ex l1), (5, .ptr 1 [] 74), (27, .i .i64 n2)], [some (.box 29 (.d 29 (D.agg [D.bool b3, D.str s4, D.str s5, D.str s6]))), some (.box 74 (.d 74 (D.agg [D.str s7, D.str s8, D.str s9])))]⟩ =
  bif decide (n2 < 3) then (idx l1 (IntKind.wrap .i64 (n2 + 1)) fun y10 => dStr y10 fun s11 => bif sh s11 then (bif decide ((0:Int) ≤ n2) && decide (n2 < (3 : Int)) then (bif !(UB s11) then (some (.tuple [.d 29 (D.agg [D.bool false, D.str ([] : List UInt8), D.str ([] : List UInt8), D.str ([] : List UInt8)]), .i .i64 5], [])) else (lab (todoAt (Γ mx) 20 6) ⟨[(2, .ptr 0 [] 29), (4, .sl 9 .ex l1), (5, .ptr 1 [] 74), (27, .i .i64 (IntKind.wrap .i64 (n2 + 1)))], [some (.box 29 (.d 29 (D.agg [D.bool b3, D.str s4, D.str s5, D.str s6]))), some (.box 74 (.d 74 ((setD [Int.toNat n2] (D.agg [D.str s7, D.str s8, D.str s9]) (D.str (US s11))))))]⟩)) else none) else none) else (idx l1 0 fun y12 => dStr y12 fun s13 => bif G ([D.agg [D.bool (s13 == ([100, 101, 110, 121] : List UInt8)), D.str s7, D.str s8, D.str s9]]) then (bif !(B ([D.agg [D.bool (s13 == ([100, 101, 110, 121] : List UInt8)), D.str s7, D.str s8, D.str s9]])) then (some (.tuple [.d 29 (D.agg [D.bool false, D.str ([] : List UInt8), D.str ([] : List UInt8), D.str ([] : List UInt8)]), .i .i64 2], [])) else (some (.tuple [.d 29 (D.agg [D.bool (s13 == ([100, 101, 110, 121] : List UInt8)), D.str s7, D.str s8, D.str s9]), .i .i64 0], []))) else none) := by kernel_rfl
theorem r48 (call : Handle) (lab : Lab) (s : List UInt8) : evF (Γ mx) call lab 48 [.s s] [] =
  lab (todoAt (Γ mx) 48 3) ⟨[(0, .s s), (3, .ref 9 0), (4, .i .i64 0)], [some (.arr 9 [D.str ([] : List UInt8)] false)]⟩ := by kernel_rfl
theorem r48_3a (call : Handle) (lab : Lab) (s1 : List UInt8) (n2 : Int) (l3 : List D) : evL (Γ mx) call lab 48 3 ⟨[(0, .s s1), (3, .ref 9 0), (4, .i .i64 n2)], [some (.arr 9 l3 false)]⟩ =
  bif decide (n2 < ((List.length s1 : Int))) then (idx s1 n2 fun c4 => bif ((c4.toNat : Int)) == 32 then (bif roomB (l3.length + 1) 16 then (lab (todoAt (Γ mx) 48 3) ⟨[(0, .s s1), (3, .ref 9 0), (4, .i .i64 (IntKind.wrap .i64 (n2 + 1)))], [some (.arr 9 (l3 ++ [D.str ([] : List UInt8)]) false)]⟩) else none) else (bif decide ((0:Int) ≤ (IntKind.wrap .i64 (((l3.length : Int)) - 1))) && decide ((IntKind.wrap .i64 (((l3.length : Int)) - 1)) < (l3.length : Int)) then (lGet l3 (Int.toNat (IntKind.wrap .i64 (((l3.length : Int)) - 1))) fun y5 => dStr y5 fun s6 => bif decide ((0:Int) ≤ (IntKind.wrap .i64 (n2 + 1))) && decide ((IntKind.wrap .i64 (n2 + 1)) ≤ (List.length s1 : Int)) then (bif decide ((0:Int) ≤ n2) && decide (n2 ≤ (Int.toNat (IntKind.wrap .i64 (n2 + 1)) : Int)) then (bif decide (List.length s6 + List.length (List.take ((Int.toNat (IntKind.wrap .i64 (n2 + 1))) - (Int.toNat n2)) (List.drop (Int.toNat n2) s1)) ≤ maxStr) then (bif decide ((0:Int) ≤ (IntKind.wrap .i64 (((l3.length : Int)) - 1))) && decide ((IntKind.wrap .i64 (((l3.length : Int)) - 1)) < (l3.length : Int)) then (lGet l3 (Int.toNat (IntKind.wrap .i64 (((l3.length : Int)) - 1))) fun y7 => lab (todoAt (Γ mx) 48 3) ⟨[(0, .s s1), (3, .ref 9 0), (4, .i .i64 (IntKind.wrap .i64 (n2 + 1)))], [some (.arr 9 (List.set l3 (Int.toNat (IntKind.wrap .i64 (((l3.length : Int)) - 1))) (D.str (s6 ++ (List.take ((Int.toNat (IntKind.wrap .i64 (n2 + 1))) - (Int.toNat n2)) (List.drop (Int.toNat n2) s1))))) false)]⟩) else none) else none) else none) else none) else none)) else (some (.sl 9 .any l3, [])) := by kernel_rfl
def H21v (G : List D → Bool) (B : List D → Bool) (sh : List UInt8 → Bool) (Sp : List UInt8 → List D) (NS : List UInt8 → List UInt8) (NE : List UInt8 → Int) : Handle := runS [⟨48, dat (sp1 sh fun p => .sl 9 .any (Sp p))⟩, ⟨49, dat (sp1 sh fun p => .tuple [.s (NS p), .i .i64 (NE p)])⟩, ⟨17, dat (spL1 29 G fun l => .b (B l))⟩]
theorem r21 (G : List D → Bool) (B : List D → Bool) (sh : List UInt8 → Bool) (Sp : List UInt8 → List D) (NS : List UInt8 → List UInt8) (NE : List UInt8 → Int) (lab : Lab) (s : List UInt8) : evF (Γ mx) (H21v G B sh Sp NS NE) lab 21 [.s s] [] =
  bif sh s then (bif (((Sp s).length : Int)) != 4 then (some (.tuple [.d 29 (D.agg [D.bool false, D.str ([] : List UInt8), D.str ([] : List UInt8), D.str ([] : List UInt8)]), .i .i64 5], [])) else (idx (Sp s) 0 fun y1 => dStr y1 fun s2 => bif !(s2 == ([97, 108, 108, 111, 119] : List UInt8)) then (idx (Sp s) 0 fun y3 => dStr y3 fun s4 => bif !(s4 == ([100, 101, 110, 121] : List UInt8)) then (some (.tuple [.d 29 (D.agg [D.bool false, D.str ([] : List UInt8), D.str ([] : List UInt8), D.str ([] : List UInt8)]), .i .i64 5], [])) else (lab (todoAt (Γ mx) 21 6) ⟨[(2, .ptr 0 [] 29), (4, .sl 9 .any (Sp s)), (5, .ptr 1 [] 77), (6, .i .i64 1)], [some (.box 29 (.d 29 (D.agg [D.bool false, D.str ([] : List UInt8), D.str ([] : List UInt8), D.str ([] : List UInt8)]))), some (.box 77 (.d 77 (D.agg [D.str ([] : List UInt8), D.str ([] : List UInt8), D.str ([] : List UInt8), D.str ([] : List UInt8)])))]⟩)) else (lab (todoAt (Γ mx) 21 6) ⟨[(2, .ptr 0 [] 29), (4, .sl 9 .any (Sp s)), (5, .ptr 1 [] 77), (6, .i .i64 1)], [some (.box 29 (.d 29 (D.agg [D.bool false, D.str ([] : List UInt8), D.str ([] : List UInt8), D.str ([] : List UInt8)]))), some (.box 77 (.d 77 (D.agg [D.str ([] : List UInt8), D.str ([] : List UInt8), D.str ([] : List UInt8), D.str ([] : List UInt8)])))]⟩))) else none := by kernel_rfl
theorem r21_6a (G : List D → Bool) (B : List D → Bool) (sh : List UInt8 → Bool) (Sp : List UInt8 → List D) (NS : List UInt8 → List UInt8) (NE : List UInt8 → Int) (lab : Lab) (l1 : List D) (n2 : Int) (b3 : Bool) (s4 : List UInt8) (s5 : List UInt8) (s6 : List UInt8) (s7 : List UInt8) (s8 : List UInt8) (s9 : List UInt8) (s10 : List UInt8) : evL (Γ mx) (H21v G B sh Sp NS NE) lab 21 6 ⟨[(2, .ptr 0 [] 29), (4, .sl 9 .any l1), (5, .ptr 1 [] 77), (6, .i .i64 n2)], [some (.box 29 (.d 29 (D.agg [D.bool b3, D.str s4, D.str s5, D.str s6]))), some (.box 77 (.d 77 (D.agg [D.str s7, D.str s8, D.str s9, D.str s10])))]⟩ =
  bif decide (n2 < 4) then (idx l1 n2 fun y11 => dStr y11 fun s12 => bif s12 == ([37] : List UInt8) then (lab (todoAt (Γ mx) 21 6) ⟨[(2, .ptr 0 [] 29), (4, .sl 9 .any l1), (5, .ptr 1 [] 77), (6, .i .i64 (IntKind.wrap .i64 (n2 + 1)))], [some (.box 29 (.d 29 (D.agg [D.bool b3, D.str s4, D.str s5, D.str s6]))), some (.box 77 (.d 77 (D.agg [D.str s7, D.str s8, D.str s9, D.str s10])))]⟩) else (idx l1 n2 fun y13 => dStr y13 fun s14 => bif sh s14 then (bif (NE s14) != 0 then (some (.tuple [.d 29 (D.agg [D.bool false, D.str ([] : List UInt8), D.str ([] : List UInt8), D.str ([] : List UInt8)]), .i .i64 5], [])) else (bif (NS s14) == ([] : List UInt8) then (some (.tuple [.d 29 (D.agg [D.bool false, D.str ([] : List UInt8), D.str ([] : List UInt8), D.str ([] : List UInt8)]), .i .i64 5], [])) else (bif decide ((0:Int) ≤ n2) && decide (n2 < (4 : Int)) then (lab (todoAt (Γ mx) 21 6) ⟨[(2, .ptr 0 [] 29), (4, .sl 9 .any l1), (5, .ptr 1 [] 77), (6, .i .i64 (IntKind.wrap .i64 (n2 + 1)))], [some (.box 29 (.d 29 (D.agg [D.bool b3, D.str s4, D.str s5, D.str s6]))), some (.box 77 (.d 77 ((setD [Int.toNat n2] (D.agg [D.str s7, D.str s8, D.str s9, D.str s10]) (D.str (NS s14))))))]⟩) else none))) else none)) else (idx l1 0 fun y15 => dStr y15 fun s16 => bif G ([D.agg [D.bool (s16 == ([100, 101, 110, 121] : List UInt8)), D.str s8, D.str s9, D.str s10]]) then (bif !(B ([D.agg [D.bool (s16 == ([100, 101, 110, 121] : List UInt8)), D.str s8, D.str s9, D.str s10]])) then (some (.tuple [.d 29 (D.agg [D.bool false, D.str ([] : List UInt8), D.str ([] : List UInt8), D.str ([] : List UInt8)]), .i .i64 2], [])) else (some (.tuple [.d 29 (D.agg [D.bool (s16 == ([100, 101, 110, 121] : List UInt8)), D.str s8, D.str s9, D.str s10]), .i .i64 0], []))) else none) := by kernel_rfl
def H5v (sh : List UInt8 → Bool) (TS : D → List UInt8) (TE : D → Int) (p0 : List UInt8 → Bool) (p1 : List UInt8 → List UInt8) (p2 : List UInt8 → List UInt8) (p3 : List UInt8 → List UInt8) (pe : List UInt8 → Int) (iG : D → Bool) : Handle := runS [⟨12, dat (sp0 true (.b true))⟩, ⟨18, dat (spD1 29 iG fun g => .tuple [.s (TS g), .i .i64 (TE g)])⟩, ⟨19, dat (spD1 29 iG fun g => .tuple [.s (TS g), .i .i64 (TE g)])⟩, ⟨20, dat (sp1 sh fun p => .tuple [.d 29 (D.agg [D.bool (p0 p), D.str (p1 p), D.str (p2 p), D.str (p3 p)]), .i .i64 (pe p)])⟩, ⟨21, dat (sp1 sh fun p => .tuple [.d 29 (D.agg [D.bool (p0 p), D.str (p1 p), D.str (p2 p), D.str (p3 p)]), .i .i64 (pe p)])⟩]
theorem r5 (sh : List UInt8 → Bool) (TS : D → List UInt8) (TE : D → Int) (p0 : List UInt8 → Bool) (p1 : List UInt8 → List UInt8) (p2 : List UInt8 → List UInt8) (p3 : List UInt8 → List UInt8) (pe : List UInt8 → Int) (iG : D → Bool) (lab : Lab) (b : Bool) (w : List UInt8) (t : List UInt8) (k : List UInt8) (s : List UInt8) : evF (Γ mx) (H5v sh TS TE p0 p1 p2 p3 pe iG) lab 5 [.d 29 (D.agg [D.bool b, D.str w, D.str t, D.str k]), .s s] [] =
  bif iG (D.agg [D.bool b, D.str w, D.str t, D.str k]) then (bif iG (D.agg [D.bool b, D.str w, D.str t, D.str k]) then (bif sh s then (bif sh s then (bif (TS (D.agg [D.bool b, D.str w, D.str t, D.str k])) == (TS (D.agg [D.bool b, D.str w, D.str t, D.str k])) then (bif (TE (D.agg [D.bool b, D.str w, D.str t, D.str k])) == (TE (D.agg [D.bool b, D.str w, D.str t, D.str k])) then (bif eqD (D.agg [D.bool (p0 s), D.str (p1 s), D.str (p2 s), D.str (p3 s)]) (D.agg [D.bool (p0 s), D.str (p1 s), D.str (p2 s), D.str (p3 s)]) then (some (.b ((pe s) == (pe s)), [])) else (some (.b false, []))) else (some (.b false, []))) else (some (.b false, []))) else none) else none) else none) else none := by kernel_rfl
def H6v (sh : List UInt8 → Bool) (TS : D → List UInt8) (TE : D → Int) (p0 : List UInt8 → Bool) (p1 : List UInt8 → List UInt8) (p2 : List UInt8 → List UInt8) (p3 : List UInt8 → List UInt8) (pe : List UInt8 → Int) (iG : D → Bool) : Handle := runS [⟨12, dat (sp0 true (.b true))⟩, ⟨18, dat (spD1 29 iG fun g => .tuple [.s (TS g), .i .i64 (TE g)])⟩, ⟨20, dat (sp1 sh fun p => .tuple [.d 29 (D.agg [D.bool (p0 p), D.str (p1 p), D.str (p2 p), D.str (p3 p)]), .i .i64 (pe p)])⟩]
theorem r6 (sh : List UInt8 → Bool) (TS : D → List UInt8) (TE : D → Int) (p0 : List UInt8 → Bool) (p1 : List UInt8 → List UInt8) (p2 : List UInt8 → List UInt8) (p3 : List UInt8 → List UInt8) (pe : List UInt8 → Int) (iG : D → Bool) (lab : Lab) (b : Bool) (w : List UInt8) (t : List UInt8) (k : List UInt8) (s : List UInt8) : evF (Γ mx) (H6v sh TS TE p0 p1 p2 p3 pe iG) lab 6 [.d 29 (D.agg [D.bool b, D.str w, D.str t, D.str k]), .s s] [] =
  bif iG (D.agg [D.bool b, D.str w, D.str t, D.str k]) then (bif sh (TS (D.agg [D.bool b, D.str w, D.str t, D.str k])) then (bif sh s then (bif iG (D.agg [D.bool (p0 s), D.str (p1 s), D.str (p2 s), D.str (p3 s)]) then (bif (TE (D.agg [D.bool b, D.str w, D.str t, D.str k])) != 0 then (bif (pe s) != 0 then (some (.b true, [])) else (bif (TE (D.agg [D.bool (p0 s), D.str (p1 s), D.str (p2 s), D.str (p3 s)])) == 0 then (some (.b ((TS (D.agg [D.bool (p0 s), D.str (p1 s), D.str (p2 s), D.str (p3 s)])) == s), [])) else (some (.b false, [])))) else (bif (pe (TS (D.agg [D.bool b, D.str w, D.str t, D.str k]))) == 0 then (bif eqD (D.agg [D.bool (p0 (TS (D.agg [D.bool b, D.str w, D.str t, D.str k]))), D.str (p1 (TS (D.agg [D.bool b, D.str w, D.str t, D.str k]))), D.str (p2 (TS (D.agg [D.bool b, D.str w, D.str t, D.str k]))), D.str (p3 (TS (D.agg [D.bool b, D.str w, D.str t, D.str k])))]) (D.agg [D.bool b, D.str w, D.str t, D.str k]) then (bif (pe s) != 0 then (some (.b true, [])) else (bif (TE (D.agg [D.bool (p0 s), D.str (p1 s), D.str (p2 s), D.str (p3 s)])) == 0 then (some (.b ((TS (D.agg [D.bool (p0 s), D.str (p1 s), D.str (p2 s), D.str (p3 s)])) == s), [])) else (some (.b false, [])))) else (some (.b false, []))) else (some (.b false, [])))) else none) else none) else none) else none := by kernel_rfl
end Go.Proofs.YtjbemleloffafaaDoor.V

/- Grants: contracts of Allows and the document's Allows; the simplest facts; the law of Allows. -/
namespace Go.Proofs.YtjbemleloffafaaDoor.V
open Go
set_option maxRecDepth 1000000
set_option linter.unusedVariables false
set_option linter.unusedSimpArgs false
variable {mx : Int}
theorem awake_run : callN (Γ mx) ext 100 12 [] [] = some (true, .b true, []) := by kernel_rfl
theorem c12 (_ : true = true) : RetX (Γ mx) 12 [] [] (.b true) [] := ret_run hP hZ hN ext_ok awake_run
theorem askC_eq {a : D} (h : askC a = true) : ∃ x y z, a = .agg [.str x, .str y, .str z] ∧ short x = true ∧ short y = true ∧ short z = true := by
  unfold askC at h
  split at h
  · simp only [Bool.and_eq_true] at h
    exact ⟨_, _, _, rfl, h.1, h.2.1, h.2.2⟩
  · exact absurd h (by simp)
theorem h39_ok : CallsOK (Γ mx) H39 := specs_ok (.cons (sp2_ok c69) .nil)
theorem c39 (a g : D) (h : (askC a && isG g) = true) : RetX (Γ mx) 39 [.d 65 a, .d 29 g] [] (.b (meetsD a g)) [] := by
  simp only [Bool.and_eq_true] at h
  obtain ⟨x, y, z, rfl, hx, hy, hz⟩ := askC_eq h.1
  obtain ⟨b, w, t, k, rfl⟩ := isG_eq h.2
  have w1 : IntKind.wrap .i64 ((0 : Int) + 1) = 1 := by decide
  have w2 : IntKind.wrap .i64 ((1 : Int) + 1) = 2 := by decide
  have w3 : IntKind.wrap .i64 ((2 : Int) + 1) = 3 := by decide
  have s3 (lab : Lab) : evL (Γ mx) H39 lab 39 2 ⟨[(24, .sl 99 .ex [D.agg [D.str w, D.str x], D.agg [D.str t, D.str y], D.agg [D.str k, D.str z]]), (25, .i .i64 3), (26, .i .i64 3)], []⟩ = some (.b true, []) := by
    rw [r39_2a]; rfl
  have s2 (lab : Lab) : evL (Γ mx) H39 lab 39 2 ⟨[(24, .sl 99 .ex [D.agg [D.str w, D.str x], D.agg [D.str t, D.str y], D.agg [D.str k, D.str z]]), (25, .i .i64 3), (26, .i .i64 2)], []⟩ = bif short z then (bif !(matB k z) then (some (.b false, [])) else (lab (todoAt (Γ mx) 39 2) ⟨[(24, .sl 99 .ex [D.agg [D.str w, D.str x], D.agg [D.str t, D.str y], D.agg [D.str k, D.str z]]), (25, .i .i64 3), (26, .i .i64 3)], []⟩)) else none := by
    rw [r39_2a]; rfl
  have s1 (lab : Lab) : evL (Γ mx) H39 lab 39 2 ⟨[(24, .sl 99 .ex [D.agg [D.str w, D.str x], D.agg [D.str t, D.str y], D.agg [D.str k, D.str z]]), (25, .i .i64 3), (26, .i .i64 1)], []⟩ = bif short y then (bif !(matB t y) then (some (.b false, [])) else (lab (todoAt (Γ mx) 39 2) ⟨[(24, .sl 99 .ex [D.agg [D.str w, D.str x], D.agg [D.str t, D.str y], D.agg [D.str k, D.str z]]), (25, .i .i64 3), (26, .i .i64 2)], []⟩)) else none := by
    rw [r39_2a]; rfl
  have s0 (lab : Lab) : evL (Γ mx) H39 lab 39 2 ⟨[(24, .sl 99 .ex [D.agg [D.str w, D.str x], D.agg [D.str t, D.str y], D.agg [D.str k, D.str z]]), (25, .i .i64 3), (26, .i .i64 0)], []⟩ = bif short x then (bif !(matB w x) then (some (.b false, [])) else (lab (todoAt (Γ mx) 39 2) ⟨[(24, .sl 99 .ex [D.agg [D.str w, D.str x], D.agg [D.str t, D.str y], D.agg [D.str k, D.str z]]), (25, .i .i64 3), (26, .i .i64 1)], []⟩)) else none := by
    rw [r39_2a]; rfl
  have e : meetsD (.agg [.str x, .str y, .str z]) (.agg [.bool b, .str w, .str t, .str k]) = (matB w x && (matB t y && matB k z)) := rfl
  have g3 : Goes (Γ mx) H39 39 2 ⟨[(24, .sl 99 .ex [D.agg [D.str w, D.str x], D.agg [D.str t, D.str y], D.agg [D.str k, D.str z]]), (25, .i .i64 3), (26, .i .i64 3)], []⟩ (.b true, []) := Goes.step ⟨0, s3 _⟩
  have g2 : Goes (Γ mx) H39 39 2 ⟨[(24, .sl 99 .ex [D.agg [D.str w, D.str x], D.agg [D.str t, D.str y], D.agg [D.str k, D.str z]]), (25, .i .i64 3), (26, .i .i64 2)], []⟩ (.b (matB k z), []) := by
    obtain ⟨n, hn⟩ := g3
    refine Goes.step ⟨n, ?_⟩
    rw [s2, hz, cond_true]
    cases matB k z with
    | false => rfl
    | true => exact hn
  have g1 : Goes (Γ mx) H39 39 2 ⟨[(24, .sl 99 .ex [D.agg [D.str w, D.str x], D.agg [D.str t, D.str y], D.agg [D.str k, D.str z]]), (25, .i .i64 3), (26, .i .i64 1)], []⟩ (.b (matB t y && matB k z), []) := by
    obtain ⟨n, hn⟩ := g2
    refine Goes.step ⟨n, ?_⟩
    rw [s1, hy, cond_true]
    cases matB t y with
    | false => rfl
    | true => exact hn
  have g0 : Goes (Γ mx) H39 39 2 ⟨[(24, .sl 99 .ex [D.agg [D.str w, D.str x], D.agg [D.str t, D.str y], D.agg [D.str k, D.str z]]), (25, .i .i64 3), (26, .i .i64 0)], []⟩ (.b (matB w x && (matB t y && matB k z)), []) := by
    obtain ⟨n, hn⟩ := g1
    refine Goes.step ⟨n, ?_⟩
    rw [s0, hx, cond_true]
    cases matB w x with
    | false => rfl
    | true => exact hn
  obtain ⟨n, hn⟩ := g0
  exact ret_goes (Γ := Γ mx) hP hZ h39_ok (by kernel_rfl) ⟨n, by rw [r39, e]; exact hn⟩
theorem h40_ok : CallsOK (Γ mx) H40 := specs_ok (.cons (sp2_ok c70) .nil)
theorem c40 (g : D) (x y z : List UInt8) (h : (isG g && (short x && (short y && short z))) = true) : RetX (Γ mx) 40 [.d 29 g, .s x, .s y, .s z] [] (.b (meetsD (D.agg [D.str x, D.str y, D.str z]) g)) [] := by
  simp only [Bool.and_eq_true] at h
  obtain ⟨h1, hx, hy, hz⟩ := h
  obtain ⟨b, w, t, k, rfl⟩ := isG_eq h1
  have e : meetsD (.agg [.str x, .str y, .str z]) (.agg [.bool b, .str w, .str t, .str k]) = (matB w x && (matB t y && matB k z)) := rfl
  refine ret_goes (Γ := Γ mx) hP hZ h40_ok (by kernel_rfl) ⟨0, ?_⟩
  rw [r40, e, hx, hy, hz]
  cases matB w x <;> cases matB t y <;> rfl
/-! ### Allows -/
theorem h13_ok : CallsOK (Γ mx) H13 := specs_ok (.cons (spL1_ok c38) (.cons (sp1_ok c15) (.cons (spDD_ok c39) .nil)))
theorem h14_ok : CallsOK (Γ mx) H14 := specs_ok (.cons (spL1_ok c17) (.cons (sp1_ok c16) (.cons (spD3_ok c40) .nil)))
def fin13 (b : Bool) (M : D → Bool) (l : List D) : Bool := (b || l.any M) && !l.any fun g => M g && gDeny g
theorem g13 (l : List D) (hl : l.length ≤ 1099511627776) (x y z : List UInt8) (hs : askC (.agg [.str x, .str y, .str z]) = true) : ∀ (rest pre : List D) (i : Int) (b : Bool), rest.all isG = true → l = pre ++ rest → i = (pre.length : Int) →
    Goes (Γ mx) H13 13 10 ⟨[(10, .ptr 0 [] 65), (11, .b b), (30, .sl 29 .any l), (31, .i .i64 (l.length : Int)), (32, .i .i64 i)], [some (.box 65 (.d 65 (D.agg [D.str x, D.str y, D.str z])))]⟩ (.tuple [.b (fin13 b (meetsA x y z) rest), .i .i64 0], [])
  | [], pre, i, b, hg, he, hi => by
    subst hi
    refine Goes.step ⟨0, ?_⟩
    rw [r13_10a, decide_eq_false (show ¬ (pre.length : Int) < (l.length : Int) by rw [he]; simp)]
    cases b <;> rfl
  | g :: r, pre, i, b, hg, he, hi => by
    subst hi
    have hlen : l.length = pre.length + (r.length + 1) := by rw [he]; simp
    have hg' : isG g = true ∧ r.all isG = true := by simpa using hg
    obtain ⟨d, w, t, k, rfl⟩ := isG_eq hg'.1
    have hid : ∀ {R : Type} (K : D → Option R), idx l (pre.length : Int) K = K (.agg [.bool d, .str w, .str t, .str k]) := fun K => by rw [he]; exact idx_mid pre r _ K
    have hw : IntKind.wrap .i64 ((pre.length : Int) + 1) = (pre.length : Int) + 1 := wrapI (by omega) (by omega)
    have hf (c : Bool) := g13 l hl x y z hs r (pre ++ [.agg [.bool d, .str w, .str t, .str k]]) ((pre.length : Int) + 1) c hg'.2 (by rw [he]; simp) (by simp)
    have e : fin13 b (meetsA x y z) (.agg [.bool d, .str w, .str t, .str k] :: r) = bif meetsA x y z (.agg [.bool d, .str w, .str t, .str k]) then (bif d then false else fin13 true (meetsA x y z) r) else fin13 b (meetsA x y z) r := by
      unfold fin13
      rw [List.any_cons, List.any_cons, show gDeny (.agg [.bool d, .str w, .str t, .str k]) = d from rfl]
      cases meetsA x y z (.agg [.bool d, .str w, .str t, .str k]) <;> cases d <;> simp
    have e2 : meetsA x y z (.agg [.bool d, .str w, .str t, .str k]) = meetsD (.agg [.str x, .str y, .str z]) (.agg [.bool d, .str w, .str t, .str k]) := rfl
    rw [e, e2]
    cases hm : meetsD (.agg [.str x, .str y, .str z]) (.agg [.bool d, .str w, .str t, .str k]) with
    | false =>
      obtain ⟨n, hn⟩ := hf b
      refine Goes.step ⟨n, ?_⟩
      rw [r13_10a, decide_eq_true (show (pre.length : Int) < (l.length : Int) by omega), cond_true, hid]
      simp only [dAgg, lCons, dBool, dStr, lNil, hg'.1, hs, Bool.and_self, cond_true, hm, Bool.not_false, cond_false, hw]
      exact hn
    | true =>
      cases d with
      | true =>
        refine Goes.step ⟨0, ?_⟩
        rw [r13_10a, decide_eq_true (show (pre.length : Int) < (l.length : Int) by omega), cond_true, hid]
        simp only [dAgg, lCons, dBool, dStr, lNil, hg'.1, hs, Bool.and_self, cond_true, hm, Bool.not_true, cond_false]
      | false =>
        obtain ⟨n, hn⟩ := hf true
        refine Goes.step ⟨n, ?_⟩
        rw [r13_10a, decide_eq_true (show (pre.length : Int) < (l.length : Int) by omega), cond_true, hid]
        simp only [dAgg, lCons, dBool, dStr, lNil, hg'.1, hs, Bool.and_self, cond_true, hm, Bool.not_true, cond_false, hw]
        exact hn
theorem alC_eq {l : List D} {x y z : List UInt8} (h : alC l x y z = true) : allG l = true ∧ askC (.agg [.str x, .str y, .str z]) = true := by
  unfold alC at h
  simp only [Bool.and_eq_true] at h
  exact ⟨h.1, by unfold askC; simp only [Bool.and_eq_true]; exact h.2⟩
theorem c13 (l : List D) (x y z : List UInt8) (h : alC l x y z = true) : RetX (Γ mx) 13 [.sl 29 .any l, .s x, .s y, .s z] [] (alA l x y z) [] := by
  obtain ⟨h1, h2⟩ := alC_eq h
  obtain ⟨g1, g2⟩ := allG_eq h1
  unfold alA alB alE
  cases hb : grB l with
  | false => exact ret_goes (Γ := Γ mx) hP hZ h13_ok (by kernel_rfl) ⟨0, by rw [r13, h1, hb]; rfl⟩
  | true =>
  cases hk : knownW y with
  | false => exact ret_goes (Γ := Γ mx) hP hZ h13_ok (by kernel_rfl) ⟨0, by rw [r13, h1, hb, hk]; rfl⟩
  | true =>
  cases l with
  | nil => exact ret_goes (Γ := Γ mx) hP hZ h13_ok (by kernel_rfl) ⟨0, by rw [r13, h1, hb, hk]; rfl⟩
  | cons g r =>
    obtain ⟨n, hn⟩ := g13 (mx := mx) (g :: r) g1 x y z h2 (g :: r) [] 0 false g2 rfl rfl
    refine ret_goes (Γ := Γ mx) hP hZ h13_ok (by kernel_rfl) ⟨n, ?_⟩
    rw [r13, h1, hb, hk, show ((((g :: r).length : Nat) : Int) == 0) = false from beq_eq_false_iff_ne.2 (by simp; omega)]
    exact hn
def cntM (M : D → Bool) (b : Bool) : List D → Nat
  | [] => 0
  | g :: r => cntM M b r + (bif M g && (gDeny g == b) then 1 else 0)
theorem cntM_le (M : D → Bool) (b : Bool) : ∀ l : List D, cntM M b l ≤ l.length
  | [] => Nat.le_refl _
  | g :: r => by
    have := cntM_le M b r
    rw [cntM, List.length_cons]
    cases (M g && (gDeny g == b)) <;> simp <;> omega
theorem cnt_fin (M : D → Bool) : ∀ l : List D, (decide (cntM M false l > 0) && decide (cntM M true l = 0)) = (l.any M && !l.any fun g => M g && gDeny g)
  | [] => rfl
  | g :: r => by
    have ih := cnt_fin M r
    rw [cntM, cntM, List.any_cons, List.any_cons]
    cases hM : M g with
    | false => simpa using ih
    | true =>
      cases hd : gDeny g with
      | true => simp
      | false =>
        have h2 : decide (cntM M true r = 0) = !r.any fun g => M g && gDeny g := by
          clear ih
          induction r with
          | nil => rfl
          | cons a s ih =>
            rw [cntM, List.any_cons]
            cases M a <;> cases gDeny a <;> simp_all
        simp [h2]
theorem g14 (l : List D) (hl : l.length ≤ 1099511627776) (x y z : List UInt8) (hs : (short x && (short y && short z)) = true) : ∀ (rest pre : List D) (i : Int) (a b : Nat), rest.all isG = true → l = pre ++ rest → i = (pre.length : Int) → a ≤ pre.length → b ≤ pre.length → l ≠ [] →
    Goes (Γ mx) H14 14 7 ⟨[(0, .sl 29 .any l), (1, .s x), (2, .s y), (3, .s z), (10, .i .i64 (a : Int)), (11, .i .i64 (b : Int)), (12, .i .i64 i)], []⟩ (.tuple [.b (decide (a + cntM (meetsA x y z) false rest > 0) && decide (b + cntM (meetsA x y z) true rest = 0)), .i .i64 0], [])
  | [], pre, i, a, b, hg, he, hi, ha, hb, hne => by
    subst hi
    have hl0 : ((l.length : Int) == 0) = false := beq_eq_false_iff_ne.2 (by cases l with | nil => exact absurd rfl hne | cons c d => simp; omega)
    have e1 : (((b : Nat) : Int) == 0) = decide (b + cntM (meetsA x y z) true [] = 0) := by
      show decide (((b : Nat) : Int) = 0) = _
      rw [cntM]
      exact decide_eq_decide.2 (by omega)
    have e2 : decide (((a : Nat) : Int) > 0) = decide (a + cntM (meetsA x y z) false [] > 0) := by rw [cntM]; exact decide_eq_decide.2 (by omega)
    refine Goes.step ⟨0, ?_⟩
    rw [r14_7a, decide_eq_false (show ¬ (pre.length : Int) < (l.length : Int) by rw [he]; simp), cond_false, hl0, cond_false, e1, e2]
    cases decide (a + cntM (meetsA x y z) false [] > 0) <;> rfl
  | g :: r, pre, i, a, b, hg, he, hi, ha, hb, hne => by
    subst hi
    have hlen : l.length = pre.length + (r.length + 1) := by rw [he]; simp
    have hg' : isG g = true ∧ r.all isG = true := by simpa using hg
    obtain ⟨d, w, t, k, rfl⟩ := isG_eq hg'.1
    have hid : ∀ {R : Type} (K : D → Option R), idx l (pre.length : Int) K = K (.agg [.bool d, .str w, .str t, .str k]) := fun K => by rw [he]; exact idx_mid pre r _ K
    have hw : IntKind.wrap .i64 ((pre.length : Int) + 1) = (pre.length : Int) + 1 := wrapI (by omega) (by omega)
    have hwa : IntKind.wrap .i64 ((a : Int) + 1) = ((a + 1 : Nat) : Int) := by rw [wrapI (by omega) (by omega)]; omega
    have hwb : IntKind.wrap .i64 ((b : Int) + 1) = ((b + 1 : Nat) : Int) := by rw [wrapI (by omega) (by omega)]; omega
    have hf (a' b' : Nat) (h1 : a' ≤ a + 1) (h2 : b' ≤ b + 1) := g14 l hl x y z hs r (pre ++ [.agg [.bool d, .str w, .str t, .str k]]) ((pre.length : Int) + 1) a' b' hg'.2 (by rw [he]; simp) (by simp) (by simp; omega) (by simp; omega) hne
    have e2 : meetsA x y z (.agg [.bool d, .str w, .str t, .str k]) = meetsD (.agg [.str x, .str y, .str z]) (.agg [.bool d, .str w, .str t, .str k]) := rfl
    rw [cntM, cntM, e2, show gDeny (.agg [.bool d, .str w, .str t, .str k]) = d from rfl]
    cases hm : meetsD (.agg [.str x, .str y, .str z]) (.agg [.bool d, .str w, .str t, .str k]) with
    | false =>
      obtain ⟨n, hn⟩ := hf a b (by omega) (by omega)
      refine Goes.step ⟨n, ?_⟩
      rw [r14_7a, decide_eq_true (show (pre.length : Int) < (l.length : Int) by omega), cond_true, hid]
      simp only [dAgg, lCons, dBool, dStr, lNil, hg'.1, hs, Bool.and_self, cond_true, hm, cond_false, hw, Bool.false_and, Nat.add_zero]
      exact hn
    | true =>
      cases d with
      | true =>
        obtain ⟨n, hn⟩ := hf a (b + 1) (by omega) (by omega)
        refine Goes.step ⟨n, ?_⟩
        rw [r14_7a, decide_eq_true (show (pre.length : Int) < (l.length : Int) by omega), cond_true, hid]
        simp only [dAgg, lCons, dBool, dStr, lNil, hg'.1, hs, Bool.and_self, cond_true, hm, hid, hw, hwb]
        rw [show b + 1 + cntM (meetsA x y z) true r = b + (cntM (meetsA x y z) true r + 1) by omega] at hn
        exact hn
      | false =>
        obtain ⟨n, hn⟩ := hf (a + 1) b (by omega) (by omega)
        refine Goes.step ⟨n, ?_⟩
        rw [r14_7a, decide_eq_true (show (pre.length : Int) < (l.length : Int) by omega), cond_true, hid]
        simp only [dAgg, lCons, dBool, dStr, lNil, hg'.1, hs, Bool.and_self, cond_true, hm, hid, hw, hwa]
        rw [show a + 1 + cntM (meetsA x y z) false r = a + (cntM (meetsA x y z) false r + 1) by omega] at hn
        exact hn
theorem c14 (l : List D) (x y z : List UInt8) (h : alC l x y z = true) : RetX (Γ mx) 14 [.sl 29 .any l, .s x, .s y, .s z] [] (alA l x y z) [] := by
  obtain ⟨h1, h2⟩ := alC_eq h
  have h2 : (short x && (short y && short z)) = true := h2
  obtain ⟨g1, g2⟩ := allG_eq h1
  unfold alA alB alE
  cases hb : grB l with
  | false => exact ret_goes (Γ := Γ mx) hP hZ h14_ok (by kernel_rfl) ⟨0, by rw [r14, h1, hb]; rfl⟩
  | true =>
  cases hk : knownW y with
  | false => exact ret_goes (Γ := Γ mx) hP hZ h14_ok (by kernel_rfl) ⟨0, by rw [r14, h1, hb, hk]; rfl⟩
  | true =>
  cases l with
  | nil =>
    have g : Goes (Γ mx) H14 14 7 ⟨[(0, .sl 29 .any []), (1, .s x), (2, .s y), (3, .s z), (10, .i .i64 0), (11, .i .i64 0), (12, .i .i64 0)], []⟩ (.tuple [.b true, .i .i64 0], []) := Goes.step ⟨0, by rw [r14_7a]; rfl⟩
    obtain ⟨n, hn⟩ := g
    exact ret_goes (Γ := Γ mx) hP hZ h14_ok (by kernel_rfl) ⟨n, by rw [r14, h1, hb, hk]; exact hn⟩
  | cons g r =>
    obtain ⟨n, hn⟩ := g14 (mx := mx) (g :: r) g1 x y z h2 (g :: r) [] 0 0 0 g2 rfl rfl (Nat.le_refl _) (Nat.le_refl _) (by simp)
    rw [Nat.zero_add, Nat.zero_add, cnt_fin] at hn
    exact ret_goes (Γ := Γ mx) hP hZ h14_ok (by kernel_rfl) ⟨n, by rw [r14, h1, hb, hk]; exact hn⟩
theorem h3_ok : CallsOK (Γ mx) H3 := specs_ok (.cons (sp0_ok c12) (.cons (spL3_ok c13) (.cons (spL3_ok c14) (.cons (sp1_ok c15) (.cons (sp1_ok c16) .nil)))))
theorem law3 (l : List D) (x y z : List UInt8) (h : alC l x y z = true) : RetX (Γ mx) 3 [.sl 29 .any l, .s x, .s y, .s z] [] (.b true) [] := by
  refine ret_goes (Γ := Γ mx) hP hZ h3_ok (by kernel_rfl) ⟨0, ?_⟩
  rw [r3, h]
  generalize decide ((IntKind.wrap .i64 (((List.length x : Int)) + ((List.length z : Int)))) > 3000) = b
  cases b with
  | true => rfl
  | false => simp
end Go.Proofs.YtjbemleloffafaaDoor.V

/- Grants as text: contracts. -/
namespace Go.Proofs.YtjbemleloffafaaDoor.V
open Go
set_option maxRecDepth 100000
set_option linter.unusedVariables false
set_option linter.unusedSimpArgs false
variable {mx : Int}
theorem short_le {p : List UInt8} (h : short p = true) : p.length ≤ 4194304 := of_decide_eq_true h
theorem short_of {p : List UInt8} (h : p.length ≤ 4194304) : short p = true := decide_eq_true h
theorem c57 (p : List UInt8) (h : short p = true) : RetX (Γ mx) 57 [.s p] [] (.s (escV p)) [] := esc_ret (by have := short_le h; omega)
theorem c58 (p : List UInt8) (h : short p = true) : RetX (Γ mx) 58 [.s p] [] (.s (escV p)) [] := refEsc_ret (by have := short_le h; omega)
theorem c60 (p : List UInt8) (h : short p = true) : RetX (Γ mx) 60 [.s p] [] (.tuple [.s (unS p), .i .i64 (unE p)]) [] := un_ret (by have := short_le h; omega)
theorem c49 (p : List UInt8) (h : short p = true) : RetX (Γ mx) 49 [.s p] [] (.tuple [.s (unS p), .i .i64 (unE p)]) [] := refUn_ret (by have := short_le h; omega)
theorem h44_ok : CallsOK (Γ mx) (H44v short escV) := specs_ok (.cons (sp1_ok c57) .nil)
theorem c44 (p : List UInt8) (h : short p = true) : RetX (Γ mx) 44 [.s p] [] (.s (wordV p)) [] := by
  refine ret_goes (Γ := Γ mx) hP hZ h44_ok (by kernel_rfl) ⟨0, ?_⟩
  rw [r44, h, wordV]
  cases (p == []) <;> rfl
theorem h45_ok : CallsOK (Γ mx) (H45v short escV) := specs_ok (.cons (sp1_ok c58) .nil)
theorem c45 (p : List UInt8) (h : short p = true) : RetX (Γ mx) 45 [.s p] [] (.s (wordV p)) [] := by
  refine ret_goes (Γ := Γ mx) hP hZ h45_ok (by kernel_rfl) ⟨0, ?_⟩
  rw [r45, h, wordV]
  cases (p == []) <;> rfl
theorem h47_ok : CallsOK (Γ mx) (H47v short unS unE) := specs_ok (.cons (sp1_ok c60) .nil)
theorem c47 (p : List UInt8) (h : short p = true) : RetX (Γ mx) 47 [.s p] [] (.tuple [.s (uwS p), .b (uwB p)]) [] := by
  refine ret_goes (Γ := Γ mx) hP hZ h47_ok (by kernel_rfl) ⟨0, ?_⟩
  rw [r47, h, uwS, uwB]
  cases (p == [37]) with
  | true => rfl
  | false => cases (unE p == 0) <;> rfl
theorem spJ_ok : SpecOK (Γ mx) ⟨43, dat (spJ joinC joinV)⟩ := dat_ok fun args r hr => by
  unfold spJ at hr
  split at hr
  · simp only [Option.some.injEq, Prod.mk.injEq] at hr
    obtain ⟨h1, rfl⟩ := hr
    exact join_ret _ _ _ h1
  · exact absurd hr (by simp)
theorem spSp_ok : SpecOK (Γ mx) ⟨46, dat (spSp short (splitC 32))⟩ := dat_ok fun args r hr => by
  unfold spSp at hr
  split at hr
  · simp only [Option.some.injEq, Prod.mk.injEq] at hr
    obtain ⟨h1, rfl⟩ := hr
    exact split_ret 32 _ (by have := short_le h1; unfold s32; exact decide_eq_true (by omega))
  · exact absurd hr (by simp)
/-! ### the document's Words -/
def catHd (cur : List UInt8) : List (List UInt8) → List (List UInt8)
  | [] => [cur]
  | p :: q => (cur ++ p) :: q
theorem catHd_nil {L : List (List UInt8)} (h : L ≠ []) : catHd [] L = L := by
  cases L with
  | nil => exact absurd rfl h
  | cons p q => rfl
theorem catHd_cons (cur : List UInt8) (c : UInt8) {L : List (List UInt8)} (h : L ≠ []) : catHd cur (consHd c L) = catHd (cur ++ [c]) L := by
  cases L with
  | nil => exact absurd rfl h
  | cons p q => simp [catHd, consHd]
theorem lget_end {R : Type} (l : List D) (x : D) (K : D → Option R) : lGet (l ++ [x]) l.length K = K x := by unfold lGet; simp
theorem is32 (c : UInt8) : ((c.toNat : Int) == 32) = decide (c = 32) := by
  by_cases h : c = 32
  · subst h; rfl
  · rw [decide_eq_false h]
    have : c.toNat ≠ 32 := fun e => h (UInt8.toNat_inj.1 (by rw [e]; rfl))
    simp; omega
theorem room16b {n : Nat} (h : n ≤ 10000000) : roomB n 16 = true := by
  unfold roomB
  simp only [Bool.and_eq_true, decide_eq_true_eq]
  exact ⟨rfl, by omega⟩
theorem g48 (s : List UInt8) (hs : s.length ≤ 4194304) : ∀ (rest pre : List UInt8) (i : Int) (done : List D) (cur : List UInt8), s = pre ++ rest → i = (pre.length : Int) → done.length + cur.length ≤ pre.length →
    Goes (Γ mx) (runS []) 48 3 ⟨[(0, .s s), (3, .ref 9 0), (4, .i .i64 i)], [some (.arr 9 (done ++ [D.str cur]) false)]⟩ (.sl 9 .any (done ++ (catHd cur (spl 32 rest)).map D.str), [])
  | [], pre, i, done, cur, he, hi, hb => by
    subst hi
    refine Goes.step ⟨0, ?_⟩
    rw [r48_3a, decide_eq_false (show ¬ (pre.length : Int) < (s.length : Int) by rw [he]; simp)]
    simp [spl, catHd]
  | c :: r, pre, i, done, cur, he, hi, hb => by
    subst hi
    have hlen : s.length = pre.length + (r.length + 1) := by rw [he]; simp
    have hid : ∀ {R : Type} (K : UInt8 → Option R), idx s (pre.length : Int) K = K c := fun K => by rw [he]; exact idx_mid pre r _ K
    have hw : IntKind.wrap .i64 ((pre.length : Int) + 1) = (pre.length : Int) + 1 := wrapI (by omega) (by omega)
    have hcut : List.take ((Int.toNat ((pre.length : Int) + 1)) - (Int.toNat (pre.length : Int))) (List.drop (Int.toNat (pre.length : Int)) s) = [c] := by rw [he]; exact cut_one pre r c
    have hsp : spl 32 (c :: r) = if c = 32 then [] :: spl 32 r else consHd c (spl 32 r) := rfl
    by_cases hc : c = 32
    · obtain ⟨n, hn⟩ := g48 s hs r (pre ++ [c]) ((pre.length : Int) + 1) (done ++ [D.str cur]) [] (by rw [he]; simp) (by simp) (by simp; omega)
      refine Goes.step ⟨n, ?_⟩
      rw [r48_3a, decide_eq_true (show (pre.length : Int) < (s.length : Int) by omega), cond_true, hid, is32, decide_eq_true hc, cond_true, room16b (by simp; omega), cond_true, hw, hn, hsp, if_pos hc, catHd_nil (spl_ne 32 r)]
      simp [catHd]
    · obtain ⟨n, hn⟩ := g48 s hs r (pre ++ [c]) ((pre.length : Int) + 1) done (cur ++ [c]) (by rw [he]; simp) (by simp) (by simp; omega)
      refine Goes.step ⟨n, ?_⟩
      have hL : ((done ++ [D.str cur]).length : Int) = (done.length : Int) + 1 := by simp
      have hw2 : IntKind.wrap .i64 (((done ++ [D.str cur]).length : Int) - 1) = (done.length : Int) := by rw [hL, show (done.length : Int) + 1 - 1 = (done.length : Int) by omega]; exact wrapI (by omega) (by omega)
      rw [r48_3a, decide_eq_true (show (pre.length : Int) < (s.length : Int) by omega), cond_true, hid, is32, decide_eq_false hc, cond_false]
      simp only [hw2, hw, hcut]
      rw [decide_eq_true (show (0 : Int) ≤ (done.length : Int) by omega), decide_eq_true (show (done.length : Int) < ((done ++ [D.str cur]).length : Int) by omega), decide_eq_true (show (0 : Int) ≤ (pre.length : Int) + 1 by omega), decide_eq_true (show (pre.length : Int) + 1 ≤ (s.length : Int) by omega), decide_eq_true (show (0 : Int) ≤ (pre.length : Int) by omega), decide_eq_true (show (pre.length : Int) ≤ (Int.toNat ((pre.length : Int) + 1) : Int) by omega)]
      have hm : decide (cur.length + [c].length ≤ maxStr) = true := fits_max (show cur.length + [c].length ≤ 70368744177664 by simp; omega)
      simp only [hm, Bool.and_self, cond_true, Int.toNat_natCast, lget_end, dStr, List.set_append_right _ _ (Nat.le_refl _), Nat.sub_self, List.set_cons_zero]
      rw [hn, hsp, if_neg hc, catHd_cons cur c (spl_ne 32 r)]
theorem c48 (p : List UInt8) (h : short p = true) : RetX (Γ mx) 48 [.s p] [] (.sl 9 .any (splitC 32 p)) [] := by
  obtain ⟨n, hn⟩ := g48 (mx := mx) p (short_le h) p [] 0 [] [] rfl rfl (Nat.le_refl _)
  rw [catHd_nil (spl_ne 32 p), ← split_spl] at hn
  exact ret_goes (Γ := Γ mx) hP hZ none_ok (by kernel_rfl) ⟨n, by rw [r48]; exact hn⟩
/-! ### Text -/
theorem pcB_len {p : List UInt8} (h : pcB p = true) : p.length ≤ 200 := by
  unfold pcB at h
  simp only [Bool.and_eq_true, decide_eq_true_eq] at h
  exact h.1
theorem word_len (p : List UInt8) : (wordV p).length ≤ 3 * p.length + 1 := by
  unfold wordV
  cases (p == []) with
  | true => simp
  | false => have := esc_len p; simp; omega
theorem gr1 {b : Bool} {w t k : List UInt8} (h : grB [.agg [.bool b, .str w, .str t, .str k]] = true) : w.length ≤ 200 ∧ t.length ≤ 200 ∧ k.length ≤ 200 := by
  have h : (true && ((pcB w && (pcB t && pcB k)) && true)) = true := h
  simp only [Bool.true_and, Bool.and_true, Bool.and_eq_true] at h
  exact ⟨pcB_len h.1, pcB_len h.2.1, pcB_len h.2.2⟩
theorem allG1 (b : Bool) (w t k : List UInt8) : allG [.agg [.bool b, .str w, .str t, .str k]] = true := rfl
theorem h18_ok : CallsOK (Γ mx) (H18v allG grB joinC joinV wordV short) := specs_ok (.cons (spL1_ok c38) (.cons (sp1_ok c44) (.cons spJ_ok .nil)))
theorem c18 (g : D) (h : isG g = true) : RetX (Γ mx) 18 [.d 29 g] [] (.tuple [.s (textS g), .i .i64 (textE g)]) [] := by
  obtain ⟨b, w, t, k, rfl⟩ := isG_eq h
  refine ret_goes (Γ := Γ mx) hP hZ h18_ok (by kernel_rfl) ⟨0, ?_⟩
  have e : textS (.agg [.bool b, .str w, .str t, .str k]) = bif grB [.agg [.bool b, .str w, .str t, .str k]] then joinV [.str (firstW b), .str (wordV w), .str (wordV t), .str (wordV k)] [32] else [] := rfl
  rw [r18, allG1, cond_true, e, textE]
  cases hg : grB [.agg [.bool b, .str w, .str t, .str k]] with
  | false => rfl
  | true =>
    obtain ⟨h1, h2, h3⟩ := gr1 hg
    have hj : ∀ a : List UInt8, a.length ≤ 5 → joinC [.str a, .str (wordV w), .str (wordV t), .str (wordV k)] [32] = true := fun a ha => by
      unfold joinC
      rw [join4]
      have := word_len w; have := word_len t; have := word_len k
      simp only [Bool.and_eq_true, decide_eq_true_eq]
      refine ⟨⟨rfl, by simp⟩, ?_⟩
      simp only [List.length_append, List.length_cons]
      omega
    rw [short_of (show w.length ≤ 4194304 by omega), short_of (show t.length ≤ 4194304 by omega), short_of (show k.length ≤ 4194304 by omega)]
    rw [hj [100, 101, 110, 121] (by decide), hj [97, 108, 108, 111, 119] (by decide)]
    cases b <;> rfl
theorem h19_ok : CallsOK (Γ mx) (H19v allG grB wordV short) := specs_ok (.cons (spL1_ok c17) (.cons (sp1_ok c45) .nil))
theorem c19 (g : D) (h : isG g = true) : RetX (Γ mx) 19 [.d 29 g] [] (.tuple [.s (textS g), .i .i64 (textE g)]) [] := by
  obtain ⟨b, w, t, k, rfl⟩ := isG_eq h
  refine ret_goes (Γ := Γ mx) hP hZ h19_ok (by kernel_rfl) ⟨0, ?_⟩
  have e : textS (.agg [.bool b, .str w, .str t, .str k]) = bif grB [.agg [.bool b, .str w, .str t, .str k]] then joinV [.str (firstW b), .str (wordV w), .str (wordV t), .str (wordV k)] [32] else [] := rfl
  rw [r19, allG1, cond_true, e, textE]
  cases hg : grB [.agg [.bool b, .str w, .str t, .str k]] with
  | false => rfl
  | true =>
    obtain ⟨h1, h2, h3⟩ := gr1 hg
    have := word_len w; have := word_len t; have := word_len k
    rw [join4, short_of (show w.length ≤ 4194304 by omega), short_of (show t.length ≤ 4194304 by omega), short_of (show k.length ≤ 4194304 by omega)]
    simp only [cond_true, Bool.not_true, cond_false]
    have m : ∀ {n : Nat}, n ≤ 70368744177664 → decide (n ≤ maxStr) = true := fun h => fits_max h
    rw [m (by simp; omega), m (by simp; omega), m (by simp; omega), m (by simp; omega), m (by simp; omega), m (by simp; omega), m (by simp; omega), m (by simp; omega), m (by simp; omega), m (by simp; omega)]
    cases b <;> simp [firstW, denyW, allowW]
/-! ### Parse -/
def PA (p : List UInt8) : AV := .tuple [.d 29 (D.agg [D.bool (pa0 p), D.str (pa1 p), D.str (pa2 p), D.str (pa3 p)]), .i .i64 (paE p)]
def zA (e : Int) : AV := .tuple [.d 29 (D.agg [D.bool false, D.str [], D.str [], D.str []]), .i .i64 e]
theorem PA_none {s : List UInt8} (h : paL s = none) : PA s = zA 5 := by unfold PA zA pa0 pa1 pa2 pa3 paQ paE; rw [h]
theorem PA_form {s : List UInt8} {q : Bool × List UInt8 × List UInt8 × List UInt8} (h : paL s = some q) (hg : grB [gD q] = false) : PA s = zA 2 := by unfold PA zA pa0 pa1 pa2 pa3 paQ paE; rw [h]; simp only [hg, cond_false]
theorem PA_ok {s : List UInt8} {q : Bool × List UInt8 × List UInt8 × List UInt8} (h : paL s = some q) (hg : grB [gD q] = true) : PA s = .tuple [.d 29 (gD q), .i .i64 0] := by unfold PA pa0 pa1 pa2 pa3 paQ paE; rw [h]; simp only [hg, cond_true]; rfl
abbrev H20 : Handle := H20v allG grB short (splitC 32) uwB uwS
theorem h20_ok : CallsOK (Γ mx) H20 := specs_ok (.cons spSp_ok (.cons (sp1_ok c47) (.cons (spL1_ok c38) .nil)))
def st20 (L : List D) (n : Int) (x y z : List UInt8) : St := ⟨[(2, .ptr 0 [] 29), (4, .sl 9 .ex L), (5, .ptr 1 [] 74), (27, .i .i64 n)], [some (.box 29 (.d 29 (D.agg [D.bool false, D.str ([] : List UInt8), D.str ([] : List UInt8), D.str ([] : List UInt8)]))), some (.box 74 (.d 74 (D.agg [D.str x, D.str y, D.str z])))]⟩
theorem len4 {α : Type} {L : List α} (h : ∀ a b c d, L ≠ [a, b, c, d]) : L.length ≠ 4 := fun hl => by
  match L, hl with
  | [a, b, c, d], _ => exact h a b c d rfl
theorem paL_ne {s : List UInt8} (h : ∀ a b c d, spl 32 s ≠ [a, b, c, d]) : paL s = none := by
  unfold paL
  split
  · rename_i a b c d hs; exact absurd hs (h a b c d)
  · rfl
theorem paL_4 {s a b c d : List UInt8} (h : spl 32 s = [a, b, c, d]) : paL s = bif (a == allowW || a == denyW) && (uwB b && (uwB c && uwB d)) then some (a == denyW, uwS b, uwS c, uwS d) else none := by
  unfold paL; rw [h]
theorem split4 {s a b c d : List UInt8} (h : spl 32 s = [a, b, c, d]) : splitC 32 s = [D.str a, D.str b, D.str c, D.str d] := by
  unfold splitC; rw [split_spl, h]; rfl
theorem g20 (a b c d : List UInt8) (hb : short b = true) (hc : short c = true) (hd : short d = true) : Goes (Γ mx) H20 20 6 (st20 [D.str a, D.str b, D.str c, D.str d] 0 [] [] [])
    (bif uwB b && (uwB c && uwB d) then (bif grB [gD (a == denyW, uwS b, uwS c, uwS d)] then .tuple [.d 29 (gD (a == denyW, uwS b, uwS c, uwS d)), .i .i64 0] else zA 2) else zA 5, []) := by
  have s3 (lab : Lab) : evL (Γ mx) H20 lab 20 6 (st20 [D.str a, D.str b, D.str c, D.str d] 3 (uwS b) (uwS c) (uwS d)) = bif grB [gD (a == denyW, uwS b, uwS c, uwS d)] then some (.tuple [.d 29 (gD (a == denyW, uwS b, uwS c, uwS d)), .i .i64 0], []) else some (zA 2, []) := by
    unfold st20
    rw [r20_6a]
    show (bif allG [gD (a == denyW, uwS b, uwS c, uwS d)] then (bif !(grB [gD (a == denyW, uwS b, uwS c, uwS d)]) then _ else _) else none) = _
    rw [show allG [gD (a == denyW, uwS b, uwS c, uwS d)] = true from rfl]
    cases grB [gD (a == denyW, uwS b, uwS c, uwS d)] <;> rfl
  have s2 (lab : Lab) : evL (Γ mx) H20 lab 20 6 (st20 [D.str a, D.str b, D.str c, D.str d] 2 (uwS b) (uwS c) []) = bif short d then (bif !(uwB d) then some (zA 5, []) else lab (todoAt (Γ mx) 20 6) (st20 [D.str a, D.str b, D.str c, D.str d] 3 (uwS b) (uwS c) (uwS d))) else none := by
    unfold st20; rw [r20_6a]; rfl
  have s1 (lab : Lab) : evL (Γ mx) H20 lab 20 6 (st20 [D.str a, D.str b, D.str c, D.str d] 1 (uwS b) [] []) = bif short c then (bif !(uwB c) then some (zA 5, []) else lab (todoAt (Γ mx) 20 6) (st20 [D.str a, D.str b, D.str c, D.str d] 2 (uwS b) (uwS c) [])) else none := by
    unfold st20; rw [r20_6a]; rfl
  have s0 (lab : Lab) : evL (Γ mx) H20 lab 20 6 (st20 [D.str a, D.str b, D.str c, D.str d] 0 [] [] []) = bif short b then (bif !(uwB b) then some (zA 5, []) else lab (todoAt (Γ mx) 20 6) (st20 [D.str a, D.str b, D.str c, D.str d] 1 (uwS b) [] [])) else none := by
    unfold st20; rw [r20_6a]; rfl
  generalize hG : grB [gD (a == denyW, uwS b, uwS c, uwS d)] = gg at s3 ⊢
  generalize gD (a == denyW, uwS b, uwS c, uwS d) = gq at s3 ⊢
  have g3 : Goes (Γ mx) H20 20 6 (st20 [D.str a, D.str b, D.str c, D.str d] 3 (uwS b) (uwS c) (uwS d)) (bif gg then .tuple [.d 29 gq, .i .i64 0] else zA 2, []) := Goes.step ⟨0, by rw [s3]; cases gg <;> rfl⟩
  have g2 : Goes (Γ mx) H20 20 6 (st20 [D.str a, D.str b, D.str c, D.str d] 2 (uwS b) (uwS c) []) (bif uwB d then (bif gg then .tuple [.d 29 gq, .i .i64 0] else zA 2) else zA 5, []) := by
    obtain ⟨n, hn⟩ := g3
    refine Goes.step ⟨n, ?_⟩
    rw [s2, hd, cond_true]
    cases uwB d with
    | false => rfl
    | true => exact hn
  have g1 : Goes (Γ mx) H20 20 6 (st20 [D.str a, D.str b, D.str c, D.str d] 1 (uwS b) [] []) (bif uwB c && uwB d then (bif gg then .tuple [.d 29 gq, .i .i64 0] else zA 2) else zA 5, []) := by
    obtain ⟨n, hn⟩ := g2
    refine Goes.step ⟨n, ?_⟩
    rw [s1, hc, cond_true]
    cases uwB c with
    | false => rfl
    | true => exact hn
  obtain ⟨n, hn⟩ := g1
  refine Goes.step ⟨n, ?_⟩
  rw [s0, hb, cond_true]
  cases uwB b with
  | false => rfl
  | true => exact hn
theorem c20 (s : List UInt8) (h : short s = true) : RetX (Γ mx) 20 [.s s] [] (PA s) [] := by
  by_cases h4 : ∃ a b c d, spl 32 s = [a, b, c, d]
  · obtain ⟨a, b, c, d, hs⟩ := h4
    have hl := spl_len 32 s
    rw [hs] at hl
    have hsl := short_le h
    have hb : short b = true := short_of (Nat.le_trans (hl b (by simp)) hsl)
    have hc : short c = true := short_of (Nat.le_trans (hl c (by simp)) hsl)
    have hd : short d = true := short_of (Nat.le_trans (hl d (by simp)) hsl)
    have hp := paL_4 hs
    obtain ⟨n, hn⟩ := g20 (mx := mx) a b c d hb hc hd
    have e : evF (Γ mx) H20 (L (Γ mx) H20 20 n) 20 [.s s] [] = bif a == allowW || a == denyW then L (Γ mx) H20 20 n (todoAt (Γ mx) 20 6) (st20 [D.str a, D.str b, D.str c, D.str d] 0 [] [] []) else some (zA 5, []) := by
      rw [r20, h, split4 hs]
      show (bif !(a == allowW) then (bif !(a == denyW) then _ else _) else _) = _
      cases (a == allowW) <;> cases (a == denyW) <;> rfl
    refine ret_goes (Γ := Γ mx) hP hZ h20_ok (by kernel_rfl) ⟨n, ?_⟩
    rw [e, hn]
    cases hf : (a == allowW || a == denyW) with
    | false => rw [hf] at hp; rw [PA_none hp]; rfl
    | true =>
    rw [hf] at hp
    cases hu : (uwB b && (uwB c && uwB d)) with
    | false => rw [hu] at hp; rw [PA_none hp]; rfl
    | true =>
    rw [hu] at hp
    cases hg : grB [gD (a == denyW, uwS b, uwS c, uwS d)] with
    | false => rw [PA_form hp hg]; rfl
    | true => rw [PA_ok hp hg]; rfl
  · have h4 : ∀ a b c d, spl 32 s ≠ [a, b, c, d] := fun a b c d e => h4 ⟨a, b, c, d, e⟩
    refine ret_goes (Γ := Γ mx) hP hZ h20_ok (by kernel_rfl) ⟨0, ?_⟩
    have hl : (((splitC 32 s).length : Int) != 4) = true := by
      have := len4 h4
      unfold splitC
      rw [split_spl, List.length_map]
      simp; omega
    rw [r20, h, hl, PA_none (paL_ne h4)]; rfl
abbrev H21 : Handle := H21v allG grB short (splitC 32) unS unE
theorem h21_ok : CallsOK (Γ mx) H21 := specs_ok (.cons (sp1_ok c48) (.cons (sp1_ok c49) (.cons (spL1_ok c17) .nil)))
def st21 (L : List D) (n : Int) (v x y z : List UInt8) : St := ⟨[(2, .ptr 0 [] 29), (4, .sl 9 .any L), (5, .ptr 1 [] 77), (6, .i .i64 n)], [some (.box 29 (.d 29 (D.agg [D.bool false, D.str ([] : List UInt8), D.str ([] : List UInt8), D.str ([] : List UInt8)]))), some (.box 77 (.d 77 (D.agg [D.str v, D.str x, D.str y, D.str z])))]⟩
/-- one word -/
theorem un_uw (b : List UInt8) {R : Type} (A : List UInt8 → R) (Z : R) : (bif b == [37] then A [] else (bif (unE b) != 0 then Z else (bif (unS b) == [] then Z else A (unS b)))) = bif uwB b then A (uwS b) else Z := by
  unfold uwB uwS
  cases (b == [37]) with
  | true => rfl
  | false =>
    rw [show ((unE b) != 0) = !(unE b == 0) from rfl]
    cases (unE b == 0) <;> cases (unS b == []) <;> rfl
theorem g21 (a b c d : List UInt8) (hb : short b = true) (hc : short c = true) (hd : short d = true) : Goes (Γ mx) H21 21 6 (st21 [D.str a, D.str b, D.str c, D.str d] 1 [] [] [] [])
    (bif uwB b && (uwB c && uwB d) then (bif grB [gD (a == denyW, uwS b, uwS c, uwS d)] then .tuple [.d 29 (gD (a == denyW, uwS b, uwS c, uwS d)), .i .i64 0] else zA 2) else zA 5, []) := by
  have s4 (lab : Lab) : evL (Γ mx) H21 lab 21 6 (st21 [D.str a, D.str b, D.str c, D.str d] 4 [] (uwS b) (uwS c) (uwS d)) = bif grB [gD (a == denyW, uwS b, uwS c, uwS d)] then some (.tuple [.d 29 (gD (a == denyW, uwS b, uwS c, uwS d)), .i .i64 0], []) else some (zA 2, []) := by
    unfold st21
    rw [r21_6a]
    show (bif allG [gD (a == denyW, uwS b, uwS c, uwS d)] then (bif !(grB [gD (a == denyW, uwS b, uwS c, uwS d)]) then _ else _) else none) = _
    rw [show allG [gD (a == denyW, uwS b, uwS c, uwS d)] = true from rfl]
    cases grB [gD (a == denyW, uwS b, uwS c, uwS d)] <;> rfl
  have s3 (lab : Lab) : evL (Γ mx) H21 lab 21 6 (st21 [D.str a, D.str b, D.str c, D.str d] 3 [] (uwS b) (uwS c) []) = bif uwB d then lab (todoAt (Γ mx) 21 6) (st21 [D.str a, D.str b, D.str c, D.str d] 4 [] (uwS b) (uwS c) (uwS d)) else some (zA 5, []) := by
    rw [← un_uw d (fun z => lab (todoAt (Γ mx) 21 6) (st21 [D.str a, D.str b, D.str c, D.str d] 4 [] (uwS b) (uwS c) z))]
    unfold st21; rw [r21_6a]
    show (bif d == [37] then _ else bif short d then _ else none) = _
    rw [hd]; rfl
  have s2 (lab : Lab) : evL (Γ mx) H21 lab 21 6 (st21 [D.str a, D.str b, D.str c, D.str d] 2 [] (uwS b) [] []) = bif uwB c then lab (todoAt (Γ mx) 21 6) (st21 [D.str a, D.str b, D.str c, D.str d] 3 [] (uwS b) (uwS c) []) else some (zA 5, []) := by
    rw [← un_uw c (fun z => lab (todoAt (Γ mx) 21 6) (st21 [D.str a, D.str b, D.str c, D.str d] 3 [] (uwS b) z []))]
    unfold st21; rw [r21_6a]
    show (bif c == [37] then _ else bif short c then _ else none) = _
    rw [hc]; rfl
  have s1 (lab : Lab) : evL (Γ mx) H21 lab 21 6 (st21 [D.str a, D.str b, D.str c, D.str d] 1 [] [] [] []) = bif uwB b then lab (todoAt (Γ mx) 21 6) (st21 [D.str a, D.str b, D.str c, D.str d] 2 [] (uwS b) [] []) else some (zA 5, []) := by
    rw [← un_uw b (fun z => lab (todoAt (Γ mx) 21 6) (st21 [D.str a, D.str b, D.str c, D.str d] 2 [] z [] []))]
    unfold st21; rw [r21_6a]
    show (bif b == [37] then _ else bif short b then _ else none) = _
    rw [hb]; rfl
  generalize hG : grB [gD (a == denyW, uwS b, uwS c, uwS d)] = gg at s4 ⊢
  generalize gD (a == denyW, uwS b, uwS c, uwS d) = gq at s4 ⊢
  have g4 : Goes (Γ mx) H21 21 6 (st21 [D.str a, D.str b, D.str c, D.str d] 4 [] (uwS b) (uwS c) (uwS d)) (bif gg then .tuple [.d 29 gq, .i .i64 0] else zA 2, []) := Goes.step ⟨0, by rw [s4]; cases gg <;> rfl⟩
  have g3 : Goes (Γ mx) H21 21 6 (st21 [D.str a, D.str b, D.str c, D.str d] 3 [] (uwS b) (uwS c) []) (bif uwB d then (bif gg then .tuple [.d 29 gq, .i .i64 0] else zA 2) else zA 5, []) := by
    obtain ⟨n, hn⟩ := g4
    refine Goes.step ⟨n, ?_⟩
    rw [s3]
    cases uwB d with
    | false => rfl
    | true => exact hn
  have g2 : Goes (Γ mx) H21 21 6 (st21 [D.str a, D.str b, D.str c, D.str d] 2 [] (uwS b) [] []) (bif uwB c && uwB d then (bif gg then .tuple [.d 29 gq, .i .i64 0] else zA 2) else zA 5, []) := by
    obtain ⟨n, hn⟩ := g3
    refine Goes.step ⟨n, ?_⟩
    rw [s2]
    cases uwB c with
    | false => rfl
    | true => exact hn
  obtain ⟨n, hn⟩ := g2
  refine Goes.step ⟨n, ?_⟩
  rw [s1]
  cases uwB b with
  | false => rfl
  | true => exact hn
theorem c21 (s : List UInt8) (h : short s = true) : RetX (Γ mx) 21 [.s s] [] (PA s) [] := by
  by_cases h4 : ∃ a b c d, spl 32 s = [a, b, c, d]
  · obtain ⟨a, b, c, d, hs⟩ := h4
    have hl := spl_len 32 s
    rw [hs] at hl
    have hsl := short_le h
    have hb : short b = true := short_of (Nat.le_trans (hl b (by simp)) hsl)
    have hc : short c = true := short_of (Nat.le_trans (hl c (by simp)) hsl)
    have hd : short d = true := short_of (Nat.le_trans (hl d (by simp)) hsl)
    have hp := paL_4 hs
    obtain ⟨n, hn⟩ := g21 (mx := mx) a b c d hb hc hd
    have e : evF (Γ mx) H21 (L (Γ mx) H21 21 n) 21 [.s s] [] = bif a == allowW || a == denyW then L (Γ mx) H21 21 n (todoAt (Γ mx) 21 6) (st21 [D.str a, D.str b, D.str c, D.str d] 1 [] [] [] []) else some (zA 5, []) := by
      rw [r21, h, split4 hs]
      show (bif !(a == allowW) then (bif !(a == denyW) then _ else _) else _) = _
      cases (a == allowW) <;> cases (a == denyW) <;> rfl
    refine ret_goes (Γ := Γ mx) hP hZ h21_ok (by kernel_rfl) ⟨n, ?_⟩
    rw [e, hn]
    cases hf : (a == allowW || a == denyW) with
    | false => rw [hf] at hp; rw [PA_none hp]; rfl
    | true =>
    rw [hf] at hp
    cases hu : (uwB b && (uwB c && uwB d)) with
    | false => rw [hu] at hp; rw [PA_none hp]; rfl
    | true =>
    rw [hu] at hp
    cases hg : grB [gD (a == denyW, uwS b, uwS c, uwS d)] with
    | false => rw [PA_form hp hg]; rfl
    | true => rw [PA_ok hp hg]; rfl
  · have h4 : ∀ a b c d, spl 32 s ≠ [a, b, c, d] := fun a b c d e => h4 ⟨a, b, c, d, e⟩
    refine ret_goes (Γ := Γ mx) hP hZ h21_ok (by kernel_rfl) ⟨0, ?_⟩
    have hl : (((splitC 32 s).length : Int) != 4) = true := by
      have := len4 h4
      unfold splitC
      rw [split_spl, List.length_map]
      simp; omega
    rw [r21, h, hl, PA_none (paL_ne h4)]; rfl
/-! ### the laws -/
theorem h5_ok : CallsOK (Γ mx) (H5v short textS textE pa0 pa1 pa2 pa3 paE isG) := specs_ok (.cons (sp0_ok c12) (.cons (spD1_ok c18) (.cons (spD1_ok c19) (.cons (sp1_ok c20) (.cons (sp1_ok c21) .nil)))))
theorem law5 (b : Bool) (w t k s : List UInt8) (h : short s = true) : RetX (Γ mx) 5 [.d 29 (D.agg [D.bool b, D.str w, D.str t, D.str k]), .s s] [] (.b true) [] := by
  refine ret_goes (Γ := Γ mx) hP hZ h5_ok (by kernel_rfl) ⟨0, ?_⟩
  rw [r5, h, show isG (D.agg [D.bool b, D.str w, D.str t, D.str k]) = true from rfl]
  have e : ∀ (p : Bool) (q r t : List UInt8), eqD (D.agg [.bool p, .str q, .str r, .str t]) (D.agg [.bool p, .str q, .str r, .str t]) = true := fun p q r t => by
    simp [eqD, eqDs]
  simp [e]
theorem h6_ok : CallsOK (Γ mx) (H6v short textS textE pa0 pa1 pa2 pa3 paE isG) := specs_ok (.cons (sp0_ok c12) (.cons (spD1_ok c18) (.cons (sp1_ok c20) .nil)))
theorem text_len (b : Bool) (w t k : List UInt8) : (textS (D.agg [D.bool b, D.str w, D.str t, D.str k])).length ≤ 4194304 := by
  have e : textS (.agg [.bool b, .str w, .str t, .str k]) = bif grB [.agg [.bool b, .str w, .str t, .str k]] then joinV [.str (firstW b), .str (wordV w), .str (wordV t), .str (wordV k)] [32] else [] := rfl
  rw [e]
  cases hg : grB [.agg [.bool b, .str w, .str t, .str k]] with
  | false => simp
  | true =>
    obtain ⟨h1, h2, h3⟩ := gr1 hg
    have := word_len w; have := word_len t; have := word_len k
    have : (firstW b).length ≤ 5 := by cases b <;> decide
    rw [join4, cond_true]
    simp only [List.length_append, List.length_cons]; omega
theorem law6 (b : Bool) (w t k s : List UInt8) (h : short s = true) : RetX (Γ mx) 6 [.d 29 (D.agg [D.bool b, D.str w, D.str t, D.str k]), .s s] [] (.b true) [] := by
  refine ret_goes (Γ := Γ mx) hP hZ h6_ok (by kernel_rfl) ⟨0, ?_⟩
  have eG : D.agg [D.bool b, D.str w, D.str t, D.str k] = gD (b, w, t, k) := rfl
  rw [r6, h, show isG (D.agg [D.bool b, D.str w, D.str t, D.str k]) = true from rfl, short_of (text_len b w t k), show isG (D.agg [D.bool (pa0 s), D.str (pa1 s), D.str (pa2 s), D.str (pa3 s)]) = true from rfl, gD_eq, gD_eq, eG]
  have e : ∀ q, eqD (gD q) (gD q) = true := fun q => by
    simp [gD, eqD, eqDs]
  -- what is read is written so
  have hback : paE s = 0 → (textE (gD (paQ s)) == 0) = true ∧ (textS (gD (paQ s)) == s) = true := fun h0 => by
    unfold paE at h0
    unfold paQ
    cases hp : paL s with
    | none => rw [hp] at h0; simp at h0
    | some q =>
      rw [hp] at h0
      simp only at h0 ⊢
      cases hg : grB [gD q] with
      | false => rw [hg] at h0; simp at h0
      | true =>
        rw [cond_true]
        refine ⟨by unfold textE; rw [hg]; rfl, ?_⟩
        rw [text_pa hp hg]; exact beq_self_eq_true s
  have hB : (bif paE s != 0 then some (AV.b true, ([] : Objs)) else bif textE (gD (paQ s)) == 0 then some (AV.b (textS (gD (paQ s)) == s), []) else some (AV.b false, [])) = some (AV.b true, []) := by
    by_cases h0 : paE s = 0
    · obtain ⟨h1, h2⟩ := hback h0
      rw [h0, h1, h2]; rfl
    · rw [show (paE s != 0) = true by simpa using h0]; rfl
  rw [hB]
  have hT : textE (gD (b, w, t, k)) = bif grB [gD (b, w, t, k)] then 0 else 2 := rfl
  rw [hT]
  cases hg : grB [gD (b, w, t, k)] with
  | false => rfl
  | true =>
    have hp := pa_text hg
    have hE : paE (textS (gD (b, w, t, k))) = 0 := by unfold paE; rw [hp]; simp only [hg, cond_true]
    have hQ : paQ (textS (gD (b, w, t, k))) = (b, w, t, k) := by unfold paQ; rw [hp]; simp only [hg, cond_true]
    rw [hE, hQ, e]; rfl
end Go.Proofs.YtjbemleloffafaaDoor.V

/- utf8.ValidString, as the library's contract has it. The layings are written by program. -/
namespace Go.Proofs
set_option maxRecDepth 100000
def Lc.lays196_ren : Go.Shelf.Ren := ⟨fun | 196 => 116 | 259 => 139 | n => n, fun | 0 => 0 | 3 => 3 | 4 => 4 | 5 => 5 | 9 => 9 | 12 => 12 | 46 => 121 | 53 => 55 | 119 => 177 | 138 => 179 | 139 => 180 | n => n, fun | 3 => 1 | 4 => 2 | n => n⟩
theorem Lc.lays196 : Go.Proofs.Lays.n196 Tryd.prog Lc.lays196_ren :=
  { mixed := by kernel_rfl, f196 := Tryd.func116.trans (congrArg some (by kernel_rfl)), f259 := Tryd.func139.trans (congrArg some (by kernel_rfl)), t0 := Tryd.underlying0, a0 := Tryd.isAgg0, z0 := Tryd.sizeOf0, v0 := Tryd.zeroValue0, t3 := Tryd.underlying3, a3 := Tryd.isAgg3, z3 := Tryd.sizeOf3, v3 := Tryd.zeroValue3, t4 := Tryd.underlying4, a4 := Tryd.isAgg4, z4 := Tryd.sizeOf4, v4 := Tryd.zeroValue4, t5 := Tryd.underlying5, a5 := Tryd.isAgg5, z5 := Tryd.sizeOf5, v5 := Tryd.zeroValue5, t9 := Tryd.underlying9, a9 := Tryd.isAgg9, z9 := Tryd.sizeOf9, v9 := Tryd.zeroValue9, t12 := Tryd.underlying12, a12 := Tryd.isAgg12, z12 := Tryd.sizeOf12, v12 := Tryd.zeroValue12, t46 := Tryd.underlying121, a46 := Tryd.isAgg121, z46 := Tryd.sizeOf121, v46 := Tryd.zeroValue121, t53 := Tryd.underlying55, a53 := Tryd.isAgg55, z53 := Tryd.sizeOf55, v53 := Tryd.zeroValue55, t119 := Tryd.underlying177, a119 := Tryd.isAgg177, z119 := Tryd.sizeOf177, t138 := Tryd.underlying179, a138 := Tryd.isAgg179, z138 := Tryd.sizeOf179, v138 := Tryd.zeroValue179, t139 := Tryd.underlying180, a139 := Tryd.isAgg180, z139 := Tryd.sizeOf180, v139 := Tryd.zeroValue180, g3 := by kernel_rfl, g4 := by kernel_rfl }

end Go.Proofs
namespace Go.Proofs.YtjbemleloffafaaDoor.V
open Go Go.RowKit
set_option maxRecDepth 100000
set_option linter.unusedVariables false
variable {mx : Int}
theorem tabs {w : World} {S : Addr → Prop} (h : GlobOK (Γ mx) w S) : Lib.Utf8Tabs 1 2 w := by
  obtain ⟨v0, c0, r0, _⟩ := h.data 1 177 tFirst rfl
  obtain ⟨v1, c1, r1, _⟩ := h.data 2 180 tAcc rfl
  have e0 := flatD_ok _ _ _ (by kernel_rfl) r0
  have e1 := flatD_ok _ _ _ (by kernel_rfl) r1
  subst e0 e1
  have f0 : flatD tFirst = (List.range 256).map fun c => Value.int .u8 (Lib.firstT c) := by kernel_rfl
  have f1 : flatD tAcc = (List.range 32).map fun c => Value.int .u8 (if c % 2 = 0 then Lib.accLo (c / 2) else Lib.accHi (c / 2)) := by kernel_rfl
  refine ⟨fun c hc => ?_, fun i hi => ⟨?_, ?_⟩⟩
  · have := (c0 c _ (by rw [f0, List.getElem?_map, List.getElem?_range hc]; rfl)).1
    simpa using this
  · have := (c1 (2 * i) _ (by rw [f1, List.getElem?_map, List.getElem?_range (by omega)]; rfl)).1
    simpa using this
  · have := (c1 (2 * i + 1) _ (by rw [f1, List.getElem?_map, List.getElem?_range (by omega)]; rfl)).1
    rw [Nat.zero_add] at this
    rw [this]
    show some (Value.int .u8 (if (2 * i + 1) % 2 = 0 then Lib.accLo ((2 * i + 1) / 2) else Lib.accHi ((2 * i + 1) / 2))) = _
    rw [if_neg (by omega), show (2 * i + 1) / 2 = i by omega]
theorem valid_ret (s : List UInt8) (h : s32 s = true) : RetX (Γ mx) 116 [.s s] [] (.b (Lib.validD s)) [] := by
  refine ret_shelf (by kernel_rfl) fun w S vals hG ha => ?_
  simp only [RepAs, RepA] at ha
  obtain ⟨v, _, rfl, ⟨s, rfl, rfl⟩, rfl⟩ := ha
  have e1 : s.size = s.data.toList.length := by simp
  simp only [s32, decide_eq_true_eq] at h
  refine (Any.utf8_ValidString Lc.lays196 s w (by omega) (tabs hG)).mono fun e w' ⟨he, hw⟩ => ⟨_, he, hw, ?_⟩
  simp only [RepA]
end Go.Proofs.YtjbemleloffafaaDoor.V

/- Clean texts: what the machine over values makes of the functions. Written by program. -/
namespace Go.Proofs.YtjbemleloffafaaDoor.V
open Go
set_option maxRecDepth 100000
set_option linter.unusedVariables false
set_option linter.unusedSimpArgs false
variable {mx : Int}
def Hval : Handle := runS [⟨116, dat (sp1 s32 fun s => .b (Lib.validD s))⟩]
theorem r82 (lab : Lab) (s : List UInt8) : evF (Γ mx) Hval lab 82 [.s s] [] =
  lab (todoAt (Γ mx) 82 2) ⟨[(0, .s s), (6, .sl 5 .any (bytesD s)), (7, .i .i64 (((bytesD s).length : Int))), (8, .i .i64 0)], []⟩ := by kernel_rfl
theorem r82_2a (lab : Lab) (s1 : List UInt8) (l2 : List D) (n3 : Int) (n4 : Int) : evL (Γ mx) Hval lab 82 2 ⟨[(0, .s s1), (6, .sl 5 .any l2), (7, .i .i64 n3), (8, .i .i64 n4)], []⟩ =
  bif decide (n4 < n3) then (idx l2 n4 fun y5 => dInt .u8 y5 fun n6 => bif decide (n6 < 32) then (some (.b false, [])) else (bif n6 == 127 then (some (.b false, [])) else (lab (todoAt (Γ mx) 82 2) ⟨[(0, .s s1), (6, .sl 5 .any l2), (7, .i .i64 n3), (8, .i .i64 (IntKind.wrap .i64 (n4 + 1)))], []⟩))) else (bif s32 s1 then (some (.b (Lib.validD s1), [])) else none) := by kernel_rfl
theorem r55 (call : Handle) (lab : Lab) (s : List UInt8) : evF (Γ mx) call lab 55 [.s s] [] =
  lab (todoAt (Γ mx) 55 2) ⟨[(0, .s s), (3, .i .i64 0)], []⟩ := by kernel_rfl
theorem r55_2a (call : Handle) (lab : Lab) (s1 : List UInt8) (n2 : Int) : evL (Γ mx) call lab 55 2 ⟨[(0, .s s1), (3, .i .i64 n2)], []⟩ =
  bif decide (n2 < ((List.length s1 : Int))) then (idx s1 n2 fun c3 => bif decide ((IntKind.wrap .i64 ((c3.toNat : Int))) < 128) then (bif decide ((IntKind.wrap .i64 ((c3.toNat : Int))) < 32) then (some (.b false, [])) else (bif (IntKind.wrap .i64 ((c3.toNat : Int))) == 127 then (some (.b false, [])) else (lab (todoAt (Γ mx) 55 16) ⟨[(0, .s s1), (3, .i .i64 n2), (5, .i .i64 1), (6, .i .i64 (IntKind.wrap .i64 ((c3.toNat : Int)))), (7, .i .i64 0), (8, .i .i64 1)], []⟩))) else (bif decide ((IntKind.wrap .i64 ((c3.toNat : Int))) ≥ 192) then (bif decide ((IntKind.wrap .i64 ((c3.toNat : Int))) < 224) then (bif decide ((IntKind.wrap .i64 ((c3.toNat : Int))) < 32) then (some (.b false, [])) else (bif (IntKind.wrap .i64 ((c3.toNat : Int))) == 127 then (some (.b false, [])) else (lab (todoAt (Γ mx) 55 16) ⟨[(0, .s s1), (3, .i .i64 n2), (5, .i .i64 2), (6, .i .i64 (IntKind.wrap .i64 ((IntKind.wrap .i64 ((c3.toNat : Int))) - 192))), (7, .i .i64 128), (8, .i .i64 1)], []⟩))) else (bif decide ((IntKind.wrap .i64 ((c3.toNat : Int))) ≥ 224) then (bif decide ((IntKind.wrap .i64 ((c3.toNat : Int))) < 240) then (bif decide ((IntKind.wrap .i64 ((c3.toNat : Int))) < 32) then (some (.b false, [])) else (bif (IntKind.wrap .i64 ((c3.toNat : Int))) == 127 then (some (.b false, [])) else (lab (todoAt (Γ mx) 55 16) ⟨[(0, .s s1), (3, .i .i64 n2), (5, .i .i64 3), (6, .i .i64 (IntKind.wrap .i64 ((IntKind.wrap .i64 ((c3.toNat : Int))) - 224))), (7, .i .i64 2048), (8, .i .i64 1)], []⟩))) else (bif decide ((IntKind.wrap .i64 ((c3.toNat : Int))) ≥ 240) then (bif decide ((IntKind.wrap .i64 ((c3.toNat : Int))) < 248) then (bif decide ((IntKind.wrap .i64 ((c3.toNat : Int))) < 32) then (some (.b false, [])) else (bif (IntKind.wrap .i64 ((c3.toNat : Int))) == 127 then (some (.b false, [])) else (lab (todoAt (Γ mx) 55 16) ⟨[(0, .s s1), (3, .i .i64 n2), (5, .i .i64 4), (6, .i .i64 (IntKind.wrap .i64 ((IntKind.wrap .i64 ((c3.toNat : Int))) - 240))), (7, .i .i64 65536), (8, .i .i64 1)], []⟩))) else (some (.b false, []))) else (some (.b false, [])))) else (bif decide ((IntKind.wrap .i64 ((c3.toNat : Int))) ≥ 240) then (bif decide ((IntKind.wrap .i64 ((c3.toNat : Int))) < 248) then (bif decide ((IntKind.wrap .i64 ((c3.toNat : Int))) < 32) then (some (.b false, [])) else (bif (IntKind.wrap .i64 ((c3.toNat : Int))) == 127 then (some (.b false, [])) else (lab (todoAt (Γ mx) 55 16) ⟨[(0, .s s1), (3, .i .i64 n2), (5, .i .i64 4), (6, .i .i64 (IntKind.wrap .i64 ((IntKind.wrap .i64 ((c3.toNat : Int))) - 240))), (7, .i .i64 65536), (8, .i .i64 1)], []⟩))) else (some (.b false, []))) else (some (.b false, []))))) else (bif decide ((IntKind.wrap .i64 ((c3.toNat : Int))) ≥ 224) then (bif decide ((IntKind.wrap .i64 ((c3.toNat : Int))) < 240) then (bif decide ((IntKind.wrap .i64 ((c3.toNat : Int))) < 32) then (some (.b false, [])) else (bif (IntKind.wrap .i64 ((c3.toNat : Int))) == 127 then (some (.b false, [])) else (lab (todoAt (Γ mx) 55 16) ⟨[(0, .s s1), (3, .i .i64 n2), (5, .i .i64 3), (6, .i .i64 (IntKind.wrap .i64 ((IntKind.wrap .i64 ((c3.toNat : Int))) - 224))), (7, .i .i64 2048), (8, .i .i64 1)], []⟩))) else (bif decide ((IntKind.wrap .i64 ((c3.toNat : Int))) ≥ 240) then (bif decide ((IntKind.wrap .i64 ((c3.toNat : Int))) < 248) then (bif decide ((IntKind.wrap .i64 ((c3.toNat : Int))) < 32) then (some (.b false, [])) else (bif (IntKind.wrap .i64 ((c3.toNat : Int))) == 127 then (some (.b false, [])) else (lab (todoAt (Γ mx) 55 16) ⟨[(0, .s s1), (3, .i .i64 n2), (5, .i .i64 4), (6, .i .i64 (IntKind.wrap .i64 ((IntKind.wrap .i64 ((c3.toNat : Int))) - 240))), (7, .i .i64 65536), (8, .i .i64 1)], []⟩))) else (some (.b false, []))) else (some (.b false, [])))) else (bif decide ((IntKind.wrap .i64 ((c3.toNat : Int))) ≥ 240) then (bif decide ((IntKind.wrap .i64 ((c3.toNat : Int))) < 248) then (bif decide ((IntKind.wrap .i64 ((c3.toNat : Int))) < 32) then (some (.b false, [])) else (bif (IntKind.wrap .i64 ((c3.toNat : Int))) == 127 then (some (.b false, [])) else (lab (todoAt (Γ mx) 55 16) ⟨[(0, .s s1), (3, .i .i64 n2), (5, .i .i64 4), (6, .i .i64 (IntKind.wrap .i64 ((IntKind.wrap .i64 ((c3.toNat : Int))) - 240))), (7, .i .i64 65536), (8, .i .i64 1)], []⟩))) else (some (.b false, []))) else (some (.b false, [])))))) else (some (.b true, [])) := by kernel_rfl
theorem r55_16a (call : Handle) (lab : Lab) (s1 : List UInt8) (n2 : Int) (n3 : Int) (n4 : Int) (n5 : Int) (n6 : Int) : evL (Γ mx) call lab 55 16 ⟨[(0, .s s1), (3, .i .i64 n2), (5, .i .i64 n3), (6, .i .i64 n4), (7, .i .i64 n5), (8, .i .i64 n6)], []⟩ =
  bif decide (n6 < n3) then (bif decide ((IntKind.wrap .i64 (n2 + n6)) ≥ ((List.length s1 : Int))) then (some (.b false, [])) else (idx s1 (IntKind.wrap .i64 (n2 + n6)) fun c7 => bif decide (((c7.toNat : Int)) < 128) then (some (.b false, [])) else (idx s1 (IntKind.wrap .i64 (n2 + n6)) fun c8 => bif decide (((c8.toNat : Int)) ≥ 192) then (some (.b false, [])) else (idx s1 (IntKind.wrap .i64 (n2 + n6)) fun c9 => lab (todoAt (Γ mx) 55 16) ⟨[(0, .s s1), (3, .i .i64 n2), (5, .i .i64 n3), (6, .i .i64 (IntKind.wrap .i64 ((IntKind.wrap .i64 ((IntKind.wrap .i64 (n4 * 64)) + (IntKind.wrap .i64 ((c9.toNat : Int))))) - 128))), (7, .i .i64 n5), (8, .i .i64 (IntKind.wrap .i64 (n6 + 1)))], []⟩)))) else (bif decide (n4 < n5) then (some (.b false, [])) else (bif decide (n4 > 1114111) then (some (.b false, [])) else (bif decide (n4 ≥ 55296) then (bif decide (n4 ≤ 57343) then (some (.b false, [])) else (lab (todoAt (Γ mx) 55 2) ⟨[(0, .s s1), (3, .i .i64 (IntKind.wrap .i64 (n2 + n3)))], []⟩)) else (lab (todoAt (Γ mx) 55 2) ⟨[(0, .s s1), (3, .i .i64 (IntKind.wrap .i64 (n2 + n3)))], []⟩)))) := by kernel_rfl
end Go.Proofs.YtjbemleloffafaaDoor.V

/- Clean texts: what the machine over values comes to at label.Clean, ref.Clean. -/
namespace Go.Proofs.YtjbemleloffafaaDoor.V
open Go
set_option maxRecDepth 100000
set_option linter.unusedVariables false
set_option linter.unusedSimpArgs false
variable {mx : Int}
theorem hval_ok : CallsOK (Γ mx) Hval := specs_ok (.cons (sp1_ok fun s h => valid_ret s h) .nil)
/-! ### label.Clean -/
theorem clean_goes (s : List UInt8) (hs : s.length ≤ 1073741824) : ∀ (rest pre : List UInt8) (i : Int), s = pre ++ rest → i = (pre.length : Int) →
    Goes (Γ mx) Hval 82 2 ⟨[(0, .s s), (6, .sl 5 .any (bytesD s)), (7, .i .i64 (((bytesD s).length : Int))), (8, .i .i64 i)], []⟩ (.b (rest.all cleanB && Lib.validD s), [])
  | [], pre, i, he, hi => by
    subst hi
    refine Goes.step ⟨0, ?_⟩
    rw [r82_2a]
    have d1 : decide ((pre.length : Int) < ((bytesD s).length : Int)) = false := decide_eq_false (by rw [bytesD_len, he]; simp)
    have h32 : s32 s = true := by simpa [s32] using (by omega)
    rw [d1, h32]
    rfl
  | c :: r, pre, i, he, hi => by
    subst hi
    have hpl : pre.length + (r.length + 1) = s.length := by rw [he]; simp
    obtain ⟨k, hk⟩ := clean_goes s hs r (pre ++ [c]) ((pre.length : Int) + 1) (by rw [he]; simp) (by simp)
    refine Goes.step ⟨k, ?_⟩
    rw [r82_2a]
    have d1 : decide ((pre.length : Int) < ((bytesD s).length : Int)) = true := decide_eq_true (by rw [bytesD_len]; omega)
    have hw : IntKind.wrap .i64 ((pre.length : Int) + 1) = (pre.length : Int) + 1 := wrapI (by omega) (by omega)
    have hid : ∀ {R : Type} (K : D → Option R), idx (bytesD s) (pre.length : Int) K = K (.int .u8 c.toNat) := fun K => by rw [he]; exact idx_bytes _ _ _ K
    have hdi : ∀ {R : Type} (n : Int) (K : Int → Option R), dInt .u8 (.int .u8 n) K = K n := fun n K => by rfl
    simp only [d1, cond_true, hid, hdi, hw, List.all_cons]
    by_cases h1 : (c.toNat : Int) < 32
    · have : cleanB c = false := by simp [cleanB] <;> omega
      rw [decide_eq_true h1, this]; rfl
    · rw [decide_eq_false h1]
      by_cases h2 : c.toNat = 127
      · have : cleanB c = false := by simp [cleanB, h2]
        have e : ((c.toNat : Int) == 127) = true := by rw [h2]; rfl
        rw [e, this]; rfl
      · have : cleanB c = true := by simp [cleanB, h2] <;> omega
        have e : ((c.toNat : Int) == 127) = false := by simp <;> omega
        rw [e, this]
        exact hk
theorem clean_ret (s : List UInt8) (hs : s.length ≤ 1073741824) : RetX (Γ mx) 82 [.s s] [] (.b (cleanV s)) [] := by
  obtain ⟨k, hk⟩ := clean_goes s hs s [] 0 rfl rfl
  refine ret_goes hP hZ hval_ok (by kernel_rfl) ⟨k, ?_⟩
  rw [r82]; exact hk

/-! ### ref.Clean -/
def innB (least : Nat) (B : Bool) : Option Nat → Bool
  | none => false
  | some y => if fineX least y = true then B else false
theorem inn_goes (call : Handle) (s pre : List UInt8) (n least : Nat) (B : Bool) (hs : s.length ≤ 1099511627776) (hn : n ≤ 4) (hl : least ≤ 65536) :
    ∀ (m x : Nat) (q r : List UInt8), s = pre ++ (q ++ r) → q.length + m = n → (x + 2) * 64 ^ m ≤ 1099511627776 →
    (∀ y, inn m x (r) = some y → fineX least y = true → Goes (Γ mx) call 55 2 ⟨[(0, .s s), (3, .i .i64 (IntKind.wrap .i64 ((pre.length : Int) + (n : Int))))], []⟩ (.b B, [])) →
    Goes (Γ mx) call 55 16 ⟨[(0, .s s), (3, .i .i64 (pre.length : Int)), (5, .i .i64 (n : Int)), (6, .i .i64 (x : Int)), (7, .i .i64 (least : Int)), (8, .i .i64 (q.length : Int))], []⟩ (.b (innB least B (inn m x r)), [])
  | 0, x, q, r, he, hq, hx, hB => by
    have d0 : decide ((q.length : Int) < (n : Int)) = false := decide_eq_false (by omega)
    simp only [inn, innB]
    by_cases h1 : x < least
    · refine Goes.step ⟨0, ?_⟩
      rw [r55_16a, d0]
      have : fineX least x = false := by simp [fineX] <;> omega
      rw [decide_eq_true (show (x : Int) < (least : Int) by omega), this]; rfl
    · by_cases h2 : x > 1114111
      · refine Goes.step ⟨0, ?_⟩
        rw [r55_16a, d0]
        have : fineX least x = false := by simp [fineX] <;> omega
        rw [decide_eq_false (show ¬ (x : Int) < (least : Int) by omega), decide_eq_true (show (x : Int) > 1114111 by omega), this]; rfl
      · by_cases h3 : x ≥ 55296
        · by_cases h4 : x ≤ 57343
          · refine Goes.step ⟨0, ?_⟩
            rw [r55_16a, d0]
            have : fineX least x = false := by simp [fineX] <;> omega
            rw [decide_eq_false (show ¬ (x : Int) < (least : Int) by omega), decide_eq_false (show ¬ (x : Int) > 1114111 by omega), decide_eq_true (show (x : Int) ≥ 55296 by omega), decide_eq_true (show (x : Int) ≤ 57343 by omega), this]; rfl
          · have hf : fineX least x = true := by simp [fineX] <;> omega
            obtain ⟨k, hk⟩ := hB x rfl hf
            refine Goes.step ⟨k, ?_⟩
            rw [r55_16a, d0]
            rw [decide_eq_false (show ¬ (x : Int) < (least : Int) by omega), decide_eq_false (show ¬ (x : Int) > 1114111 by omega), decide_eq_true (show (x : Int) ≥ 55296 by omega), decide_eq_false (show ¬ (x : Int) ≤ 57343 by omega), if_pos hf]
            exact hk
        · have hf : fineX least x = true := by simp [fineX] <;> omega
          obtain ⟨k, hk⟩ := hB x rfl hf
          refine Goes.step ⟨k, ?_⟩
          rw [r55_16a, d0]
          rw [decide_eq_false (show ¬ (x : Int) < (least : Int) by omega), decide_eq_false (show ¬ (x : Int) > 1114111 by omega), decide_eq_false (show ¬ (x : Int) ≥ 55296 by omega), if_pos hf]
          exact hk
  | m + 1, x, q, [], he, hq, hx, hB => by
    have hsl : s.length = pre.length + q.length := by rw [he]; simp
    refine Goes.step ⟨0, ?_⟩
    rw [r55_16a, wrapI (n := (pre.length : Int) + (q.length : Int)) (by omega) (by omega)]
    rw [decide_eq_true (show (q.length : Int) < (n : Int) by omega), decide_eq_true (show (pre.length : Int) + (q.length : Int) ≥ (s.length : Int) by omega)]
    rfl
  | m + 1, x, q, b :: r, he, hq, hx, hB => by
    have hsl : s.length = pre.length + q.length + (r.length + 1) := by rw [he]; simp <;> omega
    have hb := b.toNat_lt
    have hpow : (x + 2) * 64 ^ (m + 1) = (x + 2) * 64 * 64 ^ m := by rw [Nat.pow_succ, Nat.mul_comm (64 ^ m) 64, Nat.mul_assoc]
    have hp1 : 1 ≤ 64 ^ m := Nat.pow_pos (by decide)
    have hx1 : (x + 2) * 64 ≤ 1099511627776 := Nat.le_trans (Nat.le_mul_of_pos_right _ hp1) (by rw [← hpow]; exact hx)
    have hwi : IntKind.wrap .i64 ((pre.length : Int) + (q.length : Int)) = ((pre ++ q).length : Int) := by rw [wrapI (by omega) (by omega)]; simp
    have hid : ∀ {R : Type} (K : UInt8 → Option R), idx s ((pre ++ q).length : Int) K = K b := fun K => by rw [he, ← List.append_assoc]; exact idx_mid _ _ _ K
    have d0 : decide ((q.length : Int) < (n : Int)) = true := decide_eq_true (by omega)
    have d1 : decide (((pre ++ q).length : Int) ≥ (s.length : Int)) = false := decide_eq_false (by simp <;> omega)
    by_cases hk1 : 128 ≤ b.toNat ∧ b.toNat < 192
    · have e1 : decide ((b.toNat : Int) < 128) = false := decide_eq_false (by omega)
      have e2 : decide ((b.toNat : Int) ≥ 192) = false := decide_eq_false (by omega)
      obtain ⟨k, hk⟩ := inn_goes call s pre n least B hs hn hl m (x * 64 + b.toNat - 128) (q ++ [b]) r (by rw [he]; simp) (by simp <;> omega)
        (Nat.le_trans (Nat.mul_le_mul_right _ (show x * 64 + b.toNat - 128 + 2 ≤ (x + 2) * 64 by omega)) (by rw [← hpow]; exact hx))
        (fun y hy hf => hB y (by rw [inn, if_pos hk1]; exact hy) hf)
      refine Goes.step ⟨k, ?_⟩
      have hw1 : IntKind.wrap .i64 ((x : Int) * 64) = (x : Int) * 64 := wrapI (by omega) (by omega)
      have hw2 : IntKind.wrap .i64 ((b.toNat : Int)) = (b.toNat : Int) := wrapI (by omega) (by omega)
      have hw3 : IntKind.wrap .i64 ((x : Int) * 64 + (b.toNat : Int)) = (x : Int) * 64 + (b.toNat : Int) := wrapI (by omega) (by omega)
      have hw4 : IntKind.wrap .i64 ((x : Int) * 64 + (b.toNat : Int) - 128) = ((x * 64 + b.toNat - 128 : Nat) : Int) := by rw [wrapI (by omega) (by omega)]; omega
      have hw5 : IntKind.wrap .i64 ((q.length : Int) + 1) = ((q ++ [b]).length : Int) := by rw [wrapI (by omega) (by omega)]; simp
      rw [r55_16a]
      simp only [d0, cond_true, hwi, d1, cond_false, hid, e1, e2, hw1, hw2, hw3, hw4, hw5]
      rw [hk, inn, if_pos hk1]
    · refine Goes.step ⟨0, ?_⟩
      rw [r55_16a]
      simp only [d0, cond_true, hwi, d1, cond_false, hid, inn, if_neg hk1, innB]
      by_cases e1 : (b.toNat : Int) < 128
      · rw [decide_eq_true e1]; rfl
      · rw [decide_eq_false e1, decide_eq_true (show (b.toNat : Int) ≥ 192 by omega)]; rfl
theorem refClean_goes (call : Handle) (s : List UInt8) (hs : s.length ≤ 1073741824) : ∀ (f : Nat) (rest pre : List UInt8) (i : Int), rest.length ≤ f → s = pre ++ rest → i = (pre.length : Int) →
    Goes (Γ mx) call 55 2 ⟨[(0, .s s), (3, .i .i64 i)], []⟩ (.b (cleanGo f rest), [])
  | f, [], pre, i, hf, he, hi => by
    subst hi
    refine Goes.step ⟨0, ?_⟩
    rw [r55_2a]
    have d1 : decide ((pre.length : Int) < (s.length : Int)) = false := decide_eq_false (by rw [he]; simp)
    have : cleanGo f [] = true := by cases f <;> rfl
    rw [d1, this]; rfl
  | 0, c :: r, pre, i, hf, he, hi => absurd hf (by simp)
  | f + 1, c :: r, pre, i, hf, he, hi => by
    subst hi
    have hsl : s.length = pre.length + (r.length + 1) := by rw [he]; simp
    have hcl := c.toNat_lt
    have d1 : decide ((pre.length : Int) < (s.length : Int)) = true := decide_eq_true (by omega)
    have hid : ∀ {R : Type} (K : UInt8 → Option R), idx s (pre.length : Int) K = K c := fun K => by rw [he]; exact idx_mid _ _ _ K
    have hwc : IntKind.wrap .i64 ((c.toNat : Int)) = (c.toNat : Int) := wrapI (by omega) (by omega)
    have go : ∀ (m x least : Nat), m ≤ 3 → x ≤ 256 → least ≤ 65536 → lead c = some (m, x, least) → cleanB c = true →
        Goes (Γ mx) call 55 16 ⟨[(0, .s s), (3, .i .i64 (pre.length : Int)), (5, .i .i64 ((m + 1 : Nat) : Int)), (6, .i .i64 (x : Int)), (7, .i .i64 (least : Int)), (8, .i .i64 1)], []⟩ (.b (cleanGo (f + 1) (c :: r)), []) := fun m x least hm hx hl hld hcb => by
      have hB : innB least (cleanGo f (r.drop m)) (inn m x r) = cleanGo (f + 1) (c :: r) := by
        simp only [cleanGo, hld, hcb, innB]
        cases inn m x r <;> simp
      rw [← hB]
      refine inn_goes call s pre (m + 1) least _ (by omega) (by omega) hl m x [c] r (by rw [he]; simp) (by simp <;> omega) ?_ fun y hy hfine => ?_
      · refine Nat.le_trans (Nat.mul_le_mul (show x + 2 ≤ 258 by omega) (Nat.pow_le_pow_right (by omega) hm)) (by decide)
      · have hlen : ∀ (m x : Nat) (r : List UInt8) (y : Nat), inn m x r = some y → m ≤ r.length := fun m => by
          induction m with
          | zero => intro x r y h; omega
          | succ m ih =>
            intro x r y h
            cases r with
            | nil => simp [inn] at h
            | cons b r =>
              rw [inn] at h
              split at h
              · have := ih _ _ _ h; simp <;> omega
              · exact absurd h (by simp)
        have hml := hlen m x r y hy
        have hw : IntKind.wrap .i64 ((pre.length : Int) + ((m + 1 : Nat) : Int)) = ((pre ++ c :: r.take m).length : Int) := by
          rw [wrapI (by omega) (by omega)]; simp only [List.length_append, List.length_cons, List.length_take]; omega
        rw [hw]
        exact refClean_goes call s hs f (r.drop m) (pre ++ c :: r.take m) _ (by simp at hf ⊢; omega) (by rw [he]; simp) rfl
    by_cases h1 : c.toNat < 128
    · have hld : lead c = some (0, c.toNat, 0) := by simp [lead, h1]
      by_cases hcb : cleanB c = true
      · obtain ⟨k, hk⟩ := go 0 c.toNat 0 (by omega) (by omega) (by omega) hld hcb
        refine Goes.step ⟨k, ?_⟩
        simp only [cleanB, Bool.and_eq_true, decide_eq_true_eq] at hcb
        have e : ((c.toNat : Int) == 127) = false := by simp <;> omega
        rw [r55_2a]
        simp only [d1, cond_true, hid, hwc, decide_eq_true (show (c.toNat : Int) < 128 by omega), decide_eq_false (show ¬ (c.toNat : Int) < 32 by omega), e, cond_false]
        exact hk
      · have hcb' : cleanB c = false := Bool.eq_false_iff.2 hcb
        refine Goes.step ⟨0, ?_⟩
        rw [r55_2a]
        simp only [d1, cond_true, hid, hwc, decide_eq_true (show (c.toNat : Int) < 128 by omega), cleanGo, hld, hcb', if_true]
        by_cases e1 : (c.toNat : Int) < 32
        · rw [decide_eq_true e1]; rfl
        · rw [decide_eq_false e1]
          have : c.toNat = 127 := by
            simp only [cleanB, Bool.and_eq_true, decide_eq_true_eq] at hcb
            omega
          have e : ((c.toNat : Int) == 127) = true := by rw [this]; rfl
          rw [e]; rfl
    · have hcb : cleanB c = true := by simp [cleanB] <;> omega
      have e32 : decide ((c.toNat : Int) < 32) = false := decide_eq_false (by omega)
      have e127 : ((c.toNat : Int) == 127) = false := by simp <;> omega
      have e128 : decide ((c.toNat : Int) < 128) = false := decide_eq_false (by omega)
      by_cases h2 : 192 ≤ c.toNat ∧ c.toNat < 224
      · have hld : lead c = some (1, c.toNat - 192, 128) := by simp only [lead, if_neg h1, if_pos h2]
        obtain ⟨k, hk⟩ := go 1 (c.toNat - 192) 128 (by omega) (by omega) (by omega) hld hcb
        refine Goes.step ⟨k, ?_⟩
        have hw : IntKind.wrap .i64 ((c.toNat : Int) - 192) = ((c.toNat - 192 : Nat) : Int) := by rw [wrapI (by omega) (by omega)]; omega
        rw [r55_2a]
        simp only [d1, cond_true, hid, hwc, e128, cond_false, decide_eq_true (show (c.toNat : Int) ≥ 192 by omega), decide_eq_true (show (c.toNat : Int) < 224 by omega), e32, e127, hw]
        exact hk
      · by_cases h3 : 224 ≤ c.toNat ∧ c.toNat < 240
        · have hld : lead c = some (2, c.toNat - 224, 2048) := by simp only [lead, if_neg h1, if_neg h2, if_pos h3]
          obtain ⟨k, hk⟩ := go 2 (c.toNat - 224) 2048 (by omega) (by omega) (by omega) hld hcb
          refine Goes.step ⟨k, ?_⟩
          have hw : IntKind.wrap .i64 ((c.toNat : Int) - 224) = ((c.toNat - 224 : Nat) : Int) := by rw [wrapI (by omega) (by omega)]; omega
          rw [r55_2a]
          simp only [d1, cond_true, hid, hwc, e128, cond_false, decide_eq_true (show (c.toNat : Int) ≥ 192 by omega), decide_eq_false (show ¬ (c.toNat : Int) < 224 by omega), decide_eq_true (show (c.toNat : Int) ≥ 224 by omega), decide_eq_true (show (c.toNat : Int) < 240 by omega), e32, e127, hw]
          exact hk
        · by_cases h4 : 240 ≤ c.toNat ∧ c.toNat < 248
          · have hld : lead c = some (3, c.toNat - 240, 65536) := by simp only [lead, if_neg h1, if_neg h2, if_neg h3, if_pos h4]
            obtain ⟨k, hk⟩ := go 3 (c.toNat - 240) 65536 (by omega) (by omega) (by omega) hld hcb
            refine Goes.step ⟨k, ?_⟩
            have hw : IntKind.wrap .i64 ((c.toNat : Int) - 240) = ((c.toNat - 240 : Nat) : Int) := by rw [wrapI (by omega) (by omega)]; omega
            rw [r55_2a]
            simp only [d1, cond_true, hid, hwc, e128, cond_false, decide_eq_true (show (c.toNat : Int) ≥ 192 by omega), decide_eq_false (show ¬ (c.toNat : Int) < 224 by omega), decide_eq_true (show (c.toNat : Int) ≥ 224 by omega), decide_eq_false (show ¬ (c.toNat : Int) < 240 by omega), decide_eq_true (show (c.toNat : Int) ≥ 240 by omega), decide_eq_true (show (c.toNat : Int) < 248 by omega), e32, e127, hw]
            exact hk
          · have hld : lead c = none := by simp only [lead, if_neg h1, if_neg h2, if_neg h3, if_neg h4]
            refine Goes.step ⟨0, ?_⟩
            rw [r55_2a]
            simp only [d1, cond_true, hid, hwc, e128, cond_false, cleanGo, hld]
            by_cases g1 : (c.toNat : Int) ≥ 192
            · rw [decide_eq_true g1, decide_eq_false (show ¬ (c.toNat : Int) < 224 by omega), decide_eq_true (show (c.toNat : Int) ≥ 224 by omega), decide_eq_false (show ¬ (c.toNat : Int) < 240 by omega), decide_eq_true (show (c.toNat : Int) ≥ 240 by omega), decide_eq_false (show ¬ (c.toNat : Int) < 248 by omega)]; rfl
            · rw [decide_eq_false g1, decide_eq_false (show ¬ (c.toNat : Int) ≥ 224 by omega), decide_eq_false (show ¬ (c.toNat : Int) ≥ 240 by omega)]; rfl
theorem refClean_ret {call : Handle} (hc : CallsOK (Γ mx) call) (s : List UInt8) (hs : s.length ≤ 1073741824) : RetX (Γ mx) 55 [.s s] [] (.b (cleanV s)) [] := by
  obtain ⟨k, hk⟩ := refClean_goes call s hs s.length s [] 0 (Nat.le_refl _) rfl rfl
  refine ret_goes hP hZ hc (by kernel_rfl) ⟨k, ?_⟩
  rw [r55]
  have e : cleanV s = cleanGo s.length s := (clean_valid s.length s (Nat.le_refl _)).symm
  rw [e]
  exact hk
end Go.Proofs.YtjbemleloffafaaDoor.V
