/- Grants: what the functions come to; what the machine over values makes of their texts. The equations are written by program. -/
import Derived.Test.YtjbemleloffafaaDoorGrA
import Derived.Test.YtjbemleloffafaaDoorGrP
namespace Go.Proofs.YtjbemleloffafaaDoor.V
open Go
set_option maxRecDepth 100000
set_option linter.unusedVariables false
def pD (x : Pc) : D := .agg [.int .i64 (x.1 : Int), .int .u8 (x.2.toNat : Int)]
def pcB (p : List UInt8) : Bool := decide (p.length ≤ 200) && (pcs p).2
def pcL (p : List UInt8) : List Pc := bif decide (p.length ≤ 200) then (pcs p).1 else []
def pcR (p : List UInt8) : List D := (pcL p).map pD
def pcV (p : List UInt8) : List D := bif pcB p then (pcL p).map pD else []
def isP : D → Bool
  | .agg [.int .i64 _, .int .u8 _] => true
  | _ => false
def fitsD : D → Int → Bool
  | .agg [.int _ k, .int _ b], c => k == 1 || (k == 0 && b == c)
  | _, _ => false
def short (s : List UInt8) : Bool := decide (s.length ≤ 4194304)
def matB (p s : List UInt8) : Bool := pcB p && mt (pcL p) s
def matE (p : List UInt8) : Int := bif pcB p then 0 else 2
def isG : D → Bool
  | .agg [.bool _, .str _, .str _, .str _] => true
  | _ => false
def gSound : D → Bool
  | .agg [.bool _, .str w, .str t, .str k] => pcB w && (pcB t && pcB k)
  | _ => false
def gDeny : D → Bool
  | .agg [.bool b, .str _, .str _, .str _] => b
  | _ => false
def allG (l : List D) : Bool := decide (l.length ≤ 1099511627776) && l.all isG
def gsSound (l : List D) : Bool := l.all gSound
def badN : List D → Int → Int
  | [], _ => -1
  | g :: r, i => bif gSound g then badN r (i + 1) else i
def badI (l : List D) : Int := badN l 0
def grB (l : List D) : Bool := decide (l.length ≤ 8) && gsSound l
def isS : D → Bool
  | .str _ => true
  | _ => false
def allS (l : List D) : Bool := decide (l.length ≤ 1099511627776) && l.all isS
def eqS (x : List UInt8) : D → Bool
  | .str s => x == s
  | _ => false
def idxN (x : List UInt8) : List D → Int → Int
  | [], _ => -1
  | g :: r, i => bif eqS x g then i else idxN x r (i + 1)
def idxS (l : List D) (x : List UInt8) : Int := idxN x l 0
def hasS (l : List D) (x : List UInt8) : Bool := l.any (eqS x)
def words : List D := [D.str [103, 101, 116], D.str [112, 117, 116], D.str [100, 101, 108, 101, 116, 101], D.str [101, 114, 97, 115, 101], D.str [108, 111, 99, 107], D.str [98, 121, 112, 97, 115, 115], D.str [108, 105, 115, 116], D.str [116, 97, 103], D.str [97, 100, 109, 105, 110]]
def knownW (x : List UInt8) : Bool := hasS words x
def askC : D → Bool
  | .agg [.str x, .str y, .str z] => short x && (short y && short z)
  | _ => false
def meetsD : D → D → Bool
  | .agg [.str x, .str y, .str z], .agg [.bool _, .str w, .str t, .str k] => matB w x && (matB t y && matB k z)
  | _, _ => false
def meetsA (x y z : List UInt8) (g : D) : Bool := meetsD (.agg [.str x, .str y, .str z]) g
def alB (l : List D) (x y z : List UInt8) : Bool := grB l && (knownW y && (l.isEmpty || (l.any (meetsA x y z) && !l.any fun g => meetsA x y z g && gDeny g)))
def alE (l : List D) (y : List UInt8) : Int := bif grB l then (bif knownW y then 0 else 1) else 2
def alA (l : List D) (x y z : List UInt8) : AV := .tuple [.b (alB l x y z), .i .i64 (alE l y)]
def alC (l : List D) (x y z : List UInt8) : Bool := allG l && (short x && (short y && short z))
/-! contracts by the shape of the arguments -/
def spD1 (u : TypeId) (c : D → Bool) (f : D → AV) : List AV → Option (Bool × AV)
  | [.d t x] => some (Nat.beq t u && c x, f x)
  | _ => none
def spDI (u : TypeId) (c : D → Int → Bool) (f : D → Int → AV) : List AV → Option (Bool × AV)
  | [.d t x, .i .u8 n] => some (Nat.beq t u && c x n, f x n)
  | _ => none
def spDD (u v : TypeId) (c : D → D → Bool) (f : D → D → AV) : List AV → Option (Bool × AV)
  | [.d t x, .d s y] => some (Nat.beq t u && (Nat.beq s v && c x y), f x y)
  | _ => none
def spD3 (u : TypeId) (c : D → List UInt8 → List UInt8 → List UInt8 → Bool) (f : D → List UInt8 → List UInt8 → List UInt8 → AV) : List AV → Option (Bool × AV)
  | [.d t x, .s a, .s b, .s d] => some (Nat.beq t u && c x a b d, f x a b d)
  | _ => none
def spL1 (u : TypeId) (c : List D → Bool) (f : List D → AV) : List AV → Option (Bool × AV)
  | [.sl t _ l] => some (Nat.beq t u && c l, f l)
  | _ => none
def spLF (u : TypeId) (g : FuncId) (c : List D → Bool) (f : List D → AV) : List AV → Option (Bool × AV)
  | [.sl t _ l, .fn h []] => some (Nat.beq t u && (Nat.beq h g && c l), f l)
  | _ => none
def spLS (u : TypeId) (c : List D → List UInt8 → Bool) (f : List D → List UInt8 → AV) : List AV → Option (Bool × AV)
  | [.sl t _ l, .s x] => some (Nat.beq t u && c l x, f l x)
  | _ => none
def spL3 (u : TypeId) (c : List D → List UInt8 → List UInt8 → List UInt8 → Bool) (f : List D → List UInt8 → List UInt8 → List UInt8 → AV) : List AV → Option (Bool × AV)
  | [.sl t _ l, .s x, .s y, .s z] => some (Nat.beq t u && c l x y z, f l x y z)
  | _ => none
section
variable {Γ : Ctx} {g : FuncId}
theorem RetX.anyc {e : TypeId} {c : Cp} {l : List D} {r : List AV} {obs obs' : Objs} {v : AV} (h : RetX Γ g (.sl e .any l :: r) obs v obs') : RetX Γ g (.sl e c l :: r) obs v obs' := by
  intro w S σ X vals hX hM ha
  refine h w S σ X vals hX hM ?_
  simp only [RepAs, RepA] at ha ⊢
  obtain ⟨x, y, rfl, ⟨a, cap, rfl, hc, h2⟩, h3⟩ := ha
  exact ⟨_, _, rfl, ⟨a, cap, rfl, hc.any, h2⟩, h3⟩
theorem RetX.to {args : List AV} {obs obs' : Objs} {r r' : AV} (h : RetX Γ g args obs r obs') (hr : ∀ w S σ v, RepA Γ.P w S σ obs' r v → RepA Γ.P w S σ obs' r' v) : RetX Γ g args obs r' obs' := by
  intro w S σ X vals hX hM ha
  refine (h w S σ X vals hX hM ha).mono ?_
  rintro v w' ⟨S', σ', hM2, hk, h2⟩
  exact ⟨S', σ', hM2, hk, hr _ _ _ _ h2⟩
theorem spD1_ok {u : TypeId} {c : D → Bool} {f : D → AV} (h : ∀ x, c x = true → RetX Γ g [.d u x] [] (f x) []) : SpecOK Γ ⟨g, dat (spD1 u c f)⟩ := dat_ok fun args r hr => by
  unfold spD1 at hr
  split at hr
  · simp only [Option.some.injEq, Prod.mk.injEq, Bool.and_eq_true] at hr
    obtain ⟨⟨h1, h2⟩, rfl⟩ := hr
    obtain rfl := beq_id h1
    exact h _ h2
  · exact absurd hr (by simp)
theorem spDI_ok {u : TypeId} {c : D → Int → Bool} {f : D → Int → AV} (h : ∀ x n, c x n = true → RetX Γ g [.d u x, .i .u8 n] [] (f x n) []) : SpecOK Γ ⟨g, dat (spDI u c f)⟩ := dat_ok fun args r hr => by
  unfold spDI at hr
  split at hr
  · simp only [Option.some.injEq, Prod.mk.injEq, Bool.and_eq_true] at hr
    obtain ⟨⟨h1, h2⟩, rfl⟩ := hr
    obtain rfl := beq_id h1
    exact h _ _ h2
  · exact absurd hr (by simp)
theorem spDD_ok {u v : TypeId} {c : D → D → Bool} {f : D → D → AV} (h : ∀ x y, c x y = true → RetX Γ g [.d u x, .d v y] [] (f x y) []) : SpecOK Γ ⟨g, dat (spDD u v c f)⟩ := dat_ok fun args r hr => by
  unfold spDD at hr
  split at hr
  · simp only [Option.some.injEq, Prod.mk.injEq, Bool.and_eq_true] at hr
    obtain ⟨⟨h1, h2, h3⟩, rfl⟩ := hr
    obtain rfl := beq_id h1
    obtain rfl := beq_id h2
    exact h _ _ h3
  · exact absurd hr (by simp)
theorem spD3_ok {u : TypeId} {c : D → List UInt8 → List UInt8 → List UInt8 → Bool} {f : D → List UInt8 → List UInt8 → List UInt8 → AV} (h : ∀ x a b d, c x a b d = true → RetX Γ g [.d u x, .s a, .s b, .s d] [] (f x a b d) []) : SpecOK Γ ⟨g, dat (spD3 u c f)⟩ := dat_ok fun args r hr => by
  unfold spD3 at hr
  split at hr
  · simp only [Option.some.injEq, Prod.mk.injEq, Bool.and_eq_true] at hr
    obtain ⟨⟨h1, h2⟩, rfl⟩ := hr
    obtain rfl := beq_id h1
    exact h _ _ _ _ h2
  · exact absurd hr (by simp)
theorem spL1_ok {u : TypeId} {c : List D → Bool} {f : List D → AV} (h : ∀ l, c l = true → RetX Γ g [.sl u .any l] [] (f l) []) : SpecOK Γ ⟨g, dat (spL1 u c f)⟩ := dat_ok fun args r hr => by
  unfold spL1 at hr
  split at hr
  · simp only [Option.some.injEq, Prod.mk.injEq, Bool.and_eq_true] at hr
    obtain ⟨⟨h1, h2⟩, rfl⟩ := hr
    obtain rfl := beq_id h1
    exact (h _ h2).anyc
  · exact absurd hr (by simp)
theorem spLF_ok {u : TypeId} {k : FuncId} {c : List D → Bool} {f : List D → AV} (h : ∀ l, c l = true → RetX Γ g [.sl u .any l, .fn k []] [] (f l) []) : SpecOK Γ ⟨g, dat (spLF u k c f)⟩ := dat_ok fun args r hr => by
  unfold spLF at hr
  split at hr
  · simp only [Option.some.injEq, Prod.mk.injEq, Bool.and_eq_true] at hr
    obtain ⟨⟨h1, h2, h3⟩, rfl⟩ := hr
    obtain rfl := beq_id h1
    obtain rfl := beq_id h2
    exact (h _ h3).anyc
  · exact absurd hr (by simp)
theorem spLS_ok {u : TypeId} {c : List D → List UInt8 → Bool} {f : List D → List UInt8 → AV} (h : ∀ l x, c l x = true → RetX Γ g [.sl u .any l, .s x] [] (f l x) []) : SpecOK Γ ⟨g, dat (spLS u c f)⟩ := dat_ok fun args r hr => by
  unfold spLS at hr
  split at hr
  · simp only [Option.some.injEq, Prod.mk.injEq, Bool.and_eq_true] at hr
    obtain ⟨⟨h1, h2⟩, rfl⟩ := hr
    obtain rfl := beq_id h1
    exact (h _ _ h2).anyc
  · exact absurd hr (by simp)
theorem spL3_ok {u : TypeId} {c : List D → List UInt8 → List UInt8 → List UInt8 → Bool} {f : List D → List UInt8 → List UInt8 → List UInt8 → AV} (h : ∀ l x y z, c l x y z = true → RetX Γ g [.sl u .any l, .s x, .s y, .s z] [] (f l x y z) []) : SpecOK Γ ⟨g, dat (spL3 u c f)⟩ := dat_ok fun args r hr => by
  unfold spL3 at hr
  split at hr
  · simp only [Option.some.injEq, Prod.mk.injEq, Bool.and_eq_true] at hr
    obtain ⟨⟨h1, h2⟩, rfl⟩ := hr
    obtain rfl := beq_id h1
    exact (h _ _ _ _ h2).anyc
  · exact absurd hr (by simp)
end
variable {mx : Int}
def H68 : Handle := runS [⟨97, dat (sp1 (fun _ => true) fun p => .tuple [.sl 142 .any (pcV p), .b (pcB p)])⟩]
def H42 : Handle := runS [⟨72, dat (sp1 (fun _ => true) fun p => .tuple [.sl 145 .any (pcR p), .b (pcB p)])⟩]
def H67 : Handle := runS [⟨68, dat (sp1 (fun _ => true) fun p => .b (pcB p))⟩]
def H96 : Handle := runS [⟨67, dat (spD1 29 isG fun g => .b (!gSound g))⟩]
def H66 : Handle := runS [⟨96, dat (spLF 29 67 allG fun l => .i .i64 (badI l))⟩]
def H38 : Handle := runS [⟨66, dat (spLF 29 67 allG fun l => .b (!gsSound l))⟩]
def H17 : Handle := runS [⟨42, dat (sp1 (fun _ => true) fun p => .b (pcB p))⟩]
def H41 : Handle := runS [⟨71, dat (spLS 9 (fun l _ => allS l) fun l x => .i .i64 (idxS l x))⟩]
def H15 : Handle := runS [⟨41, dat (spLS 9 (fun l _ => allS l) fun l x => .b (hasS l x))⟩]
def H69 : Handle := runS [⟨97, dat (sp1 (fun _ => true) fun p => .tuple [.sl 142 .any (pcV p), .b (pcB p)])⟩, ⟨98, dat (spDI 142 (fun p _ => isP p) fun p c => .b (fitsD p c))⟩]
def H70 : Handle := runS [⟨72, dat (sp1 (fun _ => true) fun p => .tuple [.sl 145 .any (pcR p), .b (pcB p)])⟩]
def H39 : Handle := runS [⟨69, dat (sp2 (fun _ s => short s) fun p s => .tuple [.b (matB p s), .i .i64 (matE p)])⟩]
def H40 : Handle := runS [⟨70, dat (sp2 (fun _ s => short s) fun p s => .tuple [.b (matB p s), .i .i64 (matE p)])⟩]
def H13 : Handle := runS [⟨38, dat (spL1 29 allG fun l => .b (grB l))⟩, ⟨15, dat (sp1 (fun _ => true) fun x => .b (knownW x))⟩, ⟨39, dat (spDD 65 29 (fun a g => askC a && isG g) fun a g => .b (meetsD a g))⟩]
def H14 : Handle := runS [⟨17, dat (spL1 29 allG fun l => .b (grB l))⟩, ⟨16, dat (sp1 (fun _ => true) fun x => .b (knownW x))⟩, ⟨40, dat (spD3 29 (fun g x y z => isG g && (short x && (short y && short z))) fun g x y z => .b (meetsD (D.agg [D.str x, D.str y, D.str z]) g))⟩]
def H3 : Handle := runS [⟨12, dat (sp0 true (.b true))⟩, ⟨13, dat (spL3 29 alC alA)⟩, ⟨14, dat (spL3 29 alC alA)⟩, ⟨15, dat (sp1 (fun _ => true) fun x => .b (knownW x))⟩, ⟨16, dat (sp1 (fun _ => true) fun x => .b (knownW x))⟩]
def H4 : Handle := runS [⟨12, dat (sp0 true (.b true))⟩, ⟨13, dat (spL3 29 alC alA)⟩, ⟨17, dat (spL1 29 allG fun l => .b (grB l))⟩]
theorem r97 (call : Handle) (lab : Lab) (p : List UInt8) : evF (Γ mx) call lab 97 [.s p] [] =
  bif decide (((List.length p : Int)) > 200) then (some (.tuple [.snil, .b false], [])) else (lab (todoAt (Γ mx) 97 5) ⟨[(0, .s p), (4, .snil), (5, .i .i64 0)], []⟩) := by kernel_rfl
theorem r97_5a (call : Handle) (lab : Lab) (s1 : List UInt8) (n2 : Int) : evL (Γ mx) call lab 97 5 ⟨[(0, .s s1), (4, .snil), (5, .i .i64 n2)], []⟩ =
  bif decide (n2 < ((List.length s1 : Int))) then (idx s1 n2 fun c3 => bif ((c3.toNat : Int)) == 42 then (lab (todoAt (Γ mx) 97 5) ⟨[(0, .s s1), (4, .ref 142 0), (5, .i .i64 (IntKind.wrap .i64 (n2 + 1)))], [some (.arr 142 [D.agg [D.int .i64 2, D.int .u8 0]] false)]⟩) else (bif ((c3.toNat : Int)) == 63 then (lab (todoAt (Γ mx) 97 5) ⟨[(0, .s s1), (4, .ref 142 0), (5, .i .i64 (IntKind.wrap .i64 (n2 + 1)))], [some (.arr 142 [D.agg [D.int .i64 1, D.int .u8 0]] false)]⟩) else (bif ((c3.toNat : Int)) == 92 then (bif (IntKind.wrap .i64 (n2 + 1)) == ((List.length s1 : Int)) then (some (.tuple [.snil, .b false], [])) else (idx s1 (IntKind.wrap .i64 (n2 + 1)) fun c4 => lab (todoAt (Γ mx) 97 5) ⟨[(0, .s s1), (4, .ref 142 0), (5, .i .i64 (IntKind.wrap .i64 ((IntKind.wrap .i64 (n2 + 1)) + 1)))], [some (.arr 142 [D.agg [D.int .i64 0, D.int .u8 ((c4.toNat : Int))]] false)]⟩)) else (idx s1 n2 fun c5 => lab (todoAt (Γ mx) 97 5) ⟨[(0, .s s1), (4, .ref 142 0), (5, .i .i64 (IntKind.wrap .i64 (n2 + 1)))], [some (.arr 142 [D.agg [D.int .i64 0, D.int .u8 ((c5.toNat : Int))]] false)]⟩)))) else (some (.tuple [.snil, .b true], [])) := by kernel_rfl
theorem r97_5b (call : Handle) (lab : Lab) (s1 : List UInt8) (n2 : Int) (l3 : List D) : evL (Γ mx) call lab 97 5 ⟨[(0, .s s1), (4, .ref 142 0), (5, .i .i64 n2)], [some (.arr 142 l3 false)]⟩ =
  bif decide (n2 < ((List.length s1 : Int))) then (idx s1 n2 fun c4 => bif ((c4.toNat : Int)) == 42 then (bif roomB (l3.length + 1) 16 then (lab (todoAt (Γ mx) 97 5) ⟨[(0, .s s1), (4, .ref 142 0), (5, .i .i64 (IntKind.wrap .i64 (n2 + 1)))], [some (.arr 142 (l3 ++ [D.agg [D.int .i64 2, D.int .u8 0]]) false)]⟩) else none) else (bif ((c4.toNat : Int)) == 63 then (bif roomB (l3.length + 1) 16 then (lab (todoAt (Γ mx) 97 5) ⟨[(0, .s s1), (4, .ref 142 0), (5, .i .i64 (IntKind.wrap .i64 (n2 + 1)))], [some (.arr 142 (l3 ++ [D.agg [D.int .i64 1, D.int .u8 0]]) false)]⟩) else none) else (bif ((c4.toNat : Int)) == 92 then (bif (IntKind.wrap .i64 (n2 + 1)) == ((List.length s1 : Int)) then (some (.tuple [.snil, .b false], [])) else (idx s1 (IntKind.wrap .i64 (n2 + 1)) fun c5 => bif roomB (l3.length + 1) 16 then (lab (todoAt (Γ mx) 97 5) ⟨[(0, .s s1), (4, .ref 142 0), (5, .i .i64 (IntKind.wrap .i64 ((IntKind.wrap .i64 (n2 + 1)) + 1)))], [some (.arr 142 (l3 ++ [D.agg [D.int .i64 0, D.int .u8 ((c5.toNat : Int))]]) false)]⟩) else none)) else (idx s1 n2 fun c6 => bif roomB (l3.length + 1) 16 then (lab (todoAt (Γ mx) 97 5) ⟨[(0, .s s1), (4, .ref 142 0), (5, .i .i64 (IntKind.wrap .i64 (n2 + 1)))], [some (.arr 142 (l3 ++ [D.agg [D.int .i64 0, D.int .u8 ((c6.toNat : Int))]]) false)]⟩) else none)))) else (some (.tuple [.sl 142 .any l3, .b true], [])) := by kernel_rfl
theorem r72 (call : Handle) (lab : Lab) (p : List UInt8) : evF (Γ mx) call lab 72 [.s p] [] =
  bif decide (((List.length p : Int)) > 200) then (some (.tuple [.sl 145 .ex [], .b false], [])) else (lab (todoAt (Γ mx) 72 5) ⟨[(0, .s p), (4, .sl 145 .ex []), (5, .i .i64 0)], []⟩) := by kernel_rfl
theorem r72_5a (call : Handle) (lab : Lab) (s1 : List UInt8) (l2 : List D) (n3 : Int) : evL (Γ mx) call lab 72 5 ⟨[(0, .s s1), (4, .sl 145 .ex l2), (5, .i .i64 n3)], []⟩ =
  bif decide (n3 < ((List.length s1 : Int))) then (idx s1 n3 fun c4 => bif ((c4.toNat : Int)) == 42 then (bif roomB (l2.length + 1) 16 then (lab (todoAt (Γ mx) 72 5) ⟨[(0, .s s1), (4, .ref 145 0), (5, .i .i64 (IntKind.wrap .i64 (n3 + 1)))], [some (.arr 145 (l2 ++ [D.agg [D.int .i64 2, D.int .u8 0]]) false)]⟩) else none) else (bif ((c4.toNat : Int)) == 63 then (bif roomB (l2.length + 1) 16 then (lab (todoAt (Γ mx) 72 5) ⟨[(0, .s s1), (4, .ref 145 0), (5, .i .i64 (IntKind.wrap .i64 (n3 + 1)))], [some (.arr 145 (l2 ++ [D.agg [D.int .i64 1, D.int .u8 0]]) false)]⟩) else none) else (bif ((c4.toNat : Int)) == 92 then (bif n3 == (IntKind.wrap .i64 (((List.length s1 : Int)) - 1)) then (some (.tuple [.sl 145 .ex l2, .b false], [])) else (idx s1 (IntKind.wrap .i64 (n3 + 1)) fun c5 => bif roomB (l2.length + 1) 16 then (lab (todoAt (Γ mx) 72 5) ⟨[(0, .s s1), (4, .ref 145 0), (5, .i .i64 (IntKind.wrap .i64 ((IntKind.wrap .i64 (n3 + 1)) + 1)))], [some (.arr 145 (l2 ++ [D.agg [D.int .i64 0, D.int .u8 ((c5.toNat : Int))]]) false)]⟩) else none)) else (idx s1 n3 fun c6 => bif roomB (l2.length + 1) 16 then (lab (todoAt (Γ mx) 72 5) ⟨[(0, .s s1), (4, .ref 145 0), (5, .i .i64 (IntKind.wrap .i64 (n3 + 1)))], [some (.arr 145 (l2 ++ [D.agg [D.int .i64 0, D.int .u8 ((c6.toNat : Int))]]) false)]⟩) else none)))) else (some (.tuple [.sl 145 .ex l2, .b true], [])) := by kernel_rfl
theorem r72_5b (call : Handle) (lab : Lab) (s1 : List UInt8) (n2 : Int) (l3 : List D) : evL (Γ mx) call lab 72 5 ⟨[(0, .s s1), (4, .ref 145 0), (5, .i .i64 n2)], [some (.arr 145 l3 false)]⟩ =
  bif decide (n2 < ((List.length s1 : Int))) then (idx s1 n2 fun c4 => bif ((c4.toNat : Int)) == 42 then (bif roomB (l3.length + 1) 16 then (lab (todoAt (Γ mx) 72 5) ⟨[(0, .s s1), (4, .ref 145 0), (5, .i .i64 (IntKind.wrap .i64 (n2 + 1)))], [some (.arr 145 (l3 ++ [D.agg [D.int .i64 2, D.int .u8 0]]) false)]⟩) else none) else (bif ((c4.toNat : Int)) == 63 then (bif roomB (l3.length + 1) 16 then (lab (todoAt (Γ mx) 72 5) ⟨[(0, .s s1), (4, .ref 145 0), (5, .i .i64 (IntKind.wrap .i64 (n2 + 1)))], [some (.arr 145 (l3 ++ [D.agg [D.int .i64 1, D.int .u8 0]]) false)]⟩) else none) else (bif ((c4.toNat : Int)) == 92 then (bif n2 == (IntKind.wrap .i64 (((List.length s1 : Int)) - 1)) then (some (.tuple [.sl 145 .any l3, .b false], [])) else (idx s1 (IntKind.wrap .i64 (n2 + 1)) fun c5 => bif roomB (l3.length + 1) 16 then (lab (todoAt (Γ mx) 72 5) ⟨[(0, .s s1), (4, .ref 145 0), (5, .i .i64 (IntKind.wrap .i64 ((IntKind.wrap .i64 (n2 + 1)) + 1)))], [some (.arr 145 (l3 ++ [D.agg [D.int .i64 0, D.int .u8 ((c5.toNat : Int))]]) false)]⟩) else none)) else (idx s1 n2 fun c6 => bif roomB (l3.length + 1) 16 then (lab (todoAt (Γ mx) 72 5) ⟨[(0, .s s1), (4, .ref 145 0), (5, .i .i64 (IntKind.wrap .i64 (n2 + 1)))], [some (.arr 145 (l3 ++ [D.agg [D.int .i64 0, D.int .u8 ((c6.toNat : Int))]]) false)]⟩) else none)))) else (some (.tuple [.sl 145 .any l3, .b true], [])) := by kernel_rfl
theorem r68 (lab : Lab) (p : List UInt8) : evF (Γ mx) H68 lab 68 [.s p] [] =
  some (.b (pcB p), []) := by kernel_rfl
theorem r42 (lab : Lab) (p : List UInt8) : evF (Γ mx) H42 lab 42 [.s p] [] =
  some (.b (pcB p), []) := by kernel_rfl
theorem r67 (lab : Lab) (b : Bool) (w : List UInt8) (t : List UInt8) (k : List UInt8) : evF (Γ mx) H67 lab 67 [.d 29 (D.agg [D.bool b, D.str w, D.str t, D.str k])] [] =
  bif !(pcB w) then (some (.b true, [])) else (bif !(pcB t) then (some (.b true, [])) else (some (.b (!(pcB k)), []))) := by kernel_rfl
theorem r96 (lab : Lab) (l : List D) : evF (Γ mx) H96 lab 96 [.sl 29 .any l, .fn 67 []] [] =
  lab (todoAt (Γ mx) 96 2) ⟨[(0, .sl 29 .any l), (1, .fn 67 []), (7, .i .i64 ((l.length : Int))), (8, .i .i64 0)], []⟩ := by kernel_rfl
theorem r96_2a (lab : Lab) (l1 : List D) (n2 : Int) (n3 : Int) : evL (Γ mx) H96 lab 96 2 ⟨[(0, .sl 29 .any l1), (1, .fn 67 []), (7, .i .i64 n2), (8, .i .i64 n3)], []⟩ =
  bif decide (n3 < n2) then (idx l1 n3 fun y4 => dAgg y4 fun y5 => lCons y5 fun a6 r7 => dBool a6 fun b8 => lCons r7 fun a9 r10 => dStr a9 fun s11 => lCons r10 fun a12 r13 => dStr a12 fun s14 => lCons r13 fun a15 r16 => dStr a15 fun s17 => lNil r16 (bif isG (D.agg [D.bool b8, D.str s11, D.str s14, D.str s17]) then (bif !gSound (D.agg [D.bool b8, D.str s11, D.str s14, D.str s17]) then (some (.i .i64 n3, [])) else (lab (todoAt (Γ mx) 96 2) ⟨[(0, .sl 29 .any l1), (1, .fn 67 []), (7, .i .i64 n2), (8, .i .i64 (IntKind.wrap .i64 (n3 + 1)))], []⟩)) else none)) else (some (.i .i64 (-1), [])) := by kernel_rfl
theorem r66 (lab : Lab) (l : List D) : evF (Γ mx) H66 lab 66 [.sl 29 .any l, .fn 67 []] [] =
  bif allG l then (some (.b (decide ((badI l) ≥ 0)), [])) else none := by kernel_rfl
theorem r38 (lab : Lab) (l : List D) : evF (Γ mx) H38 lab 38 [.sl 29 .any l] [] =
  bif decide (((l.length : Int)) ≤ 8) then (bif allG l then (some (.b (!(!gsSound l)), [])) else none) else (some (.b false, [])) := by kernel_rfl
theorem r17 (lab : Lab) (l : List D) : evF (Γ mx) H17 lab 17 [.sl 29 .any l] [] =
  bif decide (((l.length : Int)) > 8) then (some (.b false, [])) else (lab (todoAt (Γ mx) 17 4) ⟨[(0, .sl 29 .any l), (3, .i .i64 0)], []⟩) := by kernel_rfl
theorem r17_4a (lab : Lab) (l1 : List D) (n2 : Int) : evL (Γ mx) H17 lab 17 4 ⟨[(0, .sl 29 .any l1), (3, .i .i64 n2)], []⟩ =
  bif decide (n2 < ((l1.length : Int))) then (idx l1 n2 fun y3 => dAgg y3 fun y4 => lGet y4 1 fun y5 => dStr y5 fun s6 => bif !(pcB s6) then (some (.b false, [])) else (idx l1 n2 fun y7 => dAgg y7 fun y8 => lGet y8 2 fun y9 => dStr y9 fun s10 => bif !(pcB s10) then (some (.b false, [])) else (idx l1 n2 fun y11 => dAgg y11 fun y12 => lGet y12 3 fun y13 => dStr y13 fun s14 => bif !(pcB s14) then (some (.b false, [])) else (lab (todoAt (Γ mx) 17 4) ⟨[(0, .sl 29 .any l1), (3, .i .i64 (IntKind.wrap .i64 (n2 + 1)))], []⟩)))) else (some (.b true, [])) := by kernel_rfl
theorem r71 (call : Handle) (lab : Lab) (l : List D) (x : List UInt8) : evF (Γ mx) call lab 71 [.sl 9 .any l, .s x] [] =
  lab (todoAt (Γ mx) 71 2) ⟨[(0, .sl 9 .any l), (1, .s x), (7, .i .i64 ((l.length : Int))), (8, .i .i64 0)], []⟩ := by kernel_rfl
theorem r71_2a (call : Handle) (lab : Lab) (l1 : List D) (s2 : List UInt8) (n3 : Int) (n4 : Int) : evL (Γ mx) call lab 71 2 ⟨[(0, .sl 9 .any l1), (1, .s s2), (7, .i .i64 n3), (8, .i .i64 n4)], []⟩ =
  bif decide (n4 < n3) then (idx l1 n4 fun y5 => dStr y5 fun s6 => bif s2 == s6 then (some (.i .i64 n4, [])) else (lab (todoAt (Γ mx) 71 2) ⟨[(0, .sl 9 .any l1), (1, .s s2), (7, .i .i64 n3), (8, .i .i64 (IntKind.wrap .i64 (n4 + 1)))], []⟩)) else (some (.i .i64 (-1), [])) := by kernel_rfl
theorem r41 (lab : Lab) (l : List D) (x : List UInt8) : evF (Γ mx) H41 lab 41 [.sl 9 .any l, .s x] [] =
  bif allS l then (some (.b (decide ((idxS l x) ≥ 0)), [])) else none := by kernel_rfl
theorem r15 (lab : Lab) (x : List UInt8) : evF (Γ mx) H15 lab 15 [.s x] [] =
  bif allS ([D.str ([103, 101, 116] : List UInt8), D.str ([112, 117, 116] : List UInt8), D.str ([100, 101, 108, 101, 116, 101] : List UInt8), D.str ([101, 114, 97, 115, 101] : List UInt8), D.str ([108, 111, 99, 107] : List UInt8), D.str ([98, 121, 112, 97, 115, 115] : List UInt8), D.str ([108, 105, 115, 116] : List UInt8), D.str ([116, 97, 103] : List UInt8), D.str ([97, 100, 109, 105, 110] : List UInt8)]) then (some (.b (hasS ([D.str ([103, 101, 116] : List UInt8), D.str ([112, 117, 116] : List UInt8), D.str ([100, 101, 108, 101, 116, 101] : List UInt8), D.str ([101, 114, 97, 115, 101] : List UInt8), D.str ([108, 111, 99, 107] : List UInt8), D.str ([98, 121, 112, 97, 115, 115] : List UInt8), D.str ([108, 105, 115, 116] : List UInt8), D.str ([116, 97, 103] : List UInt8), D.str ([97, 100, 109, 105, 110] : List UInt8)]) x), [])) else none := by kernel_rfl
theorem r16 (call : Handle) (lab : Lab) (x : List UInt8) : evF (Γ mx) call lab 16 [.s x] [] =
  bif x == ([103, 101, 116] : List UInt8) then (bif x == ([103, 101, 116] : List UInt8) then (some (.b true, [])) else (some (.b false, []))) else (bif x == ([112, 117, 116] : List UInt8) then (bif x == ([112, 117, 116] : List UInt8) then (some (.b true, [])) else (some (.b false, []))) else (bif x == ([100, 101, 108, 101, 116, 101] : List UInt8) then (bif x == ([100, 101, 108, 101, 116, 101] : List UInt8) then (some (.b true, [])) else (some (.b false, []))) else (bif x == ([101, 114, 97, 115, 101] : List UInt8) then (bif x == ([101, 114, 97, 115, 101] : List UInt8) then (some (.b true, [])) else (some (.b false, []))) else (bif x == ([108, 111, 99, 107] : List UInt8) then (bif x == ([108, 111, 99, 107] : List UInt8) then (some (.b true, [])) else (some (.b false, []))) else (bif x == ([98, 121, 112, 97, 115, 115] : List UInt8) then (bif x == ([98, 121, 112, 97, 115, 115] : List UInt8) then (some (.b true, [])) else (some (.b false, []))) else (bif x == ([108, 105, 115, 116] : List UInt8) then (bif x == ([108, 105, 115, 116] : List UInt8) then (some (.b true, [])) else (some (.b false, []))) else (bif x == ([116, 97, 103] : List UInt8) then (bif x == ([116, 97, 103] : List UInt8) then (some (.b true, [])) else (some (.b false, []))) else (bif x == ([97, 100, 109, 105, 110] : List UInt8) then (some (.b true, [])) else (some (.b false, [])))))))))) := by kernel_rfl
theorem r98 (call : Handle) (lab : Lab) (k : Int) (b : Int) (c : Int) : evF (Γ mx) call lab 98 [.d 142 (D.agg [D.int .i64 k, D.int .u8 b]), .i .u8 c] [] =
  bif k == 1 then (some (.b true, [])) else (bif k == 0 then (some (.b (b == c), [])) else (some (.b false, []))) := by kernel_rfl
theorem r69 (lab : Lab) (p : List UInt8) (s : List UInt8) : evF (Γ mx) H69 lab 69 [.s p, .s s] [] =
  bif !(pcB p) then (some (.tuple [.b false, .i .i64 2], [])) else (lab (todoAt (Γ mx) 69 6) ⟨[(1, .s s), (6, .sl 142 .any (pcV p)), (8, .i .i64 0), (9, .i .i64 0), (10, .i .i64 (-1)), (11, .i .i64 0)], []⟩) := by kernel_rfl
theorem r69_6a (lab : Lab) (s1 : List UInt8) (l2 : List D) (n3 : Int) (n4 : Int) (n5 : Int) (n6 : Int) : evL (Γ mx) H69 lab 69 6 ⟨[(1, .s s1), (6, .sl 142 .any l2), (8, .i .i64 n3), (9, .i .i64 n4), (10, .i .i64 n5), (11, .i .i64 n6)], []⟩ =
  bif decide (n4 < ((List.length s1 : Int))) then (bif decide (n3 < ((l2.length : Int))) then (idx l2 n3 fun y7 => dAgg y7 fun y8 => lGet y8 0 fun y9 => dInt .i64 y9 fun n10 => bif n10 == 2 then (lab (todoAt (Γ mx) 69 6) ⟨[(1, .s s1), (6, .sl 142 .any l2), (8, .i .i64 (IntKind.wrap .i64 (n3 + 1))), (9, .i .i64 n4), (10, .i .i64 n3), (11, .i .i64 n4)], []⟩) else (bif decide (n3 < ((l2.length : Int))) then (idx l2 n3 fun y11 => dAgg y11 fun y12 => lCons y12 fun a13 r14 => dInt .i64 a13 fun n15 => lCons r14 fun a16 r17 => dInt .u8 a16 fun n18 => lNil r17 (idx s1 n4 fun c19 => bif isP (D.agg [D.int .i64 n15, D.int .u8 n18]) then (bif fitsD (D.agg [D.int .i64 n15, D.int .u8 n18]) ((c19.toNat : Int)) then (lab (todoAt (Γ mx) 69 6) ⟨[(1, .s s1), (6, .sl 142 .any l2), (8, .i .i64 (IntKind.wrap .i64 (n3 + 1))), (9, .i .i64 (IntKind.wrap .i64 (n4 + 1))), (10, .i .i64 n5), (11, .i .i64 n6)], []⟩) else (bif decide (n5 ≥ 0) then (lab (todoAt (Γ mx) 69 6) ⟨[(1, .s s1), (6, .sl 142 .any l2), (8, .i .i64 (IntKind.wrap .i64 (n5 + 1))), (9, .i .i64 (IntKind.wrap .i64 (n6 + 1))), (10, .i .i64 n5), (11, .i .i64 (IntKind.wrap .i64 (n6 + 1)))], []⟩) else (some (.tuple [.b false, .i .i64 0], [])))) else none)) else (bif decide (n5 ≥ 0) then (lab (todoAt (Γ mx) 69 6) ⟨[(1, .s s1), (6, .sl 142 .any l2), (8, .i .i64 (IntKind.wrap .i64 (n5 + 1))), (9, .i .i64 (IntKind.wrap .i64 (n6 + 1))), (10, .i .i64 n5), (11, .i .i64 (IntKind.wrap .i64 (n6 + 1)))], []⟩) else (some (.tuple [.b false, .i .i64 0], []))))) else (bif decide (n3 < ((l2.length : Int))) then (idx l2 n3 fun y20 => dAgg y20 fun y21 => lCons y21 fun a22 r23 => dInt .i64 a22 fun n24 => lCons r23 fun a25 r26 => dInt .u8 a25 fun n27 => lNil r26 (idx s1 n4 fun c28 => bif isP (D.agg [D.int .i64 n24, D.int .u8 n27]) then (bif fitsD (D.agg [D.int .i64 n24, D.int .u8 n27]) ((c28.toNat : Int)) then (lab (todoAt (Γ mx) 69 6) ⟨[(1, .s s1), (6, .sl 142 .any l2), (8, .i .i64 (IntKind.wrap .i64 (n3 + 1))), (9, .i .i64 (IntKind.wrap .i64 (n4 + 1))), (10, .i .i64 n5), (11, .i .i64 n6)], []⟩) else (bif decide (n5 ≥ 0) then (lab (todoAt (Γ mx) 69 6) ⟨[(1, .s s1), (6, .sl 142 .any l2), (8, .i .i64 (IntKind.wrap .i64 (n5 + 1))), (9, .i .i64 (IntKind.wrap .i64 (n6 + 1))), (10, .i .i64 n5), (11, .i .i64 (IntKind.wrap .i64 (n6 + 1)))], []⟩) else (some (.tuple [.b false, .i .i64 0], [])))) else none)) else (bif decide (n5 ≥ 0) then (lab (todoAt (Γ mx) 69 6) ⟨[(1, .s s1), (6, .sl 142 .any l2), (8, .i .i64 (IntKind.wrap .i64 (n5 + 1))), (9, .i .i64 (IntKind.wrap .i64 (n6 + 1))), (10, .i .i64 n5), (11, .i .i64 (IntKind.wrap .i64 (n6 + 1)))], []⟩) else (some (.tuple [.b false, .i .i64 0], []))))) else (lab (todoAt (Γ mx) 69 16) ⟨[(6, .sl 142 .any l2), (8, .i .i64 n3)], []⟩) := by kernel_rfl
theorem r69_16a (lab : Lab) (l1 : List D) (n2 : Int) : evL (Γ mx) H69 lab 69 16 ⟨[(6, .sl 142 .any l1), (8, .i .i64 n2)], []⟩ =
  bif decide (n2 < ((l1.length : Int))) then (idx l1 n2 fun y3 => dAgg y3 fun y4 => lGet y4 0 fun y5 => dInt .i64 y5 fun n6 => bif n6 == 2 then (lab (todoAt (Γ mx) 69 16) ⟨[(6, .sl 142 .any l1), (8, .i .i64 (IntKind.wrap .i64 (n2 + 1)))], []⟩) else (some (.tuple [.b (n2 == ((l1.length : Int))), .i .i64 0], []))) else (some (.tuple [.b (n2 == ((l1.length : Int))), .i .i64 0], [])) := by kernel_rfl
theorem r70 (lab : Lab) (p : List UInt8) (s : List UInt8) : evF (Γ mx) H70 lab 70 [.s p, .s s] [] =
  bif !(pcB p) then (some (.tuple [.b false, .i .i64 2], [])) else (bif decide ((0:Int) ≤ (IntKind.wrap .i64 (((List.length s : Int)) + 1))) && decide ((IntKind.wrap .i64 (((List.length s : Int)) + 1)) ≤ (IntKind.wrap .i64 (((List.length s : Int)) + 1))) && roomB (Int.toNat (IntKind.wrap .i64 (((List.length s : Int)) + 1))) 1 then (bif decide ((0:Int) ≤ ((List.length s : Int))) && decide (((List.length s : Int)) < ((List.replicate (Int.toNat (IntKind.wrap .i64 (((List.length s : Int)) + 1))) (D.bool false)).length : Int)) then (lGet (List.replicate (Int.toNat (IntKind.wrap .i64 (((List.length s : Int)) + 1))) (D.bool false)) (Int.toNat ((List.length s : Int))) fun y1 => lab (todoAt (Γ mx) 70 7) ⟨[(1, .s s), (6, .sl 145 .any (pcR p)), (8, .ref 4 0), (9, .i .i64 (IntKind.wrap .i64 ((((pcR p).length : Int)) - 1)))], [some (.arr 4 (List.set (List.replicate (Int.toNat (IntKind.wrap .i64 (((List.length s : Int)) + 1))) (D.bool false)) (Int.toNat ((List.length s : Int))) (D.bool true)) false)]⟩) else none) else none) := by kernel_rfl
theorem r70_7a (lab : Lab) (s1 : List UInt8) (l2 : List D) (n3 : Int) (l4 : List D) : evL (Γ mx) H70 lab 70 7 ⟨[(1, .s s1), (6, .sl 145 .any l2), (8, .ref 4 0), (9, .i .i64 n3)], [some (.arr 4 l4 false)]⟩ =
  bif decide (n3 ≥ 0) then (bif decide ((0:Int) ≤ (IntKind.wrap .i64 (((List.length s1 : Int)) + 1))) && decide ((IntKind.wrap .i64 (((List.length s1 : Int)) + 1)) ≤ (IntKind.wrap .i64 (((List.length s1 : Int)) + 1))) && roomB (Int.toNat (IntKind.wrap .i64 (((List.length s1 : Int)) + 1))) 1 then (lab (todoAt (Γ mx) 70 11) ⟨[(1, .s s1), (6, .sl 145 .any l2), (8, .ref 4 0), (9, .i .i64 n3), (10, .ref 4 1), (11, .i .i64 ((List.length s1 : Int)))], [some (.arr 4 l4 false), some (.arr 4 (List.replicate (Int.toNat (IntKind.wrap .i64 (((List.length s1 : Int)) + 1))) (D.bool false)) false)]⟩) else none) else (bif decide ((0:Int) ≤ 0) && decide (0 < (l4.length : Int)) then (lGet l4 0 fun y5 => dBool y5 fun b6 => some (.tuple [.b b6, .i .i64 0], [])) else none) := by kernel_rfl
theorem r70_11a (lab : Lab) (s1 : List UInt8) (l2 : List D) (n3 : Int) (n4 : Int) (l5 : List D) (l6 : List D) : evL (Γ mx) H70 lab 70 11 ⟨[(1, .s s1), (6, .sl 145 .any l2), (8, .ref 4 0), (9, .i .i64 n3), (10, .ref 4 1), (11, .i .i64 n4)], [some (.arr 4 l5 false), some (.arr 4 l6 false)]⟩ =
  bif decide (n4 ≥ 0) then (idx l2 n3 fun y7 => dAgg y7 fun y8 => lGet y8 0 fun y9 => dInt .i64 y9 fun n10 => bif n10 == 2 then (bif decide ((0:Int) ≤ n4) && decide (n4 < (l5.length : Int)) then (lGet l5 (Int.toNat n4) fun y11 => dBool y11 fun b12 => bif b12 then (bif decide ((0:Int) ≤ n4) && decide (n4 < (l6.length : Int)) then (lGet l6 (Int.toNat n4) fun y13 => lab (todoAt (Γ mx) 70 11) ⟨[(1, .s s1), (6, .sl 145 .any l2), (8, .ref 4 0), (9, .i .i64 n3), (10, .ref 4 1), (11, .i .i64 (IntKind.wrap .i64 (n4 - 1)))], [some (.arr 4 l5 false), some (.arr 4 (List.set l6 (Int.toNat n4) (D.bool true)) false)]⟩) else none) else (bif decide (n4 < ((List.length s1 : Int))) then (bif decide ((0:Int) ≤ (IntKind.wrap .i64 (n4 + 1))) && decide ((IntKind.wrap .i64 (n4 + 1)) < (l6.length : Int)) then (lGet l6 (Int.toNat (IntKind.wrap .i64 (n4 + 1))) fun y14 => dBool y14 fun b15 => bif decide ((0:Int) ≤ n4) && decide (n4 < (l6.length : Int)) then (lGet l6 (Int.toNat n4) fun y16 => lab (todoAt (Γ mx) 70 11) ⟨[(1, .s s1), (6, .sl 145 .any l2), (8, .ref 4 0), (9, .i .i64 n3), (10, .ref 4 1), (11, .i .i64 (IntKind.wrap .i64 (n4 - 1)))], [some (.arr 4 l5 false), some (.arr 4 (List.set l6 (Int.toNat n4) (D.bool b15)) false)]⟩) else none) else none) else (bif decide ((0:Int) ≤ n4) && decide (n4 < (l6.length : Int)) then (lGet l6 (Int.toNat n4) fun y17 => lab (todoAt (Γ mx) 70 11) ⟨[(1, .s s1), (6, .sl 145 .any l2), (8, .ref 4 0), (9, .i .i64 n3), (10, .ref 4 1), (11, .i .i64 (IntKind.wrap .i64 (n4 - 1)))], [some (.arr 4 l5 false), some (.arr 4 (List.set l6 (Int.toNat n4) (D.bool false)) false)]⟩) else none))) else none) else (bif decide (n4 < ((List.length s1 : Int))) then (bif decide ((0:Int) ≤ (IntKind.wrap .i64 (n4 + 1))) && decide ((IntKind.wrap .i64 (n4 + 1)) < (l5.length : Int)) then (lGet l5 (Int.toNat (IntKind.wrap .i64 (n4 + 1))) fun y18 => dBool y18 fun b19 => bif b19 then (idx l2 n3 fun y20 => dAgg y20 fun y21 => lGet y21 0 fun y22 => dInt .i64 y22 fun n23 => bif n23 == 1 then (bif decide ((0:Int) ≤ n4) && decide (n4 < (l6.length : Int)) then (lGet l6 (Int.toNat n4) fun y24 => lab (todoAt (Γ mx) 70 11) ⟨[(1, .s s1), (6, .sl 145 .any l2), (8, .ref 4 0), (9, .i .i64 n3), (10, .ref 4 1), (11, .i .i64 (IntKind.wrap .i64 (n4 - 1)))], [some (.arr 4 l5 false), some (.arr 4 (List.set l6 (Int.toNat n4) (D.bool true)) false)]⟩) else none) else (idx l2 n3 fun y25 => dAgg y25 fun y26 => lGet y26 1 fun y27 => dInt .u8 y27 fun n28 => idx s1 n4 fun c29 => bif decide ((0:Int) ≤ n4) && decide (n4 < (l6.length : Int)) then (lGet l6 (Int.toNat n4) fun y30 => lab (todoAt (Γ mx) 70 11) ⟨[(1, .s s1), (6, .sl 145 .any l2), (8, .ref 4 0), (9, .i .i64 n3), (10, .ref 4 1), (11, .i .i64 (IntKind.wrap .i64 (n4 - 1)))], [some (.arr 4 l5 false), some (.arr 4 (List.set l6 (Int.toNat n4) (D.bool (n28 == ((c29.toNat : Int))))) false)]⟩) else none)) else (bif decide ((0:Int) ≤ n4) && decide (n4 < (l6.length : Int)) then (lGet l6 (Int.toNat n4) fun y31 => lab (todoAt (Γ mx) 70 11) ⟨[(1, .s s1), (6, .sl 145 .any l2), (8, .ref 4 0), (9, .i .i64 n3), (10, .ref 4 1), (11, .i .i64 (IntKind.wrap .i64 (n4 - 1)))], [some (.arr 4 l5 false), some (.arr 4 (List.set l6 (Int.toNat n4) (D.bool false)) false)]⟩) else none)) else none) else (lab (todoAt (Γ mx) 70 11) ⟨[(1, .s s1), (6, .sl 145 .any l2), (8, .ref 4 0), (9, .i .i64 n3), (10, .ref 4 1), (11, .i .i64 (IntKind.wrap .i64 (n4 - 1)))], [some (.arr 4 l5 false), some (.arr 4 l6 false)]⟩))) else (lab (todoAt (Γ mx) 70 7) ⟨[(1, .s s1), (6, .sl 145 .any l2), (8, .ref 4 0), (9, .i .i64 (IntKind.wrap .i64 (n3 - 1)))], [some (.arr 4 l6 false)]⟩) := by kernel_rfl
theorem r39 (lab : Lab) (x : List UInt8) (y : List UInt8) (z : List UInt8) (b : Bool) (w : List UInt8) (t : List UInt8) (k : List UInt8) : evF (Γ mx) H39 lab 39 [.d 65 (D.agg [D.str x, D.str y, D.str z]), .d 29 (D.agg [D.bool b, D.str w, D.str t, D.str k])] [] =
  lab (todoAt (Γ mx) 39 2) ⟨[(24, .sl 99 .ex [D.agg [D.str w, D.str x], D.agg [D.str t, D.str y], D.agg [D.str k, D.str z]]), (25, .i .i64 3), (26, .i .i64 0)], []⟩ := by kernel_rfl
theorem r39_2a (lab : Lab) (l1 : List D) (n2 : Int) (n3 : Int) : evL (Γ mx) H39 lab 39 2 ⟨[(24, .sl 99 .ex l1), (25, .i .i64 n2), (26, .i .i64 n3)], []⟩ =
  bif decide (n3 < n2) then (idx l1 n3 fun y4 => dAgg y4 fun y5 => lGet y5 0 fun y6 => dStr y6 fun s7 => lGet y5 1 fun y8 => dStr y8 fun s9 => bif short s9 then (bif !(matB s7 s9) then (some (.b false, [])) else (lab (todoAt (Γ mx) 39 2) ⟨[(24, .sl 99 .ex l1), (25, .i .i64 n2), (26, .i .i64 (IntKind.wrap .i64 (n3 + 1)))], []⟩)) else none) else (some (.b true, [])) := by kernel_rfl
theorem r40 (lab : Lab) (b : Bool) (w : List UInt8) (t : List UInt8) (k : List UInt8) (x : List UInt8) (y : List UInt8) (z : List UInt8) : evF (Γ mx) H40 lab 40 [.d 29 (D.agg [D.bool b, D.str w, D.str t, D.str k]), .s x, .s y, .s z] [] =
  bif short x then (bif short y then (bif short z then (bif matB w x then (bif matB t y then (some (.b (matB k z), [])) else (some (.b false, []))) else (some (.b false, []))) else none) else none) else none := by kernel_rfl
theorem r13 (lab : Lab) (l : List D) (x : List UInt8) (y : List UInt8) (z : List UInt8) : evF (Γ mx) H13 lab 13 [.sl 29 .any l, .s x, .s y, .s z] [] =
  bif allG l then (bif !(grB l) then (some (.tuple [.b false, .i .i64 2], [])) else (bif !(knownW y) then (some (.tuple [.b false, .i .i64 1], [])) else (bif ((l.length : Int)) == 0 then (some (.tuple [.b true, .i .i64 0], [])) else (lab (todoAt (Γ mx) 13 10) ⟨[(10, .ptr 0 [] 65), (11, .b false), (30, .sl 29 .any l), (31, .i .i64 ((l.length : Int))), (32, .i .i64 0)], [some (.box 65 (.d 65 (D.agg [D.str x, D.str y, D.str z])))]⟩)))) else none := by kernel_rfl
theorem r13_10a (lab : Lab) (b1 : Bool) (l2 : List D) (n3 : Int) (n4 : Int) (s5 : List UInt8) (s6 : List UInt8) (s7 : List UInt8) : evL (Γ mx) H13 lab 13 10 ⟨[(10, .ptr 0 [] 65), (11, .b b1), (30, .sl 29 .any l2), (31, .i .i64 n3), (32, .i .i64 n4)], [some (.box 65 (.d 65 (D.agg [D.str s5, D.str s6, D.str s7])))]⟩ =
  bif decide (n4 < n3) then (idx l2 n4 fun y8 => dAgg y8 fun y9 => lCons y9 fun a10 r11 => dBool a10 fun b12 => lCons r11 fun a13 r14 => dStr a13 fun s15 => lCons r14 fun a16 r17 => dStr a16 fun s18 => lCons r17 fun a19 r20 => dStr a19 fun s21 => lNil r20 (bif askC (D.agg [D.str s5, D.str s6, D.str s7]) && isG (D.agg [D.bool b12, D.str s15, D.str s18, D.str s21]) then (bif !(meetsD (D.agg [D.str s5, D.str s6, D.str s7]) (D.agg [D.bool b12, D.str s15, D.str s18, D.str s21])) then (lab (todoAt (Γ mx) 13 10) ⟨[(10, .ptr 0 [] 65), (11, .b b1), (30, .sl 29 .any l2), (31, .i .i64 n3), (32, .i .i64 (IntKind.wrap .i64 (n4 + 1)))], [some (.box 65 (.d 65 (D.agg [D.str s5, D.str s6, D.str s7])))]⟩) else (bif b12 then (some (.tuple [.b false, .i .i64 0], [])) else (lab (todoAt (Γ mx) 13 10) ⟨[(10, .ptr 0 [] 65), (11, .b true), (30, .sl 29 .any l2), (31, .i .i64 n3), (32, .i .i64 (IntKind.wrap .i64 (n4 + 1)))], [some (.box 65 (.d 65 (D.agg [D.str s5, D.str s6, D.str s7])))]⟩))) else none)) else (some (.tuple [.b b1, .i .i64 0], [])) := by kernel_rfl
theorem r14 (lab : Lab) (l : List D) (x : List UInt8) (y : List UInt8) (z : List UInt8) : evF (Γ mx) H14 lab 14 [.sl 29 .any l, .s x, .s y, .s z] [] =
  bif allG l then (bif !(grB l) then (some (.tuple [.b false, .i .i64 2], [])) else (bif !(knownW y) then (some (.tuple [.b false, .i .i64 1], [])) else (lab (todoAt (Γ mx) 14 7) ⟨[(0, .sl 29 .any l), (1, .s x), (2, .s y), (3, .s z), (10, .i .i64 0), (11, .i .i64 0), (12, .i .i64 0)], []⟩))) else none := by kernel_rfl
theorem r14_7a (lab : Lab) (l1 : List D) (s2 : List UInt8) (s3 : List UInt8) (s4 : List UInt8) (n5 : Int) (n6 : Int) (n7 : Int) : evL (Γ mx) H14 lab 14 7 ⟨[(0, .sl 29 .any l1), (1, .s s2), (2, .s s3), (3, .s s4), (10, .i .i64 n5), (11, .i .i64 n6), (12, .i .i64 n7)], []⟩ =
  bif decide (n7 < ((l1.length : Int))) then (idx l1 n7 fun y8 => dAgg y8 fun y9 => lCons y9 fun a10 r11 => dBool a10 fun b12 => lCons r11 fun a13 r14 => dStr a13 fun s15 => lCons r14 fun a16 r17 => dStr a16 fun s18 => lCons r17 fun a19 r20 => dStr a19 fun s21 => lNil r20 (bif isG (D.agg [D.bool b12, D.str s15, D.str s18, D.str s21]) && (short s2 && (short s3 && short s4)) then (bif meetsD (D.agg [D.str s2, D.str s3, D.str s4]) (D.agg [D.bool b12, D.str s15, D.str s18, D.str s21]) then (idx l1 n7 fun y22 => dAgg y22 fun y23 => lGet y23 0 fun y24 => dBool y24 fun b25 => bif b25 then (lab (todoAt (Γ mx) 14 7) ⟨[(0, .sl 29 .any l1), (1, .s s2), (2, .s s3), (3, .s s4), (10, .i .i64 n5), (11, .i .i64 (IntKind.wrap .i64 (n6 + 1))), (12, .i .i64 (IntKind.wrap .i64 (n7 + 1)))], []⟩) else (lab (todoAt (Γ mx) 14 7) ⟨[(0, .sl 29 .any l1), (1, .s s2), (2, .s s3), (3, .s s4), (10, .i .i64 (IntKind.wrap .i64 (n5 + 1))), (11, .i .i64 n6), (12, .i .i64 (IntKind.wrap .i64 (n7 + 1)))], []⟩)) else (lab (todoAt (Γ mx) 14 7) ⟨[(0, .sl 29 .any l1), (1, .s s2), (2, .s s3), (3, .s s4), (10, .i .i64 n5), (11, .i .i64 n6), (12, .i .i64 (IntKind.wrap .i64 (n7 + 1)))], []⟩)) else none)) else (bif ((l1.length : Int)) == 0 then (some (.tuple [.b true, .i .i64 0], [])) else (bif decide (n5 > 0) then (some (.tuple [.b (n6 == 0), .i .i64 0], [])) else (some (.tuple [.b false, .i .i64 0], [])))) := by kernel_rfl
theorem r3 (lab : Lab) (l : List D) (x : List UInt8) (y : List UInt8) (z : List UInt8) : evF (Γ mx) H3 lab 3 [.sl 29 .any l, .s x, .s y, .s z] [] =
  bif decide ((IntKind.wrap .i64 (((List.length x : Int)) + ((List.length z : Int)))) > 3000) then (some (.b true, [])) else (bif alC l x y z then (bif alC l x y z then (bif (alB l x y z) == (alB l x y z) then (bif (alE l y) == (alE l y) then (some (.b ((knownW y) == (knownW y)), [])) else (some (.b false, []))) else (some (.b false, []))) else none) else none) := by kernel_rfl
end Go.Proofs.YtjbemleloffafaaDoor.V
