/- FrAG: texts of this claim, put together in build order by program. -/
import Derived.Test.YtbdekjlnnbjicaaBj
import Derived.Below
/- Contracts of the library's that the kit has proved, taken as calls of the machine over values; a context with more package variables. -/
namespace Go.Proofs.Ytbdekjlnnbjicaa.V
open Go Go.RowKit
set_option linter.unusedVariables false
section
variable {Γ : Ctx}

/-- more package variables -/
def Ctx.more (Γ : Ctx) (G : Nat → Option (TypeId × D)) : Ctx := { Γ with G := fun g => match Γ.G g with | some p => some p | none => G g }
theorem GlobOK.more {G : Nat → Option (TypeId × D)} {w : World} {S : Addr → Prop} (h : GlobOK Γ w S) (hG : ∀ g t x, G g = some (t, x) → ∃ vs, CellsAt w S g 0 vs ∧ RepT Γ.P w S x t vs ∧ (∀ fs, x = .agg fs → Whole w g vs.length)) : GlobOK (Γ.more G) w S := by
  refine ⟨fun g t x hg => ?_, h.ifs⟩
  change (match Γ.G g with | some p => some p | none => G g) = some (t, x) at hg
  cases hp : Γ.G g with
  | some p => rw [hp] at hg; exact h.data g t x (hp.trans hg)
  | none => rw [hp] at hg; exact hG g t x hg
/-- integers alone -/
def IntG (G : Nat → Option (TypeId × D)) : Prop := ∀ g t x, G g = some (t, x) → ∃ k n, x = .int k n
theorem RetX.more {G : Nat → Option (TypeId × D)} (hP : tabOk Γ.P = true) (hI : IntG G) {f : FuncId} {args : List AV} {obs obs' : Objs} {r : AV} (h : RetX Γ f args obs r obs') : RetX (Γ.more G) f args obs r obs' := by
  intro w S σ X vals hX hM ha
  have hM' : MemOK Γ w S X w S σ obs := { hM with glob := ⟨fun g t x hg => hM.glob.data g t x (by show (match Γ.G g with | some p => some p | none => G g) = some (t, x); rw [hg]), hM.glob.ifs⟩ }
  refine (h w S σ X vals hX hM' ha).mono ?_
  rintro v w' ⟨S', σ', hM2, hk, hr⟩
  refine ⟨S', σ', { hM2 with glob := ⟨fun g t x hg => ?_, hM2.glob.ifs⟩ }, hk, hr⟩
  obtain ⟨vs, h1, h2⟩ := hM.glob.data g t x hg
  refine ⟨vs, h1.keep hk, RepT.keep hk _ _ _ h2.1, fun fs hf => ?_⟩
  change (match Γ.G g with | some p => some p | none => G g) = some (t, x) at hg
  cases hp : Γ.G g with
  | some p =>
    rw [hp] at hg
    obtain ⟨vs', k1, k2, k3⟩ := hM2.glob.data g t x (hp.trans hg)
    have e1 : vs.length = vs'.length := by rw [RepT.size hP _ _ _ h2.1, RepT.size hP _ _ _ k2]
    rw [e1]
    exact k3 fs hf
  | none =>
    rw [hp] at hg
    obtain ⟨k, n, rfl⟩ := hI g t x hg
    exact absurd hf (by simp)
theorem CallsOK.more {G : Nat → Option (TypeId × D)} (hP : tabOk Γ.P = true) (hI : IntG G) {call : Handle} (h : CallsOK Γ call) : CallsOK (Γ.more G) call := fun g args obs r obs' hr => (h g args obs r obs' hr).more hP hI
theorem SpecOK.more {G : Nat → Option (TypeId × D)} (hP : tabOk Γ.P = true) (hI : IntG G) {s : Spec} (h : SpecOK Γ s) : SpecOK (Γ.more G) s := fun args obs r obs' hr => (h args obs r obs' hr).more hP hI

def entered (P : Program) (f : FuncId) : Bool := match P.funcs[f]? with | some fn => fn.body.isSome && !(fn.name == "runtime.NumGoroutine") | none => false
theorem run_entered {P : Program} {f : FuncId} (h : entered P f = true) (args : Array Value) (w : World) : (callFunc f args).run P w = .ok (.enter f args) w := by
  unfold entered at h
  split at h
  · rename_i fn hfn
    simp only [Bool.and_eq_true, Bool.not_eq_true', beq_eq_false_iff_ne] at h
    obtain ⟨c, hc⟩ := Option.isSome_iff_exists.1 h.1
    simp [callFunc, hfn, hc, h.2]
  · exact absurd h (by simp)
theorem below_left {w w' : World} {S S' : Addr → Prop} (h : Below w.heap.size w w') (h1 : ∀ a, S a → S' a) (h2 : ∀ a, S' a → S a ∨ (w.heap.size ≤ a.block ∧ a.block < w'.heap.size)) : Left Γ w S w' S' :=
  ⟨h.block, h.size, h1, h2, h.os, h.output⟩
/-- a contract of the library's: what it writes is new -/
theorem ret_shelfN {f : FuncId} {args : List AV} {r : AV} (hf : entered Γ.P f = true)
    (h : ∀ (w : World) (S : Addr → Prop) (vals : List Value), (∀ a, S a → a.block < w.heap.size) → GlobOK Γ w S → RepAs Γ.P w S noLoc [] args vals → Calls Γ.P f vals.toArray w fun e w' => ∃ v, e = .returned v ∧ Below w.heap.size w w' ∧
      ∃ S' : Addr → Prop, (∀ a, S a → S' a) ∧ (∀ a, S' a → S a ∨ (w.heap.size ≤ a.block ∧ a.block < w'.heap.size)) ∧ RepA Γ.P w' S' noLoc [] r v) : RetX Γ f args [] r [] := by
  refine Ret.x ?_
  intro w S vals hS hG ha
  rw [run_entered hf]
  refine Calls.mono (h w S vals hS hG ha) ?_
  rintro e w' ⟨v, he, hw, S', h1, h2, hr⟩
  exact ⟨v, he, S', below_left hw h1 h2, hr⟩
/-- a contract of the library's that comes to values -/
theorem ret_shelf {f : FuncId} {args : List AV} {r : AV} (hf : entered Γ.P f = true)
    (h : ∀ (w : World) (S : Addr → Prop) (vals : List Value), GlobOK Γ w S → RepAs Γ.P w S noLoc [] args vals → Calls Γ.P f vals.toArray w fun e w' => ∃ v, e = .returned v ∧ Below w.heap.size w w' ∧ RepA Γ.P w' S noLoc [] r v) : RetX Γ f args [] r [] :=
  ret_shelfN hf fun w S vals _ hG ha => (h w S vals hG ha).mono fun e w' ⟨v, he, hw, hr⟩ => ⟨v, he, hw, S, fun _ h => h, fun _ h => .inl h, hr⟩
theorem bytes_eta (s : ByteArray) : (⟨s.data.toList.toArray⟩ : ByteArray) = s := by simp
theorem list_eta (l : List UInt8) : (⟨l.toArray⟩ : ByteArray).data.toList = l := by simp
/-- an integer's cell -/
theorem glob_int {P : Program} {w : World} {S : Addr → Prop} {g : Nat} {t : TypeId} {k : IntKind} {m : Int} {vs : List Value} (h : CellsAt w S g 0 vs) (hr : RepT P w S (.int k m) t vs) : w.cell? ⟨g, 0, none⟩ = some (.int k m) := by
  simp only [RepT] at hr
  obtain ⟨_, rfl⟩ := hr
  exact (h 0 _ rfl).1
/-- a row of texts -/
theorem row_strs {P : Program} {w : World} {S : Addr → Prop} {e : TypeId} (he : und P e = some .string) (h1 : P.cellsOf e = 1) : ∀ (l : List ByteArray) (b o : Nat), CellsAt w S b o (l.map Value.string) → RepRow P w S (l.map fun s => D.str s.data.toList) e b o
  | [], b, o, h => by simp only [List.map_nil, RepRow]
  | s :: l, b, o, h => by
    simp only [List.map_cons, RepRow]
    refine ⟨[.string s], fun j v hj => ?_, ?_, row_strs he h1 l b (o + P.cellsOf e) fun j v hj => ?_⟩
    · match j, hj with
      | 0, hj => exact h 0 v hj
      | j + 1, hj => exact absurd hj (by simp)
    · simp only [RepT]
      exact ⟨he, s, rfl, rfl⟩
    · rw [h1, show o + 1 + j = o + (j + 1) by omega]
      exact h (j + 1) v hj
theorem und_len {w : World} (o : Go.Obj) : (w.alloc o).heap.size = w.heap.size + 1 := by simp
mutual
/-- the cells of data of integers -/
def flatD : D → List Value
  | .int k n => [.int k n]
  | .bool b => [.bool b]
  | .agg fs => flatL fs
  | _ => []
def flatL : List D → List Value
  | [] => []
  | d :: r => flatD d ++ flatL r
end
mutual
def plainD : D → Bool
  | .int _ _ => true
  | .bool _ => true
  | .agg fs => plainL fs
  | _ => false
def plainL : List D → Bool
  | [] => true
  | d :: r => plainD d && plainL r
end
mutual
theorem flatD_ok {P : Program} {w : World} {S : Addr → Prop} : ∀ (d : D) (t : TypeId) (vs : List Value), plainD d = true → RepT P w S d t vs → vs = flatD d
  | .int k n, t, vs, _, h => by simp only [RepT] at h; rw [h.2, flatD]
  | .bool b, t, vs, _, h => by simp only [RepT] at h; rw [h.2, flatD]
  | .agg fs, t, vs, hp, h => by
    simp only [RepT] at h
    simp only [plainD] at hp
    rw [flatD]
    rcases h with ⟨flds, _, h⟩ | ⟨n, e, _, _, h⟩
    · exact flatL_ok fs _ vs hp h
    · exact flatL_ok fs _ vs hp h
  | .str l, t, vs, hp, h => absurd hp (by simp [plainD])
  | .slice c xs, t, vs, hp, h => absurd hp (by simp [plainD])
theorem flatL_ok {P : Program} {w : World} {S : Addr → Prop} : ∀ (fs : List D) (ts : List TypeId) (vs : List Value), plainL fs = true → RepFs P w S fs ts vs → vs = flatL fs
  | [], ts, vs, _, h => by simp only [RepFs] at h; rw [h.2, flatL]
  | d :: r, ts, vs, hp, h => by
    simp only [RepFs] at h
    simp only [plainL, Bool.and_eq_true] at hp
    obtain ⟨t, ts', v1, v2, rfl, rfl, h1, h2⟩ := h
    rw [flatL, flatD_ok d t v1 hp.1 h1, flatL_ok r ts' v2 hp.2 h2]
end
theorem in_world {W : World} {a : Addr} {v : Value} (h : W.cell? a = some v) : a.block < W.heap.size := by
  refine Nat.lt_of_not_le fun hn => ?_
  have : W.heap[a.block]? = none := Array.getElem?_eq_none hn
  simp [World.cell?, this] at h
end
end Go.Proofs.Ytbdekjlnnbjicaa.V
