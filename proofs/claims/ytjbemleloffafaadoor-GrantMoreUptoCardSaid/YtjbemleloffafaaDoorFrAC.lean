/- Operations that do nothing to objects: they hand on one value, or none, whatever goes on behind them. -/
import Derived.Test.YtjbemleloffafaaDoorFrAB
namespace Go.Proofs.YtjbemleloffafaaDoor.V
open Go
set_option linter.unusedVariables false
set_option linter.unusedSimpArgs false

/-- one thing is handed on, or none -/
def Aff {A : Type} (F : ∀ R : Type, (A → Option R) → Option R) : Prop := (∃ a, ∀ R K, F R K = K a) ∨ ∀ R K, F R K = none
section
variable {A B : Type} {F : ∀ R : Type, (A → Option R) → Option R}
theorem Aff.pure (a : A) : Aff (fun R (K : A → Option R) => K a) := .inl ⟨a, fun _ _ => rfl⟩
theorem Aff.zero : Aff (fun R (_ : A → Option R) => none) := .inr fun _ _ => rfl
theorem Aff.map (h : Aff F) (g : A → B) : Aff (fun R (K : B → Option R) => F R fun a => K (g a)) := by
  rcases h with ⟨a, h⟩ | h
  · exact .inl ⟨g a, fun R K => h R _⟩
  · exact .inr fun R K => h R _
theorem Aff.bind (h : Aff F) {G : A → ∀ R : Type, (B → Option R) → Option R} (hG : ∀ a, Aff (G a)) : Aff (fun R (K : B → Option R) => F R fun a => G a R K) := by
  rcases h with ⟨a, h⟩ | h
  · rcases hG a with ⟨b, hb⟩ | hb
    · exact .inl ⟨b, fun R K => (h R _).trans (hb R K)⟩
    · exact .inr fun R K => (h R _).trans (hb R K)
  · exact .inr fun R K => h R _
theorem Aff.cond (b : Bool) (h : Aff F) : Aff (fun R K => bif b then F R K else none) := by
  cases b
  · exact .inr fun _ _ => rfl
  · exact h
theorem Aff.opt (o : Option A) : Aff (fun R (K : A → Option R) => match o with | some a => K a | none => none) := by
  cases o
  · exact .inr fun _ _ => rfl
  · exact .inl ⟨_, fun _ _ => rfl⟩
end
theorem dInt_a (k : IntKind) (x : D) : Aff (fun R (K : Int → Option R) => dInt k x K) := by
  cases x <;> first | exact .inr fun _ _ => rfl | exact Aff.cond _ (Aff.pure _)
theorem dBool_a (x : D) : Aff (fun R (K : Bool → Option R) => dBool x K) := by
  cases x <;> first | exact .inr fun _ _ => rfl | exact .inl ⟨_, fun _ _ => rfl⟩
theorem dStr_a (x : D) : Aff (fun R (K : List UInt8 → Option R) => dStr x K) := by
  cases x <;> first | exact .inr fun _ _ => rfl | exact .inl ⟨_, fun _ _ => rfl⟩
theorem dSlice_a (x : D) : Aff (fun R (K : Cp × List D → Option R) => dSlice x fun c l => K (c, l)) := by
  cases x <;> first | exact .inr fun _ _ => rfl | exact .inl ⟨_, fun _ _ => rfl⟩
theorem dAgg_a (x : D) : Aff (fun R (K : List D → Option R) => dAgg x K) := by
  cases x <;> first | exact .inr fun _ _ => rfl | exact .inl ⟨_, fun _ _ => rfl⟩
theorem lNil_a {α B : Type} (l : List α) {F : ∀ R : Type, (B → Option R) → Option R} (h : Aff F) : Aff (fun R K => lNil l (F R K)) := by
  cases l
  · exact h
  · exact .inr fun _ _ => rfl
theorem lCons_a {α : Type} (l : List α) : Aff (fun R (K : α × List α → Option R) => lCons l fun a r => K (a, r)) := by
  cases l
  · exact .inr fun _ _ => rfl
  · exact .inl ⟨_, fun _ _ => rfl⟩
theorem lGet_a {α : Type} (l : List α) (i : Nat) : Aff (fun R (K : α → Option R) => lGet l i K) := by
  unfold lGet; cases l[i]? <;> first | exact .inr fun _ _ => rfl | exact Aff.pure _
theorem idx_a {α : Type} (l : List α) (n : Int) : Aff (fun R (K : α → Option R) => idx l n K) := Aff.cond _ (lGet_a _ _)
theorem kBytes_a (l : List D) : Aff (fun R (K : List UInt8 → Option R) => kBytes l K) := by
  unfold kBytes; cases unBytes l
  · exact .inr fun _ _ => rfl
  · exact .inl ⟨_, fun _ _ => rfl⟩
theorem openL_a {f : TypeId → D → ∀ R : Type, (D → Option R) → Option R} (hf : ∀ t x, Aff (f t x)) {f' : ∀ R : Type, TypeId → D → (D → Option R) → Option R} (he : ∀ R t x K, f' R t x K = f t x R K) :
    ∀ (ts : List TypeId) (ys : List D), Aff (fun R (K : List D → Option R) => openL (f' R) ts ys K)
  | [], ys => lNil_a ys (Aff.pure _)
  | t :: ts, ys => by
    cases ys with
    | nil => exact .inr fun _ _ => rfl
    | cons y r =>
      have h1 := (hf t y).bind (G := fun y' R (K : List D → Option R) => openL (f' R) ts r fun r' => K (y' :: r')) fun y' => (openL_a hf he ts r).map (y' :: ·)
      rcases h1 with ⟨a, h⟩ | h
      · exact .inl ⟨a, fun R K => by simp only [openL, lCons, he]; exact h R K⟩
      · exact .inr fun R K => by simp only [openL, lCons, he]; exact h R K
theorem openD_a (P : Program) : ∀ (n : Nat) (t : TypeId) (x : D), Aff (fun R (K : D → Option R) => openD P n t x K)
  | 0, t, x => .inr fun _ _ => rfl
  | n + 1, t, x => by
    unfold openD
    cases ds P t <;> try exact .inr fun _ _ => rfl
    case int k => exact (dInt_a k x).map _
    case bool => exact (dBool_a x).map _
    case string => exact (dStr_a x).map _
    case slice e => exact (dSlice_a x).map fun p => D.slice p.1 p.2
    case struct fs => exact (dAgg_a x).bind fun ys => (openL_a (f := fun t x R K => openD P n t x K) (fun t x => openD_a P n t x) (f' := fun R t x K => openD P n t x K) (fun _ _ _ _ => rfl) _ ys).map _
    case array => exact (dAgg_a x).map _
theorem navD_a : ∀ (p : List Nat) (x : D), Aff (fun R (K : D → Option R) => navD p x K)
  | [], x => Aff.pure x
  | i :: p, x => (dAgg_a x).bind fun ys => (lGet_a ys i).bind fun y => navD_a p y
theorem navA_a (P : Program) : ∀ (p : List Nat) (a : AV), Aff (fun R (K : AV ⊕ D → Option R) => navA P p a K)
  | [], a => Aff.pure _
  | i :: p, a => by
    cases a <;> try exact .inr fun _ _ => rfl
    case d t x => exact (navD_a (i :: p) x).map _
    case agg t l =>
      simp only [navA]
      cases l[i]? with
      | none => exact .inr fun _ _ => rfl
      | some a => exact navA_a P p a
theorem nilK_a (op : BinOp) (p q : Option Bool) : Aff (fun R (K : AV → Option R) => nilK op p q K) := by
  cases p <;> cases q <;> try exact .inr fun _ _ => rfl
  refine Aff.cond _ ?_
  cases op <;> first | exact .inr fun _ _ => rfl | exact .inl ⟨_, fun _ _ => rfl⟩
theorem nilD_a (P : Program) (op : BinOp) (t : TypeId) (x y : AV) : Aff (fun R (K : AV → Option R) => match ds P t with
    | .slice _ => nilK op (isNilS x) (isNilS y) K
    | .pointer _ => nilK op (isNilP x) (isNilP y) K
    | _ => none) := by
  cases ds P t <;> first | exact .inr fun _ _ => rfl | exact nilK_a _ _ _
theorem errK_a (P : Program) (op : BinOp) (t : TypeId) (a : AV) : Aff (fun R (K : AV → Option R) => errK P op t a K) := by
  unfold errK
  split
  · exact .inl ⟨_, fun _ _ => rfl⟩
  · exact .inl ⟨_, fun _ _ => rfl⟩
  · exact .inr fun _ _ => rfl
theorem opInt_a (op : BinOp) (k k' : IntKind) (a b : Int) : Aff (fun R (K : AV → Option R) => bif kEq k k' then (match opInt op k a b with | some r => K r | none => none) else none) := by
  refine Aff.cond _ ?_
  cases opInt op k a b <;> first | exact .inr fun _ _ => rfl | exact Aff.pure _
theorem opStr_a (op : BinOp) (a b : List UInt8) : Aff (fun R (K : AV → Option R) => match opStr op a b with | some r => K r | none => none) := by
  cases opStr op a b <;> first | exact .inr fun _ _ => rfl | exact Aff.pure _
theorem quo_a {v : AV} (b : Bool) : Aff (fun R (K : AV → Option R) => bif b then none else K v) := by
  cases b
  · exact Aff.pure _
  · exact .inr fun _ _ => rfl
theorem opBin_a (P : Program) (op : BinOp) (t : TypeId) (x y : AV) : Aff (fun R (K : AV → Option R) => opBin P op t x y K) := by
  cases x <;> cases y <;> try exact nilD_a P op t _ _
  case i.i k a k' b => cases op <;> first | exact opInt_a _ k k' a b | exact Aff.cond _ (Aff.pure _) | exact Aff.cond _ (quo_a _)
  case s.s a b => cases op <;> first | exact .inr fun _ _ => rfl | exact Aff.pure _ | exact opStr_a _ a b | exact Aff.cond _ (Aff.pure _)
  case b.b a b =>
    cases op <;> first
      | exact .inr fun _ _ => rfl
      | (simp only [opBin]; cases ds P t <;> first | exact .inr fun _ _ => rfl | exact Aff.pure _)
  case d.d u a u' b => exact Aff.cond _ (by cases op <;> first | exact .inr fun _ _ => rfl | exact Aff.pure _)
theorem opFieldAddr_a (P : Program) (s : TypeId) (i : Nat) (a : AV) : Aff (fun R (K : AV → Option R) => opFieldAddr P s i a K) := by
  unfold opFieldAddr
  cases fieldT P s i with
  | none => cases a <;> exact .inr fun _ _ => rfl
  | some ft => cases a <;> first | exact .inr fun _ _ => rfl | exact Aff.cond _ (Aff.pure _) | exact Aff.cond _ ((dAgg_a _).bind fun ys => (lGet_a ys i).map _)
theorem opField_a (P : Program) (s : TypeId) (i : Nat) (a : AV) : Aff (fun R (K : AV → Option R) => opField P s i a K) := by
  unfold opField
  cases fieldT P s i with
  | none => cases a <;> exact .inr fun _ _ => rfl
  | some ft => cases a <;> first | exact .inr fun _ _ => rfl | (rename_i l; refine Aff.cond _ ?_; cases l[i]? <;> first | exact .inr fun _ _ => rfl | exact Aff.pure _) | exact Aff.cond _ ((dAgg_a _).bind fun ys => (lGet_a ys i).bind fun z => (openD_a P depth ft z).map _)
theorem opIndexAddr_a (P : Program) (t : TypeId) (x ix : AV) (ob : Objs) : Aff (fun R (K : AV → Option R) => opIndexAddr P t x ix ob K) := by
  unfold opIndexAddr
  cases ix <;> cases x <;> try exact .inr fun _ _ => rfl
  case i.sl => cases ds P t <;> first | exact .inr fun _ _ => rfl | exact Aff.cond _ ((idx_a _ _).map _)
  case i.ref k n e j =>
    cases ds P t <;> try exact .inr fun _ _ => rfl
    refine Aff.cond _ ?_
    cases ob[j]? with
    | none => exact .inr fun _ _ => rfl
    | some o => cases o with
      | none => exact .inr fun _ _ => rfl
      | some o => cases o <;> first | exact .inr fun _ _ => rfl | exact Aff.cond _ (Aff.pure _)
  case i.vp => cases ds P t <;> first | exact .inr fun _ _ => rfl | exact Aff.cond _ ((dAgg_a _).bind fun ys => (idx_a ys _).map _)
  case i.ptr => cases ds P t <;> first | exact .inr fun _ _ => rfl | exact Aff.cond _ (Aff.pure _)
theorem opIndex_a (P : Program) (t : TypeId) (x ix : AV) : Aff (fun R (K : AV → Option R) => opIndex P t x ix K) := by
  unfold opIndex
  cases ix <;> cases x <;> try exact .inr fun _ _ => rfl
  case i.s => cases ds P t <;> first | exact .inr fun _ _ => rfl | exact (idx_a _ _).map _
  case i.d => cases ds P t <;> first | exact .inr fun _ _ => rfl | exact Aff.cond _ ((dAgg_a _).bind fun ys => (idx_a ys _).bind fun y => (openD_a P depth _ y).map _)
theorem opExtract_a (x : AV) (i : Nat) : Aff (fun R (K : AV → Option R) => opExtract x i K) := by
  cases x <;> try exact .inr fun _ _ => rfl
  rename_i l; simp only [opExtract]; cases l[i]? <;> first | exact .inr fun _ _ => rfl | exact Aff.pure _
theorem opBuild_a (P : Program) (t : TypeId) (ps : List (Nat × AV)) : Aff (fun R (K : AV → Option R) => opBuild P t ps K) := by
  refine Aff.cond _ ?_
  cases fillA P t (zeroA P depth t) ps <;> first | exact .inr fun _ _ => rfl | exact Aff.pure _
/-- a load hands the objects on as they are -/
theorem opLoad_a (P : Program) (t : TypeId) (a : AV) (ob : Objs) : Aff (fun R (K : AV → Option R) => opLoad P t a ob fun v _ => K v) ∧ ∀ R (K : AV → Objs → Option R), opLoad P t a ob K = opLoad P t a ob fun v _ => K v ob := by
  refine ⟨?_, fun R K => ?_⟩
  · unfold opLoad
    cases a <;> try exact .inr fun _ _ => rfl
    case vp => exact Aff.cond _ ((openD_a P _ _ _).map _)
    case ptr j p u =>
      refine Aff.cond _ ?_
      cases ob[j]? with
      | none => exact .inr fun _ _ => rfl
      | some o => cases o with
        | none => exact .inr fun _ _ => rfl
        | some o =>
          cases o
          · refine (navA_a P p _).bind fun r => ?_
            cases r
            · exact Aff.cond _ (Aff.pure _)
            · exact (openD_a P _ _ _).map _
          · exact .inr fun _ _ => rfl
    case ap j i p u =>
      refine Aff.cond _ ?_
      cases ob[j]? with
      | none => exact .inr fun _ _ => rfl
      | some o => cases o with
        | none => exact .inr fun _ _ => rfl
        | some o =>
          cases o
          · exact .inr fun _ _ => rfl
          · exact (lGet_a _ _).bind fun x => (navD_a p x).bind fun y => (openD_a P _ _ _).map _
  · unfold opLoad; rfl
theorem bnd_a (a : Option AV) (df top : Nat) : Aff (fun R (K : Nat → Option R) => bnd a df top K) := by
  unfold bnd
  cases a with
  | none => exact Aff.pure _
  | some a => cases a <;> first | exact .inr fun _ _ => rfl | exact Aff.cond _ (Aff.pure _)
theorem opSlice_a (P : Program) (t : TypeId) (x : AV) (lo hi mx : Option AV) (ob : Objs) (hx : noRef x = true) :
    Aff (fun R (K : AV → Option R) => opSlice P false t x lo hi mx ob fun v _ => K v) ∧ ∀ R (K : AV → Objs → Option R), opSlice P false t x lo hi mx ob K = opSlice P false t x lo hi mx ob fun v _ => K v ob := by
  unfold opSlice
  cases x <;> (try exact Bool.noConfusion (show false = true from hx)) <;> refine ⟨?_, fun R K => ?_⟩ <;> cases ds P t <;> (try exact .inr fun _ _ => rfl) <;> (try rfl)
  case s.refine_1.string =>
    cases mx <;> first | exact .inr fun _ _ => rfl | exact (bnd_a _ _ _).bind fun h => (bnd_a _ _ _).map _
  case snil.refine_1.slice =>
    cases mx <;> first | exact .inr fun _ _ => rfl | exact (bnd_a _ _ _).bind fun h => (bnd_a _ _ _).map _
  case sl.refine_1.slice =>
    refine Aff.cond _ ?_
    cases mx
    · exact (bnd_a _ _ _).bind fun h => (bnd_a _ _ _).map _
    · cases hi
      · exact .inr fun _ _ => rfl
      · exact (bnd_a _ _ _).bind fun m => (bnd_a _ _ _).bind fun h => (bnd_a _ _ _).map _

/-- of calls: those alone that hand on nothing but data and leave nothing -/
theorem calmH_nil (call : Handle) (g : FuncId) (args : List AV) (a : Nat) (l : List Nat) (F : Nat → Option Obj) : calmH call g args ((a :: l).map F) = none := rfl
theorem frzL_noRef {ob : Objs} : ∀ {l : List AV}, (l.all noRef) = true → frzL l ob = (l, ob)
  | [], _ => rfl
  | a :: r, h => by
    simp only [List.all_cons, Bool.and_eq_true] at h
    have h1 : frz a ob = (a, ob) := by
      cases a <;> first | rfl | exact Bool.noConfusion (show false = true from h.1)
    simp only [frzL, h1, frzL_noRef h.2]
theorem aInt_a (k : IntKind) (x : AV) : Aff (fun R (K : Int → Option R) => aInt k x K) := by
  cases x <;> first | exact .inr fun _ _ => rfl | exact Aff.cond _ (Aff.pure _)
theorem aBool_a (x : AV) : Aff (fun R (K : Bool → Option R) => aBool x K) := by
  cases x <;> first | exact .inr fun _ _ => rfl | exact .inl ⟨_, fun _ _ => rfl⟩
theorem aStr_a (x : AV) : Aff (fun R (K : List UInt8 → Option R) => aStr x K) := by
  cases x <;> first | exact .inr fun _ _ => rfl | exact .inl ⟨_, fun _ _ => rfl⟩
theorem aSl_a (e : TypeId) (x : AV) : Aff (fun R (K : Cp × List D → Option R) => aSl e x fun c l => K (c, l)) := by
  cases x <;> first | exact .inr fun _ _ => rfl | exact .inl ⟨(_, _), fun _ _ => rfl⟩ | (exact Aff.cond _ (Aff.pure (A := Cp × List D) (_, _)))
theorem aD_a (t : TypeId) (x : AV) : Aff (fun R (K : D → Option R) => aD t x K) := by
  cases x <;> first | exact .inr fun _ _ => rfl | exact Aff.cond _ (Aff.pure _)
theorem aPtr_a (t : TypeId) (x : AV) : Aff (fun R (K : AV → Option R) => aPtr t x K) := by
  cases x <;> first | exact .inr fun _ _ => rfl | exact Aff.cond _ (Aff.pure _) | exact .inl ⟨_, fun _ _ => rfl⟩
theorem aTuple_a (x : AV) : Aff (fun R (K : List AV → Option R) => aTuple x K) := by
  cases x <;> first | exact .inr fun _ _ => rfl | exact .inl ⟨_, fun _ _ => rfl⟩
theorem openA_a (P : Program) (t : TypeId) (a : AV) : Aff (fun R (K : AV → Option R) => openA P t a K) := by
  unfold openA
  cases ds P t <;> try exact .inr fun _ _ => rfl
  case int k => exact (aInt_a k a).map _
  case bool => exact (aBool_a a).map _
  case string => exact (aStr_a a).map _
  case slice e => exact (aSl_a _ a).map fun p => AV.sl (underId P e) p.1 p.2
  case struct fs => exact (aD_a _ a).bind fun x => (openD_a P depth t x).map _
  case array => exact (aD_a _ a).bind fun x => (dAgg_a x).map _
  case pointer e => exact aPtr_a _ a
  case unsafePointer => cases a <;> first | exact .inr fun _ _ => rfl | exact .inl ⟨_, fun _ _ => rfl⟩
  case interface => cases a <;> first | exact .inr fun _ _ => rfl | exact .inl ⟨_, fun _ _ => rfl⟩
theorem openAs_a (P : Program) : ∀ (ts : List TypeId) (l : List AV), Aff (fun R (K : List AV → Option R) => openAs P ts l K)
  | [], l => lNil_a l (Aff.pure _)
  | t :: ts, l => by
    cases l with
    | nil => exact .inr fun _ _ => rfl
    | cons a r => exact (openA_a P t a).bind fun a' => (openAs_a P ts r).map (a' :: ·)
theorem openR_a (P : Program) (t : TypeId) (a : AV) : Aff (fun R (K : AV → Option R) => openR P t a K) := by
  unfold openR
  cases h : ds P t
  case tuple ts => exact (aTuple_a a).bind fun l => (openAs_a P ts.toList l).map _
  all_goals exact openA_a P t a

/-- a calm operation hands on one value and the objects as they are, or nothing -/
def Calm (ob : Objs) (F : ∀ R : Type, (AV → Objs → Option R) → Option R) : Prop := (∃ a, ∀ R K, F R K = K a ob) ∨ ∀ R K, F R K = none
theorem Calm.of {ob : Objs} {F : ∀ R : Type, (AV → Objs → Option R) → Option R} (h : Aff fun R (K : AV → Option R) => F R fun v _ => K v) (he : ∀ R K, F R K = F R fun v _ => K v ob) : Calm ob F := by
  rcases h with ⟨a, h⟩ | h
  · exact .inl ⟨a, fun R K => (he R K).trans (h R fun v => K v ob)⟩
  · exact .inr fun R K => (he R K).trans (h R fun v => K v ob)
theorem Calm.aff {ob : Objs} {F : ∀ R : Type, (AV → Option R) → Option R} (h : Aff F) : Calm ob fun R K => F R fun a => K a ob := by
  rcases h with ⟨a, h⟩ | h
  · exact .inl ⟨a, fun R K => h R _⟩
  · exact .inr fun R K => h R _
theorem calm_call (Γ : Ctx) (call : Handle) (t : TypeId) (g : AV) (as : List AV) (ob : Objs) (h : (as.all noRef) = true) : Calm ob fun R K => opCall Γ (calmH call) t g as ob K := by
  unfold opCall
  cases g <;> try exact .inr fun _ _ => rfl
  rename_i f caps
  cases caps with
  | cons _ _ => exact .inr fun _ _ => rfl
  | nil =>
    simp only [frzL_noRef h]
    cases hb : (clsd ob (reach ob 400 (idsOb ob (idsL as)) (idsL as)) (idsL as) && Nat.beq (rootsOf Γ.roots f) (idsL as).length) with
    | false => exact .inr fun R K => by simp only [hb, cond_false]
    | true =>
      obtain ⟨x, hx⟩ := reach_pre (ob := ob) 400 (idsOb ob (idsL as)) (idsL as)
      cases hr : idsL as with
      | cons a l =>
        rw [hr] at hx
        refine .inr fun R K => ?_
        simp only [hr] at hb
        simp only [hr]
        simp only [hb, cond_true]
        rw [hx]
        simp only [List.cons_append, calmH_nil]
      | nil =>
        rw [hr] at hb
        have h0 : reach ob 400 (idsOb ob []) [] = [] := rfl
        simp only [h0] at hb ⊢
        simp only [hb, cond_true, List.map_nil]
        simp only [calmH, lNil]
        cases hc : call f (renL (fun j => posN j []) as) [] with
        | none => exact .inr fun R K => rfl
        | some p =>
          obtain ⟨c, r, os⟩ := p
          cases os with
          | cons _ _ => exact .inr fun R K => rfl
          | nil =>
            cases c with
            | false => exact .inr fun R K => rfl
            | true =>
            have := openR_a Γ.P t (renA (backN [] (List.length ob)) r)
            rcases this with ⟨a, h1⟩ | h1
            · refine .inl ⟨a, fun R K => ?_⟩
              simp only [lNil, sameBoxes, Bool.true_and, cond_true]
              exact (h1 R _).trans (by simp [putRoots, killAll])
            · refine .inr fun R K => ?_
              simp only [lNil, sameBoxes, Bool.true_and, cond_true]
              exact h1 R _
theorem opConvert_c (P : Program) (s d : TypeId) (x : AV) (ob : Objs) : Calm ob fun R K => opConvert P false s d x ob K := by
  unfold opConvert
  cases und P s with
  | none => exact .inr fun _ _ => rfl
  | some sd =>
    cases ds P d <;> try (cases x <;> first | exact .inr fun R K => rfl | exact .inl ⟨_, fun R K => rfl⟩)
    case slice e =>
      cases x <;> try exact .inr fun _ _ => rfl
      simp only
      cases ds P e <;> try exact .inr fun _ _ => rfl
      rename_i k
      cases k <;> first | exact .inr fun _ _ => rfl | exact .inl ⟨_, fun _ _ => rfl⟩
    case string =>
      cases sd <;> try (cases x <;> first | exact .inr fun R K => rfl | exact .inl ⟨_, fun R K => rfl⟩)
      rename_i e
      simp only
      cases ds P e <;> try (cases x <;> first | exact .inr fun R K => rfl | exact .inl ⟨_, fun R K => rfl⟩)
      rename_i k
      cases k <;> try (cases x <;> first | exact .inr fun R K => rfl | exact .inl ⟨_, fun R K => rfl⟩)
      cases hq : elems P (underId P e) ob x with
      | none => cases x <;> first | exact .inl ⟨_, fun R K => rfl⟩ | exact .inr fun R K => by simp only [hq]
      | some xs =>
        have hk := Calm.aff (ob := ob) ((kBytes_a xs).map AV.s)
        rcases hk with ⟨a, hk⟩ | hk
        · cases x <;> first | exact .inl ⟨_, fun R K => rfl⟩ | exact .inl ⟨a, fun R K => by simp only [hq]; exact hk R K⟩
        · cases x <;> first | exact .inl ⟨_, fun R K => rfl⟩ | exact .inr fun R K => by simp only [hq]; exact hk R K
theorem fillL_noRef (P : Program) (e : TypeId) : ∀ (ps : List (Nat × AV)) (xs : List D), (ps.all fun p => noRef p.2) = true → ∃ o : Option (List D), ∀ ob : Objs, fillL P e xs ps ob = o.map fun ys => (ys, ob)
  | [], xs, _ => ⟨some xs, fun _ => rfl⟩
  | (i, v) :: r, xs, h => by
    simp only [List.all_cons, Bool.and_eq_true] at h
    have h1 : ∀ ob, frz v ob = (v, ob) := fun ob => by
      cases v <;> first | rfl | exact Bool.noConfusion (show false = true from h.1)
    simp only [fillL, h1]
    cases toD v with
    | none => exact ⟨none, fun _ => rfl⟩
    | some y =>
      cases hb : (isTy P e v && Nat.blt i xs.length) with
      | false => exact ⟨none, fun _ => by simp only [cond_false]; rfl⟩
      | true =>
        obtain ⟨o, ho⟩ := fillL_noRef P e r (xs.set i y) h.2
        exact ⟨o, fun ob => by simp only [cond_true]; exact ho ob⟩
theorem opBuildSlice_c2 (P : Program) (t : TypeId) (n : Nat) (ps : List (Nat × AV)) (h : (ps.all fun p => noRef p.2) = true) : (∃ a, ∀ (ob : Objs) (R : Type) (K : AV → Objs → Option R), opBuildSlice P false t n ps ob K = K a ob) ∨ ∀ (ob : Objs) (R : Type) (K : AV → Objs → Option R), opBuildSlice P false t n ps ob K = none := by
  unfold opBuildSlice
  cases ds P t <;> try exact .inr fun _ _ _ => rfl
  rename_i e
  simp only
  cases toD (zeroA P depth e) with
  | none => exact .inr fun _ _ _ => rfl
  | some z =>
    simp only
    cases fits P e (zeroA P depth e) && Nat.ble (n * P.cellsOf e) 16777216 with
    | false => exact .inr fun _ _ _ => rfl
    | true =>
      obtain ⟨o, ho⟩ := fillL_noRef P e ps (List.replicate n z) h
      simp only [cond_true, ho]
      cases o <;> first | exact .inr fun _ _ _ => rfl | exact .inl ⟨_, fun _ _ _ => rfl⟩
theorem opBuildSlice_c (P : Program) (t : TypeId) (n : Nat) (ps : List (Nat × AV)) (ob : Objs) (h : (ps.all fun p => noRef p.2) = true) : Calm ob fun R K => opBuildSlice P false t n ps ob K := by
  rcases opBuildSlice_c2 P t n ps h with ⟨a, h⟩ | h
  · exact .inl ⟨a, h ob⟩
  · exact .inr (h ob)
theorem opBuiltin_c (P : Program) (b : Builtin) (ts : List TypeId) (as : List AV) (ob : Objs) (h : (match b with | .len | .min | .max | .unsafeSliceData => true | _ => false) = true) : Calm ob fun R K => opBuiltin P b ts as ob K := by
  cases b <;> try exact Bool.noConfusion (show false = true from h)
  case len =>
    cases ts <;> cases as <;> try exact .inr fun _ _ => rfl
    rename_i t ts a as
    simp only [opBuiltin]
    cases ds P t <;> try (first | exact .inr fun _ _ => rfl | exact .inl ⟨_, fun _ _ => rfl⟩)
    case pointer p => simp only; cases ds P p <;> first | exact .inr fun _ _ => rfl | exact .inl ⟨_, fun _ _ => rfl⟩
    case string => cases a <;> first | exact .inr fun _ _ => rfl | exact .inl ⟨_, fun _ _ => rfl⟩
    case slice => simp only; cases lenA ob a <;> first | exact .inr fun _ _ => rfl | exact .inl ⟨_, fun _ _ => rfl⟩
  case unsafeSliceData =>
    cases as with
    | nil => cases ts <;> exact .inr fun _ _ => rfl
    | cons x as => cases as with
      | cons _ _ => cases ts <;> exact .inr fun _ _ => rfl
      | nil =>
        simp only [opBuiltin]
        cases x <;> try exact .inr fun _ _ => rfl
        case snil => exact .inl ⟨_, fun _ _ => rfl⟩
        case sl e c xs => cases c <;> first | exact .inr fun _ _ => rfl | exact .inl ⟨_, fun _ _ => rfl⟩
        case ref e j =>
          simp only
          cases ob[j]? with
          | none => exact .inr fun _ _ => rfl
          | some o => cases o with
            | none => exact .inr fun _ _ => rfl
            | some o => cases o with
              | box => exact .inr fun _ _ => rfl
              | arr e xs fz => cases xs <;> first | exact .inr fun _ _ => rfl | exact .inl ⟨_, fun _ _ => rfl⟩
  case min =>
    cases ts <;> cases as <;> (try exact .inr fun _ _ => rfl) <;> (rename_i a as; cases a) <;> (try exact .inr fun _ _ => rfl) <;> simp only [opBuiltin]
    all_goals (rename_i k x; cases minL k x as <;> first | exact .inr fun _ _ => rfl | exact .inl ⟨_, fun _ _ => rfl⟩)
  case max =>
    cases ts <;> cases as <;> (try exact .inr fun _ _ => rfl) <;> (rename_i a as; cases a) <;> (try exact .inr fun _ _ => rfl) <;> simp only [opBuiltin]
    all_goals (rename_i k x; cases maxL k x as <;> first | exact .inr fun _ _ => rfl | exact .inl ⟨_, fun _ _ => rfl⟩)
theorem opPtrEq_a (P : Program) (op : BinOp) (t : TypeId) (x y : AV) (ob : Objs) : Aff fun R (K : AV → Option R) => opPtrEq P op t x y ob K := by
  cases x <;> cases y <;> try exact .inr fun _ _ => rfl
  rename_i j p u j' p' u'
  unfold opPtrEq
  simp only
  cases ob[j]? with
  | none => exact .inr fun _ _ => rfl
  | some o => cases o with
    | none => exact .inr fun _ _ => rfl
    | some o => cases o with
      | arr => exact .inr fun _ _ => rfl
      | box tb c =>
        cases ds P t <;> try exact .inr fun _ _ => rfl
        refine Aff.cond _ ?_
        cases op <;> first | exact .inr fun _ _ => rfl | exact Aff.pure _
theorem opPtrConv_a (P : Program) (s d : TypeId) (x : AV) (ob : Objs) : Aff fun R (K : AV → Option R) => opPtrConv P s d x ob K := by
  cases x <;> try exact .inr fun _ _ => rfl
  rename_i j p u
  cases p <;> try exact .inr fun _ _ => rfl
  unfold opPtrConv
  simp only
  cases ob[j]? with
  | none => exact .inr fun _ _ => rfl
  | some o => cases o with
    | none => exact .inr fun _ _ => rfl
    | some o => cases o with
      | arr => exact .inr fun _ _ => rfl
      | box tb c =>
        cases und P s with
        | none => exact .inr fun _ _ => rfl
        | some sd => cases sd <;> cases ds P d <;> first | exact .inr fun _ _ => rfl | exact Aff.cond _ (Aff.pure _)
/-- what is called calm is so -/
theorem calm_ok (Γ : Ctx) (call : Handle) (f : FuncId) (o : Oper) (ρ : Operand → AV) (ob : Objs) (h : isCalm Γ f o ρ = true) : Calm ob fun R K => stepOp Γ (calmH call) f o ρ ob K := by
  obtain ⟨dst, op, type, pos, after, guard⟩ := o
  cases op <;> simp only [stepOp] <;> (try exact Bool.noConfusion (show false = true from h))
  case move x => exact .inl ⟨_, fun _ _ => rfl⟩
  case assign x => exact .inl ⟨_, fun _ _ => rfl⟩
  case pick c a b =>
    cases ρ c <;> try exact .inr fun _ _ => rfl
    rename_i x
    cases x
    · exact .inl ⟨_, fun _ _ => rfl⟩
    · exact .inl ⟨_, fun _ _ => rfl⟩
  case build t ps => exact Calm.aff (opBuild_a _ _ _)
  case buildSlice t n ps =>
    simp only [isCalm, Bool.and_eq_true, Bool.not_eq_true'] at h
    simp only [h.1]
    exact opBuildSlice_c _ _ _ _ _ (by simpa [List.all_map] using h.2)
  case load t a => exact Calm.of (opLoad_a _ _ _ _).1 (opLoad_a _ _ _ _).2
  case nilCheck x => cases ρ x <;> first | exact .inr fun _ _ => rfl | exact .inl ⟨_, fun _ _ => rfl⟩
  case binOp op t x y yt =>
    cases isNilC y with
    | true => exact Calm.aff (errK_a _ _ _ _)
    | false =>
    cases isPtr (ρ x) && isPtr (ρ y) with
    | true => exact Calm.aff (opPtrEq_a _ _ _ _ _ _)
    | false => exact Calm.aff (opBin_a _ _ _ _ _)
  case unOp op t x =>
    cases opUn op (ρ x) <;> first | exact .inr fun _ _ => rfl | exact .inl ⟨_, fun _ _ => rfl⟩
  case convert s d x =>
    simp only [isCalm, Bool.not_eq_true'] at h
    simp only [h]
    cases isPtr (ρ x) with
    | true => exact Calm.aff (opPtrConv_a _ _ _ _ _)
    | false => exact opConvert_c _ _ _ _ _
  case slice t x lo hi mx =>
    simp only [isCalm, Bool.and_eq_true, Bool.not_eq_true'] at h
    simp only [h.1]
    have := opSlice_a Γ.P t (ρ x) (lo.map ρ) (hi.map ρ) (mx.map ρ) ob h.2
    exact Calm.of this.1 this.2
  case fieldAddr => exact Calm.aff (opFieldAddr_a _ _ _ _)
  case field => exact Calm.aff (opField_a _ _ _ _)
  case indexAddr => exact Calm.aff (opIndexAddr_a _ _ _ _ _)
  case index => exact Calm.aff (opIndex_a _ _ _ _)
  case extract => exact Calm.aff (opExtract_a _ _)
  case call c =>
    obtain ⟨callee, args, ats⟩ := c
    cases callee <;> try exact .inr fun _ _ => rfl
    case builtin b => exact opBuiltin_c _ _ _ _ _ (by cases b <;> first | rfl | exact Bool.noConfusion (show false = true from h))
    case value g =>
      simp only [isCalm] at h
      exact calm_call _ _ _ _ _ _ (by simpa [List.all_map] using h)
theorem get_app {ob : Objs} {j : Nat} {o : Option Obj} (h : ob[j]? = some o) (T : Objs) : (ob ++ T)[j]? = some o := by
  rw [List.getElem?_append_left (List.getElem?_eq_some_iff.1 h).1]; exact h
def K0 : AV → Objs → Option AV := fun v _ => some v
theorem load_mono {P : Program} {t : TypeId} {a : AV} {ob : Objs} {r : AV} (x : Objs) (h : opLoad P t a ob K0 = some r) : opLoad P t a (ob ++ x) K0 = some r := by
  cases a <;> simp only [opLoad] at h ⊢ <;> try exact h
  case ptr j p u =>
    cases hj : ob[j]? with
    | none => rw [hj] at h; cases (Nat.beq u (underId P t)) <;> simp at h
    | some o => rw [get_app hj]; rw [hj] at h; exact h
  case ap j i p u =>
    cases hj : ob[j]? with
    | none => rw [hj] at h; cases (Nat.beq u (underId P t)) <;> simp at h
    | some o => rw [get_app hj]; rw [hj] at h; exact h
theorem indexAddr_mono {P : Program} {t : TypeId} {a b : AV} {ob : Objs} {r : AV} (x : Objs) (h : (opIndexAddr P t a b ob fun v => K0 v ob) = some r) : (opIndexAddr P t a b (ob ++ x) fun v => K0 v (ob ++ x)) = some r := by
  cases a <;> cases b <;> simp only [opIndexAddr] at h ⊢ <;> try exact h
  case ref.i e j k n =>
    cases hd : ds P t <;> rw [hd] at h <;> simp only at h ⊢ <;> try exact h
    cases hj : ob[j]? with
    | none => rw [hj] at h; rename_i e'; cases (Nat.beq e (underId P e')) <;> simp at h
    | some o => rw [get_app hj]; rw [hj] at h; exact h
theorem lenA_mono {ob : Objs} {a : AV} {n : Nat} (x : Objs) (h : lenA ob a = some n) : lenA (ob ++ x) a = some n := by
  cases a <;> simp only [lenA] at h ⊢ <;> try exact h
  case ref e j =>
    cases hj : ob[j]? with
    | none => rw [hj] at h; simp at h
    | some o => rw [get_app hj]; rw [hj] at h; exact h
theorem slice_same {P : Program} {t : TypeId} {x : AV} {lo hi mx : Option AV} (ob ob' : Objs) (hx : noRef x = true) : opSlice P false t x lo hi mx ob K0 = opSlice P false t x lo hi mx ob' K0 := by
  unfold opSlice
  cases x <;> (try exact Bool.noConfusion (show false = true from hx)) <;> cases ds P t <;> (try rfl) <;> cases mx <;> (try rfl) <;> cases hi <;> rfl
/-- new objects are not felt -/
theorem calm_mono {Γ : Ctx} {call : Handle} {f : FuncId} {o : Oper} {ρ : Operand → AV} {ob : Objs} {r : AV} (h1 : isCalm Γ f o ρ = true) (h2 : isCalm2 o ρ = true) (x : Objs) (h : stepOp Γ (calmH call) f o ρ ob K0 = some r) : stepOp Γ (calmH call) f o ρ (ob ++ x) K0 = some r := by
  obtain ⟨dst, op, type, pos, after, guard⟩ := o
  cases op <;> simp only [stepOp] at h ⊢ <;> (try exact Bool.noConfusion (show false = true from h2)) <;> (try exact h)
  case load t a => exact load_mono x h
  case buildSlice t n ps =>
    simp only [isCalm, Bool.and_eq_true, Bool.not_eq_true'] at h1
    simp only [h1.1] at h ⊢
    rcases opBuildSlice_c2 Γ.P t n (ps.toList.map fun p => (p.1, ρ p.2)) (by simpa [List.all_map] using h1.2) with ⟨a, ha⟩ | ha
    · rw [ha] at h ⊢; exact h
    · rw [ha] at h; exact absurd h (by simp)
  case slice t a lo hi mx =>
    simp only [isCalm, Bool.and_eq_true, Bool.not_eq_true'] at h1
    simp only [h1.1] at h ⊢
    rw [← slice_same ob (ob ++ x) h1.2]; exact h
  case binOp op t a b yt =>
    simp only [isCalm2, Bool.not_eq_true'] at h2
    rw [h2] at h ⊢
    exact h
  case indexAddr => exact indexAddr_mono x h
  case call c =>
    obtain ⟨callee, args, ats⟩ := c
    cases callee <;> try exact Bool.noConfusion (show false = true from h2)
    case builtin b =>
      cases b <;> try exact Bool.noConfusion (show false = true from h2)
      case len =>
        cases hts : ats.toList with
        | nil => rw [hts] at h; simp [opBuiltin] at h
        | cons t ts =>
          cases has : args.toList.map ρ with
          | nil => rw [hts, has] at h; simp [opBuiltin] at h
          | cons a as =>
            rw [hts, has] at h
            simp only [opBuiltin] at h ⊢
            cases hd : ds Γ.P t <;> rw [hd] at h <;> simp only at h ⊢ <;> try exact h
            cases hn : lenA ob a with
            | none => rw [hn] at h; simp at h
            | some n => rw [lenA_mono x hn]; rw [hn] at h; exact h
/-- what a calm operation comes to, with more objects as well -/
theorem calm2_ok (Γ : Ctx) (call : Handle) (f : FuncId) (o : Oper) (ρ : Operand → AV) (ob : Objs) (h : isCalm Γ f o ρ = true) : (∃ a, (∀ (R : Type) (K : AV → Objs → Option R), stepOp Γ (calmH call) f o ρ ob K = K a ob) ∧
    (isCalm2 o ρ = true → ∀ (x : Objs) (R : Type) (K : AV → Objs → Option R), stepOp Γ (calmH call) f o ρ (ob ++ x) K = K a (ob ++ x))) ∨ ∀ (R : Type) (K : AV → Objs → Option R), stepOp Γ (calmH call) f o ρ ob K = none := by
  rcases calm_ok Γ call f o ρ ob h with ⟨a, ha⟩ | hn
  · refine .inl ⟨a, ha, fun h2 x => ?_⟩
    have h0 := calm_mono h h2 x (ha AV K0)
    rcases calm_ok Γ call f o ρ (ob ++ x) h with ⟨b, hb⟩ | hn
    · have := (hb AV K0).symm.trans h0
      have hba : b = a := Option.some.inj this
      subst hba
      exact hb
    · have := (hn AV K0).symm.trans h0
      exact absurd this (by simp)
  · exact .inr hn
/-- what makes an object: one value, the older objects as they were -/
def Mk (ob T : Objs) (F : ∀ R : Type, (AV → Objs → Option R) → Option R) : Prop := (∃ a T', ∀ (R : Type) (K : AV → Objs → Option R), F R K = K a (ob ++ T')) ∨ ∀ (R : Type) (K : AV → Objs → Option R), F R K = none
theorem onNil_mk {ob T T1 T2 : Objs} {a b : AV} (ys : List D) (c : Bool) : Mk ob T fun R K => onNil ys (K a (ob ++ T1)) (bif c then K b (ob ++ T2) else none) := by
  cases ys with
  | nil => exact .inl ⟨a, T1, fun _ _ => rfl⟩
  | cons y r =>
    cases c
    · exact .inr fun _ _ => rfl
    · exact .inl ⟨b, T2, fun _ _ => rfl⟩
theorem append_mk {P : Program} {t : TypeId} {s x : AV} {ob T : Objs} (hs : ∀ e j, s = .ref e j → ob.length ≤ j) : Mk ob T fun R K => opAppend P t s x (ob ++ T) K := by
  unfold opAppend
  cases ds P t <;> try exact .inr fun _ _ => rfl
  rename_i e0
  simp only
  cases fits P e0 (zeroA P depth e0) with
  | false => exact .inr fun _ _ => rfl
  | true =>
    simp only [cond_true]
    cases elems P (underId P e0) (ob ++ T) x with
    | none => exact .inr fun _ _ => rfl
    | some ys =>
      simp only [List.append_assoc]
      cases s <;> try exact .inr fun _ _ => rfl
      case snil => exact onNil_mk (T := T) ys _
      case sl e' c xs =>
        cases c with
        | any => exact .inr fun _ _ => rfl
        | nn => exact .inr fun _ _ => rfl
        | ex => exact onNil_mk (T := T) ys _
        | nl =>
          cases xs with
          | nil => exact onNil_mk (T := T) ys _
          | cons _ _ => exact .inr fun _ _ => rfl
      case ref e' j =>
        simp only
        have hj := hs e' j rfl
        cases (ob ++ T)[j]? with
        | none => exact .inr fun _ _ => rfl
        | some o => cases o with
          | none => exact .inr fun _ _ => rfl
          | some o => cases o with
            | box => exact .inr fun _ _ => rfl
            | arr e1 xs fz =>
              simp only
              cases Nat.beq e' (underId P e0) && roomB (xs.length + ys.length) (P.bytesOf e0) with
              | false => exact .inr fun _ _ => rfl
              | true => exact .inl ⟨_, T.set (j - ob.length) none ++ [some (.arr e' (xs ++ ys) fz)], fun R K => by simp only [cond_true]; rw [List.set_append_right _ _ hj, List.append_assoc]⟩
theorem mk_ok (Γ : Ctx) (call : Handle) (f : FuncId) (o : Oper) (ρ : Operand → AV) (ob T : Objs) (h1 : isMk o = true) (h2 : mkFresh ob.length o ρ = true) : Mk ob T fun R K => stepOp Γ (calmH call) f o ρ (ob ++ T) K := by
  obtain ⟨dst, op, type, pos, after, guard⟩ := o
  cases op <;> (try (cases guard <;> exact Bool.noConfusion (show false = true from h1)))
  case alloc e =>
    simp only [stepOp]
    cases fits Γ.P e (zeroA Γ.P depth e) with
    | false => exact .inr fun _ _ => rfl
    | true => exact .inl ⟨_, T ++ [some (.box (underId Γ.P e) (zeroA Γ.P depth e))], fun R K => by simp only [cond_true, List.append_assoc]; rfl⟩
  case call c =>
    obtain ⟨callee, args, ats⟩ := c
    cases guard with
    | some _ => exact Bool.noConfusion (show false = true from h1)
    | none =>
    cases callee <;> try exact Bool.noConfusion (show false = true from h1)
    rename_i b
    cases b <;> try exact Bool.noConfusion (show false = true from h1)
    simp only [stepOp]
    simp only [mkFresh] at h2
    cases hts : ats.toList with
    | nil => exact .inr fun _ _ => rfl
    | cons t ts => cases ts with
      | nil => exact .inr fun _ _ => rfl
      | cons t' ts => cases ts with
        | cons _ _ => exact .inr fun _ _ => rfl
        | nil =>
          cases has : args.toList.map ρ with
          | nil => exact .inr fun _ _ => rfl
          | cons s as => cases as with
            | nil => exact .inr fun _ _ => rfl
            | cons x as => cases as with
              | cons _ _ => exact .inr fun _ _ => rfl
              | nil =>
                have hs : ∀ e j, s = .ref e j → ob.length ≤ j := fun e j he => by
                  subst he
                  rw [has] at h2
                  exact Nat.le_of_ble_eq_true h2
                simp only [opBuiltin]
                cases ds Γ.P t' <;> first | exact .inr fun _ _ => rfl | exact append_mk hs
end Go.Proofs.YtjbemleloffafaaDoor.V
