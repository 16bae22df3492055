/- strconv.FormatUint at base 10; strconv.ParseUint, strings.Cut, TrimPrefix, HasPrefix, as the library's contracts have them. The layings are written by program; the walk of FormatUint follows the library's walk of FormatInt. -/
import Derived.Test.YtlmdkclchjcapaaDoorWhG
import Derived.Shelf.Strings.Cut
import Derived.Shelf.Strings.Prefix
import Derived.Shelf.Pu.ParseUintPublic10
import Derived.Shelf.Strconv.Itoa3
import Derived.Lib.Walk
import Derived.Lib.ItoaMem
import Derived.WalkKit
import Derived.BigCall
import Derived.BigGuard
namespace Go.Proofs
set_option maxRecDepth 100000
def Lk.lays145_ren : Go.Shelf.Ren := ⟨fun | 145 => 59 | 217 => 97 | 219 => 87 | 220 => 75 | 224 => 99 | 225 => 98 | 266 => 103 | 267 => 100 | 314 => 104 | n => n, fun | 3 => 3 | 4 => 4 | 5 => 5 | 9 => 9 | 46 => 76 | 51 => 106 | 59 => 86 | 146 => 107 | n => n, fun | 1 => 4 | n => n⟩
theorem Lk.lays145 : Go.Proofs.Lays.n145 Tryd.prog Lk.lays145_ren :=
  { mixed := by kernel_rfl, f145 := Tryd.func59.trans (congrArg some (by kernel_rfl)), f217 := Tryd.func97.trans (congrArg some (by kernel_rfl)), f219 := Tryd.func87.trans (congrArg some (by kernel_rfl)), f220 := Tryd.func75.trans (congrArg some (by kernel_rfl)), f224 := Tryd.func99.trans (congrArg some (by kernel_rfl)), f225 := Tryd.func98.trans (congrArg some (by kernel_rfl)), f266 := Tryd.func103.trans (congrArg some (by kernel_rfl)), f267 := Tryd.func100.trans (congrArg some (by kernel_rfl)), f314 := Tryd.func104.trans (congrArg some (by kernel_rfl)), t3 := Tryd.underlying3, a3 := Tryd.isAgg3, z3 := Tryd.sizeOf3, v3 := Tryd.zeroValue3, t4 := Tryd.underlying4, a4 := Tryd.isAgg4, z4 := Tryd.sizeOf4, v4 := Tryd.zeroValue4, t5 := Tryd.underlying5, a5 := Tryd.isAgg5, z5 := Tryd.sizeOf5, v5 := Tryd.zeroValue5, t9 := Tryd.underlying9, a9 := Tryd.isAgg9, z9 := Tryd.sizeOf9, v9 := Tryd.zeroValue9, t46 := Tryd.underlying76, a46 := Tryd.isAgg76, z46 := Tryd.sizeOf76, v46 := Tryd.zeroValue76, t51 := Tryd.underlying106, a51 := Tryd.isAgg106, z51 := Tryd.sizeOf106, v51 := Tryd.zeroValue106, t59 := Tryd.underlying86, a59 := Tryd.isAgg86, z59 := Tryd.sizeOf86, v59 := Tryd.zeroValue86, t146 := Tryd.underlying107, a146 := Tryd.isAgg107, z146 := Tryd.sizeOf107, v146 := Tryd.zeroValue107, g1 := by kernel_rfl }
def Lk.lays101_ren : Go.Shelf.Ren := ⟨fun | 101 => 44 | 206 => 74 | 208 => 58 | n => n, fun | 3 => 3 | 4 => 4 | 9 => 9 | n => n, fun | n => n⟩
theorem Lk.lays101 : Go.Proofs.Lays.n101 Tryd.prog Lk.lays101_ren :=
  { mixed := by kernel_rfl, f101 := Tryd.func44.trans (congrArg some (by kernel_rfl)), f206 := Tryd.func74.trans (congrArg some (by kernel_rfl)), f208 := Tryd.func58.trans (congrArg some (by kernel_rfl)), t3 := Tryd.underlying3, a3 := Tryd.isAgg3, z3 := Tryd.sizeOf3, v3 := Tryd.zeroValue3, t4 := Tryd.underlying4, a4 := Tryd.isAgg4, z4 := Tryd.sizeOf4, v4 := Tryd.zeroValue4, t9 := Tryd.underlying9, a9 := Tryd.isAgg9, z9 := Tryd.sizeOf9, v9 := Tryd.zeroValue9 }
def Lk.lays206_ren : Go.Shelf.Ren := ⟨fun | 206 => 74 | n => n, fun | 3 => 3 | 4 => 4 | 9 => 9 | n => n, fun | n => n⟩
theorem Lk.lays206 : Go.Proofs.Lays.n206 Tryd.prog Lk.lays206_ren :=
  { mixed := by kernel_rfl, f206 := Tryd.func74.trans (congrArg some (by kernel_rfl)), t3 := Tryd.underlying3, a3 := Tryd.isAgg3, z3 := Tryd.sizeOf3, v3 := Tryd.zeroValue3, t4 := Tryd.underlying4, a4 := Tryd.isAgg4, z4 := Tryd.sizeOf4, v4 := Tryd.zeroValue4, t9 := Tryd.underlying9, a9 := Tryd.isAgg9, z9 := Tryd.sizeOf9, v9 := Tryd.zeroValue9 }
def Lk.lays14_ren : Go.Shelf.Ren := ⟨fun | 14 => 60 | 16 => 76 | 17 => 52 | 19 => 88 | 20 => 89 | 21 => 69 | 22 => 70 | 23 => 71 | 24 => 72 | 25 => 81 | 26 => 82 | 27 => 49 | 28 => 61 | 29 => 77 | 30 => 83 | 31 => 84 | 32 => 85 | 33 => 86 | 34 => 92 | 35 => 93 | 36 => 94 | 37 => 95 | 38 => 96 | 39 => 101 | 40 => 102 | n => n, fun | 0 => 0 | 2 => 2 | 3 => 3 | 4 => 4 | 5 => 5 | 9 => 9 | 20 => 20 | 21 => 21 | 22 => 44 | 24 => 61 | 25 => 88 | 34 => 99 | 36 => 76 | 37 => 80 | 39 => 102 | 44 => 112 | 47 => 109 | 48 => 124 | 50 => 126 | 52 => 114 | 55 => 117 | 59 => 128 | 60 => 106 | 61 => 129 | 65 => 134 | 66 => 135 | 67 => 98 | n => n, fun | 0 => 1 | 1 => 2 | 2 => 3 | 3 => 5 | 4 => 6 | n => n⟩
theorem Lk.lays14 : Go.Proofs.LaysPu.n14 Tryd.prog Lk.lays14_ren :=
  { mixed := by kernel_rfl, f14 := Tryd.func60.trans (congrArg some (by kernel_rfl)), f16 := Tryd.func76.trans (congrArg some (by kernel_rfl)), f17 := Tryd.func52.trans (congrArg some (by kernel_rfl)), f19 := Tryd.func88.trans (congrArg some (by kernel_rfl)), f20 := Tryd.func89.trans (congrArg some (by kernel_rfl)), f21 := Tryd.func69.trans (congrArg some (by kernel_rfl)), f22 := Tryd.func70.trans (congrArg some (by kernel_rfl)), f23 := Tryd.func71.trans (congrArg some (by kernel_rfl)), f24 := Tryd.func72.trans (congrArg some (by kernel_rfl)), f25 := Tryd.func81.trans (congrArg some (by kernel_rfl)), f26 := Tryd.func82.trans (congrArg some (by kernel_rfl)), f27 := Tryd.func49.trans (congrArg some (by kernel_rfl)), f28 := Tryd.func61.trans (congrArg some (by kernel_rfl)), f29 := Tryd.func77.trans (congrArg some (by kernel_rfl)), f30 := Tryd.func83.trans (congrArg some (by kernel_rfl)), f31 := Tryd.func84.trans (congrArg some (by kernel_rfl)), f32 := Tryd.func85.trans (congrArg some (by kernel_rfl)), f33 := Tryd.func86.trans (congrArg some (by kernel_rfl)), f34 := Tryd.func92.trans (congrArg some (by kernel_rfl)), f35 := Tryd.func93.trans (congrArg some (by kernel_rfl)), f36 := Tryd.func94.trans (congrArg some (by kernel_rfl)), f37 := Tryd.func95.trans (congrArg some (by kernel_rfl)), f38 := Tryd.func96.trans (congrArg some (by kernel_rfl)), f39 := Tryd.func101.trans (congrArg some (by kernel_rfl)), f40 := Tryd.func102.trans (congrArg some (by kernel_rfl)), t0 := Tryd.underlying0, a0 := Tryd.isAgg0, z0 := Tryd.sizeOf0, v0 := Tryd.zeroValue0, i0 := by kernel_rfl, t2 := Tryd.underlying2, a2 := Tryd.isAgg2, z2 := Tryd.sizeOf2, v2 := Tryd.zeroValue2, i2 := by kernel_rfl, t3 := Tryd.underlying3, a3 := Tryd.isAgg3, z3 := Tryd.sizeOf3, v3 := Tryd.zeroValue3, i3 := by kernel_rfl, t4 := Tryd.underlying4, a4 := Tryd.isAgg4, z4 := Tryd.sizeOf4, v4 := Tryd.zeroValue4, i4 := by kernel_rfl, t5 := Tryd.underlying5, a5 := Tryd.isAgg5, z5 := Tryd.sizeOf5, v5 := Tryd.zeroValue5, i5 := by kernel_rfl, t9 := Tryd.underlying9, a9 := Tryd.isAgg9, z9 := Tryd.sizeOf9, v9 := Tryd.zeroValue9, i9 := by kernel_rfl, t20 := Tryd.underlying20, a20 := Tryd.isAgg20, z20 := Tryd.sizeOf20, v20 := Tryd.zeroValue20, i20 := by kernel_rfl, t21 := Tryd.underlying21, a21 := Tryd.isAgg21, z21 := Tryd.sizeOf21, v21 := Tryd.zeroValue21, i21 := by kernel_rfl, t22 := Tryd.underlying44, a22 := Tryd.isAgg44, z22 := Tryd.sizeOf44, v22 := Tryd.zeroValue44, i22 := by kernel_rfl, t24 := Tryd.underlying61, a24 := Tryd.isAgg61, z24 := Tryd.sizeOf61, v24 := Tryd.zeroValue61, i24 := by kernel_rfl, t25 := Tryd.underlying88, a25 := Tryd.isAgg88, z25 := Tryd.sizeOf88, v25 := Tryd.zeroValue88, i25 := by kernel_rfl, t34 := Tryd.underlying99, a34 := Tryd.isAgg99, z34 := Tryd.sizeOf99, v34 := Tryd.zeroValue99, i34 := by kernel_rfl, c34 := by kernel_rfl, t36 := Tryd.underlying76, a36 := Tryd.isAgg76, z36 := Tryd.sizeOf76, v36 := Tryd.zeroValue76, i36 := by kernel_rfl, t37 := Tryd.underlying80, a37 := Tryd.isAgg80, z37 := Tryd.sizeOf80, v37 := Tryd.zeroValue80, i37 := by kernel_rfl, t39 := Tryd.underlying102, a39 := Tryd.isAgg102, z39 := Tryd.sizeOf102, v39 := Tryd.zeroValue102, i39 := by kernel_rfl, t44 := Tryd.underlying112, a44 := Tryd.isAgg112, z44 := Tryd.sizeOf112, v44 := Tryd.zeroValue112, i44 := by kernel_rfl, t47 := Tryd.underlying109, a47 := Tryd.isAgg109, z47 := Tryd.sizeOf109, v47 := Tryd.zeroValue109, i47 := by kernel_rfl, t48 := Tryd.underlying124, a48 := Tryd.isAgg124, z48 := Tryd.sizeOf124, v48 := Tryd.zeroValue124, i48 := by kernel_rfl, t50 := Tryd.underlying126, a50 := Tryd.isAgg126, z50 := Tryd.sizeOf126, v50 := Tryd.zeroValue126, i50 := by kernel_rfl, t52 := Tryd.underlying114, a52 := Tryd.isAgg114, z52 := Tryd.sizeOf114, v52 := Tryd.zeroValue114, i52 := by kernel_rfl, t55 := Tryd.underlying117, a55 := Tryd.isAgg117, z55 := Tryd.sizeOf117, v55 := Tryd.zeroValue117, i55 := by kernel_rfl, t59 := Tryd.underlying128, a59 := Tryd.isAgg128, z59 := Tryd.sizeOf128, v59 := Tryd.zeroValue128, i59 := by kernel_rfl, t60 := Tryd.underlying106, a60 := Tryd.isAgg106, z60 := Tryd.sizeOf106, v60 := Tryd.zeroValue106, i60 := by kernel_rfl, t61 := Tryd.underlying129, a61 := Tryd.isAgg129, z61 := Tryd.sizeOf129, t65 := Tryd.underlying134, a65 := Tryd.isAgg134, z65 := Tryd.sizeOf134, v65 := Tryd.zeroValue134, i65 := by kernel_rfl, t66 := Tryd.underlying135, a66 := Tryd.isAgg135, z66 := Tryd.sizeOf135, v66 := Tryd.zeroValue135, i66 := by kernel_rfl, t67 := Tryd.underlying98, a67 := Tryd.isAgg98, z67 := Tryd.sizeOf98, v67 := Tryd.zeroValue98, i67 := by kernel_rfl, g0 := by kernel_rfl, m0 := by kernel_rfl, g1 := by kernel_rfl, m1 := by kernel_rfl, g2 := by kernel_rfl, m2 := by kernel_rfl, g3 := by kernel_rfl, m3 := by kernel_rfl, g4 := by kernel_rfl, m4 := by kernel_rfl }

end Go.Proofs
namespace Go.Proofs
open Go.Shelf Go.RowKit Go.Sort Go.Lib
/-- the new block's bytes are a row of zeros -/
theorem Fu.holds_zero (w : World) (T : TypeId) (nd : Nat) (hs : nd ≤ 24) : Holds (fun (b : UInt8) => Value.int .u8 (b.toNat : Int)) (w.alloc (.cells zeros24 T)) w.heap.size 0 (Array.replicate nd (0 : UInt8)) := fun j hj => by
  have hj' : j < nd := by simpa using hj
  refine ⟨?_, World.frozen?_alloc_new _ _ _ _⟩
  rw [World.cell?_alloc_new, zeros24_at _ (by omega), getElem!_pos _ j hj]
  simp
theorem Fu.fin (w : World) (o : Obj) (dk : Array UInt8) (k : Nat) : ∃ os, (putRow (fun (b : UInt8) => Value.int .u8 (b.toNat : Int)) (w.alloc o) w.heap.size 0 dk).drewN k = grow (w.drewN k) os := by
  rw [alloc_eq_grow]
  obtain ⟨os', _, e⟩ := putRow_grow_new (fun (b : UInt8) => Value.int .u8 (b.toNat : Int)) w #[o] w.heap.size 0 dk (Nat.le_refl _)
  exact ⟨os', by rw [e]; rfl⟩
set_option maxHeartbeats 6400000 in
set_option maxRecDepth 100000 in
/-- internal/strconv.FormatUint at base 10 -/
theorem Fu.format (u : Nat) (hu64 : u < 18446744073709551616) (w : World) (htab : Lib.TabIs Tryd.prog w "internal/strconv.uint64pow10" .u64 Lib.pow10Tab) :
    Calls Tryd.prog 73 #[.int .u64 u, .int .i64 10] w fun e w' => e = .returned (.string ⟨(Lib.decDigits u).toArray⟩) ∧ ∃ k os, w' = grow (w.drewN k) os := by
  have L := Lw.lays171
  by_cases hs : u < 100
  · have hwr : IntKind.i64.wrap (u : Int) = (u : Int) := by rw [IntKind.wrap_i64]; omega
    have hlt : (u : Int) < 100 := by omega
    go_enter Tryd.func73, Tryd.ntmps73
    go_wp2_with (go_at_call 83; refine (Any.internal_strconv_small { L with } u hs _).mono ?_; rintro e w' ⟨rfl, rfl⟩)
    go_ret
    exact ⟨rfl, 0, #[], by simp [World.drewN_zero]⟩
  · have hu1 : 1 ≤ u := by omega
    have hnd20 : Lib.nDigits u ≤ 20 := by have := Lib.numDigits_eq u hu1 hu64; split at this <;> omega
    have hb3 : Lib.nDigits u ≤ 24 := by omega
    have hal : Tryd.prog.arrayLen 114 = 24 := by simp [Program.arrayLen, Tryd.underlying114]
    have hsl1 : ∀ W, (Instr.sliceAt 114 (.pointer (some ⟨w.heap.size, 0, none⟩)) none (some (.int .i64 (Lib.nDigits u : Int))) none).run Tryd.prog W = .ok (.slice (some ⟨w.heap.size, 0, none⟩) (Lib.nDigits u) 24) W := fun W => by
      rw [run_sliceAt_array_h W 114 ⟨w.heap.size, 0, none⟩ (by simp [Program.arrayLen, Program.elem, Tryd.underlying114]) .i64 (Lib.nDigits u : Int) (by omega) (by rw [hal]; omega)]
      go_simp
    have hH0 := Fu.holds_zero w 114 (Lib.nDigits u) (by omega)
    have hfmt := Any.internal_strconv_formatBase10 (P := Tryd.prog) (ρ := Lw.lays171_ren) { L with } w.heap.size 0 24 u (Array.replicate (Lib.nDigits u) 0) (w.alloc (.cells Lib.zeros24 114)) hH0 (by rw [Array.size_replicate]; exact Lib.lt_pow_nDigits u) hu64 (by rw [Array.size_replicate]; omega)
    rw [Array.size_replicate] at hfmt
    have HH0 := Lib.hid hH0
    clear hH0 hal
    go_enter Tryd.func73, Tryd.ntmps73
    go_wp2_with (first
      | (go_at_call 84; refine (Any.internal_strconv_numDigits (P := Tryd.prog) (ρ := Lw.lays171_ren) { L with } u hu1 hu64 _ (Lib.tabIs_alloc htab _)).mono ?_; rintro e w' ⟨rfl, rfl⟩))
    go_at_call 85
    refine hfmt.mono ?_
    rintro e w' ⟨rfl, k, v', dk, rfl, hF⟩
    have hcv : (convert 80 9 (.slice (some ⟨w.heap.size, 0, none⟩) (Lib.nDigits u) 24)).run Tryd.prog ((putRow (fun (b : UInt8) => Value.int .u8 (b.toNat : Int)) (w.alloc (.cells Lib.zeros24 114)) w.heap.size 0 dk).drewN k) = .ok (.string ⟨(Lib.decDigits u).toArray⟩) ((putRow (fun (b : UInt8) => Value.int .u8 (b.toNat : Int)) (w.alloc (.cells Lib.zeros24 114)) w.heap.size 0 dk).drewN k) := by
      have h := run_convert_bytes_back (P := Tryd.prog) ((putRow (fun (b : UInt8) => Value.int .u8 (b.toNat : Int)) (w.alloc (.cells Lib.zeros24 114)) w.heap.size 0 dk).drewN k) 80 9 5 ⟨w.heap.size, 0, none⟩ 24 (Lib.decDigits u) Tryd.underlying80 Tryd.underlying5 Tryd.underlying9 (fun j hj => by
        rw [Lib.row_is_numeral hF j hj, Lib.add_plain, World.cell?_drewN]
        exact cell?_putRow (fun (b : UInt8) => Value.int .u8 (b.toNat : Int)) _ w.heap.size 0 _ dk HH0.out (by rw [hF.size, Array.size_replicate]) j (by rw [hF.size]; rw [Lib.decDigits_length] at hj; exact hj))
      rw [Lib.decDigits_length] at h
      exact h
    go_wp2
    go_ret
    obtain ⟨os, eo⟩ := Fu.fin w (.cells Lib.zeros24 114) dk k
    exact ⟨rfl, k, os, eo⟩
end Go.Proofs
namespace Go.Proofs.YtlmdkclchjcapaaDoor.V
open Go Go.RowKit
set_option maxRecDepth 100000
set_option linter.unusedVariables false
set_option linter.unusedSimpArgs false
variable {u : Bool} {mx : Int}
def u64C (n : Int) : Bool := decide (0 ≤ n ∧ n < 18446744073709551616)
def fuB (n b : Int) : Bool := u64C n && b == 10
theorem c73 (n b : Int) (h : fuB n b = true) : RetX (Γ u mx) 73 [.i .u64 n, .i .i64 b] [] (.s (Lib.decDigits n.toNat)) [] := by
  refine ret_shelf (by kernel_rfl) fun w S vals hG ha => ?_
  simp only [RepAs, RepA] at ha
  obtain ⟨v, _, rfl, rfl, v', _, rfl, rfl, rfl⟩ := ha
  simp only [fuB, u64C, Bool.and_eq_true, decide_eq_true_eq, beq_iff_eq] at h
  obtain ⟨⟨h1, h2⟩, rfl⟩ := h
  obtain ⟨n, rfl⟩ := nat_of h1
  refine (Fu.format n (by omega) w (pow_tab hG)).mono fun e w' ⟨he, k, os, hw⟩ => ⟨_, he, by rw [hw]; exact below_grow k os, ?_⟩
  simp only [RepA, Int.toNat_natCast]
  exact ⟨_, list_eta _, rfl⟩
theorem c74 (s p : List UInt8) (_ : true = true) : RetX (Γ u mx) 74 [.s s, .s p] [] (.b (Lib.hasPrefix s p)) [] := by
  refine ret_shelf (by kernel_rfl) fun w S vals hG ha => ?_
  simp only [RepAs, RepA] at ha
  obtain ⟨v, _, rfl, ⟨s, rfl, rfl⟩, v', _, rfl, ⟨p, rfl, rfl⟩, rfl⟩ := ha
  refine (Any.stringslite_HasPrefix Lk.lays206 s p w).mono fun e w' ⟨he, hw⟩ => ⟨_, he, by rw [hw]; exact Below.refl _ _, ?_⟩
  simp only [RepA]
theorem c44 (s p : List UInt8) (_ : true = true) : RetX (Γ u mx) 44 [.s s, .s p] [] (.s (Lib.trimPrefix s p)) [] := by
  refine ret_shelf (by kernel_rfl) fun w S vals hG ha => ?_
  simp only [RepAs, RepA] at ha
  obtain ⟨v, _, rfl, ⟨s, rfl, rfl⟩, v', _, rfl, ⟨p, rfl, rfl⟩, rfl⟩ := ha
  refine (Any.strings_TrimPrefix Lk.lays101 s p w).mono fun e w' ⟨he, hw⟩ => ⟨_, he, by rw [hw]; exact Below.refl _ _, ?_⟩
  simp only [RepA]
  exact ⟨_, list_eta _, rfl⟩
def s32 (l : List UInt8) : Bool := decide (l.length < 4294967281)
def cutA (s sep : List UInt8) : AV := .tuple [.s (Lib.cut s sep).1, .s (Lib.cut s sep).2.1, .b (Lib.cut s sep).2.2]
theorem max_cell {w : World} {S : Addr → Prop} (h : GlobOK (Γ u mx) w S) : w.cell? ⟨4, 0, none⟩ = some (.int .i64 mx) := by
  obtain ⟨vs, h1, h2, _⟩ := h.data 4 3 (.int .i64 mx) rfl
  exact glob_int h1 h2
theorem c59 (s sep : List UInt8) (h : s32 s = true) : RetX (Γ u mx) 59 [.s s, .s sep] [] (cutA s sep) [] := by
  refine ret_shelf (by kernel_rfl) fun w S vals hG ha => ?_
  simp only [RepAs, RepA] at ha
  obtain ⟨v, _, rfl, ⟨s, rfl, rfl⟩, v', _, rfl, ⟨p, rfl, rfl⟩, rfl⟩ := ha
  refine (Any.strings_Cut Lk.lays145 s p mx w (by simpa [s32] using h) (max_cell hG)).mono fun e w' ⟨he, n, hw⟩ => ⟨_, he, by rw [hw]; exact ⟨rfl, rfl, rfl, Nat.le_refl _, fun _ _ => rfl⟩, ?_⟩
  simp only [cutA, RepA, RepAs]
  exact ⟨_, rfl, _, _, rfl, ⟨_, rfl, rfl⟩, _, _, rfl, ⟨_, rfl, rfl⟩, _, _, rfl, rfl, rfl⟩
def puV (s : List UInt8) : Int := match Lib.parseUintB 64 s with | .ok u => (u : Int) | .range => 18446744073709551615 | _ => 0
def puE (s : List UInt8) : Bool := match Lib.parseUintB 64 s with | .ok u => false | _ => true
def puB (s : List UInt8) (b z : Int) : Bool := s32 s && (b == 10 && z == 64)
theorem if_cell {w : World} {S : Addr → Prop} (h : GlobOK (Γ u mx) w S) {g : Nat} (hg : g ∈ (Γ u mx).I) : ∃ ev, w.cell? ⟨g, 0, none⟩ = some ev ∧ (ev = .nilIface ∨ ∃ te pe, ev = .iface te pe) := by
  obtain ⟨v, h1, h2⟩ := h.ifs g hg
  exact ⟨v, (h1 0 v rfl).1, h2⟩
theorem c60 (s : List UInt8) (b z : Int) (h : puB s b z = true) : RetX (Γ u mx) 60 [.s s, .i .i64 b, .i .i64 z] [] (.tuple [.i .u64 (puV s), .err (puE s)]) [] := by
  refine ret_shelf (by kernel_rfl) fun w S vals hG ha => ?_
  simp only [RepAs, RepA] at ha
  obtain ⟨v, _, rfl, ⟨s, rfl, rfl⟩, v1, _, rfl, rfl, v2, _, rfl, rfl, rfl⟩ := ha
  simp only [puB, s32, Bool.and_eq_true, decide_eq_true_eq, beq_iff_eq] at h
  obtain ⟨hl, rfl, rfl⟩ := h
  have e1 : s.size = s.data.toList.length := by simp
  unfold puV puE
  cases hp : Lib.parseUintB 64 s.data.toList with
  | ok n =>
    refine (Any.strconv_ParseUint_10_at64_ok Lk.lays14 s (by omega) n hp w).mono fun e w' ⟨he, hw⟩ => ⟨_, he, ?_, ?_⟩
    · rcases hw with rfl | rfl
      · exact Below.refl _ _
      · exact Lib.bytesWorld_below _ _ _
    · simp only [RepA, RepAs]
      exact ⟨_, rfl, _, _, rfl, rfl, _, _, rfl, .inl ⟨trivial, rfl⟩, rfl⟩
  | range =>
    obtain ⟨ev, h1, h2⟩ := if_cell hG (g := 2) (show 2 ∈ [1, 2] by decide)
    refine (Any.strconv_ParseUint_10_at64_range Lk.lays14 s (by omega) hp ev w h1 h2).mono fun e w' ⟨N, he, _, _, hw⟩ => ⟨_, he, hw, ?_⟩
    simp only [RepA, RepAs]
    exact ⟨_, rfl, _, _, rfl, rfl, _, _, rfl, .inr ⟨trivial, _, _, rfl⟩, rfl⟩
  | _ =>
    obtain ⟨ev, h1, h2⟩ := if_cell hG (g := 1) (show 1 ∈ [1, 2] by decide)
    refine (Any.strconv_ParseUint_10_at64_syntax Lk.lays14 s (by omega) hp ev w h1 h2).mono fun e w' ⟨N, he, _, _, hw⟩ => ⟨_, he, hw, ?_⟩
    simp only [RepA, RepAs]
    exact ⟨_, rfl, _, _, rfl, rfl, _, _, rfl, .inr ⟨trivial, _, _, rfl⟩, rfl⟩
end Go.Proofs.YtlmdkclchjcapaaDoor.V
