/- ShP: texts of this claim, put together in build order by program. -/
import Derived.Test.YtafmogdnhpnbiaaDoorBi
import Derived.Laws.Bits64
/- Digests: what they are, in plain words: words of 32 bits as numbers, rounds, blocks, padding. Nothing of the program's. -/
namespace Go.Proofs.YtafmogdnhpnbiaaDoor.V
open Go
set_option linter.unusedVariables false
set_option linter.unusedSimpArgs false
abbrev Tx := List UInt8
def addU (a b : Int) : Int := IntKind.wrap .u32 (a + b)
def xorU (a b : Int) : Int := IntKind.wrap .u32 ((BitVec.ofInt 32 a ^^^ BitVec.ofInt 32 b).toNat : Int)
def andU (a b : Int) : Int := IntKind.wrap .u32 ((BitVec.ofInt 32 a &&& BitVec.ofInt 32 b).toNat : Int)
def orU (a b : Int) : Int := IntKind.wrap .u32 ((BitVec.ofInt 32 a ||| BitVec.ofInt 32 b).toNat : Int)
def k31 (n : Int) : Int := IntKind.wrap .u64 ((BitVec.ofInt 64 (IntKind.wrap .u64 n) &&& BitVec.ofInt 64 31).toNat : Int)
/-- a word turned round to the left -/
def turnU (w n : Int) : Int := orU (shlV .u32 w (k31 n)) (shrV .u32 w (IntKind.wrap .u64 (32 - k31 n)))
def posU (c : Int) : Int := IntKind.wrap .u64 (bif decide ((IntKind.wrap .i64 (0 - c) : Int) < 0) then 0 else (IntKind.wrap .i64 (0 - c)))
def spreadU (w a b c : Int) : Int := bif decide (c ≥ 0) then xorU (xorU (turnU w (IntKind.wrap .i64 (0 - a))) (turnU w (IntKind.wrap .i64 (0 - b)))) (turnU w (IntKind.wrap .i64 (0 - c)))
  else xorU (xorU (turnU w (IntKind.wrap .i64 (0 - a))) (turnU w (IntKind.wrap .i64 (0 - b)))) (shrV .u32 w (posU c))
/-- eight words -/
structure W8 where
  a : Int
  b : Int
  c : Int
  d : Int
  e : Int
  f : Int
  g : Int
  h : Int
def inR (n : Int) : Bool := decide (0 ≤ n) && decide (n < 4294967296)
def W8.ok (v : W8) : Bool := inR v.a && (inR v.b && (inR v.c && (inR v.d && (inR v.e && (inR v.f && (inR v.g && inR v.h))))))
def W8.l (v : W8) : List D := [.int .u32 v.a, .int .u32 v.b, .int .u32 v.c, .int .u32 v.d, .int .u32 v.e, .int .u32 v.f, .int .u32 v.g, .int .u32 v.h]
def oneU (v : W8) (k w : Int) : Int := addU (addU (addU (addU v.h (spreadU v.e 6 11 25)) (xorU (andU v.e v.f) (andU (xorU 4294967295 v.e) v.g))) k) w
def twoU (v : W8) : Int := addU (spreadU v.a 2 13 22) (xorU (xorU (andU v.a v.b) (andU v.a v.c)) (andU v.b v.c))
def rnd (k w : Int) (v : W8) : W8 := ⟨addU (oneU v k w) (twoU v), v.a, v.b, v.c, addU v.d (oneU v k w), v.e, v.f, v.g⟩
def rounds : List Int → List Int → W8 → W8
  | k :: ks, w :: ws, v => rounds ks ws (rnd k w v)
  | _, _, v => v
def nx (P : List Int) : Int := addU (addU (addU (spreadU (P.getD (P.length - 2) 0) 17 19 (-10)) (P.getD (P.length - 7) 0)) (spreadU (P.getD (P.length - 15) 0) 7 18 (-3))) (P.getD (P.length - 16) 0)
def sch : Nat → List Int → List Int
  | 0, P => P
  | n + 1, P => sch n (P ++ [nx P])
def get4 (t : Tx) : Int := t.foldl (fun n b => IntKind.wrap .u64 ((BitVec.ofInt 64 (shlV .u64 n 8) ||| BitVec.ofInt 64 (IntKind.wrap .u64 (b.toNat : Int))).toNat : Int)) 0
def word4 (t : Tx) (i : Nat) : Int := IntKind.wrap .u32 (get4 ((t.drop (4 * i)).take 4))
def words (t : Tx) : Nat → List Int
  | 0 => []
  | n + 1 => words t n ++ [word4 t n]
def schedW (t : Tx) : List Int := sch 48 (words t 16)
def addW (u v : W8) : W8 := ⟨addU u.a v.a, addU u.b v.b, addU u.c v.c, addU u.d v.d, addU u.e v.e, addU u.f v.f, addU u.g v.g, addU u.h v.h⟩
/-- the factors of the rounds -/
def facs : List Int := [1116352408, 1899447441, 3049323471, 3921009573, 961987163, 1508970993, 2453635748, 2870763221, 3624381080, 310598401, 607225278, 1426881987, 1925078388, 2162078206, 2614888103, 3248222580, 3835390401, 4022224774, 264347078, 604807628, 770255983, 1249150122, 1555081692, 1996064986, 2554220882, 2821834349, 2952996808, 3210313671, 3336571891, 3584528711, 113926993, 338241895, 666307205, 773529912, 1294757372, 1396182291, 1695183700, 1986661051, 2177026350, 2456956037, 2730485921, 2820302411, 3259730800, 3345764771, 3516065817, 3600352804, 4094571909, 275423344, 430227734, 506948616, 659060556, 883997877, 958139571, 1322822218, 1537002063, 1747873779, 1955562222, 2024104815, 2227730452, 2361852424, 2428436474, 2756734187, 3204031479, 3329325298]
def begW : W8 := ⟨1779033703, 3144134277, 1013904242, 2773480762, 1359893119, 2600822924, 528734635, 1541459225⟩
def mixW (s : W8) (t : Tx) : W8 := addW s (rounds facs (schedW t) s)
def eat : Nat → W8 → Tx → W8 × Tx
  | 0, v, t => (v, t)
  | n + 1, v, t => bif decide (64 ≤ t.length) then eat n (mixW v (t.take 64)) (t.drop 64) else (v, t)
def eatT (v : W8) (t : Tx) : W8 × Tx := eat t.length v t
def putB (n : Int) (k : Nat) : Tx := (List.range k).map fun (i : Nat) => UInt8.ofNat (IntKind.wrap .u8 (shrV .u64 n (8 * ((k : Int) - 1 - (i : Int))))).toNat
def outW (v : W8) : Tx := putB v.a 4 ++ putB v.b 4 ++ putB v.c 4 ++ putB v.d 4 ++ putB v.e 4 ++ putB v.f 4 ++ putB v.g 4 ++ putB v.h 4
def zerN (n : Nat) : Nat := (119 - n % 64) % 64
def padT (n : Nat) : Tx := 128 :: List.replicate (zerN n) 0 ++ putB ((n : Int) * 8) 8
def shaT (t : Tx) : Tx := outW (eatT begW (t ++ padT t.length)).1

theorem eat_more : ∀ (n m : Nat) (v : W8) (t : Tx), t.length ≤ n → t.length ≤ m → eat n v t = eat m v t
  | 0, 0, v, t, _, _ => rfl
  | 0, m + 1, v, t, h, _ => by
    have : t.length = 0 := by omega
    simp only [eat]
    rw [decide_eq_false (by omega)]; rfl
  | n + 1, 0, v, t, _, h => by
    have : t.length = 0 := by omega
    simp only [eat]
    rw [decide_eq_false (by omega)]; rfl
  | n + 1, m + 1, v, t, h1, h2 => by
    simp only [eat]
    by_cases h : 64 ≤ t.length
    · rw [decide_eq_true h]
      exact eat_more n m _ _ (by rw [List.length_drop]; omega) (by rw [List.length_drop]; omega)
    · rw [decide_eq_false h]; rfl
theorem eatT_lo {v : W8} {t : Tx} (h : t.length < 64) : eatT v t = (v, t) := by
  unfold eatT
  cases hl : t.length with
  | zero => rfl
  | succ n => simp only [eat]; rw [decide_eq_false (by omega)]; rfl
theorem eatT_hi {v : W8} {t : Tx} (h : 64 ≤ t.length) : eatT v t = eatT (mixW v (t.take 64)) (t.drop 64) := by
  unfold eatT
  obtain ⟨n, hn⟩ : ∃ n, t.length = n + 1 := ⟨t.length - 1, by omega⟩
  rw [hn]
  simp only [eat]
  rw [decide_eq_true h, cond_true]
  exact eat_more _ _ _ _ (by rw [List.length_drop]; omega) (Nat.le_refl _)
theorem eatT_app : ∀ (n : Nat) (v : W8) (a b : Tx), a.length ≤ n → eatT v (a ++ b) = eatT (eatT v a).1 ((eatT v a).2 ++ b)
  | n, v, a, b, h => by
    by_cases h1 : 64 ≤ a.length
    · cases n with
      | zero => omega
      | succ n =>
        rw [eatT_hi h1, eatT_hi (t := a ++ b) (by rw [List.length_append]; omega), List.take_append_of_le_length h1, List.drop_append_of_le_length h1]
        exact eatT_app n _ _ b (by rw [List.length_drop]; omega)
    · rw [eatT_lo (t := a) (by omega)]
theorem eatT_len : ∀ (n : Nat) (v : W8) (a : Tx), a.length ≤ n → (eatT v a).2.length = a.length % 64
  | n, v, a, h => by
    by_cases h1 : 64 ≤ a.length
    · cases n with
      | zero => omega
      | succ n =>
        rw [eatT_hi h1, eatT_len n _ _ (by rw [List.length_drop]; omega), List.length_drop]
        omega
    · rw [eatT_lo (by omega)]
      show a.length = a.length % 64
      omega
theorem wrap32_in (n : Int) : inR (IntKind.wrap .u32 n) = true := by
  have : IntKind.u32.wrap n = n % 4294967296 := by simp [IntKind.wrap, IntKind.bits, IntKind.signed]
  unfold inR
  rw [this, decide_eq_true (by omega), decide_eq_true (by omega)]; rfl
theorem addW_ok (u v : W8) : (addW u v).ok = true := by
  unfold W8.ok addW addU
  simp only [wrap32_in]; rfl
theorem mixW_ok (s : W8) (t : Tx) : (mixW s t).ok = true := addW_ok _ _
theorem eatT_ok : ∀ (n : Nat) (v : W8) (a : Tx), a.length ≤ n → v.ok = true → (eatT v a).1.ok = true
  | n, v, a, h, hv => by
    by_cases h1 : 64 ≤ a.length
    · cases n with
      | zero => omega
      | succ n =>
        rw [eatT_hi h1]
        exact eatT_ok n _ _ (by rw [List.length_drop]; omega) (mixW_ok _ _)
    · rw [eatT_lo (by omega)]; exact hv
theorem words_len (t : Tx) : ∀ n, (words t n).length = n
  | 0 => rfl
  | n + 1 => by simp [words, words_len t n]
theorem sch_len : ∀ n P, (sch n P).length = n + P.length
  | 0, P => by simp [sch]
  | n + 1, P => by rw [sch, sch_len n]; simp; omega
theorem schedW_len (t : Tx) : (schedW t).length = 64 := by unfold schedW; rw [sch_len, words_len]
theorem putB_len (n : Int) (k : Nat) : (putB n k).length = k := by unfold putB; simp
theorem outW_len (v : W8) : (outW v).length = 32 := by unfold outW; simp [putB_len]
theorem shaT_len (t : Tx) : (shaT t).length = 32 := outW_len _
theorem padT_len (n : Nat) : (n + (padT n).length) % 64 = 0 := by
  unfold padT zerN
  simp [putB_len]
  omega
end Go.Proofs.YtafmogdnhpnbiaaDoor.V
