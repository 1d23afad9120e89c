/-
  A word of 32 bits that is turned: turned by n and by m it is turned by both together. Plain Lean.
-/
import Derived.Test.YtliiefkdgdflpaaPWordTurnsx
import Derived.Laws.BitsAllLaws
namespace Go.Proofs.Ytliiefkdgdflpaa.PWordTurns
open Go.RowKit Go.Proofs.YtliiefkdgdflpaaW.PrintWords Go.Proofs.YtliiefkdgdflpaaW.PrintLast Go.Proofs.YtliiefkdgdflpaaW.PrintMore

/-- turned left by s -/
def rot (x s : Nat) : Nat := ((x <<< s) % 2 ^ 32) ||| (x >>> (32 - s))

theorem rot_bit (x s i : Nat) (hx : x < 2 ^ 32) (hs : s < 32) : (rot x s).testBit i = (decide (i < 32) && x.testBit ((i + (32 - s)) % 32)) := by
  unfold rot
  rw [Nat.testBit_or, Nat.testBit_mod_two_pow, Nat.testBit_shiftLeft, Nat.testBit_shiftRight]
  by_cases h : i < 32
  · by_cases h2 : s ≤ i
    · have e : (i + (32 - s)) % 32 = i - s := by omega
      have e2 : x.testBit (32 - s + i) = false := Nat.testBit_lt_two_pow (Nat.lt_of_lt_of_le hx (Nat.pow_le_pow_right (by decide) (by omega)))
      rw [e, e2]; simp [h, h2]
    · have e : (i + (32 - s)) % 32 = 32 - s + i := by omega
      rw [e]; simp [h, h2]
  · have e2 : x.testBit (32 - s + i) = false := Nat.testBit_lt_two_pow (Nat.lt_of_lt_of_le hx (Nat.pow_le_pow_right (by decide) (by omega)))
    rw [e2]; simp [h]

theorem rot_lt (x s : Nat) (hx : x < 2 ^ 32) (hs : s < 32) : rot x s < 2 ^ 32 :=
  Nat.lt_pow_two_of_testBit _ fun i hi => by rw [rot_bit x s i hx hs]; simp; omega

theorem rot_rot (x s t : Nat) (hx : x < 2 ^ 32) (hs : s < 32) (ht : t < 32) : rot (rot x s) t = rot x ((s + t) % 32) := by
  apply Nat.eq_of_testBit_eq
  intro i
  rw [rot_bit _ _ _ (rot_lt x s hx hs) ht, rot_bit _ _ _ hx hs, rot_bit _ _ _ hx (Nat.mod_lt _ (by decide))]
  by_cases h : i < 32
  · have e : ((i + (32 - t)) % 32 + (32 - s)) % 32 = (i + (32 - (s + t) % 32)) % 32 := by omega
    have e1 : (i + (32 - t)) % 32 < 32 := Nat.mod_lt _ (by decide)
    rw [e]; simp [h, e1]
  · simp [h]

theorem rot_zero (x : Nat) (hx : x < 2 ^ 32) : rot x 0 = x := by
  apply Nat.eq_of_testBit_eq
  intro i
  rw [rot_bit _ _ _ hx (by decide)]
  by_cases h : i < 32
  · have e : (i + (32 - 0)) % 32 = i := by omega
    rw [e]; simp [h]
  · have e2 : x.testBit i = false := Nat.testBit_lt_two_pow (Nat.lt_of_lt_of_le hx (Nat.pow_le_pow_right (by decide) (by omega)))
    rw [e2]; simp [h]

/-- how far left -/
def sh (n : Int) : Nat := ((-n) % 32).toNat
theorem sh_lt (n : Int) : sh n < 32 := by unfold sh; omega
theorem sh_add (n m : Int) : sh (n + m) = (sh n + sh m) % 32 := by unfold sh; omega

theorem i64_and31 (n : Int) : Go.bits .and .i64 n 31 = n % 32 := by
  have h31 : (BitVec.ofInt 64 31).toNat = 2 ^ 5 - 1 := by decide
  have key : (BitVec.ofInt 64 n &&& BitVec.ofInt 64 31).toNat = (n % ((2 ^ 64 : Nat) : Int)).toNat % 2 ^ 5 := by
    rw [BitVec.toNat_and, BitVec.toNat_ofInt, h31, Nat.and_two_pow_sub_one_eq_mod]
  show IntKind.i64.wrap ((BitVec.ofInt 64 n &&& BitVec.ofInt 64 31).toNat : Nat) = n % 32
  rw [key, IntKind.wrap_i64]
  omega
theorem u64_and31 (n : Int) : Go.bits .and .u64 n 31 = n % 32 := by
  have h31 : (BitVec.ofInt 64 31).toNat = 2 ^ 5 - 1 := by decide
  have key : (BitVec.ofInt 64 n &&& BitVec.ofInt 64 31).toNat = (n % ((2 ^ 64 : Nat) : Int)).toNat % 2 ^ 5 := by
    rw [BitVec.toNat_and, BitVec.toNat_ofInt, h31, Nat.and_two_pow_sub_one_eq_mod]
  show IntKind.u64.wrap ((BitVec.ofInt 64 n &&& BitVec.ofInt 64 31).toNat : Nat) = n % 32
  rw [key, IntKind.wrap_u64]
  omega

theorem turn_some (x : Nat) (n : Int) (hx : x < 2 ^ 32) : word_Turn.f (x : Int) n = some ((rot x (sh n) : Nat) : Int) := by
  have hs := sh_lt n
  have e1 : Go.bits .and .u64 (IntKind.u64.wrap (wrap64 (-(n % 32)))) 31 = ((sh n : Nat) : Int) := by
    rw [u64_and31, IntKind.wrap_u64]; unfold wrap64 sh; omega
  have e2 : IntKind.u64.wrap (32 - ((sh n : Nat) : Int)) = ((32 - sh n : Nat) : Int) := by rw [IntKind.wrap_u64]; omega
  have e3 : shl .u32 (x : Int) ((sh n : Nat) : Int) = (((x <<< sh n) % 2 ^ 32 : Nat) : Int) := by
    unfold shl
    have : min ((sh n : Nat) : Int).toNat IntKind.u32.bits = sh n := by show min (sh n) 32 = sh n; omega
    rw [this, IntKind.wrap_u32, Nat.shiftLeft_eq, Int.natCast_emod, Int.natCast_mul, Int.natCast_pow]
    rfl
  have e4 : shr .u32 (x : Int) ((32 - sh n : Nat) : Int) = ((x >>> (32 - sh n) : Nat) : Int) := by
    unfold shr
    have : min ((32 - sh n : Nat) : Int).toNat IntKind.u32.bits = 32 - sh n := by show min (32 - sh n) 32 = 32 - sh n; omega
    rw [this, Nat.shiftRight_eq_div_pow, Int.natCast_ediv, Int.natCast_pow]
    rfl
  have h1 : (x <<< sh n) % 2 ^ 32 < 4294967296 := Nat.mod_lt _ (by decide)
  have h2 : x >>> (32 - sh n) < 4294967296 := by
    rw [Nat.shiftRight_eq_div_pow]; exact Nat.lt_of_le_of_lt (Nat.div_le_self _ _) hx
  unfold word_Turn.f bits_RotateLeft32.f
  rw [i64_and31, e1, e2, if_pos (by omega), if_pos (by omega), e3, e4, u32_or_nat _ _ h1 h2]
  rfl

/-- Turn's contract -/
theorem turn_any (x : Nat) (n : Int) (w : World) (hx : x < 4294967296) :
    Calls Try.prog 25 #[.int .u32 x, .int .i64 n] w fun e w' => e = .returned (.int .u32 (rot x (sh n) : Nat)) ∧ Below w.heap.size w w' :=
  (word_Turn.calls x n _ w (turn_some x n hx)).mono fun _ _ ⟨h1, h2⟩ => ⟨h1, h2.below⟩
end Go.Proofs.Ytliiefkdgdflpaa.PWordTurns
