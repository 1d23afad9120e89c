/-
  Two arrays of bytes, held against each other.
-/
import Derived.Test.YtliiefkdgdflpaaLamp0
import Derived.ChangeKeysEq
namespace Go.Proofs.Ytliiefkdgdflpaa.Lamp
open Go.RowKit
set_option linter.unusedVariables false

theorem part_byte (w : World) (xs : Array Value) (i : Nat) (v : Value) (h : xs[i]? = some v) : (part 5 xs i).run Try.prog w = .ok v w := by
  have hagg : (isAgg 5).run Try.prog w = .ok false w := by
    unfold isAgg
    rw [Sem.run_bind, run_underlying Try.underlying5 w]
    rfl
  unfold part
  simp [Sem.run_bind, hagg, h]

theorem eqItems_bytes (w : World) (d : Nat) (xs ys : Array Value) (f g : Nat → Nat) : ∀ is : List Nat, (∀ i ∈ is, xs[i]? = some (.int .u8 (f i : Nat)) ∧ ys[i]? = some (.int .u8 (g i : Nat))) →
    (Op.eqItems (d + 1) 5 1 xs ys is).run Try.prog w = .ok (is.all fun i => f i == g i) w
  | [], _ => rfl
  | i :: is, h => by
    obtain ⟨h1, h2⟩ := h i (by simp)
    have ih := eqItems_bytes w d xs ys f g is (fun j hj => h j (by simp [hj]))
    have e1 := part_byte w xs i _ h1
    have e2 := part_byte w ys i _ h2
    have e3 := run_equalIn_int w d 5 .u8 .u8 (f i : Nat) (g i : Nat) Try.underlying5
    rw [Op.eqItems]
    simp only [Nat.mul_one, Sem.run_bind, e1, e2, e3, Result.andThen_ok, List.all_cons]
    by_cases hfg : f i = g i
    · simp [hfg, ih]
    · have : ((f i : Int) == (g i : Int)) = false := by simp; omega
      simp [this, hfg]

theorem eql_arr (w : World) (xs ys : Array Value) (f g : Nat → Nat) (hx : IsArr xs f) (hy : IsArr ys g) : (binOp .eql 23 (.agg xs) (.agg ys)).run Try.prog w = .ok (.bool ((List.range 32).all fun i => f i == g i)) w := by
  rw [run_eql_struct]
  obtain ⟨i, hi⟩ : ∃ i, Try.prog.info? 5 = some i := by
    have h : (Try.prog.info? 5).isSome = true := by kernel_rfl
    exact Option.isSome_iff_exists.1 h
  have hs : i.size = 1 := by
    have h : (Try.prog.info? 5).map (·.size) = some 1 := by kernel_rfl
    rw [hi] at h; simpa using h
  have h := run_equalIn_array (P := Try.prog) w 9999 xs ys Try.underlying23 hi
  have hc : Try.prog.cellsOf 5 = 1 := by kernel_rfl
  rw [show (10000 : Nat) = 9999 + 1 from rfl, h, hc, show (9999 : Nat) = 9998 + 1 from rfl, eqItems_bytes w 9998 xs ys f g (List.range 32) (fun i hi => ⟨hx.2.2 i (List.mem_range.1 hi), hy.2.2 i (List.mem_range.1 hi)⟩)]
  rfl

/-! ### the plain law -/
/-- have the first n bits of both been the same? -/
def alleq (f g : Nat → Nat) (n : Nat) : Bool := (List.range n).all fun j => bitOf f j == bitOf g j
theorem alleq_zero (f g : Nat → Nat) : alleq f g 0 = true := rfl
theorem alleq_succ (f g : Nat → Nat) (n : Nat) : alleq f g (n + 1) = (alleq f g n && bitOf f n == bitOf g n) := by
  simp [alleq, List.range_succ, List.all_append]

theorem bits_byte (x : Nat) (hx : x < 256) : x = 128 * (x / 2 ^ 7 % 2) + 64 * (x / 2 ^ 6 % 2) + 32 * (x / 2 ^ 5 % 2) + 16 * (x / 2 ^ 4 % 2) + 8 * (x / 2 ^ 3 % 2) + 4 * (x / 2 ^ 2 % 2) + 2 * (x / 2 ^ 1 % 2) + x / 2 ^ 0 % 2 := by
  simp only [show (2:Nat)^7 = 128 from rfl, show (2:Nat)^6 = 64 from rfl, show (2:Nat)^5 = 32 from rfl, show (2:Nat)^4 = 16 from rfl, show (2:Nat)^3 = 8 from rfl, show (2:Nat)^2 = 4 from rfl, show (2:Nat)^1 = 2 from rfl, show (2:Nat)^0 = 1 from rfl]
  omega

theorem bit_at (f : Nat → Nat) (i j : Nat) (hj : j < 8) : bitOf f (8 * i + j) = f i / 2 ^ (7 - j) % 2 := by
  unfold bitOf
  rw [show (8 * i + j) / 8 = i by omega, show (8 * i + j) % 8 = j by omega]

/-- what the bits of the i-th byte come to -/
def upTo (f : Nat → Nat) (i : Nat) : Nat → Nat
  | 0 => 0
  | j + 1 => 2 * upTo f i j + bitOf f (8 * i + j)
theorem upTo_lt (f : Nat → Nat) (i j : Nat) (hj : j ≤ 8) : upTo f i j < 2 ^ j := by
  induction j with
  | zero => simp [upTo]
  | succ j ih =>
    have := ih (by omega)
    have h2 := bitOf_lt f (8 * i + j)
    simp only [upTo, Nat.pow_succ]; omega
theorem upTo_8 (f : Nat → Nat) (i : Nat) (hf : f i < 256) : upTo f i 8 = f i := by
  have hb := bits_byte (f i) hf
  have e1 : upTo f i 8 = 2 * (2 * (2 * (2 * (2 * (2 * (2 * (2 * 0 + bitOf f (8 * i + 0)) + bitOf f (8 * i + 1)) + bitOf f (8 * i + 2)) + bitOf f (8 * i + 3)) + bitOf f (8 * i + 4)) + bitOf f (8 * i + 5)) + bitOf f (8 * i + 6)) + bitOf f (8 * i + 7) := rfl
  rw [bit_at f i 0 (by omega), bit_at f i 1 (by omega), bit_at f i 2 (by omega), bit_at f i 3 (by omega), bit_at f i 4 (by omega), bit_at f i 5 (by omega), bit_at f i 6 (by omega), bit_at f i 7 (by omega)] at e1
  rw [e1]
  simp only [Nat.sub_zero, show 7 - 1 = 6 from rfl, show 7 - 2 = 5 from rfl, show 7 - 3 = 4 from rfl, show 7 - 4 = 3 from rfl, show 7 - 5 = 2 from rfl, show 7 - 6 = 1 from rfl, show 7 - 7 = 0 from rfl]
  clear e1
  generalize f i / 2 ^ 7 % 2 = a at *
  generalize f i / 2 ^ 6 % 2 = b at *
  generalize f i / 2 ^ 5 % 2 = c at *
  generalize f i / 2 ^ 4 % 2 = d at *
  generalize f i / 2 ^ 3 % 2 = e at *
  generalize f i / 2 ^ 2 % 2 = g at *
  generalize f i / 2 ^ 1 % 2 = h at *
  generalize f i / 2 ^ 0 % 2 = k at *
  omega

theorem alleq_256 (f g : Nat → Nat) (hf : ∀ k, f k < 256) (hg : ∀ k, g k < 256) : alleq f g 256 = (List.range 32).all fun i => f i == g i := by
  rw [Bool.eq_iff_iff]
  simp only [alleq, List.all_eq_true, List.mem_range, beq_iff_eq]
  constructor
  · intro h i hi
    have hu : ∀ j, j ≤ 8 → upTo f i j = upTo g i j := by
      intro j
      induction j with
      | zero => intro _; rfl
      | succ j ih => intro hj; simp only [upTo, ih (by omega), h (8 * i + j) (by omega)]
    rw [← upTo_8 f i (hf i), ← upTo_8 g i (hg i)]
    exact hu 8 (Nat.le_refl _)
  · intro h j hj
    unfold bitOf
    rw [h (j / 8) (by omega)]
end Go.Proofs.Ytliiefkdgdflpaa.Lamp
