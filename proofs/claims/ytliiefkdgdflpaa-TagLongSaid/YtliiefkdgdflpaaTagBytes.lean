/-
  tag.bytes: a number's bytes.
-/
import Derived.Test.YtliiefkdgdflpaaPTagLongx1
namespace Go.Proofs.Ytliiefkdgdflpaa.TagBytes
open Go.RowKit Go.Proofs.YtliiefkdgdflpaaW.PrintWords Go.Proofs.YtliiefkdgdflpaaW.PrintMore PTagLong
set_option linter.unusedVariables false

def be : Nat → Int → List Int
  | 0, _ => []
  | m + 1, n => be m (n / 256) ++ [n % 256]
theorem be_length : ∀ m n, (be m n).length = m := by
  intro m
  induction m with
  | zero => intro n; rfl
  | succ m ih => intro n; simp [be, ih]
theorem shr_of (n : Int) (c : Nat) (hc : c ≤ 64) : shr .u64 n (c : Int) = n / 2 ^ c := by
  unfold shr
  have : min (c : Int).toNat IntKind.u64.bits = c := by
    have : IntKind.u64.bits = 64 := rfl
    omega
  rw [this]

/-- the bytes of n from the i-th on downward -/
def down (n : Int) : Nat → List Int
  | 0 => []
  | i + 1 => (n / 2 ^ (8 * i)) % 256 :: down n i

theorem down_be : ∀ (m : Nat) (n : Int), down n m = be m n := by
  intro m
  induction m with
  | zero => intro n; rfl
  | succ m ih =>
    intro n
    have key : ∀ (m : Nat) (n : Int), down n (m + 1) = down (n / 256) m ++ [n % 256] := by
      intro m
      induction m with
      | zero => intro n; simp [down]
      | succ m ihm =>
        intro n
        rw [show down n (m + 1 + 1) = (n / 2 ^ (8 * (m + 1))) % 256 :: down n (m + 1) from rfl, ihm n]
        show _ = ((n / 256) / 2 ^ (8 * m)) % 256 :: down (n / 256) m ++ [n % 256]
        congr 2
        rw [Int.ediv_ediv_of_nonneg (by decide : (0 : Int) ≤ 256)]
        congr 1
        rw [show 8 * (m + 1) = 8 + 8 * m by omega, Int.pow_add]
        rfl
    rw [key, ih]
    rfl

theorem str_size (xs : List Int) : (strOfNums xs).size = xs.length := by simp [strOfNums, ByteArray.size]
theorem sz (k : Nat) (n : Int) : (strOfNums (be k n)).size = k := by rw [str_size, be_length]

theorem wsm (i : Int) (h : 0 ≤ i ∧ i ≤ 64) : RowKit.wrap64 i = i := by unfold RowKit.wrap64; omega
theorem shrN (n : Int) (c : Int) (h : 0 ≤ c ∧ c ≤ 64) : shr .u64 n c = n / 2 ^ c.toNat := by
  obtain ⟨k, rfl⟩ := Int.eq_ofNat_of_zero_le h.1
  exact shr_of n k (by omega)

theorem b1 (n : Int) : tag_bytes.f 3 n 1 = some (strOfNums (be 1 n)) := by
  simp (disch := omega) [tag_bytes.f, tag_bytes.l0, wsm, shrN, be]
theorem b4 (n : Int) : tag_bytes.f 6 n 4 = some (strOfNums (be 4 n)) := by
  rw [← down_be]
  simp (disch := omega) [tag_bytes.f, tag_bytes.l0, wsm, shrN, down, List.replicate, List.set]
theorem b8 (n : Int) : tag_bytes.f 10 n 8 = some (strOfNums (be 8 n)) := by
  rw [← down_be]
  simp (disch := omega) [tag_bytes.f, tag_bytes.l0, wsm, shrN, down, List.replicate, List.set]
end Go.Proofs.Ytliiefkdgdflpaa.TagBytes
