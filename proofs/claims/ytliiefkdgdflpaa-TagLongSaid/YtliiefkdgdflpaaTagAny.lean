/-
  How long a row of texts is told to be, however long it is: the sum turns over at the end of the whole numbers.
-/
import Derived.Test.YtliiefkdgdflpaaTagLaw
namespace Go.Proofs.Ytliiefkdgdflpaa.TagAny
open Go.RowKit Go.Proofs.YtliiefkdgdflpaaW.PrintWords TagBytes TagText TagLaw
set_option linter.unusedVariables false

def fold64 : Int → List ByteArray → Int
  | a, [] => a
  | a, p :: ps => fold64 (RowKit.wrap64 (a + (p.size : Int))) ps

theorem fold_eq : ∀ (xs : List ByteArray) (a : Int), 0 ≤ a → a + (lsum xs : Int) < 9223372036854775808 → fold64 a xs = a + (lsum xs : Int) := by
  intro xs
  induction xs with
  | nil => intro a _ _; simp [fold64, lsum]
  | cons p ps ih =>
    intro a h0 h1
    simp only [lsum] at h1
    have hw : RowKit.wrap64 (a + (p.size : Int)) = a + (p.size : Int) := by unfold RowKit.wrap64; omega
    rw [fold64, hw, ih _ (by omega) (by omega)]
    simp only [lsum]
    omega

theorem any_l0 (xs : List ByteArray) (hl : xs.length ≤ 4611686018427387904) : ∀ (d k i : Nat) (a : Int), i + d = xs.length → d < k → PTagLong.tabularyref03_Long.l0 k xs a (i : Int) = some (fold64 a (xs.drop i)) := by
  intro d
  induction d with
  | zero =>
    intro k i a hi hk
    obtain ⟨k, rfl⟩ : ∃ j, k = j + 1 := ⟨k - 1, by omega⟩
    rw [PTagLong.tabularyref03_Long.l0, if_neg (by omega), List.drop_eq_nil_of_le (by omega)]
    rfl
  | succ d ih =>
    intro k i a hi hk
    obtain ⟨k, rfl⟩ : ∃ j, k = j + 1 := ⟨k - 1, by omega⟩
    have hlt : i < xs.length := by omega
    have hr : rdOf ByteArray.empty xs (i : Int) = xs[i] := by
      unfold rdOf
      simp only [Int.toNat_natCast]
      rw [List.getD_eq_getElem?_getD, List.getElem?_eq_getElem hlt]; rfl
    rw [PTagLong.tabularyref03_Long.l0, if_pos (by omega), if_pos (by omega), hr, w64 ((i : Int) + 1) (by omega), List.drop_eq_getElem_cons hlt, fold64]
    exact ih k (i + 1) _ (by omega) (by omega)

theorem any_f (xs : List ByteArray) (hl : xs.length ≤ 4611686018427387904) : PTagLong.tabularyref03_Long.f (xs.length + 1) xs = some (fold64 (xs.length : Int) xs) := by
  have h := any_l0 xs hl xs.length (xs.length + 1) 0 (xs.length : Int) (by omega) (by omega)
  rw [List.drop_zero] at h
  rw [← h]
  simp [PTagLong.tabularyref03_Long.f]

theorem lsum_bound (m : Nat) : ∀ xs : List ByteArray, (∀ p ∈ xs, p.size ≤ m) → lsum xs ≤ xs.length * m := by
  intro xs
  induction xs with
  | nil => intro _; simp [lsum]
  | cons p ps ih =>
    intro h
    have h1 := h p List.mem_cons_self
    have h2 := ih (fun q hq => h q (List.mem_cons_of_mem _ hq))
    simp only [lsum, List.length_cons, Nat.add_mul, Nat.one_mul]
    omega

/-- a row of as many as may be laid: the length is told right -/
theorem few_f (xs : List ByteArray) (hl : xs.length ≤ 65536) (hs : ∀ p ∈ xs, p.size ≤ 140737488351232) : PTagLong.tabularyref03_Long.f (xs.length + 1) xs = some ((xs.length + lsum xs : Nat) : Int) := by
  have hb := lsum_bound _ xs hs
  have hb2 : lsum xs ≤ 65536 * 140737488351232 := Nat.le_trans hb (Nat.mul_le_mul_right _ hl)
  rw [any_f xs (by omega), fold_eq xs _ (by omega) (by omega)]
  push_cast
  rfl
end Go.Proofs.Ytliiefkdgdflpaa.TagAny
