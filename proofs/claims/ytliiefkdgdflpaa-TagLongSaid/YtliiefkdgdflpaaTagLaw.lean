/-
  How long a row of texts is, in plain Lean.
-/
import Derived.Test.YtliiefkdgdflpaaPTagLongx1
import Derived.Test.YtliiefkdgdflpaaTagText
namespace Go.Proofs.Ytliiefkdgdflpaa.TagLaw
open Go.RowKit Go.Proofs.YtliiefkdgdflpaaW.PrintWords TagBytes TagText
set_option linter.unusedVariables false

def lsum : List ByteArray → Nat
  | [] => 0
  | p :: ps => p.size + lsum ps
theorem lsum_take (xs : List ByteArray) (k : Nat) (p : ByteArray) (h : xs[k]? = some p) : lsum (xs.take (k + 1)) = lsum (xs.take k) + p.size := by
  induction xs generalizing k with
  | nil => simp at h
  | cons y ys ih =>
    cases k with
    | zero => simp at h; subst h; simp [lsum]
    | succ k => simp at h; simp only [List.take_succ_cons, lsum, ih k h]; omega
theorem lsum_le (xs : List ByteArray) (k : Nat) : lsum (xs.take k) ≤ lsum xs := by
  induction xs generalizing k with
  | nil => simp
  | cons y ys ih =>
    cases k with
    | zero => simp [lsum]
    | succ k => simp only [List.take_succ_cons, lsum]; have := ih k; omega
theorem body_length (xs : List ByteArray) : (body xs).length = 8 * xs.length + lsum xs := by
  induction xs with
  | nil => rfl
  | cons y ys ih =>
    have h : body (y :: ys) = pt y ++ body ys := rfl
    have hpl : (pt y).length = 8 + y.size := by
      unfold pt
      rw [List.length_append]
      have h1 : (strOfNums (be 8 (y.size : Int))).data.toList.length = 8 := TagBytes.sz 8 _
      have h2 : y.data.toList.length = y.size := by rw [Array.length_toList]; rfl
      omega
    rw [h, List.length_append, ih, hpl]
    simp only [List.length_cons, lsum]; omega

theorem w64 (i : Int) (h : 0 ≤ i ∧ i ≤ 4611686018427387904) : RowKit.wrap64 i = i := by unfold RowKit.wrap64; omega
theorem long_l0 (xs : List ByteArray) (hb : xs.length + lsum xs ≤ 1048576) : ∀ (d k i : Nat), i + d = xs.length → d < k → PTagLong.tabularyref03_Long.l0 k xs ((xs.length + lsum (xs.take i) : Nat) : Int) (i : Int) = some ((xs.length + lsum xs : Nat) : Int) := by
  intro d
  induction d with
  | zero =>
    intro k i hi hk
    obtain ⟨k, rfl⟩ : ∃ j, k = j + 1 := ⟨k - 1, by omega⟩
    rw [PTagLong.tabularyref03_Long.l0, if_neg (by omega)]
    have : i = xs.length := by omega
    subst this
    rw [List.take_length]
  | succ d ih =>
    intro k i hi hk
    obtain ⟨k, rfl⟩ : ∃ j, k = j + 1 := ⟨k - 1, by omega⟩
    obtain ⟨p, hp⟩ : ∃ p, xs[i]? = some p := ⟨_, List.getElem?_eq_getElem (by omega)⟩
    have hr : rdOf ByteArray.empty xs (i : Int) = p := by
      unfold rdOf
      simp only [Int.toNat_natCast]
      rw [List.getD_eq_getElem?_getD, hp]; rfl
    have hs := lsum_take xs i p hp
    have hle := lsum_le xs (i + 1)
    rw [PTagLong.tabularyref03_Long.l0, if_pos (by omega), if_pos (by omega), hr, w64 _ (by omega), w64 _ (by omega)]
    have h := ih k (i + 1) (by omega) (by omega)
    rw [hs] at h
    rw [← h]
    congr 1 <;> push_cast <;> omega
theorem long_f (xs : List ByteArray) (hb : xs.length + lsum xs ≤ 1048576) : PTagLong.tabularyref03_Long.f (xs.length + 1) xs = some ((xs.length + lsum xs : Nat) : Int) := by
  have h := long_l0 xs hb xs.length (xs.length + 1) 0 (by omega) (by omega)
  simpa [PTagLong.tabularyref03_Long.f, lsum] using h
end Go.Proofs.Ytliiefkdgdflpaa.TagLaw
