/-
  Unsigned words: what more bits are in common with.
-/
import Derived.Test.YtliiefkdgdflpaaRows
import Derived.Laws.BitsLemmas
import Derived.Laws.BitsAllLaws
namespace Go.Proofs.Ytliiefkdgdflpaa.Mono
open Go
theorem u32_wrap_nat (x : BitVec 32) : IntKind.u32.wrap (x.toNat : Int) = x.toNat := by
  rw [IntKind.wrap_u32]
  have := x.isLt
  omega
theorem and_bv (a b : Int) : bits .and .u32 a b = ((BitVec.ofInt 32 a &&& BitVec.ofInt 32 b).toNat : Int) := by
  have h : bits .and .u32 a b = IntKind.u32.wrap ((BitVec.ofInt 32 a &&& BitVec.ofInt 32 b).toNat : Int) := rfl
  rw [h, u32_wrap_nat]
theorem or_bv (a b : Int) : bits .or .u32 a b = ((BitVec.ofInt 32 a ||| BitVec.ofInt 32 b).toNat : Int) := by
  have h : bits .or .u32 a b = IntKind.u32.wrap ((BitVec.ofInt 32 a ||| BitVec.ofInt 32 b).toNat : Int) := rfl
  rw [h, u32_wrap_nat]
theorem of_or (a b : Int) : BitVec.ofInt 32 (bits .or .u32 a b) = BitVec.ofInt 32 a ||| BitVec.ofInt 32 b := by
  rw [or_bv, BitVec.ofInt_natCast, BitVec.ofNat_toNat, BitVec.setWidth_eq]
theorem and_zero (a b : Int) : bits .and .u32 a b = 0 ↔ BitVec.ofInt 32 a &&& BitVec.ofInt 32 b = 0#32 := by
  rw [and_bv]
  constructor
  · intro h
    apply BitVec.eq_of_toNat_eq
    have h2 : (0#32).toNat = 0 := rfl
    rw [h2]
    exact_mod_cast h
  · intro h; rw [h]; rfl
theorem low (A B X : BitVec 32) (h : (A ||| B) &&& X = 0#32) : A &&& X = 0#32 ∧ B &&& X = 0#32 := by
  constructor
  all_goals
    apply BitVec.eq_of_getLsbD_eq
    intro i hi
    have h2 := congrArg (fun v => v.getLsbD i) h
    simp only [BitVec.getLsbD_and, BitVec.getLsbD_or, BitVec.getLsbD_zero] at h2 ⊢
    revert h2
    cases A.getLsbD i <;> cases B.getLsbD i <;> cases X.getLsbD i <;> simp
theorem or_left (a b x : Int) (h : bits .and .u32 a x ≠ 0) : bits .and .u32 (bits .or .u32 a b) x ≠ 0 := by
  intro h2
  rw [and_zero, of_or] at h2
  exact h ((and_zero _ _).2 (low _ _ _ h2).1)
theorem or_right (a b x : Int) (h : bits .and .u32 b x ≠ 0) : bits .and .u32 (bits .or .u32 a b) x ≠ 0 := by
  intro h2
  rw [and_zero, of_or] at h2
  exact h ((and_zero _ _).2 (low _ _ _ h2).2)
end Go.Proofs.Ytliiefkdgdflpaa.Mono
