/-
  A text of parts, taken apart, in plain Lean: bytes as whole numbers.
-/
import Derived.Test.YtliiefkdgdflpaaTagNum
import Derived.Test.YtliiefkdgdflpaaTagText
namespace Go.Proofs.Ytliiefkdgdflpaa.TagSplit
open Go.RowKit Go.Proofs.YtliiefkdgdflpaaW.PrintWords TagBytes TagNum
set_option linter.unusedVariables false

/-- so many parts off a row of bytes, and why it ended (0, 2, 3) -/
def split : Nat → List Int → List (List Int) × Int
  | 0, s => ([], if s = [] then 0 else 3)
  | m + 1, s => if s.length < 8 ∨ num (s.take 8) 0 > (s.length : Int) - 8 then ([], 2) else
      ((s.drop 8).take (num (s.take 8) 0).toNat :: (split m (s.drop (8 + (num (s.take 8) 0).toNat))).1, (split m (s.drop (8 + (num (s.take 8) 0).toNat))).2)

/-- parts, each with its length ahead -/
def laid : List (List Int) → List Int
  | [] => []
  | p :: ps => be 8 (p.length : Int) ++ (p ++ laid ps)

theorem split_laid : ∀ (ps : List (List Int)) (t : List Int), (∀ p ∈ ps, (p.length : Int) < 18446744073709551616) → split ps.length (laid ps ++ t) = (ps, if t = [] then 0 else 3) := by
  intro ps
  induction ps with
  | nil => intro t _; simp [split, laid]
  | cons p ps ih =>
    intro t h
    have hp := h p List.mem_cons_self
    have hn : num (be 8 (p.length : Int)) 0 = (p.length : Int) := num_be 8 _ (by omega) (by rw [show (256 : Int) ^ 8 = 18446744073709551616 by decide]; exact hp)
    have h8 : (be 8 (p.length : Int)).length = 8 := be_length _ _
    have e : laid (p :: ps) ++ t = be 8 (p.length : Int) ++ (p ++ (laid ps ++ t)) := by simp [laid, List.append_assoc]
    have ht : (laid (p :: ps) ++ t).take 8 = be 8 (p.length : Int) := by rw [e, List.take_append_of_le_length (by omega), List.take_of_length_le (by omega)]
    have hd : (laid (p :: ps) ++ t).drop 8 = p ++ (laid ps ++ t) := by rw [e, List.drop_append_of_le_length (by omega), List.drop_eq_nil_of_le (by omega), List.nil_append]
    have hlen : (laid (p :: ps) ++ t).length = 8 + (p.length + (laid ps ++ t).length) := by rw [e, List.length_append, List.length_append, h8]
    rw [List.length_cons, split, ht, hn, if_neg (by rw [hlen]; omega)]
    have hr : (laid (p :: ps) ++ t).drop (8 + ((p.length : Nat) : Int).toNat) = laid ps ++ t := by
      rw [← List.drop_drop, hd, Int.toNat_natCast, List.drop_append_of_le_length (by omega), List.drop_eq_nil_of_le (by omega), List.nil_append]
    rw [hr, hd, Int.toNat_natCast, ih t (fun q hq => h q (List.mem_cons_of_mem _ hq)), List.take_append_of_le_length (by omega), List.take_of_length_le (by omega)]

theorem be_num : ∀ (n : Nat) (xs : List Int), xs.length = n → (∀ x ∈ xs, 0 ≤ x ∧ x < 256) → be n (num xs 0) = xs := by
  intro n
  induction n with
  | zero => intro xs hl _; rw [List.length_eq_zero_iff.1 hl]; rfl
  | succ n ih =>
    intro xs hl h
    rcases List.eq_nil_or_concat xs with rfl | ⟨ys, y, rfl⟩
    · simp at hl
    · rw [List.concat_eq_append] at hl h ⊢
      have h1 : ys.length = n := by simp at hl; exact hl
      have hy := h y (List.mem_append_right _ List.mem_cons_self)
      rw [num_snoc, be, show (num ys 0 * 256 + y) / 256 = num ys 0 by omega, show (num ys 0 * 256 + y) % 256 = y by omega, ih ys h1 (fun x hx => h x (List.mem_append_left _ hx))]

theorem laid_split : ∀ (m : Nat) (s : List Int), (∀ x ∈ s, 0 ≤ x ∧ x < 256) → (split m s).2 = 0 → laid (split m s).1 = s ∧ (split m s).1.length = m := by
  intro m
  induction m with
  | zero =>
    intro s _ h
    unfold split at h ⊢
    by_cases hs : s = []
    · subst hs; exact ⟨rfl, rfl⟩
    · simp [hs] at h
  | succ m ih =>
    intro s hr h
    unfold split at h ⊢
    by_cases hc : s.length < 8 ∨ num (s.take 8) 0 > (s.length : Int) - 8
    · rw [if_pos hc] at h; simp at h
    · rw [if_neg hc] at h ⊢
      dsimp only at h ⊢
      have hb := num_bound 8 (s.take 8) (by rw [List.length_take]; omega) (fun x hx => hr x (List.mem_of_mem_take hx))
      obtain ⟨i1, i2⟩ := ih (s.drop (8 + (num (s.take 8) 0).toNat)) (fun x hx => hr x (List.mem_of_mem_drop hx)) h
      refine ⟨?_, by simp [i2]⟩
      have hl : ((s.drop 8).take (num (s.take 8) 0).toNat).length = (num (s.take 8) 0).toNat := by rw [List.length_take, List.length_drop]; omega
      rw [laid, hl, show (((num (s.take 8) 0).toNat : Nat) : Int) = num (s.take 8) 0 by omega, be_num 8 (s.take 8) (by rw [List.length_take]; omega) (fun x hx => hr x (List.mem_of_mem_take hx)), i1, ← List.drop_drop, List.take_append_drop, List.take_append_drop]
end Go.Proofs.Ytliiefkdgdflpaa.TagSplit
