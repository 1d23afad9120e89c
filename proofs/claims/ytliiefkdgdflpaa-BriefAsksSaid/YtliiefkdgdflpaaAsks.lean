/-
  What BriefAsks's functions answer, in plain Lean: an event is asked for by the program just if it is by the reference; so of some events.
-/
import Derived.Test.YtliiefkdgdflpaaPBriefAsksx
namespace Go.Proofs.Ytliiefkdgdflpaa.PBriefAsks
open Go.RowKit Go.Proofs.YtliiefkdgdflpaaW.PrintWords Go.Proofs.YtliiefkdgdflpaaW.PrintLast Go.Proofs.YtliiefkdgdflpaaW.PrintMore

theorem bit_fin : ∀ n : Fin 24, tabularyref06_bit.f 25 (n.val : Int) = some (shl .u32 1 (n.val : Int)) := by decide +kernel
theorem bit_eq (n : Int) (h0 : 0 ≤ n) (h1 : n ≤ 23) : tabularyref06_bit.f 25 n = some (shl .u32 1 n) := by
  have h := bit_fin ⟨n.toNat, by omega⟩
  have e : ((n.toNat : Nat) : Int) = n := by omega
  simpa [e] using h

theorem shown_eq : tabularylaw06_shown.f = some true := by decide +kernel

theorem may_eq (q0 q1 q2 q3 b0 b1 b2 b3 b4 : Int) (b5 : Bool) : ∃ r, brief_May.f q0 q1 q2 q3 b0 b1 b2 b3 b4 b5 = some r ∧ tabularyref06_May.f q0 q1 q2 q3 b0 b1 b2 b3 b4 b5 = some r := by
  unfold brief_May.f tabularyref06_May.f mx mn
  by_cases h4 : b4 = 0
  · exact ⟨false, by rw [if_pos h4], by rw [if_pos h4]⟩
  rw [if_neg h4, if_neg h4]
  generalize (Go.bits .and .u32 q2 b2) = x
  generalize (Go.bits .and .u32 q3 b3) = y
  repeat' split
  all_goals first | exact ⟨_, rfl, rfl⟩ | (exfalso; omega)

theorem match_eq (q0 q1 q2 q3 e0 e1 : Int) (e2 : Bool) (e3 : Int) (e4 e5 e6 e7 : ByteArray) (e8 : List S129) (e9 : ByteArray) :
    ∃ r, brief_Match.f q0 q1 q2 q3 e0 e1 e2 e3 e4 e5 e6 e7 e8 e9 = some r ∧ tabularyref06_Match.f 26 q0 q1 q2 q3 e0 e1 e2 e3 e4 e5 e6 e7 e8 e9 = some r := by
  have hj : ∀ c, c = true → tabularyref06_Match.j0 26 c q0 q1 q2 q3 e0 e1 e2 e3 e4 e5 e6 e7 e8 e9 = some false := by
    rintro c rfl
    simp only [tabularyref06_Match.j0, if_true]
  unfold brief_Match.f tabularyref06_Match.f brief_Of.f brief_None.f
  simp only [Option.bind_some]
  by_cases h0 : e0 < 0
  · rw [if_pos h0, if_pos h0]; exact ⟨false, by simp, hj _ rfl⟩
  rw [if_neg h0, if_neg h0]
  by_cases h1 : e0 > 7
  · rw [if_pos h1, if_pos h1]; exact ⟨false, by simp, hj _ rfl⟩
  rw [if_neg h1, if_neg h1]
  by_cases h2 : e1 < 0
  · rw [if_pos h2, if_pos h2]; exact ⟨false, by simp, hj _ rfl⟩
  rw [if_neg h2, if_neg h2]
  by_cases h3 : e1 > 23
  · rw [if_pos h3]; exact ⟨false, by simp, hj _ (by simp; omega)⟩
  rw [if_neg h3, if_pos (by omega), if_pos (by omega)]
  have hd : decide (e1 > 23) = false := by simp; omega
  simp only [Option.bind_some, if_true, hd, tabularyref06_Match.j0, bit_eq e0 (by omega) (by omega), bit_eq e1 (by omega) (by omega), brief_May.f, mx, mn]
  generalize (Go.bits .and .u32 q2 _) = x
  generalize (Go.bits .and .u32 q3 _) = y
  simp only [show ¬ ((1 : Int) = 0) by decide, if_false, Bool.false_eq_true]
  by_cases ha : e3 ≥ q0
  · by_cases hb : e3 ≤ q1
    · rw [if_pos ha, if_pos hb, if_neg (by split <;> split <;> omega)]
      by_cases hx : x = 0
      · rw [if_pos hx]; exact ⟨false, by simp, by simp⟩
      · rw [if_neg hx]; exact ⟨_, by simp; rfl, by simp⟩
    · rw [if_pos ha, if_neg hb, if_pos (by split <;> split <;> omega)]; exact ⟨false, by simp, rfl⟩
  · rw [if_neg ha, if_pos (by split <;> split <;> omega)]; exact ⟨false, by simp, rfl⟩

theorem asks_true (q0 q1 q2 q3 e0 e1 : Int) (e2 : Bool) (e3 : Int) (e4 e5 e6 e7 : ByteArray) (e8 : List S129) (e9 : ByteArray) (b0 b1 b2 b3 b4 : Int) (b5 : Bool) :
    tabularylaw06_BriefAsks.f 26 q0 q1 q2 q3 e0 e1 e2 e3 e4 e5 e6 e7 e8 e9 b0 b1 b2 b3 b4 b5 = some true := by
  obtain ⟨r, h1, h2⟩ := match_eq q0 q1 q2 q3 e0 e1 e2 e3 e4 e5 e6 e7 e8 e9
  obtain ⟨s, h3, h4⟩ := may_eq q0 q1 q2 q3 b0 b1 b2 b3 b4 b5
  unfold tabularylaw06_BriefAsks.f
  rw [shown_eq, h1, h2, h3, h4]
  simp
end Go.Proofs.Ytliiefkdgdflpaa.PBriefAsks
