/-
  What one event tells, and whether it may be asked for, in plain Lean.
-/
import Derived.Test.YtliiefkdgdflpaaPBriefNonex
import Derived.Test.YtliiefkdgdflpaaFold
namespace Go.Proofs.Ytliiefkdgdflpaa.NoneLaw
open Go.RowKit Go.Proofs.YtliiefkdgdflpaaW.PrintWords Go.Proofs.YtliiefkdgdflpaaW.PrintMore PBriefNone BriefLaw All
set_option linter.unusedVariables false

structure Q4 where
  first : Int
  last : Int
  grave : Int
  src : Int

def may (q : Q4) (b : Br) : Bool := decide (b.many ≠ 0) && decide (q.first ≤ q.last ∧ q.first ≤ b.last ∧ b.first ≤ q.last ∧ b.first ≤ b.last) && (Go.bits .and .u32 q.grave b.grave != 0) && (Go.bits .and .u32 q.src b.src != 0)

theorem may_f (q : Q4) (b : Br) : brief_May.f q.first q.last q.grave q.src b.first b.last b.grave b.src b.many b.keep = some (may q b) := by
  obtain ⟨q0, q1, q2, q3⟩ := q
  obtain ⟨b0, b1, b2, b3, b4, b5⟩ := b
  unfold brief_May.f may mx mn
  dsimp only
  generalize (Go.bits .and .u32 q2 b2) = x
  generalize (Go.bits .and .u32 q3 b3) = y
  by_cases h4 : b4 = 0
  · rw [if_pos h4]; simp [h4]
  rw [if_neg h4]
  by_cases h : q0 ≤ q1 ∧ q0 ≤ b1 ∧ b0 ≤ q1 ∧ b0 ≤ b1
  · rw [if_neg (by repeat' split
                   all_goals omega)]
    by_cases hx : x = 0
    · simp [h4, h, hx]
    · simp [h4, h, hx]
  · rw [if_pos (by repeat' split
                   all_goals omega)]
    simp [h]

def ofB (e0 e1 e3 : Int) : Br := if e0 < 0 ∨ e0 > 7 ∨ e1 < 0 ∨ e1 > 23 then none0 else ⟨e3, e3, shl .u32 1 e0, shl .u32 1 e1, 1, false⟩

theorem of_f (e0 e1 : Int) (e2 : Bool) (e3 : Int) (e4 e5 e6 e7 : ByteArray) (e8 : List S129) (e9 : ByteArray) :
    brief_Of.f e0 e1 e2 e3 e4 e5 e6 e7 e8 e9 false = some ((ofB e0 e1 e3).first, (ofB e0 e1 e3).last, (ofB e0 e1 e3).grave, (ofB e0 e1 e3).src, (ofB e0 e1 e3).many, (ofB e0 e1 e3).keep) := by
  unfold brief_Of.f brief_None.f ofB
  simp only [Option.bind_some]
  by_cases h0 : e0 < 0
  · rw [if_pos h0, if_pos (.inl h0)]; rfl
  rw [if_neg h0]
  by_cases h1 : e0 > 7
  · rw [if_pos h1, if_pos (.inr (.inl h1))]; rfl
  rw [if_neg h1]
  by_cases h2 : e1 < 0
  · rw [if_pos h2, if_pos (.inr (.inr (.inl h2)))]; rfl
  rw [if_neg h2]
  by_cases h3 : e1 > 23
  · rw [if_pos h3, if_pos (.inr (.inr (.inr h3)))]; rfl
  rw [if_neg h3, if_pos (by omega), if_pos (by omega), if_neg (by omega)]

theorem match_f (q : Q4) (e0 e1 : Int) (e2 : Bool) (e3 : Int) (e4 e5 e6 e7 : ByteArray) (e8 : List S129) (e9 : ByteArray) :
    brief_Match.f q.first q.last q.grave q.src e0 e1 e2 e3 e4 e5 e6 e7 e8 e9 = some (decide ((ofB e0 e1 e3).many = 1) && may q (ofB e0 e1 e3)) := by
  unfold brief_Match.f
  rw [of_f]
  simp only [Option.bind_some]
  by_cases h : (ofB e0 e1 e3).many = 1
  · rw [if_pos h, may_f]; simp [h]
  · rw [if_neg h]; simp [h]

theorem shl_fin : ∀ n : Fin 24, 0 < shl .u32 1 (n.val : Int) ∧ shl .u32 1 (n.val : Int) < 16777216 ∧ (n.val ≤ 7 → shl .u32 1 (n.val : Int) ≤ 255) := by decide +kernel

theorem of_ok (e0 e1 e3 : Int) : Ok (ofB e0 e1 e3) ∧ (ofB e0 e1 e3).many ≤ 1 := by
  unfold ofB
  split
  · exact ⟨ok_none, by decide⟩
  · rename_i h
    have h0 := shl_fin ⟨e0.toNat, by omega⟩
    have h1 := shl_fin ⟨e1.toNat, by omega⟩
    have c0 : ((e0.toNat : Nat) : Int) = e0 := by omega
    have c1 : ((e1.toNat : Nat) : Int) = e1 := by omega
    simp only [c0, c1] at h0 h1
    exact ⟨.inr ⟨(by decide : (0 : Int) < 1), Int.le_refl _, h0.1, h0.2.2 (by omega), h1.1, h1.2.1⟩, Int.le_refl _⟩

theorem and_or_l (q a b : Int) (h : Go.bits .and .u32 q a ≠ 0) : Go.bits .and .u32 q (Go.bits .or .u32 a b) ≠ 0 := by
  intro h2
  rw [Mono.and_zero, Mono.of_or, BitVec.and_comm] at h2
  exact h ((Mono.and_zero _ _).2 (by rw [BitVec.and_comm]; exact (Mono.low _ _ _ h2).1))
theorem and_or_r (q a b : Int) (h : Go.bits .and .u32 q b ≠ 0) : Go.bits .and .u32 q (Go.bits .or .u32 a b) ≠ 0 := by
  rw [BriefLaw.or_comm]; exact and_or_l q b a h

theorem may_both (q : Q4) (a b : Br) (hs : 0 < a.many ∧ 0 < b.many ∧ a.many + b.many < 18446744073709551616) (h : may q a = true ∨ may q b = true) : may q (both a b) = true := by
  unfold may both at *
  simp only [Bool.and_eq_true, decide_eq_true_eq, bne_iff_ne] at *
  rcases h with ⟨⟨⟨h1, h2⟩, h3⟩, h4⟩ | ⟨⟨⟨h1, h2⟩, h3⟩, h4⟩
  · refine ⟨⟨⟨?_, ?_⟩, and_or_l _ _ _ h3⟩, and_or_l _ _ _ h4⟩
    · rw [BriefLaw.wrap64]; omega
    · unfold mn mx; repeat' split
      all_goals omega
  · refine ⟨⟨⟨?_, ?_⟩, and_or_r _ _ _ h3⟩, and_or_r _ _ _ h4⟩
    · rw [BriefLaw.wrap64]; omega
    · unfold mn mx; repeat' split
      all_goals omega

theorem may_none (q : Q4) (b : Br) (h : may q b = true) : b.many ≠ 0 := by
  unfold may at h
  simp only [Bool.and_eq_true, decide_eq_true_eq] at h
  exact h.1.1.1

theorem may_join (q : Q4) (a b : Br) (ha : Ok a) (hb : Ok b) (hs : a.many + b.many < 18446744073709551616) (h : may q a = true ∨ may q b = true) : may q (join a b) = true := by
  have h1 := ok_many a ha
  have h2 := ok_many b hb
  by_cases a0 : a.many = 0
  · have e : join a b = b := if_pos a0
    rw [e]
    rcases h with h | h
    · exact absurd a0 (may_none q a h)
    · exact h
  by_cases b0 : b.many = 0
  · have e : join a b = a := by unfold join; rw [if_neg a0, if_pos b0]
    rw [e]
    rcases h with h | h
    · exact h
    · exact absurd b0 (may_none q b h)
  have e : join a b = both a b := by unfold join; rw [if_neg a0, if_neg b0]
  rw [e]
  exact may_both q a b ⟨by omega, by omega, hs⟩ h

theorem may_fold (q : Q4) : ∀ (zs : List Br) (x : Br), Ok x → (∀ z ∈ zs, Ok z ∧ z.many ≤ 1099511627776) → x.many + zs.length * 1099511627776 < 18446744073709551616 →
    (may q x = true ∨ ∃ z ∈ zs, may q z = true) → may q (fold x zs) = true := by
  intro zs
  induction zs with
  | nil => intro x _ _ _ h; rcases h with h | ⟨z, hz, _⟩; exact h; cases hz
  | cons y ys ih =>
    intro x hx h hb hm
    have h2 := h y List.mem_cons_self
    have h3 := ok_many y h2.1
    have h4 := ok_many x hx
    simp only [List.length_cons] at hb
    have hj := join_many x y hx h2.1 (by omega)
    show may q (fold (join x y) ys) = true
    refine ih (join x y) (join_ok x y hx h2.1 (by omega)) (fun z hz => h z (List.mem_cons_of_mem _ hz)) (by omega) ?_
    rcases hm with hm | ⟨z, hz, hm⟩
    · exact .inl (may_join q x y hx h2.1 (by omega) (.inl hm))
    · rcases List.mem_cons.1 hz with rfl | hz
      · exact .inl (may_join q x z hx h2.1 (by omega) (.inr hm))
      · exact .inr ⟨z, hz, hm⟩
theorem sumM_le (zs : List Br) (h : ∀ z ∈ zs, z.many ≤ 1) : sumM zs ≤ zs.length := by
  induction zs with
  | nil => simp [sumM]
  | cons y ys ih =>
    have h1 := ih (fun z hz => h z (List.mem_cons_of_mem _ hz))
    have h2 := h y List.mem_cons_self
    simp only [sumM, List.length_cons]
    omega
end Go.Proofs.Ytliiefkdgdflpaa.NoneLaw
