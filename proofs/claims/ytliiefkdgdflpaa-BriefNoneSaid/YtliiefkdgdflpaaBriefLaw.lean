/-
  Briefs in plain Lean: what the program's Join and Right answer, and that joining right briefs hangs on no order.
-/
import Derived.Test.YtliiefkdgdflpaaPBriefOrderx
import Derived.Test.YtliiefkdgdflpaaMono
namespace Go.Proofs.Ytliiefkdgdflpaa.BriefLaw
open Go.RowKit Go.Proofs.YtliiefkdgdflpaaW.PrintWords Go.Proofs.YtliiefkdgdflpaaW.PrintMore PBriefOrder
set_option linter.unusedVariables false

structure Br where
  first : Int
  last : Int
  grave : Int
  src : Int
  many : Int
  keep : Bool
deriving DecidableEq

def none0 : Br := ⟨0, 0, 0, 0, 0, false⟩

def cells (a : Br) : Array Value := #[.int .i64 a.first, .int .i64 a.last, .int .u32 a.grave, .int .u32 a.src, .int .u64 a.many, .bool a.keep]

def both (a b : Br) : Br := ⟨mn a.first b.first, mx a.last b.last, Go.bits .or .u32 a.grave b.grave, Go.bits .or .u32 a.src b.src, IntKind.u64.wrap (a.many + b.many), a.keep || b.keep⟩

def join (a b : Br) : Br := if a.many = 0 then b else if b.many = 0 then a else both a b

theorem join_f (a b : Br) : brief_Join.f a.first a.last a.grave a.src a.many a.keep b.first b.last b.grave b.src b.many b.keep = some ((join a b).first, (join a b).last, (join a b).grave, (join a b).src, (join a b).many, (join a b).keep) := by
  obtain ⟨a0, a1, a2, a3, a4, a5⟩ := a
  obtain ⟨b0, b1, b2, b3, b4, b5⟩ := b
  unfold brief_Join.f join both
  dsimp only
  repeat' split
  all_goals first | rfl | simp_all

def right (a : Br) : Bool := decide (a = none0) || (decide (a.many ≠ 0) && decide (a.first ≤ a.last) && decide (a.grave ≠ 0) && decide (a.grave ≤ 255) && decide (a.src ≠ 0) && decide (a.src < 16777216))

theorem right_f (a : Br) : brief_Right.f 2 a.first a.last a.grave a.src a.many a.keep = some (right a) := by
  obtain ⟨a0, a1, a2, a3, a4, a5⟩ := a
  unfold brief_Right.f right brief_None.f none0
  simp only [Option.bind_some, brief_Right.j0]
  by_cases hn : (⟨a0, a1, a2, a3, a4, a5⟩ : Br) = ⟨0, 0, 0, 0, 0, false⟩
  · simp only [Br.mk.injEq] at hn
    obtain ⟨rfl, rfl, rfl, rfl, rfl, rfl⟩ := hn
    rfl
  · have h1 : (a0 == 0 && (a1 == 0 && (a2 == 0 && (a3 == 0 && (a4 == 0 && (a5 == false)))))) = false := by
      rw [Bool.eq_false_iff]
      intro h
      simp only [Bool.and_eq_true, beq_iff_eq] at h
      obtain ⟨h0, h1, h2, h3, h4, h5⟩ := h
      exact hn (by subst h0 h1 h2 h3 h4 h5; rfl)
    rw [h1]
    simp only [Bool.false_eq_true, if_false]
    have hd : decide ((⟨a0, a1, a2, a3, a4, a5⟩ : Br) = ⟨0, 0, 0, 0, 0, false⟩) = false := decide_eq_false hn
    rw [hd]
    by_cases h4 : a4 = 0
    · simp [h4]
    by_cases h01 : a0 > a1
    · simp [h4, h01]; omega
    have h01' : a0 ≤ a1 := by omega
    by_cases h2 : a2 = 0
    · simp [h4, h01, h2]
    by_cases h22 : a2 > 255
    · simp [h4, h01, h2, h22]
      try (intros; omega)
    by_cases h3 : a3 = 0
    · simp [h4, h01, h2, h3]
    by_cases h33 : a3 ≥ 16777216
    · simp [h4, h01, h2, h22, h3, h33]
      try (intros; omega)
    · simp [h4, h01, h2, h22, h3, h33, h01']
      try omega

theorem or_comm (a b : Int) : Go.bits .or .u32 a b = Go.bits .or .u32 b a := by
  rw [Mono.or_bv, Mono.or_bv, BitVec.or_comm]
theorem or_assoc (a b c : Int) : Go.bits .or .u32 (Go.bits .or .u32 a b) c = Go.bits .or .u32 a (Go.bits .or .u32 b c) := by
  rw [Mono.or_bv (Go.bits .or .u32 a b), Mono.or_bv a (Go.bits .or .u32 b c), Mono.of_or, Mono.of_or, BitVec.or_assoc]
theorem or_lt (a b : Int) (j : Nat) (hj : j ≤ 31) (ha : 0 ≤ a) (ha' : a < 2 ^ j) (hb : 0 ≤ b) (hb' : b < 2 ^ j) : 0 ≤ Go.bits .or .u32 a b ∧ Go.bits .or .u32 a b < 2 ^ j := by
  obtain ⟨n, rfl⟩ := Int.eq_ofNat_of_zero_le ha
  obtain ⟨m, rfl⟩ := Int.eq_ofNat_of_zero_le hb
  have hn : n < 2 ^ j := by exact_mod_cast ha'
  have hm : m < 2 ^ j := by exact_mod_cast hb'
  have h := (bits_nat .u32 j (by show j ≤ 32; omega) (fun x h0 h1 => by
    rw [IntKind.wrap_u32]
    have : (2 : Int) ^ j ≤ 2 ^ 31 := by exact_mod_cast Nat.pow_le_pow_right (by decide) hj
    omega) n m hn hm).2
  rw [h]
  constructor
  · omega
  · exact_mod_cast Nat.or_lt_two_pow hn hm
theorem or_ne_zero (a b : Int) (ha : 0 < a) (ha' : a < 4294967296) : Go.bits .or .u32 a b ≠ 0 := by
  rw [Mono.or_bv]
  intro h
  have h2 : BitVec.ofInt 32 a ||| BitVec.ofInt 32 b = 0#32 := BitVec.eq_of_toNat_eq (by have h3 : (0#32).toNat = 0 := rfl; rw [h3]; exact_mod_cast h)
  have h4 : BitVec.ofInt 32 a = 0#32 := by
    have h5 := Mono.low (BitVec.ofInt 32 a) (BitVec.ofInt 32 b) (BitVec.allOnes 32) (by rw [BitVec.and_allOnes]; exact h2)
    have h8 := h5.1
    rw [BitVec.and_allOnes] at h8
    exact h8
  obtain ⟨n, rfl⟩ := Int.eq_ofNat_of_zero_le (Int.le_of_lt ha)
  rw [BitVec.ofInt_natCast] at h4
  have h6 := congrArg BitVec.toNat h4
  have h7 : (0#32).toNat = 0 := rfl
  rw [h7, BitVec.toNat_ofNat] at h6
  omega

theorem wrap64 (n : Int) : IntKind.u64.wrap n = n % 18446744073709551616 := by simp [IntKind.wrap, IntKind.bits, IntKind.signed]

/-- right, of at most so many -/
def Ok (a : Br) : Prop := a = none0 ∨ (0 < a.many ∧ a.first ≤ a.last ∧ 0 < a.grave ∧ a.grave ≤ 255 ∧ 0 < a.src ∧ a.src < 16777216)

theorem ok_of (a : Br) (h : right a = true) (h2 : 0 ≤ a.grave) (h3 : 0 ≤ a.src) (h4 : 0 ≤ a.many) : Ok a := by
  unfold right at h
  simp only [Bool.or_eq_true, Bool.and_eq_true, decide_eq_true_eq] at h
  rcases h with h | ⟨⟨⟨⟨⟨h5, h6⟩, h7⟩, h8⟩, h9⟩, h10⟩
  · exact .inl h
  · exact .inr ⟨by omega, h6, by omega, h8, by omega, h10⟩
theorem right_of (a : Br) (h : Ok a) : right a = true := by
  unfold right
  simp only [Bool.or_eq_true, Bool.and_eq_true, decide_eq_true_eq]
  rcases h with h | ⟨h5, h6, h7, h8, h9, h10⟩
  · exact .inl h
  · exact .inr ⟨⟨⟨⟨⟨by omega, h6⟩, by omega⟩, h8⟩, by omega⟩, h10⟩
theorem ok_many (a : Br) (h : Ok a) : 0 ≤ a.many := by
  rcases h with rfl | h
  · simp [none0]
  · omega
theorem ok_zero (a : Br) (h : Ok a) (h0 : a.many = 0) : a = none0 := by
  rcases h with h | h
  · exact h
  · omega

theorem join_none (a : Br) (h : Ok a) : join a none0 = a := by
  unfold join
  split
  · exact (ok_zero a h (by assumption)).symm
  · exact if_pos (show none0.many = 0 from rfl)
theorem none_join (a : Br) : join none0 a = a := if_pos (show none0.many = 0 from rfl)

theorem join_many (a b : Br) (h : Ok a) (k : Ok b) (hs : a.many + b.many < 18446744073709551616) : (join a b).many = a.many + b.many := by
  have := ok_many a h
  have := ok_many b k
  unfold join
  split
  · omega
  split
  · omega
  · show IntKind.u64.wrap (a.many + b.many) = _
    rw [wrap64]; omega

theorem join_ok (a b : Br) (h : Ok a) (k : Ok b) (hs : a.many + b.many < 18446744073709551616) : Ok (join a b) := by
  have hm := join_many a b h k hs
  rcases h with rfl | h
  · rw [none_join]; exact k
  rcases k with rfl | k
  · rw [join_none a (.inr h)]; exact .inr h
  obtain ⟨h1, h2, h3, h4, h5, h6⟩ := h
  obtain ⟨k1, k2, k3, k4, k5, k6⟩ := k
  refine .inr ⟨by omega, ?_⟩
  have e : join a b = both a b := by unfold join; rw [if_neg (by omega), if_neg (by omega)]
  rw [e]
  have o1 := or_lt a.grave b.grave 8 (by omega) (by omega) (by omega) (by omega) (by omega)
  have o2 := or_lt a.src b.src 24 (by omega) (by omega) (by omega) (by omega) (by omega)
  have o3 := or_ne_zero a.grave b.grave (by omega) (by omega)
  have o4 := or_ne_zero a.src b.src (by omega) (by omega)
  simp only [both]
  refine ⟨?_, by omega, by omega, by omega, by omega⟩
  unfold mn mx
  split <;> split <;> omega

theorem join_comm (a b : Br) (h : Ok a) (k : Ok b) : join a b = join b a := by
  rcases h with rfl | h
  · rw [none_join, join_none b k]
  rcases k with rfl | k
  · rw [none_join, join_none a (.inr h)]
  have ha := h.1
  have hb := k.1
  unfold join
  rw [if_neg (by omega), if_neg (by omega), if_neg (by omega), if_neg (by omega)]
  unfold both
  rw [or_comm a.grave, or_comm a.src, Int.add_comm a.many, Bool.or_comm]
  congr 1
  · unfold mn; split <;> split <;> omega
  · unfold mx; split <;> split <;> omega

theorem join_assoc (a b c : Br) (h : Ok a) (k : Ok b) (l : Ok c) (hs : a.many + b.many + c.many < 18446744073709551616) : join (join a b) c = join a (join b c) := by
  have q1 := ok_many a h
  have q2 := ok_many b k
  have q3 := ok_many c l
  have hab := join_ok a b h k (by omega)
  have mab := join_many a b h k (by omega)
  have hbc := join_ok b c k l (by omega)
  have mbc := join_many b c k l (by omega)
  rcases h with rfl | h
  · rw [none_join, none_join]
  rcases k with rfl | k
  · rw [none_join, join_none a (.inr h)]
  rcases l with rfl | l
  · rw [join_none _ hab, join_none _ (.inr k)]
  have ha := h.1
  have hb := k.1
  have hc := l.1
  have e1 : join a b = both a b := by unfold join; rw [if_neg (by omega), if_neg (by omega)]
  have e2 : join b c = both b c := by unfold join; rw [if_neg (by omega), if_neg (by omega)]
  have e3 : join (join a b) c = both (join a b) c := by
    rw [show join (join a b) c = if (join a b).many = 0 then c else if c.many = 0 then join a b else both (join a b) c from rfl]
    rw [if_neg (by omega), if_neg (by omega)]
  have e4 : join a (join b c) = both a (join b c) := by
    rw [show join a (join b c) = if a.many = 0 then join b c else if (join b c).many = 0 then a else both a (join b c) from rfl]
    rw [if_neg (by omega), if_neg (by omega)]
  rw [e3, e4, e1, e2]
  unfold both
  dsimp only
  rw [or_assoc, or_assoc, Bool.or_assoc, wrap64, wrap64, wrap64, wrap64]
  congr 1
  · unfold mn; repeat' split
    all_goals omega
  · unfold mx; repeat' split
    all_goals omega
  · omega
end Go.Proofs.Ytliiefkdgdflpaa.BriefLaw
