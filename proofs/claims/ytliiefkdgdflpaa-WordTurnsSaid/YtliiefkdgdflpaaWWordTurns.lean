/-
  WordTurns's walk.
-/
import Derived.Test.YtliiefkdgdflpaaKWordTurns
import Derived.Test.YtliiefkdgdflpaaTurn
import Derived.Test.YtliiefkdgdflpaaWord
namespace Go.Proofs.Ytliiefkdgdflpaa.WWordTurns
open Go.RowKit Go.Proofs.YtliiefkdgdflpaaW.PrintWords KWordTurns PWordTurns Word
set_option linter.unusedVariables false

set_option maxRecDepth 100000 in
theorem shown_true (w : World) : Calls Try.prog 24 #[] w fun e w' => e = .returned (.bool true) ∧ Below w.heap.size w w' := by
  have e0 : rot 1 (sh 1) = 2147483648 := by decide +kernel
  have hs := pad_string
  have h0 : ((strOfNums pad0 ++ strOfNums (wbs [0, 0])) : ByteArray)[0]? = some 128 := by decide +kernel
  have h63 : ((strOfNums pad0 ++ strOfNums (wbs [0, 0])) : ByteArray)[63]? = some 0 := by decide +kernel
  have hp := pad_zero w
  have HP := Lib.hid hp
  generalize strOfNums pad0 ++ strOfNums (wbs [0, 0]) = s at hs h0 h63 hp HP
  clear hp
  have h0' : s[0]'(by omega) = 128 := by
    have := Option.some.inj ((getElem?_pos s 0 (by omega)).symm.trans h0); exact this
  have h63' : s[63]'(by omega) = 0 := by
    have := Option.some.inj ((getElem?_pos s 63 (by omega)).symm.trans h63); exact this
  clear h0 h63
  go_enter Try.func24, Try.ntmps24
  go_wp2_with (first
    | (go_at_call 42; refine HP.out.mono ?_; rintro e w' ⟨rfl, hb1⟩)
    | (go_at_call 25; refine (turn_any 1 1 _ (by omega)).mono ?_; rintro e w'' ⟨rfl, hb2⟩))
  go_ret
  exact ⟨rfl, hb1.trans (hb2.mono hb1.size)⟩

def n_out (n m : Int) : Prop := n < -1000 ∨ m < -1000 ∨ 1000 < n ∨ 1000 < m
instance (n m : Int) : Decidable (n_out n m) := by unfold n_out; infer_instance

set_option maxRecDepth 100000 in
theorem out_walk (x n m : Int) (w : World) (h : n < -1000 ∨ ¬ n < -1000 ∧ m < -1000 ∨ ¬ n < -1000 ∧ ¬ m < -1000 ∧ 1000 < n ∨ ¬ n < -1000 ∧ ¬ m < -1000 ∧ ¬ 1000 < n ∧ 1000 < m) :
    Calls Try.prog 6 #[.int .u32 x, .int .i64 n, .int .i64 m] w fun e w' => e = .returned (.bool true) ∧ Below w.heap.size w w' := by
  rcases h with h1 | ⟨h1, h2⟩ | ⟨h1, h2, h3⟩ | ⟨h1, h2, h3, h4⟩
  all_goals
    go_enter Try.func6, Try.ntmps6
    go_wp2_with (go_at_call 24; refine (shown_true _).mono ?_; rintro e w' ⟨rfl, hb1⟩)
    go_ret
    exact ⟨rfl, hb1⟩

set_option maxRecDepth 100000 in
theorem in_walk (x : Nat) (n m : Int) (w : World) (hx : x < 4294967296) (h1 : ¬ n < -1000) (h2 : ¬ m < -1000) (h3 : ¬ 1000 < n) (h4 : ¬ 1000 < m) :
    Calls Try.prog 6 #[.int .u32 x, .int .i64 n, .int .i64 m] w fun e w' => e = .returned (.bool true) ∧ Below w.heap.size w w' := by
  have hab : ∃ a c : Nat, (∀ w, Calls Try.prog 25 #[.int .u32 x, .int .i64 n] w fun e w' => e = .returned (.int .u32 (a : Nat)) ∧ Below w.heap.size w w') ∧
      (∀ w, Calls Try.prog 25 #[.int .u32 (a : Nat), .int .i64 (-n)] w fun e w' => e = .returned (.int .u32 (x : Nat)) ∧ Below w.heap.size w w') ∧
      (∀ w, Calls Try.prog 25 #[.int .u32 (a : Nat), .int .i64 m] w fun e w' => e = .returned (.int .u32 (c : Nat)) ∧ Below w.heap.size w w') ∧
      (∀ w, Calls Try.prog 25 #[.int .u32 (x : Nat), .int .i64 (n + m)] w fun e w' => e = .returned (.int .u32 (c : Nat)) ∧ Below w.heap.size w w') ∧
      (∀ w, Calls Try.prog 25 #[.int .u32 (x : Nat), .int .i64 32] w fun e w' => e = .returned (.int .u32 (x : Nat)) ∧ Below w.heap.size w w') := by
    have ha := rot_lt x (sh n) hx (sh_lt n)
    refine ⟨rot x (sh n), rot (rot x (sh n)) (sh m), fun w => turn_any _ _ _ hx, fun w => ?_, fun w => turn_any _ _ _ ha, fun w => ?_, fun w => ?_⟩
    · have e : rot (rot x (sh n)) (sh (-n)) = x := by
        rw [rot_rot x _ _ hx (sh_lt _) (sh_lt _), ← sh_add, show n + -n = 0 by omega]
        exact rot_zero x hx
      have h := turn_any (rot x (sh n)) (-n) w ha
      rwa [e] at h
    · have e : rot (rot x (sh n)) (sh m) = rot x (sh (n + m)) := by
        rw [rot_rot x _ _ hx (sh_lt _) (sh_lt _), ← sh_add]
      rw [e]; exact turn_any _ _ _ hx
    · have e : rot x (sh 32) = x := rot_zero x hx
      have h := turn_any x 32 w hx
      rwa [e] at h
  obtain ⟨a, c, ha, hb, hc, hd, he⟩ := hab
  have HA := Lib.hid ha
  have HB := Lib.hid hb
  have HC := Lib.hid hc
  have HD := Lib.hid hd
  have HE := Lib.hid he
  clear ha hb hc hd he
  go_enter Try.func6, Try.ntmps6
  go_wp2_with fail
  refine (shown_true _).mono ?_; rintro e w1 ⟨rfl, hb1⟩
  go_wp2_with fail
  refine (HA.out _).mono ?_; rintro e w2 ⟨rfl, hb2⟩
  go_wp2_with fail
  refine (HB.out _).mono ?_; rintro e w3 ⟨rfl, hb3⟩
  go_wp2_with fail
  refine (HA.out _).mono ?_; rintro e w4 ⟨rfl, hb4⟩
  go_wp2_with fail
  refine (HC.out _).mono ?_; rintro e w5 ⟨rfl, hb5⟩
  go_wp2_with fail
  refine (HD.out _).mono ?_; rintro e w6 ⟨rfl, hb6⟩
  go_wp2_with fail
  refine (HE.out _).mono ?_; rintro e w7 ⟨rfl, hb7⟩
  go_wp2_with fail
  go_ret
  exact ⟨rfl, below_then (below_then (below_then (below_then (below_then (below_then hb1 hb1.size hb2) (by have := hb1.size; have := hb2.size; omega) hb3) (by have := hb1.size; have := hb2.size; have := hb3.size; omega) hb4) (by have := hb1.size; have := hb2.size; have := hb3.size; have := hb4.size; omega) hb5) (by have := hb1.size; have := hb2.size; have := hb3.size; have := hb4.size; have := hb5.size; omega) hb6) (by have := hb1.size; have := hb2.size; have := hb3.size; have := hb4.size; have := hb5.size; have := hb6.size; omega) hb7⟩

theorem walk (w : World) (x0 : Int) (v0 : Value) (hK0 : kd28.K w x0 [v0]) (hg0 : g28 x0) (x1 : Int) (v1 : Value) (hK1 : kd3.K w x1 [v1]) (hg1 : g3 x1) (x2 : Int) (v2 : Value) (hK2 : kd3.K w x2 [v2]) (hg2 : g3 x2) :
    Calls Try.prog 6 #[v0, v1, v2] w fun e w' => e = .returned (.bool true) ∧ Below w.heap.size w w' := by
  obtain rfl : v0 = .int .u32 x0 := by simpa using (show [v0] = [Value.int .u32 x0] from hK0)
  obtain rfl : v1 = .int .i64 x1 := by simpa using (show [v1] = [Value.int .i64 x1] from hK1)
  obtain rfl : v2 = .int .i64 x2 := by simpa using (show [v2] = [Value.int .i64 x2] from hK2)
  have hx : 0 ≤ x0 ∧ x0 ≤ 4294967295 := by
    have hmin : IntKind.u32.min = 0 := rfl
    have hmax : IntKind.u32.max = 4294967295 := rfl
    have h : (Lit.int .u32 x0).wf = true := hg0
    simp only [Lit.wf, Bool.and_eq_true, decide_eq_true_eq, hmin, hmax] at h
    exact h
  by_cases h : n_out x1 x2
  · exact out_walk x0 x1 x2 w (by unfold n_out at h; omega)
  · obtain ⟨X, rfl⟩ := Int.eq_ofNat_of_zero_le hx.1
    unfold n_out at h
    exact in_walk X x1 x2 w (by omega) (by omega) (by omega) (by omega) (by omega)
end Go.Proofs.Ytliiefkdgdflpaa.WWordTurns
