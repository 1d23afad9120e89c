/-
  A number's bytes, the high ones first, and the number of bytes, in plain Lean.
-/
import Derived.Test.YtliiefkdgdflpaaPBriefBackx2
import Derived.Test.YtliiefkdgdflpaaWWordApart
import Derived.Test.YtliiefkdgdflpaaBriefLaw
namespace Go.Proofs.Ytliiefkdgdflpaa.BriefBytes
open Go.RowKit Go.Proofs.YtliiefkdgdflpaaW.PrintWords Go.Proofs.YtliiefkdgdflpaaW.PrintMore PBriefBack
set_option linter.unusedVariables false

def be : Nat → Int → List Int
  | 0, _ => []
  | m + 1, n => be m (n / 256) ++ [n % 256]
theorem be_length : ∀ m n, (be m n).length = m := by
  intro m
  induction m with
  | zero => intro n; rfl
  | succ m ih => intro n; simp [be, ih]
theorem be_range : ∀ m n, ∀ x ∈ be m n, 0 ≤ x ∧ x < 256 := by
  intro m
  induction m with
  | zero => intro n x hx; cases hx
  | succ m ih =>
    intro n x hx
    simp only [be, List.mem_append, List.mem_singleton] at hx
    rcases hx with hx | rfl
    · exact ih _ x hx
    · omega

theorem w7 : RowKit.wrap64 (8 - 1) = 7 := by decide +kernel
theorem w3 : RowKit.wrap64 (4 - 1) = 3 := by decide +kernel
theorem w0 : RowKit.wrap64 (1 - 1) = 0 := by decide +kernel
theorem ws (i : Int) (h : 0 ≤ i ∧ i ≤ 7) : RowKit.wrap64 (i - 1) = i - 1 ∧ RowKit.wrap64 (8 * i) = 8 * i := by
  have e : i = 0 ∨ i = 1 ∨ i = 2 ∨ i = 3 ∨ i = 4 ∨ i = 5 ∨ i = 6 ∨ i = 7 := by omega
  rcases e with rfl | rfl | rfl | rfl | rfl | rfl | rfl | rfl <;> decide +kernel

theorem shr_of (n : Int) (c : Nat) (hc : c ≤ 64) : shr .u64 n (c : Int) = n / 2 ^ c := by
  unfold shr
  have : min (c : Int).toNat IntKind.u64.bits = c := by
    have : IntKind.u64.bits = 64 := rfl
    omega
  rw [this]

/-- the bytes of n from the i-th on downward -/
def down (n : Int) : Nat → List Int
  | 0 => []
  | i + 1 => (n / 2 ^ (8 * i)) % 256 :: down n i

theorem down_be : ∀ (m : Nat) (n : Int), down n m = be m n := by
  intro m
  induction m with
  | zero => intro n; rfl
  | succ m ih =>
    intro n
    have key : ∀ (m : Nat) (n : Int), down n (m + 1) = down (n / 256) m ++ [n % 256] := by
      intro m
      induction m with
      | zero => intro n; simp [down]
      | succ m ihm =>
        intro n
        rw [show down n (m + 1 + 1) = (n / 2 ^ (8 * (m + 1))) % 256 :: down n (m + 1) from rfl, ihm n]
        show _ = ((n / 256) / 2 ^ (8 * m)) % 256 :: down (n / 256) m ++ [n % 256]
        congr 2
        rw [Int.ediv_ediv_of_nonneg (by decide : (0 : Int) ≤ 256)]
        congr 1
        rw [show 8 * (m + 1) = 8 + 8 * m by omega, Int.pow_add]
        rfl
    rw [key, ih]
    rfl

theorem bytes_l0 (n : Int) : ∀ (i : Nat), i ≤ 8 → ∀ (k : Nat) (xs : List Int), i < k → xs.length + i ≤ 8 → brief_bytes.l0 k n xs ((i : Int) - 1) = some (strOfNums (xs ++ down n i)) := by
  intro i
  induction i with
  | zero =>
    intro _ k xs hk hl
    obtain ⟨k, rfl⟩ : ∃ j, k = j + 1 := ⟨k - 1, by omega⟩
    rw [brief_bytes.l0, if_neg (by omega)]
    simp [down]
  | succ i ih =>
    intro hi k xs hk hl
    obtain ⟨k, rfl⟩ : ∃ j, k = j + 1 := ⟨k - 1, by omega⟩
    have e : ((i + 1 : Nat) : Int) - 1 = (i : Int) := by omega
    have hw := ws (i : Int) (by omega)
    rw [e, brief_bytes.l0, if_pos (by omega), hw.2, if_pos (by omega), if_pos (by omega), hw.1]
    have hs : shr .u64 n (8 * (i : Int)) = n / 2 ^ (8 * i) := by
      have := shr_of n (8 * i) (by omega)
      rw [← this]; congr 1
    rw [hs, ih (by omega) k (xs ++ [(n / 2 ^ (8 * i)) % 256]) (by omega) (by rw [List.length_append]; simp; omega)]
    simp [down]

theorem bytesC (n m : Int) (k : Nat) (hm : m = k) (hk : 1 ≤ k) (h8 : k ≤ 8) (w : World) :
    Calls Try.prog 49 #[.int .u64 n, .int .i64 m] w fun e w' => e = .returned (.string (strOfNums (be k n))) ∧ Below w.heap.size w w' := by
  subst hm
  refine brief_bytes.calls 9 n k _ w ?_
  have hw : RowKit.wrap64 ((k : Int) - 1) = (k : Int) - 1 := by
    have e : k = 1 ∨ k = 2 ∨ k = 3 ∨ k = 4 ∨ k = 5 ∨ k = 6 ∨ k = 7 ∨ k = 8 := by omega
    rcases e with rfl | rfl | rfl | rfl | rfl | rfl | rfl | rfl <;> decide +kernel
  unfold brief_bytes.f
  have h9 := bytes_l0 n k h8 9 [] (Nat.lt_succ_of_le h8) (by simpa using h8)
  rw [hw, h9, down_be]
  rfl

/-- the number of bytes, the high ones first -/
def num : List Int → Int → Int
  | [], a => a
  | x :: xs, a => num xs (a * 256 + x)
theorem num_snoc (xs : List Int) (x : Int) : ∀ a, num (xs ++ [x]) a = num xs a * 256 + x := by
  induction xs with
  | nil => intro a; rfl
  | cons y ys ih => intro a; exact ih _
theorem num_be : ∀ (m : Nat) (n : Int), 0 ≤ n → n < 256 ^ m → num (be m n) 0 = n := by
  intro m
  induction m with
  | zero => intro n h0 h1; simp at h1; simp [be, num]; omega
  | succ m ih =>
    intro n h0 h1
    rw [be, num_snoc, ih (n / 256) (by omega) (by rw [Int.pow_succ] at h1; omega)]
    omega
theorem num_bound : ∀ (n : Nat) (xs : List Int), xs.length = n → (∀ x ∈ xs, 0 ≤ x ∧ x < 256) → 0 ≤ num xs 0 ∧ num xs 0 < 256 ^ n := by
  intro n
  induction n with
  | zero =>
    intro xs hl _
    obtain rfl : xs = [] := List.length_eq_zero_iff.1 hl
    simp [num]
  | succ n ih =>
    intro xs hl h
    rcases List.eq_nil_or_concat xs with rfl | ⟨ys, y, rfl⟩
    · simp at hl
    · rw [List.concat_eq_append] at hl h ⊢
      have h1 := ih ys (by simp at hl; exact hl) (fun x hx => h x (List.mem_append_left _ hx))
      have h2 := h y (List.mem_append_right _ List.mem_cons_self)
      rw [num_snoc, Int.pow_succ]
      omega
end Go.Proofs.Ytliiefkdgdflpaa.BriefBytes
