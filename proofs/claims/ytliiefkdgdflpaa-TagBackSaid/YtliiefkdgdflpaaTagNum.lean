/-
  tag.number: the number that a text's bytes are.
-/
import Derived.Test.YtliiefkdgdflpaaPTagBackx1
import Derived.Test.YtliiefkdgdflpaaTagBytes
import Derived.Laws.BitsLemmas
namespace Go.Proofs.Ytliiefkdgdflpaa.TagNum
open Go.RowKit Go.Proofs.YtliiefkdgdflpaaW.PrintWords Go.Proofs.YtliiefkdgdflpaaW.PrintMore TagBytes
set_option linter.unusedVariables false

theorem be_range : ∀ m n, ∀ x ∈ be m n, 0 ≤ x ∧ x < 256 := by
  intro m
  induction m with
  | zero => intro n x hx; cases hx
  | succ m ih =>
    intro n x hx
    simp only [be, List.mem_append, List.mem_singleton] at hx
    rcases hx with hx | rfl
    · exact ih _ x hx
    · omega

/-- the number of bytes, the high ones first -/
def num : List Int → Int → Int
  | [], a => a
  | x :: xs, a => num xs (a * 256 + x)
theorem num_snoc (xs : List Int) (x : Int) : ∀ a, num (xs ++ [x]) a = num xs a * 256 + x := by
  induction xs with
  | nil => intro a; rfl
  | cons y ys ih => intro a; exact ih _
theorem num_be : ∀ (m : Nat) (n : Int), 0 ≤ n → n < 256 ^ m → num (be m n) 0 = n := by
  intro m
  induction m with
  | zero => intro n h0 h1; simp at h1; simp [be, num]; omega
  | succ m ih =>
    intro n h0 h1
    rw [be, num_snoc, ih (n / 256) (by omega) (by rw [Int.pow_succ] at h1; omega)]
    omega
theorem num_bound : ∀ (n : Nat) (xs : List Int), xs.length = n → (∀ x ∈ xs, 0 ≤ x ∧ x < 256) → 0 ≤ num xs 0 ∧ num xs 0 < 256 ^ n := by
  intro n
  induction n with
  | zero =>
    intro xs hl _
    obtain rfl : xs = [] := List.length_eq_zero_iff.1 hl
    simp [num]
  | succ n ih =>
    intro xs hl h
    rcases List.eq_nil_or_concat xs with rfl | ⟨ys, y, rfl⟩
    · simp at hl
    · rw [List.concat_eq_append] at hl h ⊢
      have h1 := ih ys (by simp at hl; exact hl) (fun x hx => h x (List.mem_append_left _ hx))
      have h2 := h y (List.mem_append_right _ List.mem_cons_self)
      rw [num_snoc, Int.pow_succ]
      omega

theorem u64w (n : Int) : IntKind.u64.wrap n = n % 18446744073709551616 := by simp [IntKind.wrap, IntKind.bits, IntKind.signed]
theorem bytes_range (s : ByteArray) : ∀ x ∈ bytesOf s, 0 ≤ x ∧ x < 256 := by
  intro x hx
  unfold bytesOf at hx
  obtain ⟨b, _, rfl⟩ := List.mem_map.1 hx
  have := b.toNat_lt
  omega
theorem bytes_at (s : ByteArray) (k : Nat) (h : k < s.size) : (bytesOf s).take (k + 1) = (bytesOf s).take k ++ [bt s (k : Int)] := by
  have h1 : (bytesOf s)[k]? = some (bt s (k : Int)) := by
    rw [List.getElem?_eq_getElem (by rw [bytesOf_length]; exact h)]
    congr 1
    rw [← rd_bytesOf s (k : Int)]
    unfold rd
    simp only [Int.toNat_natCast]
    rw [List.getD_eq_getElem?_getD, List.getElem?_eq_getElem (by rw [bytesOf_length]; exact h)]
    rfl
  rw [List.take_add_one, h1]
  rfl
set_option maxRecDepth 100000 in
theorem number_l0 (s : ByteArray) (h8 : s.size ≤ 8) : ∀ (d k i : Nat), i + d = s.size → d < k → PTagBack.tag_number.l0 k s (num ((bytesOf s).take i) 0) (s.size : Int) (i : Int) = some (num (bytesOf s) 0) := by
  intro d
  induction d with
  | zero =>
    intro k i hi hk
    obtain ⟨k, rfl⟩ : ∃ j, k = j + 1 := ⟨k - 1, by omega⟩
    rw [PTagBack.tag_number.l0, if_neg (by omega), List.take_of_length_le (by rw [bytesOf_length]; omega)]
  | succ d ih =>
    intro k i hi hk
    obtain ⟨k, rfl⟩ : ∃ j, k = j + 1 := ⟨k - 1, by omega⟩
    have hb := num_bound i ((bytesOf s).take i) (by rw [List.length_take, bytesOf_length]; omega) (fun x hx => bytes_range s x (List.mem_of_mem_take hx))
    have hp : (256 : Int) ^ i ≤ 256 ^ 7 := by exact_mod_cast Nat.pow_le_pow_right (by decide) (by omega : i ≤ 7)
    have hb1 := bt_range s (i : Int)
    have hw : RowKit.wrap64 ((i : Int) + 1) = ((i + 1 : Nat) : Int) := by rw [wsm _ (by omega)]; rfl
    have h := ih k (i + 1) (by omega) (by omega)
    rw [bytes_at s i (by omega), num_snoc] at h
    obtain ⟨n, hn⟩ : ∃ n, n = num ((bytesOf s).take i) 0 := ⟨_, rfl⟩
    rw [← hn] at hb h ⊢
    have hn1 : n ≤ 72057594037927935 := by have := hb.2; omega
    have hn0 := hb.1
    rw [PTagBack.tag_number.l0, if_pos (by omega), if_pos (by omega), if_pos (by omega), hw, u64w, u64w, show n * 256 % 18446744073709551616 = n * 256 by omega, show bt s (i : Int) % 18446744073709551616 = bt s (i : Int) by omega,
      bits_join .u64 64 (by decide) (fun n h0 h1 => by rw [u64w]; omega) 8 _ _ (by omega) (by omega) (by omega) hb1.1 (by omega) (by omega)]
    exact h
theorem numberC (s : ByteArray) (h8 : s.size ≤ 8) (w : World) : Calls Try.prog 51 #[.string s] w fun e w' => e = .returned (.int .u64 (num (bytesOf s) 0)) ∧ Below w.heap.size w w' := by
  refine (PTagBack.tag_number.calls (s.size + 1) s (num (bytesOf s) 0) w ?_).mono fun e w' h => ⟨h.1, h.2.below⟩
  have h := number_l0 s h8 s.size (s.size + 1) 0 (by omega) (by omega)
  exact h
end Go.Proofs.Ytliiefkdgdflpaa.TagNum
