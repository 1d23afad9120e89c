/-
  brief.Parse's closure: the number that some of a text's bytes are.
-/
import Derived.Test.YtliiefkdgdflpaaBriefBytes
import Derived.Test.YtliiefkdgdflpaaWLast
import Derived.Test.YtliiefkdgdflpaaWord
import Derived.Laws.BitsLemmas
import Derived.Outline
import Derived.Lib.Hide
import Derived.Deep.LoopGhost
namespace Go.Proofs.Ytliiefkdgdflpaa.BriefNum
open Go.RowKit Go.Proofs.YtliiefkdgdflpaaW.PrintWords Go.Proofs.YtliiefkdgdflpaaW.PrintLast BriefBytes
set_option linter.unusedVariables false
set_option linter.unusedSimpArgs false

/-- the bytes of s from a on, m of them -/
def part (s : ByteArray) (a m : Nat) : List Int := ((bytesOf s).drop a).take m
theorem part_succ (s : ByteArray) (a m : Nat) (h : a + m < s.size) : part s a (m + 1) = part s a m ++ [bt s ((a + m : Nat) : Int)] := by
  unfold part
  have h1 : ((bytesOf s).drop a)[m]? = some (bt s ((a + m : Nat) : Int)) := by
    rw [List.getElem?_drop, List.getElem?_eq_getElem (by rw [bytesOf_length]; exact h)]
    congr 1
    have h2 := rd_bytesOf s ((a + m : Nat) : Int)
    rw [← h2]
    unfold rd
    simp only [Int.toNat_natCast]
    rw [List.getD_eq_getElem?_getD, List.getElem?_eq_getElem (by rw [bytesOf_length]; exact h)]
    rfl
  rw [List.take_add_one, h1]
  rfl
theorem part_length (s : ByteArray) (a m : Nat) (h : a + m ≤ s.size) : (part s a m).length = m := by
  unfold part
  rw [List.length_take, List.length_drop, bytesOf_length]
  omega
theorem part_range (s : ByteArray) (a m : Nat) : ∀ x ∈ part s a m, 0 ≤ x ∧ x < 256 := by
  intro x hx
  have hx := List.mem_of_mem_drop (List.mem_of_mem_take hx)
  unfold bytesOf at hx
  obtain ⟨b, _, rfl⟩ := List.mem_map.1 hx
  have := b.toNat_lt
  omega

set_option maxRecDepth 100000 in
set_option maxHeartbeats 2000000 in
theorem numC (s : ByteArray) (g a c : Nat) (hac : a ≤ c) (hc : c ≤ s.size) (h8 : c - a ≤ 8) (hs : s.size ≤ 9223372036854775807) (w : World) (hbox : w.cell? ⟨g, 0, none⟩ = some (.string s)) :
    Calls Try.prog 50 #[.int .i64 a, .int .i64 c, .pointer (some ⟨g, 0, none⟩)] w fun e w' => e = .returned (.int .u64 (num (part s a (c - a)) 0)) ∧ Below w.heap.size w w' := by
  go_enter Try.func50, Try.ntmps50
  go_wp2_with fail
  go_loopw [7, 6] (fun i v wr => ∃ k : Nat, a ≤ k ∧ k ≤ c ∧ i = .int .i64 k ∧ v = .int .u64 (num (part s a (k - a)) 0) ∧ wr = w) (fun i _ _ => c - (intOf i).toNat)
  case atStart => exact ⟨a, Nat.le_refl _, hac, rfl, by rw [Nat.sub_self]; rfl, rfl⟩
  case round =>
    obtain ⟨k, hak, hkc, rfl, rfl, rfl⟩ := hrel
    by_cases hlt : k < c
    · have hb := num_bound (k - a) (part s a (k - a)) (part_length s a (k - a) (by omega)) (part_range s a (k - a))
      have hstep : num (part s a (k + 1 - a)) 0 = num (part s a (k - a)) 0 * 256 + bt s (k : Int) := by
        rw [show k + 1 - a = (k - a) + 1 by omega, part_succ s a (k - a) (by omega), num_snoc, show a + (k - a) = k by omega]
      have hp : (256 : Int) ^ (k - a) ≤ 256 ^ 7 := by exact_mod_cast Nat.pow_le_pow_right (by decide) (by omega : k - a ≤ 7)
      obtain ⟨n, hn⟩ : ∃ n, n = num (part s a (k - a)) 0 := ⟨_, rfl⟩
      rw [← hn] at hb hstep ⊢
      have hn0 : 0 ≤ n := hb.1
      have hn1 : n ≤ 72057594037927935 := by have := hb.2; omega
      replace hstep := Lib.hid hstep
      clear hb hp hn
      have hi0 : (0 : Int) ≤ (k : Int) := by omega
      have hi1 : (k : Int) < (s.size : Int) := by omega
      have hks : k < s.size := by omega
      go_wp2_with fail
      have hv : Go.bits BinOp.or IntKind.u64 (n * 256) (IntKind.u64.wrap ((s[k].toNat : Nat) : Int)) = num (part s a (k + 1 - a)) 0 := by
        rw [hstep.out]
        have hb1 := bt_range s (k : Int)
        have hb2 : ((s[k].toNat : Nat) : Int) = bt s (k : Int) := bt_at s (k : Int) (by omega)
        rw [hb2, BriefLaw.wrap64, show bt s (k : Int) % 18446744073709551616 = bt s (k : Int) by omega]
        exact bits_join .u64 64 (by decide) (fun n h0 h1 => by rw [BriefLaw.wrap64]; omega) 8 _ _ (by omega) (by omega) (by omega) hb1.1 (by omega) (by omega)
      rw [hv]
      go_roundw
      case rel => exact ⟨k + 1, by omega, by omega, by go_num, rfl, trivial⟩
      case measure => simp [intOf]; omega
    · obtain rfl : k = c := by omega
      go_wp2_with fail
      go_ret
      exact ⟨rfl, Below.refl _ _⟩
end Go.Proofs.Ytliiefkdgdflpaa.BriefNum
