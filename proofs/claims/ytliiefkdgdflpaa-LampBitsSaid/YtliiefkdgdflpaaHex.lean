/-
  The reference's hexadecimals of a hash: 64 of them.
-/
import Derived.Test.YtliiefkdgdflpaaRows
import Derived.Test.YtliiefkdgdflpaaWWords
import Derived.Test.YtliiefkdgdflpaaLamp0
namespace Go.Proofs.Ytliiefkdgdflpaa.Lamp
open Go.RowKit Go.Proofs.YtliiefkdgdflpaaW.PrintWords Arr
set_option linter.unusedVariables false

theorem conv_one (W : World) (c : Int) : (convert 85 9 (.slice (some ⟨W.heap.size, 0, none⟩) 1 1)).run Try.prog (W.alloc (.cells #[.int .u8 c] 5)) = .ok (.string (strOfNums [c])) (W.alloc (.cells #[.int .u8 c] 5)) :=
  own_string (src := 85) (dst := 9) Try.underlying85 Try.underlying5 Try.underlying9 (own_lit W W.heap.size 5 .u8 [c] (Nat.le_refl _) (by simp))

theorem one_size (c : Int) : (strOfNums [c]).size = 1 := rfl

set_option maxRecDepth 100000 in
theorem hex_any (cs : Array Value) (f : Nat → Nat) (hcs : IsArr cs f) (w : World) :
    Calls Try.prog 18 #[.agg cs] w fun e w' => (∃ s : ByteArray, s.size = 64 ∧ e = .returned (.string s)) ∧ Below w.heap.size w w' := by
  have hcv := conv_one
  have hos := one_size
  have hblk0 := blk_new w (.cells cs 23 (0, 0))
  have hb0 : Below w.heap.size w (w.alloc (.cells cs 23)) := (Below.refl _ _).alloc (Nat.le_refl _) _
  go_enter Try.func18, Try.ntmps18
  go_wp2_with fail
  go_loopw [3, 4] (fun s i wr => ∃ (k : Nat) (str : ByteArray), k ≤ 32 ∧ i = .int .i64 k ∧ s = .string str ∧ Hid (str.size = 2 * k) ∧ wr.heap[w.heap.size]? = some (.cells cs 23 (0, 0)) ∧ Below w.heap.size w wr) (fun _ i _ => 32 - (intOf i).toNat)
  case atStart => exact ⟨0, _, by omega, rfl, rfl, (rfl : (0 : Nat) = 0), hblk0, hb0⟩
  case round =>
    obtain ⟨k, str, hk, rfl, rfl, hsz, hblk, hb⟩ := hrel
    by_cases hlt : k < 32
    · obtain ⟨wo, hwo⟩ : ∃ wo : World, wo = wr := ⟨_, rfl⟩
      have hle : 2 * k + 2 ≤ 64 := by omega
      go_wp2_with fail
      go_loopw [3, 5] (fun s i wr => ∃ (m : Nat) (str : ByteArray), m ≤ 2 ∧ i = .int .i64 m ∧ s = .string str ∧ Hid (str.size = 2 * k + m) ∧ wr.heap[w.heap.size]? = some (.cells cs 23 (0, 0)) ∧ Below w.heap.size w wr) (fun _ i _ => 2 - (intOf i).toNat)
      case atStart => exact ⟨0, str, by omega, rfl, rfl, hsz, hblk, hb⟩
      case round =>
        clear hblk hb hsz
        obtain ⟨m, str, hm, rfl, rfl, hsz, hblk, hb⟩ := hrel
        by_cases hlt2 : m < 2
        · have hc := blk_cell hblk k
          rw [hcs.2.2 k hlt] at hc
          have hf := hcs.2.1 k
          have hss : str.size ≤ 64 := by rw [hsz.out]; omega
          have hm01 : m = 0 ∨ m = 1 := by omega
          rcases hm01 with rfl | rfl
          · go_wp2_with fail
            all_goals
              go_roundw
              case rel =>
                refine ⟨1, _, by omega, rfl, rfl, ?_, (Below.heap_alloc _ _ _ (blk_lt hblk)).trans hblk, hb.alloc hb.size _⟩
                show ByteArray.size _ = _
                rw [ByteArray.size_append, hsz.out, one_size]
              case measure => simp [intOf]
          · go_wp2_with fail
            all_goals
              go_roundw
              case rel =>
                refine ⟨2, _, by omega, rfl, rfl, ?_, (Below.heap_alloc _ _ _ (blk_lt hblk)).trans hblk, hb.alloc hb.size _⟩
                show ByteArray.size _ = _
                rw [ByteArray.size_append, hsz.out, one_size]
              case measure => simp [intOf]
        · obtain rfl : m = 2 := by omega
          go_wp2_with fail
          go_roundw
          case rel => exact ⟨k + 1, str, by omega, by go_num, rfl, by have := hsz.out; show str.size = _; omega, hblk, hb⟩
          case measure => simp [intOf]; omega
    · obtain rfl : k = 32 := by omega
      go_wp2_with fail
      go_ret
      exact ⟨⟨str, hsz.out, rfl⟩, hb⟩
end Go.Proofs.Ytliiefkdgdflpaa.Lamp
