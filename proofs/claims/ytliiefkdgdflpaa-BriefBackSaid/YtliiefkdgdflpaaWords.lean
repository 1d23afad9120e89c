/-
  word.Words: a block's words. The contract.
-/
import Derived.Test.YtliiefkdgdflpaaWord
import Derived.StillTailTactics
namespace Go.Proofs.Ytliiefkdgdflpaa.Word
open Go.RowKit Go.Proofs.YtliiefkdgdflpaaW.PrintWords
set_option linter.unusedVariables false

set_option maxRecDepth 100000 in
theorem words_other (s : ByteArray) (w : World) (h : ¬ s.size = 64) (hs : s.size ≤ 9223372036854775807) :
    Calls Try.prog 30 #[.string s] w fun e w' => e = .returned (.tuple #[.slice none 0 0, .int .i64 1]) ∧ Below w.heap.size w w' := by
  have h' : ((s.size : Int) == 64) = false := by simp; omega
  have h'' : ((s.size : Int) != 64) = true := by simp; omega
  go_enter Try.func30, Try.ntmps30
  go_wp2
  go_ret2
  exact ⟨rfl, Below.refl _ _⟩

/-- the first n bytes of the j-th word -/
def part (s : ByteArray) (j : Nat) : Nat → Int
  | 0 => 0
  | n + 1 => part s j n * 256 + bt s ((4 * j + n : Nat) : Int)
/-- the j-th word behind k rounds -/
def cellv (s : ByteArray) (k j : Nat) : Int := part s j (min 4 (k - 4 * j))
/-- a block's words -/
def ws (s : ByteArray) : List Int := (List.range 16).map fun j => part s j 4

theorem part_bd (s : ByteArray) (j : Nat) : 0 ≤ part s j 0 ∧ part s j 0 < 1 ∧ 0 ≤ part s j 1 ∧ part s j 1 < 256 ∧ 0 ≤ part s j 2 ∧ part s j 2 < 65536 ∧ 0 ≤ part s j 3 ∧ part s j 3 < 16777216 ∧ 0 ≤ part s j 4 ∧ part s j 4 < 4294967296 := by
  have h0 := bt_range s ((4 * j + 0 : Nat) : Int)
  have h1 := bt_range s ((4 * j + 1 : Nat) : Int)
  have h2 := bt_range s ((4 * j + 2 : Nat) : Int)
  have h3 := bt_range s ((4 * j + 3 : Nat) : Int)
  simp only [part]
  omega

theorem cellv_bd (s : ByteArray) (k : Nat) : 0 ≤ cellv s k (k / 4) ∧ cellv s k (k / 4) < 16777216 := by
  have h := part_bd s (k / 4)
  unfold cellv
  have e : min 4 (k - 4 * (k / 4)) = 0 ∨ min 4 (k - 4 * (k / 4)) = 1 ∨ min 4 (k - 4 * (k / 4)) = 2 ∨ min 4 (k - 4 * (k / 4)) = 3 := by omega
  rcases e with e | e | e | e <;> rw [e] <;> omega

theorem cellv_step (s : ByteArray) (k : Nat) : cellv s (k + 1) (k / 4) = cellv s k (k / 4) * 256 + bt s (k : Int) := by
  unfold cellv
  have e : min 4 (k + 1 - 4 * (k / 4)) = min 4 (k - 4 * (k / 4)) + 1 := by omega
  have e2 : 4 * (k / 4) + min 4 (k - 4 * (k / 4)) = k := by omega
  rw [e, part, e2]

theorem cellv_other (s : ByteArray) (k j : Nat) (h : j ≠ k / 4) : cellv s (k + 1) j = cellv s k j := by
  unfold cellv
  have e : min 4 (k + 1 - 4 * j) = min 4 (k - 4 * j) := by omega
  rw [e]

set_option maxRecDepth 100000 in
theorem words_64 (s : ByteArray) (w : World) (h : s.size = 64) :
    Calls Try.prog 30 #[.string s] w fun e w' => e = .returned (.tuple #[.slice (some ⟨w.heap.size, 0, none⟩) 16 16, .int .i64 0]) ∧ ReadsInt w' .u32 (some ⟨w.heap.size, 0, none⟩) 16 (ws s) ∧ Below w.heap.size w w' := by
  have h' : ((s.size : Int) == 64) = true := by simp; omega
  have h'' : ((s.size : Int) != 64) = false := by simp; omega
  have hs : s.size ≤ 9223372036854775807 := by omega
  have hs1 : s.size ≤ 64 := by omega
  have hs2 : 64 ≤ s.size := by omega
  clear h
  go_enter Try.func30, Try.ntmps30
  go_wp2_with fail
  go_loopw [5, 11] (fun _ i wr => ∃ k : Nat, k ≤ 64 ∧ i = .int .i64 k ∧ (∀ j, j < 16 → wr.cell? ⟨w.heap.size, j, none⟩ = some (.int .u32 (cellv s k j)) ∧ wr.frozen? ⟨w.heap.size, j, none⟩ = false) ∧ Below w.heap.size w wr) (fun _ i _ => 64 - (intOf i).toNat)
  case atStart =>
    refine ⟨0, by omega, rfl, fun j hj => ?_, (Below.refl _ _).alloc (Nat.le_refl _) _⟩
    have hc0 : cellv s 0 j = 0 := by simp [cellv, part]
    rw [hc0, blk_cell (blk_new w _), blk_frozen (blk_new w _)]
    refine ⟨?_, rfl⟩
    have hd : j = 0 ∨ j = 1 ∨ j = 2 ∨ j = 3 ∨ j = 4 ∨ j = 5 ∨ j = 6 ∨ j = 7 ∨ j = 8 ∨ j = 9 ∨ j = 10 ∨ j = 11 ∨ j = 12 ∨ j = 13 ∨ j = 14 ∨ j = 15 := by omega
    rcases hd with rfl | rfl | rfl | rfl | rfl | rfl | rfl | rfl | rfl | rfl | rfl | rfl | rfl | rfl | rfl | rfl <;> rfl
  case round =>
    obtain ⟨k, hk, rfl, hcs, hb⟩ := hrel
    by_cases hlt : k < 64
    · obtain ⟨hc, hf⟩ := hcs (k / 4) (by omega)
      have hbd := cellv_bd s k
      have HCS := Lib.hid hcs
      clear hcs
      have hi0 : (0 : Int) ≤ (k : Int) := by omega
      have hi1 : (k : Int) < (s.size : Int) := by omega
      have hj0 : (0 : Int) ≤ (k : Int) / 4 := by omega
      have hj1 : (k : Int) / 4 < 16 := by omega
      go_wp2_with fail
      go_region
      have hv : Go.bits BinOp.or IntKind.u32 (cellv s k (k / 4) * 256) ((s[k].toNat : Int) % 4294967296) = cellv s (k + 1) (k / 4) := by
        rw [cellv_step]
        have hb1 := bt_range s (k : Int)
        have hb2 : ((s[k].toNat : Nat) : Int) = bt s (k : Int) := bt_at s (k : Int) (by omega)
        rw [hb2, show bt s (k : Int) % 4294967296 = bt s (k : Int) by omega]
        exact bits_join .u32 32 (by decide) (fun n h0 h1 => by rw [IntKind.wrap_u32]; omega) 8 _ _ (by omega) (by omega) (by omega) hb1.1 (by omega) (by omega)
      rw [hv]
      go_wp2_with fail
      go_roundw
      case rel =>
        refine ⟨k + 1, by omega, by go_num, fun j hj => ?_, ?_⟩
        · obtain ⟨hcj, hfj⟩ := HCS.out j hj
          by_cases e : j = k / 4
          · subst e
            exact ⟨World.cell?_setCell_same' _ _ _ (by rw [hc]; rfl), by show (wr.setCell _ _).frozen? _ = false; rw [World.frozen?_setCell]; exact hf⟩
          · refine ⟨?_, by show (wr.setCell _ _).frozen? _ = false; rw [World.frozen?_setCell]; exact hfj⟩
            rw [cellv_other s k j e, ← hcj]
            exact World.cell?_setCell_other _ _ _ _ (fun h => e (by injection h with _ h2; exact h2.symm))
        · exact (hb.setCell (p := ⟨w.heap.size, k / 4, none⟩) (Nat.le_refl _) _).drew
      case measure => simp [intOf]; omega
    · obtain rfl : k = 64 := by omega
      go_wp2_with fail
      go_ret2
      refine ⟨rfl, ⟨by simp [ws], by omega, fun _ => ⟨_, rfl, fun j hj => ?_⟩⟩, hb⟩
      have h := (hcs j hj).1
      have e : cellv s 64 j = (ws s).getD j 0 := by
        unfold cellv ws
        rw [List.getD_eq_getElem?_getD, List.getElem?_map, List.getElem?_range hj]
        have e2 : min 4 (64 - 4 * j) = 4 := by omega
        rw [e2]; rfl
      rw [e] at h
      rw [add_plain]
      exact h

/-- a block's words have its bytes -/
theorem ws_bytes (s : ByteArray) (h : s.size = 64) : wbs (ws s) = bytesOf s := by
  have h1 : wbs (ws s) = (List.range 16).flatMap fun j => [bt s ((4 * j + 0 : Nat) : Int), bt s ((4 * j + 1 : Nat) : Int), bt s ((4 * j + 2 : Nat) : Int), bt s ((4 * j + 3 : Nat) : Int)] := by
    unfold wbs ws
    rw [List.flatMap_map]
    congr 1
    funext j
    have h0 := bt_range s ((4 * j + 0 : Nat) : Int)
    have h1 := bt_range s ((4 * j + 1 : Nat) : Int)
    have h2 := bt_range s ((4 * j + 2 : Nat) : Int)
    have h3 := bt_range s ((4 * j + 3 : Nat) : Int)
    simp only [part, w4]
    generalize bt s ((4 * j + 0 : Nat) : Int) = a at *
    generalize bt s ((4 * j + 1 : Nat) : Int) = b at *
    generalize bt s ((4 * j + 2 : Nat) : Int) = c at *
    generalize bt s ((4 * j + 3 : Nat) : Int) = d at *
    simp only [List.cons.injEq, and_true]
    omega
  have h2 : (List.range 16).flatMap (fun j => [bt s ((4 * j + 0 : Nat) : Int), bt s ((4 * j + 1 : Nat) : Int), bt s ((4 * j + 2 : Nat) : Int), bt s ((4 * j + 3 : Nat) : Int)]) = (List.range 64).map fun i => bt s ((i : Nat) : Int) := rfl
  rw [h1, h2]
  apply List.ext_getElem
  · rw [bytesOf_length]; simp [h]
  · intro i hi1 hi2
    have hi : i < s.size := by rw [bytesOf_length] at hi2; exact hi2
    rw [List.getElem_map, List.getElem_range]
    have := rd_bytesOf s (i : Int)
    rw [← this]
    simp [rd, List.getD_eq_getElem?_getD, List.getElem?_eq_getElem hi2]
theorem ws_range (s : ByteArray) : ∀ x ∈ ws s, 0 ≤ x ∧ x < 4294967296 := by
  intro x hx
  obtain ⟨j, _, rfl⟩ := List.mem_map.1 hx
  have := part_bd s j
  omega
end Go.Proofs.Ytliiefkdgdflpaa.Word
