/-
  The functions of package word that need no SHA: contracts.
-/
import Derived.Test.YtliiefkdgdflpaaRows
import Derived.Test.YtliiefkdgdflpaaWWords
import Derived.WalkKit
import Derived.ProofKit
import Derived.Deep.RegionHeld3
import Derived.Deep.QuietTactic
import Derived.BigQuiet
import Derived.Below
import Derived.Outline
import Derived.Lib.Hide
import Derived.Laws.BitsAllLaws
import Derived.Deep.RegionWith
namespace Go.Proofs.Ytliiefkdgdflpaa.Word
open Go.RowKit Go.Proofs.YtliiefkdgdflpaaW.PrintWords
set_option linter.unusedVariables false

/-- a word's bytes -/
def w4 (x : Int) : List Int := [x / 16777216, x / 65536 % 256, x / 256 % 256, x % 256]
def wbs (xs : List Int) : List Int := xs.flatMap w4
theorem wbs_length (xs : List Int) : (wbs xs).length = 4 * xs.length := by
  induction xs with
  | nil => rfl
  | cons x xs ih => simp only [wbs, List.flatMap_cons, List.length_append, List.length_cons] at ih ⊢; rw [ih]; simp [w4]; omega
theorem wbs_snoc (xs : List Int) (k : Nat) (hk : k < xs.length) : wbs (xs.take (k + 1)) = wbs (xs.take k) ++ w4 xs[k] := by
  rw [List.take_succ_eq_append_getElem hk, wbs, List.flatMap_append]; simp [wbs]

theorem info5 : (Try.prog.info? 5).map (fun i => (i.zero, i.size, i.bytes)) = some (some (.int .u8 0), 1, 1) := by kernel_rfl

theorem reads_four (w : World) (t : TypeId) (a b c d : Int) : ReadsInt (w.alloc (.cells #[.int .u8 a, .int .u8 b, .int .u8 c, .int .u8 d] t)) .u8 (some ⟨w.heap.size, 0, none⟩) 4 [a, b, c, d] := by
  refine ⟨rfl, by omega, fun _ => ⟨_, rfl, fun j hj => ?_⟩⟩
  rw [add_plain, blk_cell (blk_new w _)]
  match j, hj with
  | 0, _ => rfl
  | 1, _ => rfl
  | 2, _ => rfl
  | 3, _ => rfl

set_option maxRecDepth 100000 in
theorem bytes_any (A : Option Addr) (n c : Nat) (xs : List Int) (w : World) (hr : ReadsInt w .u32 A n xs) (hx : ∀ x ∈ xs, 0 ≤ x ∧ x < 4294967296) (hn : n * 4 ≤ 140737488351232) :
    Calls Try.prog 26 #[.slice A n c] w fun e w' => e = .returned (.string (strOfNums (wbs xs))) ∧ Below w.heap.size w w' := by
  obtain ⟨i0, hi, hz0, hz1, hz2⟩ := info_parts info5
  have hmk : ∀ u : World, (Instr.makeSlice 85 (.int .i64 0) (.int .i64 (4 * (n : Int)))).run Try.prog u =
      .ok (.slice (some ⟨u.heap.size, 0, none⟩) 0 (4 * n)) (u.alloc (.cells (madeCells #[.int .u8 0] (4 * n)) 5)) := fun u => by
    have h := run_make (P := Try.prog) u 85 5 i0 (.int .u8 0) Try.underlying85 hi hz0 .i64 .i64 0 (4 * (n : Int)) (by omega) (by omega) (by rw [hz2]; omega) (by omega)
    have e : (4 * (n : Int)).toNat = 4 * n := by omega
    rw [e] at h
    simpa [hz1, Value.cells] using h
  have hl : xs.length = n := hr.1
  have hrow : ∀ wr : World, Below w.heap.size w wr → ReadsInt wr .u32 A n xs := fun wr hb => hr.below hb
  have HR := Lib.hid hrow
  clear hrow
  go_enter Try.func26, Try.ntmps26
  go_wp2_with fail
  go_loopw [3, 5, 12] (fun v _ i wr => ∃ k : Nat, k ≤ n ∧ i = .int .i64 k ∧ wr.ownsRow w.heap.size 5 1 v (wbs (xs.take k)).length (nums .u8 (wbs (xs.take k))) ∧ Below w.heap.size w wr) (fun _ _ i _ => n - (intOf i).toNat)
  case atStart =>
    refine ⟨0, Nat.zero_le _, rfl, ?_, (Below.refl _ _).alloc (Nat.le_refl _) _⟩
    have h := own_take (own_made w w.heap.size 5 .u8 (4 * n) (Nat.le_refl _) (by omega)) (m := 0) (by omega)
    simpa [wbs, nums] using h
  case round =>
    obtain ⟨k, hk, rfl, hown, hb⟩ := hrel
    have hsz := hb.size
    by_cases hlt : k < n
    · have hk' : k < xs.length := by omega
      have hxk := hx _ (List.getElem_mem hk')
      obtain ⟨ad, rfl, hc⟩ := (HR.out _ hb).at_ k (by omega) (by omega)
      have hrd : rd xs (k : Int) = xs[k] := by simp [rd, List.getD_eq_getElem?_getD, List.getElem?_eq_getElem hk']
      rw [hrd] at hc
      simp only [Int.toNat_natCast] at hc
      generalize hX : xs[k] = X at hxk hc
      have HX := Lib.hid hX
      clear hX hrd
      have hrn : ReadsInt (wr.alloc (.cells #[.int .u8 (X / 16777216), .int .u8 (X / 65536 % 256), .int .u8 (X / 256 % 256), .int .u8 (X % 256)] 5)) .u8 (some ⟨wr.heap.size, 0, none⟩) 4 (w4 X) := by
        exact reads_four wr 5 (X / 16777216) (X / 65536 % 256) (X / 256 % 256) (X % 256)
      go_wp2_with ((with_reducible refine gate_dst (N := 29) rfl ?_); at_builtin; refine print_append_row (w0 := w) w.heap.size rfl (.tmp 16) (.tmp 28) 85 5 .u8 1 rfl Try.underlying85 info5 (by omega) u3 (wbs (xs.take k)) (w4 X) (some ⟨wr.heap.size, 0, none⟩) 4 4 rfl rfl (hown.alloc _) hrn (hb.alloc hsz _) (by simp; omega) (by rw [wbs_length, List.length_take]; omega) ?_; intro v1 w1 hown1 hb1 hg1 hat1)
      go_roundw
      case rel =>
        refine ⟨k + 1, by omega, by go_num, ?_, hb1⟩
        rw [wbs_snoc xs k hk', HX.out]
        exact hown1
      case measure => simp [intOf]; omega
    · obtain rfl : k = n := by omega
      rw [List.take_of_length_le (by omega)] at hown
      have hconv := own_string (src := 85) (dst := 9) Try.underlying85 Try.underlying5 Try.underlying9 hown
      go_wp2_with fail
      go_ret
      exact ⟨rfl, hb⟩

theorem reads_two (w : World) (t : TypeId) (a b : Int) : ReadsInt (w.alloc (.cells #[.int .u32 a, .int .u32 b] t)) .u32 (some ⟨w.heap.size, 0, none⟩) 2 [a, b] := by
  refine ⟨rfl, by omega, fun _ => ⟨_, rfl, fun j hj => ?_⟩⟩
  rw [add_plain, blk_cell (blk_new w _)]
  match j, hj with
  | 0, _ => rfl
  | 1, _ => rfl

/-- what fills up no message: its first part -/
def pad0 : List Int := (List.replicate 56 0).set 0 128

set_option maxRecDepth 100000 in
theorem pad_zero (w : World) : Calls Try.prog 42 #[.int .u64 0] w fun e w' => e = .returned (.string (strOfNums pad0 ++ strOfNums (wbs [0, 0]))) ∧ Below w.heap.size w w' := by
  obtain ⟨i0, hi, hz0, hz1, hz2⟩ := info_parts info5
  have hmk : (Instr.makeSlice 85 (.int .u64 56) (.int .u64 64)).run Try.prog w =
      .ok (.slice (some ⟨w.heap.size, 0, none⟩) 56 64) (w.alloc (.cells (madeCells #[.int .u8 0] 64) 5)) := by
    have h := run_make (P := Try.prog) w 85 5 i0 (.int .u8 0) Try.underlying85 hi hz0 .u64 .u64 56 64 (by omega) (by omega) (by rw [hz2]; omega) (by omega)
    simpa [hz1, Value.cells] using h
  have ho0 := own_take (own_made w w.heap.size 5 .u8 64 (Nat.le_refl _) (by omega)) (m := 56) (by omega)
  have hb0 : Below w.heap.size w (w.alloc (.cells (madeCells #[.int .u8 0] 64) 5)) := (Below.refl _ _).alloc (Nat.le_refl _) _
  generalize w.alloc (.cells (madeCells #[.int .u8 0] 64) 5) = w1 at hmk ho0 hb0
  have ho1 : w1.ownsRow w.heap.size 5 1 (.slice (some ⟨w.heap.size, 0, none⟩) 56 64) 56 (nums .u8 (List.replicate 56 0)) := by simpa [nums] using ho0
  clear ho0
  obtain ⟨hc, hf⟩ := own_at ho1 0 (by omega) (by omega)
  obtain ⟨ho2, hg2⟩ := own_store ho1 0 128
  simp only [Int.toNat_zero] at hc hf ho2 hg2
  go_enter Try.func42, Try.ntmps42
  go_wp2_with fail
  have hb2 : Below w.heap.size w (w1.setCell ⟨w.heap.size, 0, none⟩ (.int .u8 128)) := hb0.setCell (Nat.le_refl _) _
  generalize w1.setCell ⟨w.heap.size, 0, none⟩ (.int .u8 128) = w2 at ho2 hg2 hb2 ⊢
  clear hmk hb0 ho1 hc hf hg2
  have hs2 := hb2.size
  have hcv : ∀ w', Below w2.heap.size w2 w' → (convert 85 9 (.slice (some ⟨w.heap.size, 0, none⟩) 56 64)).run Try.prog w' = .ok (.string (strOfNums pad0)) w' := fun w' hb =>
    own_string (src := 85) (dst := 9) Try.underlying85 Try.underlying5 Try.underlying9 (pw_own_below ho2 hb)
  have HC := Lib.hid hcv
  have hc0 := hcv w2 (Below.refl _ _)
  have hc1 := hcv (w2.drew) ((Below.refl _ _).drew)
  have hc3 := fun o => hcv (w2.alloc o).drew (((Below.refl _ _).alloc (Nat.le_refl _) _).drew)
  clear hcv
  have e1 : IntKind.u32.wrap 0 = 0 := by decide
  have e2 : IntKind.u64.wrap 0 = 0 := by decide
  go_region_with (first
    | (go_at_call 26; refine (bytes_any _ _ _ [0, 0] _ (by exact reads_two w2 28 0 0) (by decide) (by omega)).mono ?_; rintro e w' ⟨rfl, hb'⟩; have hb3 : Below w2.heap.size w2 w' := (((Below.refl _ w2).alloc (Nat.le_refl _) _).drew).trans (hb'.mono (by simp)); have hc2 := HC.out _ hb3; clear hb'))
  all_goals go_wp2_with fail
  all_goals go_ret
  all_goals exact ⟨rfl, hb2.trans (hb3.mono hs2)⟩

theorem pad_string : (strOfNums pad0 ++ strOfNums (wbs [0, 0])).size = 64 := by decide +kernel

/-- a word turned -/
theorem turn_shown : True := trivial
end Go.Proofs.Ytliiefkdgdflpaa.Word
