import Derived.Test.YtliiefkdgdflpaaRows
import Derived.WalkKit
import Derived.ProofKit
import Derived.OpenShut
import Derived.Deep.RegionHeld3
import Derived.Deep.QuietTactic
import Derived.BigQuiet
import Derived.Below
import Derived.Outline
import Derived.Lib.Hide
import Derived.Deep.LoopGhost
import Derived.Deep.DeepFit
import Derived.Laws.BitsAllLaws
import Derived.Test.YtliiefkdgdflpaaArr
import Derived.Test.YtliiefkdgdflpaaWGuard
namespace Go.Proofs.Ytliiefkdgdflpaa.Lamp
open Go.RowKit Go.Proofs.YtliiefkdgdflpaaW.PrintWords Arr
set_option linter.unusedVariables false

/-- an array of 32 bytes, as a value's cells -/
def IsArr (cs : Array Value) (f : Nat → Nat) : Prop := cs.size = 32 ∧ (∀ k, f k < 256) ∧ ∀ k, k < 32 → cs[k]? = some (.int .u8 (f k : Nat))

/-- the n-th bit -/
def bitOf (f : Nat → Nat) (n : Nat) : Nat := f (n / 8) / 2 ^ (7 - n % 8) % 2

theorem bitOf_lt (f : Nat → Nat) (n : Nat) : bitOf f n < 2 := Nat.mod_lt _ (by decide)

set_option maxRecDepth 100000 in
theorem bit_out (cs : Array Value) (i : Int) (w : World) (h : i < 0 ∨ 256 ≤ i) :
    Calls Try.prog 17 #[.agg cs, .int .i64 i] w fun e w' => e = .returned (.int .i64 0) ∧ Below w.heap.size w w' := by
  rcases h with h | h
  all_goals
    go_enter Try.func17, Try.ntmps17
    go_wp2
    go_ret
    exact ⟨rfl, by repeat (first | exact Below.refl _ _ | apply Below.drew | refine Below.alloc ?_ (Nat.le_refl _) _)⟩

theorem cell_new_at (w : World) (cs : Array Value) (t k : Nat) : (w.alloc (.cells cs t)).cell? ⟨w.heap.size, k, none⟩ = cs[k]? := by
  simp only [World.cell?, World.alloc, Array.getElem?_push, if_true]
  rfl

theorem bit_val (x k : Nat) (hx : x < 256) : wrap64 (bits .and .u8 ((x : Int) / 2 ^ k) 1) = ((x / 2 ^ k % 2 : Nat) : Int) := by
  have h1 : ((x : Int) / 2 ^ k) = ((x / 2 ^ k : Nat) : Int) := by push_cast; rfl
  have h2 : x / 2 ^ k ≤ x := Nat.div_le_self _ _
  have h3 := Nat.mod_lt (x / 2 ^ k) (show 0 < 2 by decide)
  rw [h1, show (1 : Int) = ((1 : Nat) : Int) from rfl, u8_and_nat _ _ (by omega) (by decide), Nat.and_one_is_mod]
  unfold wrap64; omega

set_option maxRecDepth 100000 in
theorem bit_mid (cs : Array Value) (f : Nat → Nat) (hcs : IsArr cs f) (n : Nat) (w : World) (h : n < 256) :
    Calls Try.prog 17 #[.agg cs, .int .i64 n] w fun e w' => e = .returned (.int .i64 (bitOf f n : Nat)) ∧ Below w.heap.size w w' := by
  have hc : (w.alloc (.cells cs 23)).cell? ⟨w.heap.size, n / 8, none⟩ = some (.int .u8 (f (n / 8) : Nat)) := (cell_new_at w cs 23 (n/8)).trans (hcs.2.2 _ (by omega))
  go_enter Try.func17, Try.ntmps17
  go_wp2
  go_ret
  exact ⟨by rw [bitOf, ← bit_val (f (n / 8)) (7 - n % 8) (hcs.2.1 _)]; rfl, by repeat (first | exact Below.refl _ _ | apply Below.drew | refine Below.alloc ?_ (Nat.le_refl _) _)⟩

set_option maxRecDepth 100000 in
theorem right_one (w : World) : Calls Try.prog 40 #[.agg #[.string ⟨#[]⟩, .int .i64 0, .int .i64 1]] w fun e w' => e = .returned (.bool true) ∧ Below w.heap.size w w' := by
  go_enter Try.func40, Try.ntmps40
  go_wp2
  go_ret
  exact ⟨rfl, by repeat (first | exact Below.refl _ _ | apply Below.drew | refine Below.alloc ?_ (Nat.le_refl _) _)⟩

/-- the array of the example: its first byte is 128 -/
def top : Nat → Nat := fun k => if k = 0 then 128 else 0
def topCells : Array Value := #[.int .u8 128, .int .u8 0, .int .u8 0, .int .u8 0, .int .u8 0, .int .u8 0, .int .u8 0, .int .u8 0, .int .u8 0, .int .u8 0, .int .u8 0, .int .u8 0, .int .u8 0, .int .u8 0, .int .u8 0, .int .u8 0, .int .u8 0, .int .u8 0, .int .u8 0, .int .u8 0, .int .u8 0, .int .u8 0, .int .u8 0, .int .u8 0, .int .u8 0, .int .u8 0, .int .u8 0, .int .u8 0, .int .u8 0, .int .u8 0, .int .u8 0, .int .u8 0]

def zeroCells : Array Value := #[.int .u8 0, .int .u8 0, .int .u8 0, .int .u8 0, .int .u8 0, .int .u8 0, .int .u8 0, .int .u8 0, .int .u8 0, .int .u8 0, .int .u8 0, .int .u8 0, .int .u8 0, .int .u8 0, .int .u8 0, .int .u8 0, .int .u8 0, .int .u8 0, .int .u8 0, .int .u8 0, .int .u8 0, .int .u8 0, .int .u8 0, .int .u8 0, .int .u8 0, .int .u8 0, .int .u8 0, .int .u8 0, .int .u8 0, .int .u8 0, .int .u8 0, .int .u8 0]

theorem top_is : IsArr topCells top := by
  refine ⟨rfl, fun k => by unfold top; split <;> decide, fun k hk => ?_⟩
  have hd : k = 0 ∨ k = 1 ∨ k = 2 ∨ k = 3 ∨ k = 4 ∨ k = 5 ∨ k = 6 ∨ k = 7 ∨ k = 8 ∨ k = 9 ∨ k = 10 ∨ k = 11 ∨ k = 12 ∨ k = 13 ∨ k = 14 ∨ k = 15 ∨ k = 16 ∨ k = 17 ∨ k = 18 ∨ k = 19 ∨ k = 20 ∨ k = 21 ∨ k = 22 ∨ k = 23 ∨ k = 24 ∨ k = 25 ∨ k = 26 ∨ k = 27 ∨ k = 28 ∨ k = 29 ∨ k = 30 ∨ k = 31 := by omega
  rcases hd with rfl | rfl | rfl | rfl | rfl | rfl | rfl | rfl | rfl | rfl | rfl | rfl | rfl | rfl | rfl | rfl | rfl | rfl | rfl | rfl | rfl | rfl | rfl | rfl | rfl | rfl | rfl | rfl | rfl | rfl | rfl | rfl <;> rfl

set_option maxRecDepth 100000 in
theorem shown_true (w : World) : Calls Try.prog 16 #[] w fun e w' => e = .returned (.bool true) ∧ Below w.heap.size w w' := by
  have hsz : (Try.prog.info? 23).map (·.size) = some topCells.size := by kernel_rfl
  have hz : zeroCells.size = topCells.size := rfl
  have h1 : topCells.all (·.oneCell') = true := by kernel_rfl
  go_enter Try.func16, Try.ntmps16
  go_wp2_with (first
    | ((with_reducible refine gate_dst (N := 2) rfl ?_); refine Kd.event_run (w1 := w) rfl (v := .agg topCells) (by go_simp; rfl) ?_)
    | ((with_reducible refine gate_dst (N := 1) rfl ?_); refine box_event (cs := zeroCells) (t := 23) rfl (N := 1) rfl (by go_simp; rfl) ?_; intro g hg w1 hblk hb1)
    | ((with_reducible refine gate_store (t := 23) (p := 1) (v := .tmp 2) rfl ?_); refine wpList_store_whole (by rfl) 23 (.tmp 1) (.tmp 2) (by rfl) g topCells (by rfl) (by rfl) 23 zeroCells hblk hz hsz h1 ?_; intro w2 hblk2 hb2; have hb2 := hb1.trans (hb2 _ (Nat.le_of_eq hg.symm)); clear hblk hb1 hg)
    | ((with_reducible refine gate_dst (N := 3) rfl ?_); refine wpList_load_row (by rfl) 23 (.tmp 1) (by rfl) g (by rfl) 23 topCells (0, 0) (.array 32 5) hblk2 Try.underlying23 rfl hsz ?_))
  refine (bit_mid topCells top top_is 0 _ (by omega)).mono ?_; rintro e w3 ⟨rfl, hb3⟩
  have hblk3 := (hb3.block g (blk_lt hblk2)).trans hblk2
  have hb3 := below_then hb2 hb2.size hb3
  clear hblk2 hb2
  go_wp2_with ((with_reducible refine gate_dst (N := 7) rfl ?_); refine gate_guard (by rfl) ?_; dsimp only; refine wpList_load_row (by rfl) 23 (.tmp 1) (by rfl) g (by rfl) 23 topCells (0, 0) (.array 32 5) hblk3 Try.underlying23 rfl hsz ?_)
  refine (bit_mid topCells top top_is 1 _ (by omega)).mono ?_; rintro e w4 ⟨rfl, hb4⟩
  have hb4 := below_then hb3 hb3.size hb4
  go_wp2_with (go_at_call 40; refine (right_one _).mono ?_; rintro e w5 ⟨rfl, hb5⟩)
  go_ret
  exact ⟨rfl, below_then hb4 hb4.size hb5⟩
end Go.Proofs.Ytliiefkdgdflpaa.Lamp
