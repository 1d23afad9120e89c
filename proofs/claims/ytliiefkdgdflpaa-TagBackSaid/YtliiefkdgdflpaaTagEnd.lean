/-
  tag.Parts's closure: why it ended is written down.
-/
import Derived.Test.YtliiefkdgdflpaaTagSplit
import Derived.Test.YtliiefkdgdflpaaWWords
import Derived.WalkKit
import Derived.ProofKit
import Derived.Below
import Derived.Lib.Hide
namespace Go.Proofs.Ytliiefkdgdflpaa.TagEnd
open Go.RowKit Go.Proofs.YtliiefkdgdflpaaW.PrintWords
set_option linter.unusedVariables false

set_option maxRecDepth 100000 in
theorem endC (g : Nat) (r : ByteArray) (e v : Int) (w : World) (hg : w.heap[g]? = some (.cells #[.int .i64 v] 54 (0, 0))) (tb : Bool) (ht : (r.toList == []) = tb) :
    Calls Try.prog 53 #[.string r, .int .i64 e, .pointer (some ⟨g, 0, none⟩)] w fun x w' => x = .returned (.tuple #[]) ∧ w'.heap[g]? = some (.cells #[.int .i64 (if tb then e else 3)] 54 (0, 0)) ∧ (∀ k, k ≠ g → w'.heap[k]? = w.heap[k]?) ∧ (g < w.heap.size → Below g w w') := by
  have c0 : w.cell? ⟨g, 0, none⟩ = some (.int .i64 v) := (blk_cell hg 0).trans rfl
  have f0 := blk_frozen hg 0
  have hg1 := Lib.hid (blk_set hg 0 (.int .i64 e))
  have d0 : (w.setCell ⟨g, 0, none⟩ (.int .i64 e)).cell? ⟨g, 0, none⟩ = some (.int .i64 e) := (blk_cell hg1.out 0).trans rfl
  have e0 := blk_frozen hg1.out 0
  have ht2 : (r.toList != []) = !tb := by rw [← ht]; rfl
  cases tb with
  | true =>
    go_enter Try.func53, Try.ntmps53
    go_wp2_with fail
    go_end0
    exact ⟨rfl, hg1.out, fun k hk => Below.heap_setCell w ⟨g, 0, none⟩ _ k hk, fun _ => (Below.refl g w).setCell (p := ⟨g, 0, none⟩) (Nat.le_refl _) _⟩
  | false =>
    go_enter Try.func53, Try.ntmps53
    go_wp2_with fail
    go_end0
    exact ⟨rfl, blk_set hg1.out 0 _, fun k hk => (Below.heap_setCell _ ⟨g, 0, none⟩ _ k hk).trans (Below.heap_setCell w ⟨g, 0, none⟩ _ k hk), fun _ => ((Below.refl g w).setCell (p := ⟨g, 0, none⟩) (Nat.le_refl _) _).setCell (p := ⟨g, 0, none⟩) (Nat.le_refl _) _⟩
end Go.Proofs.Ytliiefkdgdflpaa.TagEnd
