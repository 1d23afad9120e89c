/-
  tag.Text's closure: two texts are written behind what a builder holds.
-/
import Derived.Test.YtliiefkdgdflpaaBuild
import Derived.Test.YtliiefkdgdflpaaWLast
import Derived.Test.YtliiefkdgdflpaaWWords
import Derived.ProofKit
import Derived.Below
import Derived.WalkKit
import Derived.Lib.Hide
import Derived.Deep.LoopGhost
namespace Go.Proofs.Ytliiefkdgdflpaa.TagAdd
open Go.RowKit Go.Proofs.YtliiefkdgdflpaaW.PrintWords
set_option linter.unusedVariables false

def pick2 (s1 s2 : ByteArray) (k : Nat) : List Value := if k = 0 then [] else if k = 1 then Lib.strCells s1 else Lib.strCells s1 ++ Lib.strCells s2

set_option maxRecDepth 100000 in
set_option maxHeartbeats 2000000 in
theorem addC (B b g : Nat) (bs : List Value) (s1 s2 : ByteArray) (w : World) (h : Lib.IsBuilder 93 5 B b bs w) (hg : w.heap[g]? = some (.cells #[.string s1, .string s2] 9 (0, 0)))
    (hlen : bs.length + s1.size + s2.size ≤ 140737488355328) (hBw : B ≤ w.heap.size) :
    Calls Try.prog 45 #[.slice (some ⟨g, 0, none⟩) 2 2, .pointer (some ⟨b, 0, none⟩)] w fun e w' => e = .returned (.tuple #[]) ∧ (Lib.IsBuilder 93 5 B b (bs ++ (Lib.strCells s1 ++ Lib.strCells s2)) w' ∧ Below B w w') := by
  have H := Lib.hid h
  have G := Lib.hid hg
  clear h hg
  go_enter Try.func45, Try.ntmps45
  go_wp2_with fail
  go_loopw [7] (fun i wr => ∃ k : Nat, k ≤ 2 ∧ i = .int .i64 k ∧ RowKit.Hid (Lib.IsBuilder 93 5 B b (bs ++ pick2 s1 s2 k) wr) ∧ RowKit.Hid (Below B w wr) ∧ RowKit.Hid (wr.heap[g]? = some (.cells #[.string s1, .string s2] 9 (0, 0)))) (fun i _ => 2 - (intOf i).toNat)
  case atStart => exact ⟨0, by omega, rfl, Lib.hid (by simpa [pick2] using H.out), Lib.hid (Below.refl _ _), G⟩
  case round =>
    obtain ⟨k, hk, rfl, hb, hBw2, hG⟩ := hrel
    have hsz := hBw2.out.size
    have d1 : wr.cell? ⟨g, 0, none⟩ = some (.string s1) := (blk_cell hG.out 0).trans rfl
    have d2 : wr.cell? ⟨g, 1, none⟩ = some (.string s2) := (blk_cell hG.out 1).trans rfl
    by_cases hlt : k < 2
    · rcases Nat.eq_zero_or_pos k with rfl | hpos
      · go_wp2_with fail
        refine (Build.write B b _ s1 _ hb.out (by simp [pick2]; omega) (by omega)).mono ?_
        rintro e w2 ⟨rfl, h2, hb2, hk2⟩
        have hG2 := Lib.hid (hk2 _ _ hG.out)
        clear hk2
        replace h2 := Lib.hid h2
        replace hb2 := Lib.hid hb2
        go_wp2_with fail
        go_roundw
        case rel => exact ⟨1, by omega, by go_num, Lib.hid (Or.inr (by simpa [pick2] using h2.out)), Lib.hid (hBw2.out.trans hb2.out), hG2⟩
        case measure => simp [intOf]
      · obtain rfl : k = 1 := by omega
        go_wp2_with fail
        refine (Build.write B b _ s2 _ hb.out (by simp [pick2, Lib.strCells_length]; omega) (by omega)).mono ?_
        rintro e w2 ⟨rfl, h2, hb2, hk2⟩
        have hG2 := Lib.hid (hk2 _ _ hG.out)
        clear hk2
        replace h2 := Lib.hid h2
        replace hb2 := Lib.hid hb2
        go_wp2_with fail
        go_roundw
        case rel => exact ⟨2, by omega, by go_num, Lib.hid (Or.inr (by simpa [pick2] using h2.out)), Lib.hid (hBw2.out.trans hb2.out), hG2⟩
        case measure => simp [intOf]
    · obtain rfl : k = 2 := by omega
      go_wp2_with fail
      go_end0
      exact ⟨rfl, by simpa [pick2] using hb.out, hBw2.out⟩
end Go.Proofs.Ytliiefkdgdflpaa.TagAdd
