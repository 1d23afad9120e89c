/-
  The document's examples of package word, at the head of its laws: they hold. (And Turn's contract, out of the printed text.)
-/
import Derived.Test.YtliiefkdgdflpaaTurn
import Derived.Test.YtliiefkdgdflpaaWord
namespace Go.Proofs.Ytliiefkdgdflpaa.Word
open Go.RowKit Go.Proofs.YtliiefkdgdflpaaW.PrintWords PWordTurns
set_option linter.unusedVariables false

set_option maxRecDepth 100000 in
theorem shown_true (w : World) : Calls Try.prog 24 #[] w fun e w' => e = .returned (.bool true) ∧ Below w.heap.size w w' := by
  have e0 : rot 1 (sh 1) = 2147483648 := by decide +kernel
  have hs := pad_string
  have h0 : ((strOfNums pad0 ++ strOfNums (wbs [0, 0])) : ByteArray)[0]? = some 128 := by decide +kernel
  have h63 : ((strOfNums pad0 ++ strOfNums (wbs [0, 0])) : ByteArray)[63]? = some 0 := by decide +kernel
  have hp := pad_zero w
  have HP := Lib.hid hp
  generalize strOfNums pad0 ++ strOfNums (wbs [0, 0]) = s at hs h0 h63 hp HP
  clear hp
  have h0' : s[0]'(by omega) = 128 := by
    have := Option.some.inj ((getElem?_pos s 0 (by omega)).symm.trans h0); exact this
  have h63' : s[63]'(by omega) = 0 := by
    have := Option.some.inj ((getElem?_pos s 63 (by omega)).symm.trans h63); exact this
  clear h0 h63
  go_enter Try.func24, Try.ntmps24
  go_wp2_with (first
    | (go_at_call 42; refine HP.out.mono ?_; rintro e w' ⟨rfl, hb1⟩)
    | (go_at_call 25; refine (turn_any 1 1 _ (by omega)).mono ?_; rintro e w'' ⟨rfl, hb2⟩))
  go_ret
  exact ⟨rfl, hb1.trans (hb2.mono hb1.size)⟩

end Go.Proofs.Ytliiefkdgdflpaa.Word
