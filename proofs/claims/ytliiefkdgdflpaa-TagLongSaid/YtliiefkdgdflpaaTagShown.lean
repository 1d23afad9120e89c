/-
  The document's example, shown by the laws of tag.
-/
import Derived.Test.YtliiefkdgdflpaaTagLaw
namespace Go.Proofs.Ytliiefkdgdflpaa.TagShown
open Go.RowKit Go.Proofs.YtliiefkdgdflpaaW.PrintWords Go.Proofs.YtliiefkdgdflpaaW.PrintLast TagBytes TagText TagLaw
set_option linter.unusedVariables false

theorem textS (kind : Int) (A : Option Addr) (c n : Nat) (xs : List ByteArray) (S : ByteArray) (hS : (⟨(hd kind xs.length ++ body xs).toArray⟩ : ByteArray) = S) (hn : xs.length = n) (w : World) (h0 : 0 ≤ kind) (h1 : kind ≤ 255) (h : xs.length ≤ 65536) (hC : Kd.string.C w A xs.length xs) (htot : 5 + (body xs).length ≤ 140737488355328) (hsz : ∀ p ∈ xs, p.size ≤ 9223372036854775807) :
    Calls Try.prog 34 #[.int .i64 kind, .slice A n c] w fun e w' => e = .returned (.tuple #[.string S, .int .i64 0]) ∧ Below w.heap.size w w' := by
  subst hS hn
  exact text_ok kind A c xs w h0 h1 h hC htot hsz

def ab : ByteArray := ⟨#[97, 98]⟩
theorem ab_row (w : World) : Kd.string.C (w.alloc (.cells #[.string ⟨#[97, 98]⟩] 9)) (some ⟨w.heap.size, 0, none⟩) 1 [ab] := by
  refine ⟨rfl, by decide, fun _ => ⟨_, rfl, fun j p hj => ?_⟩⟩
  have h0 : j = 0 := by
    have := (List.getElem?_eq_some_iff.1 hj).1
    simp at this; exact this
  subst h0
  obtain rfl : ab = p := by simpa using hj
  refine ⟨[.string ab], rfl, rfl, fun i u hu => ?_⟩
  rw [Nat.zero_mul, add_none, blk_cell (blk_new w _), Nat.zero_add, Nat.zero_add]
  simpa [ab] using hu

theorem ab_sz : ∀ p ∈ [ab], p.size ≤ 9223372036854775807 := by
  intro p hp
  obtain rfl : p = ab := by simpa using hp
  decide

set_option maxRecDepth 100000 in
theorem shownC (w : World) : Calls Try.prog 32 #[] w fun e w' => e = .returned (.bool true) ∧ Below w.heap.size w w' := by
  have hR := Lib.hid (ab_row w)
  have L0 := Lib.hid (below_alloc (Below.refl _ w) (.cells #[.string ⟨#[97, 98]⟩] 9))
  go_enter Try.func32, Try.ntmps32
  go_wp2_with fail
  refine (textS 1 (some ⟨w.heap.size, 0, none⟩) 1 1 [ab] ⟨#[1, 0, 0, 0, 1, 0, 0, 0, 0, 0, 0, 0, 2, 97, 98]⟩ (by decide +kernel) rfl _ (by decide) (by decide) (by decide) hR.out (by decide +kernel) ab_sz).mono ?_
  rintro e w1 ⟨rfl, hb⟩
  have L1 := Lib.hid (below_then L0.out L0.out.size hb)
  clear hb
  go_wp2_with fail
  go_ret
  exact ⟨rfl, L1.out⟩
end Go.Proofs.Ytliiefkdgdflpaa.TagShown
