/-
  tag.Parts: what it tells is the plain law's.
-/
import Derived.Test.YtliiefkdgdflpaaTagParts
import Derived.Test.YtliiefkdgdflpaaTagParse
namespace Go.Proofs.Ytliiefkdgdflpaa.TagCall
open Go.RowKit Go.Proofs.YtliiefkdgdflpaaW.PrintWords TagBytes TagNum TagSplit TagText TagParse TagParts
set_option linter.unusedVariables false

/-- what is told of a text: a kind, parts (a row), a reason -/
def Tells (w : World) (k : Int) (ps : List (List Int)) (e : Int) (x : Ending) (w' : World) : Prop :=
  Below w.heap.size w w' ∧ ∃ A c ys, x = .returned (.tuple #[.int .i64 k, .slice A ys.length c, .int .i64 e]) ∧ ys.map bytesOf = ps ∧ ys.length ≤ c ∧ Kd.C Kd.string w' A ys.length ys

theorem tells_nil (w w' : World) (e : Int) (h : Below w.heap.size w w') : Tells w 0 [] e (.returned (.tuple #[.int .i64 0, .slice none 0 0, .int .i64 e])) w' :=
  ⟨h, none, 0, [], rfl, rfl, Nat.le_refl _, Kd.C_nil _ _⟩

theorem head_bt (s : ByteArray) (h : 0 < s.size) : (bytesOf s).headD 0 = bt s 0 := by
  rw [← rd_bytesOf]
  unfold rd
  have hl := bytesOf_length s
  cases hb : bytesOf s with
  | nil => rw [hb] at hl; simp at hl; omega
  | cons b bs => rfl

theorem partsC (s : ByteArray) (hsz : s.size < 4611686018427387904) (k : Int) (ps : List (List Int)) (e : Int) (h : parse (bytesOf s) = (k, ps, e)) (w : World) :
    Calls Try.prog 38 #[.string s] w (Tells w k ps e) := by
  unfold parse at h
  rw [bytesOf_length] at h
  by_cases h5 : s.size < 5
  · rw [if_pos h5] at h
    cases h
    exact (parts_short s h5 w).mono fun x w' ⟨h1, h2⟩ => by rw [h1]; exact tells_nil _ _ _ h2
  · rw [if_neg h5] at h
    by_cases hm : num (((bytesOf s).drop 1).take 4) 0 > 65536
    · rw [if_pos hm] at h
      cases h
      exact (parts_form s h5 hm w).mono fun x w' ⟨h1, h2⟩ => by rw [h1]; exact tells_nil _ _ _ h2
    · rw [if_neg hm] at h
      have hb := num_bound 4 (((bytesOf s).drop 1).take 4) (by rw [List.length_take, List.length_drop, bytesOf_length]; omega) (fun x hx => bytes_range s x (List.mem_of_mem_drop (List.mem_of_mem_take hx)))
      have hN : num (((bytesOf s).drop 1).take 4) 0 = ((num (((bytesOf s).drop 1).take 4) 0).toNat : Int) := by omega
      have hw := callsIn_wide.1 (parts_walk 3 (by omega) s hsz h5 _ hN (by omega) w)
      refine hw.mono ?_
      rintro x w' ⟨h1, h2, h3⟩
      by_cases h0 : (split (num (((bytesOf s).drop 1).take 4) 0).toNat ((bytesOf s).drop 5)).2 = 0
      · rw [if_pos h0] at h
        obtain ⟨A, c, ys, rfl, hy, hc, hC⟩ := h3 h0
        rw [head_bt s (by omega)] at h
        cases h
        exact ⟨h1, A, c, ys, rfl, hy, hc, hC⟩
      · rw [if_neg h0] at h
        rw [h2 h0]
        cases h
        exact tells_nil _ _ _ h1
end Go.Proofs.Ytliiefkdgdflpaa.TagCall
