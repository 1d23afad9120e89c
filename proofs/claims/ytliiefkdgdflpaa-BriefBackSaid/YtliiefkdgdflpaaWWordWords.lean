/-
  WordWords's walk.
-/
import Derived.Test.YtliiefkdgdflpaaKWordWords
import Derived.Test.YtliiefkdgdflpaaWordShown
import Derived.Test.YtliiefkdgdflpaaWGuard
namespace Go.Proofs.Ytliiefkdgdflpaa.WWordWords
open Go.RowKit Go.Proofs.YtliiefkdgdflpaaW.PrintWords KWordWords Word
set_option linter.unusedVariables false

theorem info28 : (Try.prog.info? 28).map (fun i => (i.zero, i.size, i.bytes)) = some (some (.int .u32 0), 1, 4) := by kernel_rfl

theorem reads_of {w : World} {xs : List Int} {v : Value} (h : kd45.K w xs [v]) : ∃ A c, v = .slice A xs.length c ∧ ReadsInt w .u32 A xs.length xs := by
  obtain ⟨A, c, hv, hc, hC⟩ := h
  obtain rfl : v = .slice A xs.length c := by simpa using hv
  refine ⟨A, c, rfl, rfl, hC.2.1, fun hn => ?_⟩
  obtain ⟨ad, e, h⟩ := hC.2.2 hn
  refine ⟨ad, e, fun j hj => ?_⟩
  obtain ⟨cs, hl, hK, hcell⟩ := h j _ (List.getElem?_eq_getElem hj)
  have hK' : cs = [Value.int .u32 xs[j]] := hK
  subst hK'
  have := hcell 0 _ rfl
  rw [List.getD_eq_getElem?_getD, List.getElem?_eq_getElem hj]
  simpa [kd28, Kd.int, Kd.scalar] using this

theorem word_range {x : Int} (h : g28 x) : 0 ≤ x ∧ x < 4294967296 := by
  have hmin : IntKind.u32.min = 0 := rfl
  have hmax : IntKind.u32.max = 4294967295 := rfl
  have h : (Lit.int .u32 x).wf = true := h
  simp only [Lit.wf, Bool.and_eq_true, decide_eq_true_eq, hmin, hmax] at h
  omega

theorem str_append (xs ys : List Int) : strOfNums (xs ++ ys) = strOfNums xs ++ strOfNums ys := by
  unfold strOfNums
  apply ByteArray.ext
  simp

theorem str_size (xs : List Int) : (strOfNums xs).size = xs.length := by
  unfold strOfNums
  show (List.toArray _).size = _
  simp

set_option maxRecDepth 100000 in
theorem slices (A B : Option Addr) (c d : Nat) (xs ys : List Int) (w : World) (hA : ReadsInt w .u32 A xs.length xs) (hB : ReadsInt w .u32 B ys.length ys) (hx : ∀ x ∈ xs, 0 ≤ x ∧ x < 4294967296) (hy : ∀ x ∈ ys, 0 ≤ x ∧ x < 4294967296)
    (hlen : xs.length + ys.length ≤ 1048576) : Calls Try.prog 7 #[.slice A xs.length c, .slice B ys.length d] w fun e w' => e = .returned (.bool true) ∧ Below w.heap.size w w' := by
  have HX : Hid (∀ w', Below w.heap.size w w' → ReadsInt w' .u32 A xs.length xs) := Lib.hid fun w' hb => hA.below hb
  have HY : Hid (∀ w', Below w.heap.size w w' → ReadsInt w' .u32 B ys.length ys) := Lib.hid fun w' hb => hB.below hb
  have hsz : (strOfNums (wbs xs)).size = 4 * xs.length := by rw [str_size, wbs_length]
  have hsum : (strOfNums (wbs xs)).size + (strOfNums (wbs ys)).size ≤ 9223372036854775807 := by rw [str_size, str_size, wbs_length, wbs_length]; omega
  have hap : strOfNums (wbs (xs ++ ys)) = strOfNums (wbs xs) ++ strOfNums (wbs ys) := by rw [← str_append]; simp [wbs]
  go_enter Try.func7, Try.ntmps7
  go_wp2_with fail
  refine (shown_true _).mono ?_; rintro e w1 ⟨rfl, hb1⟩
  go_wp2_with fail
  refine (bytes_any _ _ _ xs _ (HX.out _ hb1) hx (by omega)).mono ?_; rintro e w2 ⟨rfl, hb2⟩
  have hb2 := below_then hb1 hb1.size hb2
  go_wp2_with fail
  refine (bytes_any _ _ _ ys _ (HY.out _ hb2) hy (by omega)).mono ?_; rintro e w3 ⟨rfl, hb3⟩
  have hb3 := below_then hb2 hb2.size hb3
  have hs3 := hb3.size
  have ho3 := own_lit w3 w.heap.size 28 .u32 [] hs3 (by simp)
  have hb4 : Below w.heap.size w (w3.alloc (.cells #[] 28)) := hb3.alloc hs3 _
  have ho4 : (w3.alloc (.cells #[] 28)).ownsRow w.heap.size 28 1 (.slice (some ⟨w3.heap.size, 0, none⟩) 0 0) ([] : List Int).length (nums .u32 []) := ho3
  clear ho3

  go_wp2_with (first
    | ((with_reducible refine gate_dst (N := 25) rfl ?_); refine gate_guard (by rfl) ?_; dsimp only; refine print_append_row (w0 := w) w.heap.size (by rfl) (.tmp 23) (.tmp 24) 45 28 .u32 4 (by rfl) Try.underlying45 info28 (by omega) (.slice (some ⟨w3.heap.size, 0, none⟩) 0 0) [] xs A xs.length c (by rfl) (by rfl) ho4 (HX.out _ hb4) hb4 (by simp; omega) (by simp; omega) ?_; intro v5 w5 ho5 hb5 hg5 hat5; rw [List.nil_append] at ho5)
    | ((with_reducible refine gate_dst (N := 27) rfl ?_); refine gate_guard (by rfl) ?_; dsimp only; refine print_append_row (w0 := w) w.heap.size (by rfl) (.tmp 25) (.tmp 26) 45 28 .u32 4 (by rfl) Try.underlying45 info28 (by omega) v5 xs ys B ys.length d (by rfl) (by rfl) ho5 (HY.out _ hb5) hb5 hb5.size (by omega) ?_; intro v6 w6 ho6 hb6 hg6 hat6; obtain ⟨A6, c6, hv6, hr6⟩ := own_reads ho6; rw [hv6]; clear hat6 hv6 ho6))
  have hl6 : (xs ++ ys).length = xs.length + ys.length := List.length_append
  rw [hl6] at hr6
  clear hl6
  have HAP := Lib.hid hap
  clear hap
  refine (bytes_any _ _ _ (xs ++ ys) _ hr6 (by intro x h; rcases List.mem_append.1 h with h | h; exact hx x h; exact hy x h) (by omega)).mono ?_; rintro e w7 ⟨rfl, hb7⟩
  rw [HAP.out]
  go_wp2_with fail
  go_ret
  exact ⟨rfl, below_then hb6 hb6.size hb7⟩

theorem walk (w : World) (x0 : (List Int)) (v0 : Value) (hK0 : kd45.K w x0 [v0]) (hg0 : g45 x0) (x1 : (List Int)) (v1 : Value) (hK1 : kd45.K w x1 [v1]) (hg1 : g45 x1) (hb : b45 x0 + b45 x1 ≤ 1048576) :
    Calls Try.prog 7 #[v0, v1] w fun e w' => e = .returned (.bool true) ∧ Below w.heap.size w w' := by
  obtain ⟨A, c, rfl, hA⟩ := reads_of hK0
  obtain ⟨B, d, rfl, hB⟩ := reads_of hK1
  have hl : ∀ xs : List Int, xs.length ≤ (xs.map b28).sum := by
    intro xs
    induction xs with
    | nil => simp
    | cons x xs ih => simp only [List.map_cons, List.sum_cons, List.length_cons, b28]; omega
  have h0 := hl x0
  have h1 := hl x1
  have hb' : (x0.map b28).sum + 1 + ((x1.map b28).sum + 1) ≤ 1048576 := hb
  exact slices A B c d x0 x1 w hA hB (fun x h => word_range (hg0.2 x h)) (fun x h => word_range (hg1.2 x h)) (by omega)
end Go.Proofs.Ytliiefkdgdflpaa.WWordWords
