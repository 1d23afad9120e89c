/-
  WordApart's walk.
-/
import Derived.Test.YtliiefkdgdflpaaKWordApart
import Derived.Test.YtliiefkdgdflpaaWordShown
import Derived.Test.YtliiefkdgdflpaaWords
import Derived.Test.YtliiefkdgdflpaaWGuard
namespace Go.Proofs.Ytliiefkdgdflpaa.WWordApart
open Go.RowKit Go.Proofs.YtliiefkdgdflpaaW.PrintWords KWordApart Word
set_option linter.unusedVariables false

theorem reads_one (w : World) (t : TypeId) (a : Int) : ReadsInt (w.alloc (.cells #[.int .u32 a] t)) .u32 (some ⟨w.heap.size, 0, none⟩) 1 [a] := by
  refine ⟨rfl, by omega, fun _ => ⟨_, rfl, fun j hj => ?_⟩⟩
  rw [add_plain, blk_cell (blk_new w _)]
  match j, hj with
  | 0, _ => rfl

/-- what Words tells, of whatever text -/
def Told (s : ByteArray) (w : World) (e : Ending) (w' : World) : Prop :=
  ∃ (A : Option Addr) (n c : Nat) (xs : List Int) (q : Int), e = .returned (.tuple #[.slice A n c, .int .i64 q]) ∧ ReadsInt w' .u32 A n xs ∧ (∀ x ∈ xs, 0 ≤ x ∧ x < 4294967296) ∧ n ≤ 16 ∧ Below w.heap.size w w' ∧ (s.size = 64 → xs = ws s)

theorem words_any (s : ByteArray) (w : World) (hs : s.size ≤ 9223372036854775807) : Calls Try.prog 30 #[.string s] w (Told s w) := by
  by_cases h : s.size = 64
  · exact (words_64 s w h).mono fun e w' ⟨h1, h2, h3⟩ => ⟨_, _, _, ws s, _, h1, h2, ws_range s, by omega, h3, fun _ => rfl⟩
  · exact (words_other s w h hs).mono fun e w' ⟨h1, h3⟩ => ⟨_, _, _, [], _, h1, ⟨rfl, by omega, fun h => absurd h (by omega)⟩, by simp, by omega, h3, fun h' => absurd h' h⟩

theorem str_toList_inj {xs ys : List Int} (hx : ∀ x ∈ xs, 0 ≤ x ∧ x < 256) (hy : ∀ x ∈ ys, 0 ≤ x ∧ x < 256) (h : strOfNums xs = strOfNums ys) : xs = ys := by
  unfold strOfNums at h
  injection h with h
  have h := congrArg Array.toList h
  simp only at h
  apply List.ext_getElem
  · simpa using congrArg List.length h
  · intro i h1 h2
    have h3 : (xs.map fun n => UInt8.ofNat n.toNat)[i]'(by simpa using h1) = (ys.map fun n => UInt8.ofNat n.toNat)[i]'(by simpa using h2) := by simp only [h]
    simp only [List.getElem_map] at h3
    have a1 := hx _ (List.getElem_mem h1)
    have a2 := hy _ (List.getElem_mem h2)
    have h4 := congrArg UInt8.toNat h3
    simp only [UInt8.toNat_ofNat'] at h4
    omega

theorem wbs_range {xs : List Int} (h : ∀ x ∈ xs, 0 ≤ x ∧ x < 4294967296) : ∀ y ∈ wbs xs, 0 ≤ y ∧ y < 256 := by
  intro y hy
  obtain ⟨x, hx, hy⟩ := List.mem_flatMap.1 hy
  have := h x hx
  simp only [w4, List.mem_cons, List.not_mem_nil, or_false] at hy
  omega

theorem toList_beq (a b : ByteArray) : (a.toList == b.toList) = decide (a = b) := by
  by_cases h : a = b
  · subst h; simp
  · have : ¬ a.toList = b.toList := by
      rw [ByteArray.toList_eq, ByteArray.toList_eq]
      exact fun he => h (Go.WideShapes.bytes_inj he)
    simp [h, this]

theorem one_word (a b : Int) (ha : 0 ≤ a ∧ a < 4294967296) (hb : 0 ≤ b ∧ b < 4294967296) : ((strOfNums (wbs [a])).toList == (strOfNums (wbs [b])).toList) = (a == b) := by
  rw [toList_beq]
  by_cases h : a = b
  · subst h; simp
  · have : ¬ strOfNums (wbs [a]) = strOfNums (wbs [b]) := by
      intro he
      have h2 := str_toList_inj (wbs_range (by simpa using ha)) (wbs_range (by simpa using hb)) he
      simp only [wbs, w4, List.flatMap_cons, List.flatMap_nil, List.append_nil, List.cons.injEq, and_true] at h2
      omega
    simp [h, this]

theorem str_bytes (s : ByteArray) : strOfNums (bytesOf s) = s := by
  obtain ⟨⟨l⟩⟩ := s
  unfold strOfNums bytesOf
  simp only [List.map_map]
  congr 2
  have : ((fun n : Int => UInt8.ofNat n.toNat) ∘ fun b : UInt8 => (b.toNat : Int)) = id := by
    funext b
    simp
  rw [this]; simp

theorem one_block (s t : ByteArray) (hs : s.size = 64) (ht : t.size = 64) : ((strOfNums (wbs (ws s))).toList == (strOfNums (wbs (ws t))).toList) = (s.toList == t.toList) := by
  rw [ws_bytes s hs, ws_bytes t ht, str_bytes, str_bytes]

set_option maxRecDepth 100000 in
theorem both (a b : Int) (s t : ByteArray) (w : World) (ha : 0 ≤ a ∧ a < 4294967296) (hb : 0 ≤ b ∧ b < 4294967296) (hs : s.size ≤ 9223372036854775807) (ht : t.size ≤ 9223372036854775807)
    (hc : (((s.size : Int) != 64) = true) ∨ (((s.size : Int) != 64) = false ∧ ((t.size : Int) != 64) = true) ∨ (((s.size : Int) != 64) = false ∧ ((t.size : Int) != 64) = false)) :
    Calls Try.prog 9 #[.agg #[.int .u32 a, .int .u32 b, .string s, .string t]] w fun e w' => e = .returned (.bool true) ∧ Below w.heap.size w w' := by
  have hone := Lib.hid (one_word a b ha hb)
  have hblk : Hid (((s.size : Int) != 64) = false → ((t.size : Int) != 64) = false → ((strOfNums (wbs (ws s))).toList == (strOfNums (wbs (ws t))).toList) = (s.toList == t.toList)) :=
    fun h1 h2 => one_block s t (by simp at h1; omega) (by simp at h2; omega)
  rcases hc with h1 | ⟨h1, h2⟩ | ⟨h1, h2⟩
  all_goals
    go_enter Try.func9, Try.ntmps9
    go_wp2_with fail
    refine (shown_true _).mono ?_; rintro e w1 ⟨rfl, hb1⟩
    go_wp2_with fail
    refine (words_any s _ hs).mono ?_; rintro e w2 ⟨A, n, c, xs, q, rfl, hr2, hx2, hn2, hb2, hxs⟩
    have HXS := Lib.hid hxs
    clear hxs
    go_wp2_with fail
    refine (words_any t _ ht).mono ?_; rintro e w3 ⟨B, m, d, ys, r, rfl, hr3, hx3, hn3, hb3, hys⟩
    have HYS := Lib.hid hys
    clear hys
    go_wp2_with fail
    refine (bytes_any _ _ _ xs _ (hr2.below hb3) hx2 (by omega)).mono ?_; rintro e w4 ⟨rfl, hb4⟩
    go_wp2_with fail
    refine (bytes_any _ _ _ ys _ (hr3.below hb4) hx3 (by omega)).mono ?_; rintro e w5 ⟨rfl, hb5⟩
    go_wp2_with fail
    refine (bytes_any _ _ _ [a] _ (reads_one _ _ _) (by simpa using ha) (by omega)).mono ?_; rintro e w6 ⟨rfl, hb6⟩
    go_wp2_with fail
    refine (bytes_any _ _ _ [b] _ (reads_one _ _ _) (by simpa using hb) (by omega)).mono ?_; rintro e w7 ⟨rfl, hb7⟩
    have hbb := below_then (below_then (below_then (below_then (below_then (below_then hb1 hb1.size hb2) (by have := hb1.size; have := hb2.size; omega) hb3) (by have := hb1.size; have := hb2.size; have := hb3.size; omega) hb4) (by have := hb1.size; have := hb2.size; have := hb3.size; have := hb4.size; omega) hb5) (by have := hb1.size; have := hb2.size; have := hb3.size; have := hb4.size; have := hb5.size; omega) ((Below.refl _ _).alloc (Nat.le_refl _) _ |>.trans (hb6.mono (by simp)))) (by have := hb1.size; have := hb2.size; have := hb3.size; have := hb4.size; have := hb5.size; have := hb6.size; simp at this; omega) ((Below.refl _ _).alloc (Nat.le_refl _) _ |>.trans (hb7.mono (by simp)))
    have HBB := Lib.hid hbb
    clear hbb hb1 hb2 hb3 hb4 hb5 hb6 hb7
    have hone' := hone.out
  · go_wp2_with fail
    go_ret
    exact ⟨rfl, ((Below.refl w.heap.size w).alloc (Nat.le_refl _) _).trans (HBB.out.mono (by simp))⟩
  · go_wp2_with fail
    go_ret
    exact ⟨rfl, ((Below.refl w.heap.size w).alloc (Nat.le_refl _) _).trans (HBB.out.mono (by simp))⟩
  · have hxs := HXS.out (by simp at h1; omega)
    have hys := HYS.out (by simp at h2; omega)
    subst hxs hys
    have hblk' := hblk.out h1 h2
    go_wp2_with fail
    go_ret
    exact ⟨rfl, ((Below.refl w.heap.size w).alloc (Nat.le_refl _) _).trans (HBB.out.mono (by simp))⟩

theorem word_range {x : Int} (h : g28 x) : 0 ≤ x ∧ x < 4294967296 := by
  have hmin : IntKind.u32.min = 0 := rfl
  have hmax : IntKind.u32.max = 4294967295 := rfl
  have h : (Lit.int .u32 x).wf = true := h
  simp only [Lit.wf, Bool.and_eq_true, decide_eq_true_eq, hmin, hmax] at h
  omega

theorem walk (w : World) (x0 : (Int × Int × ByteArray × ByteArray)) (cs0 : Array Value) (hK0 : kd53.K w x0 cs0.toList) (hg0 : g53 x0) :
    Calls Try.prog 9 #[.agg cs0] w fun e w' => e = .returned (.bool true) ∧ Below w.heap.size w w' := by
  obtain ⟨l0⟩ := cs0
  obtain ⟨a, b, s, t⟩ := x0
  obtain ⟨_, _, rfl, rfl, _, _, rfl, rfl, _, _, rfl, rfl, rfl⟩ := hK0
  obtain ⟨ga, gb, gs, gt⟩ := hg0
  have gs' : s.size ≤ 9223372036854775807 := gs
  have gt' : t.size ≤ 9223372036854775807 := gt
  refine both a b s t w (word_range ga) (word_range gb) gs' gt' ?_
  by_cases h1 : s.size = 64
  · by_cases h2 : t.size = 64
    · exact .inr (.inr ⟨by simp; omega, by simp; omega⟩)
    · exact .inr (.inl ⟨by simp; omega, by simp; omega⟩)
  · exact .inl (by simp; omega)
end Go.Proofs.Ytliiefkdgdflpaa.WWordApart
