/-
  Arguments opened to plain Lean values, by the kind of their type: integers, bools, strings, slices and structs of these, nested in any way. Nothing of the program is used here but its table of types.
-/
import Derived.Test.YtliiefkdgdflpaaRows
import Derived.Test.YtliiefkdgdflpaaWWords
import Derived.Deep.Slices
import Derived.Deep.Fields
import Derived.ChangeSame
import Derived.ProofKit
namespace Go.Proofs.Ytliiefkdgdflpaa.Opn
open Go.RowKit Go.ChangeShapes Go.WideShapes Go.Proofs.YtliiefkdgdflpaaW.PrintWords

/-- What reads at type t is some x of the kind d with g x, whose weight is at most the datum's bulk. -/
def Opens (P : Program) (t : TypeId) {α : Type} (d : Kd α) (g : α → Prop) (b : α → Nat) : Prop :=
  ∀ (H : Type) (enc : TypeId × Value → H) (w : World) (base : Nat) (spare : Nat → Bool) (held : Bool) (fuel : Nat) (cs : List Value) (y : DataW H × List MemPlace),
    DataW.trod enc P w base spare held fuel t cs = some y → ∃ x, d.K w x cs ∧ g x ∧ b x ≤ Rows.uptoBulk y.1

section
variable {P : Program}

theorem opens_int {t : TypeId} {k : IntKind} (ht : P.underlying t = some (.int k)) : Opens P t (Kd.int k) (fun n => (Lit.int k n).wf = true) (fun _ => 1) := by
  intro H enc w base spare held fuel cs y h
  obtain ⟨n, rfl, rfl, hw⟩ := DataW.trod_int ht h
  exact ⟨n, rfl, hw, by simp [Rows.uptoBulk]⟩

theorem opens_bool {t : TypeId} (ht : P.underlying t = some .bool) : Opens P t Kd.bool (fun _ => True) (fun _ => 1) := by
  intro H enc w base spare held fuel cs y h
  obtain ⟨n, rfl, rfl⟩ := DataW.trod_bool ht h
  exact ⟨n, rfl, trivial, by simp [Rows.uptoBulk]⟩

theorem opens_string {t : TypeId} (ht : P.underlying t = some .string) : Opens P t Kd.string (fun s => s.size ≤ 9223372036854775807) (fun s => s.size + 1) := by
  intro H enc w base spare held fuel cs y h
  obtain ⟨s, rfl, rfl, hs⟩ := DataW.trod_string ht h
  refine ⟨s, rfl, ?_, ?_⟩
  · unfold maxLen at hs; omega
  · have : s.data.toList.length = s.size := by rw [Array.length_toList]; rfl
    simp only [Rows.uptoBulk]; omega

theorem list_of {α : Type} {Q : Nat → α → Prop} : ∀ n : Nat, (∀ i, i < n → ∃ x, Q i x) → ∃ xs : List α, xs.length = n ∧ ∀ i x, xs[i]? = some x → Q i x := by
  intro n
  induction n with
  | zero => exact fun _ => ⟨[], rfl, fun i x h => by simp at h⟩
  | succ n ih =>
    intro h
    obtain ⟨xs, hl, hq⟩ := ih (fun i hi => h i (by omega))
    obtain ⟨x, hx⟩ := h n (by omega)
    refine ⟨xs ++ [x], by simp [hl], fun i y hy => ?_⟩
    rcases Nat.lt_or_ge i n with hi | hi
    · rw [List.getElem?_append_left (by omega)] at hy
      exact hq i y hy
    · have hi' : i = n := by
        have := (List.getElem?_eq_some_iff.1 hy).1
        simp at this; omega
      subst hi'
      rw [List.getElem?_append_right (by omega), hl, Nat.sub_self] at hy
      obtain rfl : x = y := by simpa using hy
      exact hx

theorem bulk_range {H : Type} {α : Type} (D : Nat → DataW H) (b : α → Nat) : ∀ (xs : List α) (o : Nat), (∀ i x, xs[i]? = some x → b x ≤ Rows.uptoBulk (D (o + i))) →
    (xs.map b).sum ≤ Rows.uptoBulkAll ((List.range' o xs.length).map D) := by
  intro xs
  induction xs with
  | nil => intro o _; simp
  | cons x xs ih =>
    intro o h
    have h0 := h 0 x rfl
    have h1 := ih (o + 1) (fun i y hy => by have := h (i + 1) y (by simpa using hy); rwa [show o + 1 + i = o + (i + 1) by omega])
    simp only [List.length_cons, List.range'_succ, List.map_cons, List.sum_cons, Rows.uptoBulkAll]
    simp only [Nat.add_zero] at h0
    omega

theorem opens_slice {t e : TypeId} {α : Type} {d : Kd α} {g : α → Prop} {b : α → Nat} (ht : P.underlying t = some (.slice e)) (hsz : P.cellsOf e = d.sz) (h : Opens P e d g b) :
    Opens P t (Kd.slice e d) (fun xs => xs.length ≤ 9223372036854775807 ∧ ∀ x ∈ xs, g x) (fun xs => (xs.map b).sum + 1) := by
  intro H enc w base spare held fuel cs y hy
  rcases Go.Deep.open_slice ht hy with ⟨rfl, rfl⟩ | ⟨a, len, cap, m, n, D, Pl, rfl, hb, hl, hm, hmm, rfl, hi⟩
  · exact ⟨[], ⟨none, 0, rfl, Nat.le_refl _, Kd.C_nil d w⟩, ⟨by simp, fun x hx => by cases hx⟩, by simp [Rows.uptoBulk]⟩
  · have hlm : len ≤ m := by rw [hmm]; split <;> omega
    obtain ⟨xs, hxl, hxs⟩ := list_of (Q := fun i x => g x ∧ b x ≤ Rows.uptoBulk (D i) ∧ ∃ c, c.length = d.sz ∧ d.K w x c ∧ ∀ j u, c[j]? = some u → w.cell? (a.add (i * d.sz + j)) = some u) len (fun i hil => by
      obtain ⟨cs', hc, ht'⟩ := hi i (by omega)
      obtain ⟨x, hK, hg, hbx⟩ := h H enc w base spare held n cs' _ ht'
      obtain ⟨_, hcl, hat⟩ := World.cells?_some hc
      rw [hsz] at hcl
      refine ⟨x, hg, hbx, cs', hcl, hK, fun j u hu => ?_⟩
      have hj : j < d.sz := by rw [← hcl]; exact (List.getElem?_eq_some_iff.1 hu).1
      have := hat j (by rw [hsz]; exact hj)
      rw [Go.Deep.add_add, hsz] at this
      rw [this, hu])
    have hmx : len ≤ 9223372036854775807 := by unfold maxLen at hm; omega
    refine ⟨xs, ⟨some a, cap, by rw [hxl], by omega, ⟨by rfl, by omega, fun _ => ⟨a, rfl, fun j p hp => ?_⟩⟩⟩, ⟨by omega, fun x hx => ?_⟩, ?_⟩
    · obtain ⟨_, _, c, h1, h2, h3⟩ := hxs j p hp
      exact ⟨c, h1, h2, h3⟩
    · obtain ⟨i, hi⟩ := List.getElem?_of_mem hx
      exact (hxs i x hi).1
    · have := bulk_range D b xs 0 (fun i x hx => by simpa using (hxs i x hx).2.1)
      rw [hxl] at this
      simp only [Rows.uptoBulk, List.range_eq_range']
      omega

/-- The fields from the i-th on, which lie from cell 'off' on. -/
def OpensAt (P : Program) (fs : Array Field) (i off : Nat) {α : Type} (d : Kd α) (g : α → Prop) (b : α → Nat) : Prop :=
  ∀ (H : Type) (enc : TypeId × Value → H) (w : World) (base : Nat) (spare : Nat → Bool) (held : Bool) (n : Nat) (cs : List Value) (ys : List (DataW H × List MemPlace)),
    ys.length = fs.size → cs.length = off + d.sz → (∀ (j : Nat) (f : Field), fs[j]? = some f → DataW.trod enc P w base spare held n f.type ((cs.drop f.offset).take (P.cellsOf f.type)) = ys[j]?) →
      ∃ x, d.K w x (cs.drop off) ∧ g x ∧ b x ≤ Rows.uptoBulkAll ((ys.drop i).map (·.1))

theorem opensAt_last {fs : Array Field} {i off : Nat} {f : Field} {α : Type} {d : Kd α} {g : α → Prop} {b : α → Nat} (hf : fs[i]? = some f) (ho : f.offset = off) (hsz : P.cellsOf f.type = d.sz) (h : Opens P f.type d g b) :
    OpensAt P fs i off d g b := by
  intro H enc w base spare held n cs ys hyl hcl hy
  have h1 := hy i f hf
  have hi : i < ys.length := by rw [hyl]; exact (Array.getElem?_eq_some_iff.1 hf).1
  rw [ho, hsz, List.take_of_length_le (by rw [List.length_drop]; omega), List.getElem?_eq_getElem hi] at h1
  obtain ⟨x, hK, hg, hb⟩ := h H enc w base spare held n _ _ h1
  refine ⟨x, hK, hg, ?_⟩
  rw [List.drop_eq_getElem_cons hi]
  simp only [List.map_cons, Rows.uptoBulkAll]
  omega

theorem opensAt_cons {fs : Array Field} {i off : Nat} {f : Field} {α β : Type} {d : Kd α} {g : α → Prop} {b : α → Nat} {d' : Kd β} {g' : β → Prop} {b' : β → Nat} (hf : fs[i]? = some f) (ho : f.offset = off) (hsz : P.cellsOf f.type = d.sz)
    (h : Opens P f.type d g b) (h' : OpensAt P fs (i + 1) (off + d.sz) d' g' b') : OpensAt P fs i off (Kd.pair d d') (fun x => g x.1 ∧ g' x.2) (fun x => b x.1 + b' x.2) := by
  intro H enc w base spare held n cs ys hyl hcl hy
  have h1 := hy i f hf
  have hi : i < ys.length := by rw [hyl]; exact (Array.getElem?_eq_some_iff.1 hf).1
  have hsz2 : (Kd.pair d d').sz = d.sz + d'.sz := rfl
  rw [ho, hsz, List.getElem?_eq_getElem hi] at h1
  obtain ⟨x, hK, hg, hb⟩ := h H enc w base spare held n _ _ h1
  obtain ⟨x', hK', hg', hb'⟩ := h' H enc w base spare held n cs ys hyl (by omega) hy
  refine ⟨(x, x'), ⟨_, _, ?_, hK, hK'⟩, ⟨hg, hg'⟩, ?_⟩
  · rw [← List.drop_drop, List.take_append_drop]
  · rw [List.drop_eq_getElem_cons hi]
    simp only [List.map_cons, Rows.uptoBulkAll]
    omega

theorem opens_struct {t : TypeId} {fs : Array Field} {α : Type} {d : Kd α} {g : α → Prop} {b : α → Nat} (ht : P.underlying t = some (.struct fs)) (hsz : P.cellsOf t = d.sz) (h : OpensAt P fs 0 0 d g b) : Opens P t d g (fun x => b x + 1) := by
  intro H enc w base spare held fuel cs y hy
  obtain ⟨ys, n, _, rfl, hcl, hyl, hf⟩ := DataW.trod_struct ht hy
  obtain ⟨x, hK, hg, hb⟩ := h H enc w base spare held n cs ys hyl (by rw [hcl, hsz]; omega) hf
  exact ⟨x, hK, hg, by simp only [Rows.uptoBulk, List.drop_zero] at hb ⊢; omega⟩

theorem opens_iso {t : TypeId} {α β : Type} {d : Kd α} {g : α → Prop} {b : α → Nat} (f : β → α) (f' : α → β) (hff : ∀ x, f (f' x) = x) (h : Opens P t d g b) : Opens P t (Kd.iso d f) (fun x => g (f x)) (fun x => b (f x)) := by
  intro H enc w base spare held fuel cs y hy
  obtain ⟨x, hK, hg, hb⟩ := h H enc w base spare held fuel cs y hy
  refine ⟨f' x, ?_, ?_, ?_⟩
  · show d.K w (f (f' x)) cs
    rw [hff]; exact hK
  · show g (f (f' x))
    rw [hff]; exact hg
  · show b (f (f' x)) ≤ _
    rw [hff]; exact hb

/-- A struct argument. -/
theorem open_value {t : TypeId} {fs : Array Field} {α : Type} {d : Kd α} {g : α → Prop} {b : α → Nat} (ht : P.underlying t = some (.struct fs)) (h : Opens P t d g b) {H : Type} {enc : TypeId × Value → H} {w : World} {base base' : Nat} {spare : Nat → Bool} {held : Bool}
    {v : Value} {y : DataW H} {p : List MemPlace} {r : Reach} (hv : Value.okWide P w r base' t v) (hr : DataW.Trod enc P w base spare held t v y p) : ∃ x cs, v = .agg cs ∧ d.K w x cs.toList ∧ g x ∧ b x ≤ Rows.uptoBulk y := by
  obtain ⟨cs, rfl, _⟩ := okWide_struct ht hv
  obtain ⟨fuel, hf⟩ := hr
  obtain ⟨x, hK, hg, hb⟩ := h H enc w base spare held fuel _ _ hf
  exact ⟨x, cs, rfl, by simpa [Value.cells] using hK, hg, hb⟩

/-- An argument of one cell: v is what lies in it. -/
theorem open_one {t : TypeId} {α : Type} {d : Kd α} {g : α → Prop} {b : α → Nat} (h : Opens P t d g b) {H : Type} {enc : TypeId × Value → H} {w : World} {base : Nat} {spare : Nat → Bool} {held : Bool}
    {v : Value} {y : DataW H} {p : List MemPlace} (hv : v.cells.toList = [v]) (hr : DataW.Trod enc P w base spare held t v y p) : ∃ x, d.K w x [v] ∧ g x ∧ b x ≤ Rows.uptoBulk y := by
  obtain ⟨fuel, hf⟩ := hr
  obtain ⟨x, hK, hg, hb⟩ := h H enc w base spare held fuel _ _ hf
  exact ⟨x, by rwa [hv] at hK, hg, hb⟩
end
end Go.Proofs.Ytliiefkdgdflpaa.Opn
