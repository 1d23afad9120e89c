/-
  Arguments opened to plain Lean values, with the form's own reach: what each string and slice weighs.
-/
import Derived.Test.YtliiefkdgdflpaaOpen
import Derived.SizedLaws
namespace Go.Proofs.Ytliiefkdgdflpaa.OpnS
open Go.RowKit Go.ChangeShapes Go.WideShapes Go.Proofs.YtliiefkdgdflpaaW.PrintWords Opn

/-- What reads at type t is some x of the kind d with g x; if all its strings and slices are within reach, s x. -/
def SOpens (P : Program) (t : TypeId) {α : Type} (d : Kd α) (s : α → Prop) : Prop :=
  ∀ (H : Type) (enc : TypeId × Value → H) (w : World) (base : Nat) (spare : Nat → Bool) (held : Bool) (fuel : Nat) (cs : List Value) (y : DataW H × List MemPlace),
    DataW.trod enc P w base spare held fuel t cs = some y → ∃ x, d.K w x cs ∧ ((∀ n ∈ y.1.weights P t, n ≤ reachBytes) → s x)

section
variable {P : Program}

theorem sopens_int {t : TypeId} {k : IntKind} (ht : P.underlying t = some (.int k)) : SOpens P t (Kd.int k) (fun n => (Lit.int k n).wf = true) := by
  intro H enc w base spare held fuel cs y h
  obtain ⟨n, rfl, rfl, hw⟩ := DataW.trod_int ht h
  exact ⟨n, rfl, fun _ => hw⟩

theorem sopens_bool {t : TypeId} (ht : P.underlying t = some .bool) : SOpens P t Kd.bool (fun _ => True) := by
  intro H enc w base spare held fuel cs y h
  obtain ⟨n, rfl, rfl⟩ := DataW.trod_bool ht h
  exact ⟨n, rfl, fun _ => trivial⟩

theorem sopens_string {t : TypeId} (ht : P.underlying t = some .string) : SOpens P t Kd.string (fun s => s.size ≤ reachBytes) := by
  intro H enc w base spare held fuel cs y h
  obtain ⟨s, rfl, rfl, hs⟩ := DataW.trod_string ht h
  refine ⟨s, rfl, fun hw => ?_⟩
  have h1 := hw s.data.toList.length (by simp [DataW.weights])
  have : s.data.toList.length = s.size := by rw [Array.length_toList]; rfl
  omega

theorem weights_all {H : Type} (e : TypeId) (D : Nat → DataW H) : ∀ (l : List Nat) (i : Nat), i ∈ l → ∀ n ∈ (D i).weights P e, n ∈ DataW.weightsAll P e (l.map D) := by
  intro l
  induction l with
  | nil => intro i hi; cases hi
  | cons a l ih =>
    intro i hi n hn
    simp only [List.map_cons, DataW.weightsAll, List.mem_append]
    rcases List.mem_cons.1 hi with rfl | hi
    · exact .inl hn
    · exact .inr (ih i hi n hn)

theorem sopens_slice {t e : TypeId} {α : Type} {d : Kd α} {s : α → Prop} (ht : P.underlying t = some (.slice e)) (hsz : P.cellsOf e = d.sz) (h : SOpens P e d s) :
    SOpens P t (Kd.slice e d) (fun xs => xs.length * P.bytesOf e ≤ reachBytes ∧ ∀ x ∈ xs, s x) := by
  intro H enc w base spare held fuel cs y hy
  rcases Go.Deep.open_slice ht hy with ⟨rfl, rfl⟩ | ⟨a, len, cap, m, n, D, Pl, rfl, hb, hl, hm, hmm, rfl, hi⟩
  · exact ⟨[], ⟨none, 0, rfl, Nat.le_refl _, Kd.C_nil d w⟩, fun _ => ⟨by simp, fun x hx => by cases hx⟩⟩
  · have hlm : len ≤ m := by rw [hmm]; split <;> omega
    obtain ⟨xs, hxl, hxs⟩ := list_of (Q := fun i x => ((∀ n ∈ (D i).weights P e, n ≤ reachBytes) → s x) ∧ ∃ c, c.length = d.sz ∧ d.K w x c ∧ ∀ j u, c[j]? = some u → w.cell? (a.add (i * d.sz + j)) = some u) len (fun i hil => by
      obtain ⟨cs', hc, ht'⟩ := hi i (by omega)
      obtain ⟨x, hK, hg⟩ := h H enc w base spare held n cs' _ ht'
      obtain ⟨_, hcl, hat⟩ := World.cells?_some hc
      rw [hsz] at hcl
      refine ⟨x, hg, cs', hcl, hK, fun j u hu => ?_⟩
      have hj : j < d.sz := by rw [← hcl]; exact (List.getElem?_eq_some_iff.1 hu).1
      have := hat j (by rw [hsz]; exact hj)
      rw [Go.Deep.add_add, hsz] at this
      rw [this, hu])
    have hmx : len ≤ 9223372036854775807 := by unfold maxLen at hm; omega
    refine ⟨xs, ⟨some a, cap, by rw [hxl], by omega, ⟨by rfl, by omega, fun _ => ⟨a, rfl, fun j p hp => ?_⟩⟩⟩, fun hw => ⟨?_, fun x hx => ?_⟩⟩
    · obtain ⟨_, c, h1, h2, h3⟩ := hxs j p hp
      exact ⟨c, h1, h2, h3⟩
    · simp only [DataW.weights, ht] at hw
      have h0 := hw _ List.mem_cons_self
      simp only [List.length_map, List.length_range] at h0
      rw [hxl]
      refine Nat.le_trans (Nat.mul_le_mul_right _ ?_) h0
      omega
    · obtain ⟨i, hi'⟩ := List.getElem?_of_mem hx
      refine (hxs i x hi').1 (fun n hn => hw n ?_)
      have hil : i < len := by have := (List.getElem?_eq_some_iff.1 hi').1; omega
      simp only [DataW.weights, ht]
      exact List.mem_cons_of_mem _ (List.mem_append_left _ (weights_all e D _ i (by simp; omega) n hn))

/-- The fields from the i-th on, which lie from cell 'off' on. -/
def SOpensAt (P : Program) (fs : Array Field) (i off : Nat) {α : Type} (d : Kd α) (s : α → Prop) : Prop :=
  ∀ (H : Type) (enc : TypeId × Value → H) (w : World) (base : Nat) (spare : Nat → Bool) (held : Bool) (n : Nat) (cs : List Value) (ys : List (DataW H × List MemPlace)),
    ys.length = fs.size → cs.length = off + d.sz → (∀ (j : Nat) (f : Field), fs[j]? = some f → DataW.trod enc P w base spare held n f.type ((cs.drop f.offset).take (P.cellsOf f.type)) = ys[j]?) →
      ∃ x, d.K w x (cs.drop off) ∧ ((∀ n ∈ DataW.weightsEach P ((fs.toList.drop i).map (·.type)) ((ys.drop i).map (·.1)), n ≤ reachBytes) → s x)

theorem sopensAt_last {fs : Array Field} {i off : Nat} {f : Field} {α : Type} {d : Kd α} {s : α → Prop} (hf : fs[i]? = some f) (ho : f.offset = off) (hsz : P.cellsOf f.type = d.sz) (h : SOpens P f.type d s) :
    SOpensAt P fs i off d s := by
  intro H enc w base spare held n cs ys hyl hcl hy
  have h1 := hy i f hf
  have hi : i < ys.length := by rw [hyl]; exact (Array.getElem?_eq_some_iff.1 hf).1
  obtain ⟨hif, hfi⟩ := Array.getElem?_eq_some_iff.1 hf
  rw [ho, hsz, List.take_of_length_le (by rw [List.length_drop]; omega), List.getElem?_eq_getElem hi] at h1
  obtain ⟨x, hK, hg⟩ := h H enc w base spare held n _ _ h1
  refine ⟨x, hK, fun hw => hg (fun m hm => hw m ?_)⟩
  rw [List.drop_eq_getElem_cons hi, List.drop_eq_getElem_cons (by rw [Array.length_toList]; exact hif)]
  simp only [List.map_cons, DataW.weightsEach, List.mem_append, Array.getElem_toList]
  rw [hfi]
  exact .inl hm

theorem sopensAt_cons {fs : Array Field} {i off : Nat} {f : Field} {α β : Type} {d : Kd α} {s : α → Prop} {d' : Kd β} {s' : β → Prop} (hf : fs[i]? = some f) (ho : f.offset = off) (hsz : P.cellsOf f.type = d.sz)
    (h : SOpens P f.type d s) (h' : SOpensAt P fs (i + 1) (off + d.sz) d' s') : SOpensAt P fs i off (Kd.pair d d') (fun x => s x.1 ∧ s' x.2) := by
  intro H enc w base spare held n cs ys hyl hcl hy
  have h1 := hy i f hf
  have hi : i < ys.length := by rw [hyl]; exact (Array.getElem?_eq_some_iff.1 hf).1
  obtain ⟨hif, hfi⟩ := Array.getElem?_eq_some_iff.1 hf
  have hsz2 : (Kd.pair d d').sz = d.sz + d'.sz := rfl
  rw [ho, hsz, List.getElem?_eq_getElem hi] at h1
  obtain ⟨x, hK, hg⟩ := h H enc w base spare held n _ _ h1
  obtain ⟨x', hK', hg'⟩ := h' H enc w base spare held n cs ys hyl (by omega) hy
  refine ⟨(x, x'), ⟨_, _, ?_, hK, hK'⟩, fun hw => ⟨hg (fun m hm => hw m ?_), hg' (fun m hm => hw m ?_)⟩⟩
  · rw [← List.drop_drop, List.take_append_drop]
  · rw [List.drop_eq_getElem_cons hi, List.drop_eq_getElem_cons (by rw [Array.length_toList]; exact hif)]
    simp only [List.map_cons, DataW.weightsEach, List.mem_append, Array.getElem_toList]
    rw [hfi]
    exact .inl hm
  · rw [List.drop_eq_getElem_cons hi, List.drop_eq_getElem_cons (by rw [Array.length_toList]; exact hif)]
    simp only [List.map_cons, DataW.weightsEach, List.mem_append]
    exact .inr hm

theorem sopens_struct {t : TypeId} {fs : Array Field} {α : Type} {d : Kd α} {s : α → Prop} (ht : P.underlying t = some (.struct fs)) (hsz : P.cellsOf t = d.sz) (h : SOpensAt P fs 0 0 d s) : SOpens P t d s := by
  intro H enc w base spare held fuel cs y hy
  obtain ⟨ys, n, _, rfl, hcl, hyl, hf⟩ := DataW.trod_struct ht hy
  obtain ⟨x, hK, hg⟩ := h H enc w base spare held n cs ys hyl (by rw [hcl, hsz]; omega) hf
  refine ⟨x, hK, fun hw => hg (fun m hm => hw m ?_)⟩
  simp only [List.drop_zero] at hm
  simp only [DataW.weights, ht]
  exact hm

theorem sopens_iso {t : TypeId} {α β : Type} {d : Kd α} {s : α → Prop} (f : β → α) (f' : α → β) (hff : ∀ x, f (f' x) = x) (h : SOpens P t d s) : SOpens P t (Kd.iso d f) (fun x => s (f x)) := by
  intro H enc w base spare held fuel cs y hy
  obtain ⟨x, hK, hg⟩ := h H enc w base spare held fuel cs y hy
  refine ⟨f' x, ?_, fun hw => ?_⟩
  · show d.K w (f (f' x)) cs
    rw [hff]; exact hK
  · show s (f (f' x))
    rw [hff]; exact hg hw

/-- A struct argument. -/
theorem sopen_value {t : TypeId} {fs : Array Field} {α : Type} {d : Kd α} {s : α → Prop} (ht : P.underlying t = some (.struct fs)) (h : SOpens P t d s) {H : Type} {enc : TypeId × Value → H} {w : World} {base base' : Nat} {spare : Nat → Bool} {held : Bool}
    {v : Value} {y : DataW H} {p : List MemPlace} {r : Reach} (hv : Value.okWide P w r base' t v) (hr : DataW.Trod enc P w base spare held t v y p) : ∃ x cs, v = .agg cs ∧ d.K w x cs.toList ∧ ((∀ n ∈ y.weights P t, n ≤ reachBytes) → s x) := by
  obtain ⟨cs, rfl, _⟩ := okWide_struct ht hv
  obtain ⟨fuel, hf⟩ := hr
  obtain ⟨x, hK, hg⟩ := h H enc w base spare held fuel _ _ hf
  exact ⟨x, cs, rfl, by simpa [Value.cells] using hK, hg⟩

/-- An argument of one cell: v is what lies in it. -/
theorem sopen_one {t : TypeId} {α : Type} {d : Kd α} {s : α → Prop} (h : SOpens P t d s) {H : Type} {enc : TypeId × Value → H} {w : World} {base : Nat} {spare : Nat → Bool} {held : Bool}
    {v : Value} {y : DataW H} {p : List MemPlace} (hv : v.cells.toList = [v]) (hr : DataW.Trod enc P w base spare held t v y p) : ∃ x, d.K w x [v] ∧ ((∀ n ∈ y.weights P t, n ≤ reachBytes) → s x) := by
  obtain ⟨fuel, hf⟩ := hr
  obtain ⟨x, hK, hg⟩ := h H enc w base spare held fuel _ _ hf
  exact ⟨x, by rwa [hv] at hK, hg⟩
end
end Go.Proofs.Ytliiefkdgdflpaa.OpnS
