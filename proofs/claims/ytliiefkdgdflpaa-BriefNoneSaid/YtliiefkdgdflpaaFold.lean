/-
  What joining briefs one behind the other tells, in plain Lean.
-/
import Derived.Test.YtliiefkdgdflpaaAll
namespace Go.Proofs.Ytliiefkdgdflpaa.All
open BriefLaw

def sumM : List Br → Int
  | [] => 0
  | z :: zs => z.many + sumM zs
theorem sumM_snoc (zs : List Br) (z : Br) : sumM (zs ++ [z]) = sumM zs + z.many := by
  induction zs with
  | nil => simp [sumM]
  | cons y ys ih => simp only [List.cons_append, sumM, ih]; omega
theorem sumM_bound (zs : List Br) (h : ∀ z ∈ zs, Ok z ∧ z.many ≤ 1099511627776) : 0 ≤ sumM zs ∧ sumM zs ≤ zs.length * 1099511627776 := by
  induction zs with
  | nil => simp [sumM]
  | cons y ys ih =>
    have h1 := ih (fun z hz => h z (List.mem_cons_of_mem _ hz))
    have h2 := h y List.mem_cons_self
    have h3 := ok_many y h2.1
    simp only [sumM, List.length_cons]
    omega
theorem fold_facts : ∀ (zs : List Br) (x : Br), Ok x → (∀ z ∈ zs, Ok z ∧ z.many ≤ 1099511627776) → x.many + zs.length * 1099511627776 < 18446744073709551616 →
    Ok (fold x zs) ∧ (fold x zs).many = x.many + sumM zs := by
  intro zs
  induction zs with
  | nil => intro x hx _ _; exact ⟨hx, by simp [fold, sumM]⟩
  | cons y ys ih =>
    intro x hx h hb
    have h2 := h y List.mem_cons_self
    have h3 := ok_many y h2.1
    have h4 := ok_many x hx
    simp only [List.length_cons] at hb
    have hs : x.many + y.many < 18446744073709551616 := by omega
    have hm := join_many x y hx h2.1 hs
    have ho := join_ok x y hx h2.1 hs
    obtain ⟨i1, i2⟩ := ih (join x y) ho (fun z hz => h z (List.mem_cons_of_mem _ hz)) (by omega)
    refine ⟨i1, ?_⟩
    show (fold (join x y) ys).many = _
    rw [i2, hm]
    simp only [sumM]; omega
theorem fold_join : ∀ (zs : List Br) (x y : Br), Ok x → Ok y → (∀ z ∈ zs, Ok z ∧ z.many ≤ 1099511627776) → x.many + y.many + zs.length * 1099511627776 < 18446744073709551616 →
    fold (join x y) zs = join x (fold y zs) := by
  intro zs
  induction zs with
  | nil => intro x y _ _ _ _; rfl
  | cons z zs ih =>
    intro x y hx hy h hb
    have h2 := h z List.mem_cons_self
    have h3 := ok_many z h2.1
    have h4 := ok_many x hx
    have h5 := ok_many y hy
    simp only [List.length_cons] at hb
    show fold (join (join x y) z) zs = join x (fold (join y z) zs)
    rw [join_assoc x y z hx hy h2.1 (by omega)]
    have hm := join_many y z hy h2.1 (by omega)
    exact ih x (join y z) hx (join_ok y z hy h2.1 (by omega)) (fun u hu => h u (List.mem_cons_of_mem _ hu)) (by omega)
theorem ok_none : Ok none0 := .inl rfl
theorem fold_append (a b : List Br) (ha : ∀ z ∈ a ++ b, Ok z ∧ z.many ≤ 1099511627776) (hl : (a ++ b).length ≤ 1000) :
    fold none0 (a ++ b) = join (fold none0 a) (fold none0 b) := by
  rw [List.length_append] at hl
  have h1 : fold none0 (a ++ b) = fold (fold none0 a) b := by simp [fold]
  have hz : none0.many = 0 := rfl
  have ha' : ∀ z ∈ a, Ok z ∧ z.many ≤ 1099511627776 := fun z hz => ha z (List.mem_append_left _ hz)
  have hb' : ∀ z ∈ b, Ok z ∧ z.many ≤ 1099511627776 := fun z hz => ha z (List.mem_append_right _ hz)
  have h2 := fold_facts a none0 ok_none ha' (by omega)
  have h3 := sumM_bound a ha'
  rw [h1]
  have h4 := fold_join b (fold none0 a) none0 h2.1 ok_none hb' (by omega)
  rw [join_none _ h2.1] at h4
  exact h4
end Go.Proofs.Ytliiefkdgdflpaa.All
