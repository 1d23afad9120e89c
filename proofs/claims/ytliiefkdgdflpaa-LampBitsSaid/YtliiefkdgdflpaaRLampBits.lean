/-
  tabulary's law LampBits holds of the program for every input.
  The conditions: none.
-/
import Derived.Test.YtliiefkdgdflpaaWLampBits
import Derived.Test.YtliiefkdgdflpaaOpen
import Derived.WalkKit
import Derived.ProofKit
import Derived.OpenShut
namespace Go.Proofs.Ytliiefkdgdflpaa.RLampBits
open Go.ChangeShapes Go.WideShapes Go.ChangeAt Go.RowKit Opn Lamp
set_option linter.unusedVariables false

theorem own : ownKnob Try.prog.godebug = none := by kernel_rfl
theorem laidOut : laidOutB Try.prog = true := by kernel_rfl

theorem okWide_array {P : Program} {w : World} {r : Reach} {base t n e : Nat} {v : Value} (ht : P.underlying t = some (.array n e)) (hv : Value.okWide P w r base t v) :
    ∃ cs, v = .agg cs ∧ cs.size = P.cellsOf t := by
  unfold Value.okWide at hv
  rw [ht] at hv
  obtain ⟨cs, rfl, hsz, _⟩ := hv
  exact ⟨cs, rfl, hsz⟩

theorem h32 : Try.prog.cellsOf 23 = 32 := by kernel_rfl
theorem h1 : Try.prog.cellsOf 5 = 1 := by kernel_rfl

set_option maxRecDepth 100000 in
theorem open_hash {H : Type} {enc : TypeId × Value → H} {w : World} {base base' : Nat} {spare : Nat → Bool} {held : Bool} {v : Value} {y : DataW H} {p : List MemPlace} {r : Reach}
    (hv : Value.okWide Try.prog w r base' 23 v) (hr : DataW.Trod enc Try.prog w base spare held 23 v y p) : ∃ (l : List Value) (f : Nat → Nat), v = .agg l.toArray ∧ IsArr l.toArray f := by
  obtain ⟨cs, rfl, hsz⟩ := okWide_array Try.underlying23 hv
  obtain ⟨fuel, hf⟩ := hr
  obtain ⟨xs, m, _, _, hc, hl, hi⟩ := DataW.trod_array Try.underlying23 hf
  rw [h32] at hsz
  have hcell : ∀ i, i < 32 → ∃ n : Nat, n < 256 ∧ cs[i]? = some (.int .u8 (n : Nat)) := by
    intro i hi32
    have hx := hi i hi32
    rw [h1, Nat.mul_one] at hx
    have hlt : i < xs.length := by omega
    rw [List.getElem?_eq_getElem hlt] at hx
    obtain ⟨n, hcs, _, hw⟩ := DataW.trod_int Try.underlying5 hx
    have hcl : (Value.cells (.agg cs)).toList = cs.toList := rfl
    have hb : cs[i]? = some (.int .u8 n) := by
      rw [← Array.getElem?_toList]
      have h0 : (((Value.cells (.agg cs)).toList.drop i).take 1)[0]? = ([Value.int .u8 n] : List Value)[0]? := by rw [hcs]
      rw [hcl] at h0
      simpa [List.getElem?_take, List.getElem?_drop] using h0
    have h8 : IntKind.u8.min = 0 := rfl
    have h9 : IntKind.u8.max = 255 := rfl
    simp only [Lit.wf, h8, h9, Bool.and_eq_true, decide_eq_true_eq] at hw
    refine ⟨n.toNat, by omega, ?_⟩
    rw [hb]
    congr 2
    omega
  refine ⟨cs.toList, fun i => if h : i < 32 then Classical.choose (hcell i h) else 0, rfl, hsz, ?_, ?_⟩
  · intro k
    by_cases h : k < 32
    · simp only [dif_pos h]; exact (Classical.choose_spec (hcell k h)).1
    · simp only [dif_neg h]; omega
  · intro k h
    simp only [dif_pos h]
    exact (Classical.choose_spec (hcell k h)).2

set_option maxRecDepth 100000 in
theorem lifted (os : Os) (started : os.Started) (H : Type) (enc : TypeId × Value → H) :
    ReturnsInHanded {} Try.checked os 3 .any (Rows.lampBitsSpec.pre6 enc Try.prog Try.f3 Rows.lampBitsRow.domain false) (Rows.lampBitsSpec.post enc Try.prog Try.f3 false true false false) := by
  refine returnsInHanded_of_change (C := Try.checked) own started (by kernel_rfl) Try.func3
    (ChangeSpec.witness6 (enc := enc) (C := Try.checked) false ⟨#[], #[.agg #[.int .u8 0, .int .u8 0, .int .u8 0, .int .u8 0, .int .u8 0, .int .u8 0, .int .u8 0, .int .u8 0, .int .u8 0, .int .u8 0, .int .u8 0, .int .u8 0, .int .u8 0, .int .u8 0, .int .u8 0, .int .u8 0, .int .u8 0, .int .u8 0, .int .u8 0, .int .u8 0, .int .u8 0, .int .u8 0, .int .u8 0, .int .u8 0, .int .u8 0, .int .u8 0, .int .u8 0, .int .u8 0, .int .u8 0, .int .u8 0, .int .u8 0, .int .u8 0], .agg #[.int .u8 0, .int .u8 0, .int .u8 0, .int .u8 0, .int .u8 0, .int .u8 0, .int .u8 0, .int .u8 0, .int .u8 0, .int .u8 0, .int .u8 0, .int .u8 0, .int .u8 0, .int .u8 0, .int .u8 0, .int .u8 0, .int .u8 0, .int .u8 0, .int .u8 0, .int .u8 0, .int .u8 0, .int .u8 0, .int .u8 0, .int .u8 0, .int .u8 0, .int .u8 0, .int .u8 0, .int .u8 0, .int .u8 0, .int .u8 0, .int .u8 0, .int .u8 0], .int .i64 0], []⟩ 8 (by kernel_rfl) (by kernel_rfl) (by kernel_rfl) (by kernel_rfl)) ?_
  intro W base args ds gs before hval0 hW hcnd _
  have hval : ∀ (j : Nat) t v, Try.f3.params[j]? = some t → args[j]? = some v → Value.okWide Try.prog W .any base t v := hval0
  have hW' := hW
  obtain ⟨p, q, hA0, hV, rfl, hfz, hnd⟩ := hW
  have hA : DataW.TrodAll enc Try.prog W 0 (fun _ => true) true Try.f3.params.toList args.toList ds p := hA0
  rw [Try.params3] at hA hval
  obtain ⟨v0, vs0, d0, ds0, p0, q0, hargs, rfl, rfl, h0, r0⟩ := trodAll_cons hA
  obtain ⟨v1, vs1, d1, ds1, p1, q1, rfl, rfl, rfl, h1, r1⟩ := trodAll_cons r0
  obtain ⟨v2, vs2, d2, ds2, p2, q2, rfl, rfl, rfl, h2, r2⟩ := trodAll_cons r1
  obtain ⟨rfl, rfl, rfl⟩ := trodAll_nil r2
  obtain rfl : args = #[v0, v1, v2] := by cases args; simp_all
  obtain ⟨rfl, rfl⟩ := trodVars_none hV
  have k0 := h0
  have lt0 : ∀ x ∈ p0, x.block < W.heap.size := by obtain ⟨m, hm⟩ := k0; exact DataW.trod_lt m _ _ _ hm
  obtain ⟨l, f, rfl, hl⟩ := open_hash (hval 0 23 v0 rfl rfl) h0
  have k1 := h1
  have lt1 : ∀ x ∈ p1, x.block < W.heap.size := by obtain ⟨m, hm⟩ := k1; exact DataW.trod_lt m _ _ _ hm
  obtain ⟨k, g, rfl, hk⟩ := open_hash (hval 1 23 v1 rfl rfl) h1
  have k2 := h2
  have lt2 : ∀ x ∈ p2, x.block < W.heap.size := by obtain ⟨m, hm⟩ := k2; exact DataW.trod_lt m _ _ _ hm
  obtain ⟨i, rfl, _⟩ := open_int Try.underlying3 (hval 2 3 v2 rfl rfl) h2
  clear hA0 hval0
  have hi4 : i < 0 ∨ 255 < i ∨ (31 < i ∧ i ≤ 255) ∨ ∃ n : Nat, n ≤ 31 ∧ i = n := by
    rcases Int.lt_or_le i 0 with h | h
    · exact .inl h
    · rcases Int.lt_or_le 255 i with h' | h'
      · exact .inr (.inl h')
      · rcases Int.lt_or_le 31 i with h'' | h''
        · exact .inr (.inr (.inl ⟨h'', h'⟩))
        · exact .inr (.inr (.inr ⟨i.toNat, by omega, by omega⟩))
  refine (WLampBits.main l k f g hl hk i W hi4).mono fun e W' ⟨he, bel⟩ => ?_
  subst he
  exact ⟨_, rfl, _, _, _, [], _, [], hW', trodAll_mk1 (shut_bool Try.underlying4 _), (trodAll_cons_mk (Below.trod laidOut (by kernel_rfl) (of_decide_eq_true (by kernel_rfl)) k0 bel lt0) (trodAll_cons_mk (Below.trod laidOut (by kernel_rfl) (of_decide_eq_true (by kernel_rfl)) k1 bel lt1) (trodAll_cons_mk (Below.trod laidOut (by kernel_rfl) (of_decide_eq_true (by kernel_rfl)) k2 bel lt2) (trodAll_mk0)))), rfl, bel.frame _, fun h => by cases h⟩

theorem proved : Rows.LampBitsSaid :=
  OpenClaim.holds_of_wide 3 Try.f3 rfl rfl rfl rfl rfl rfl rfl ⟨rfl, rfl, rfl, rfl, rfl⟩ rfl rfl rfl rfl rfl (by kernel_rfl) Try.func3 (by kernel_rfl)
    (of_decide_eq_true (by kernel_rfl)) (by unfold Func.isWrapper; first | (rw [if_pos (by decide +kernel)]; kernel_rfl) | (rw [if_neg (by decide +kernel)]; exact ⟨rfl, rfl⟩))
    (fun os started H enc _ => lifted os started H enc)
#print axioms proved
end Go.Proofs.Ytliiefkdgdflpaa.RLampBits
