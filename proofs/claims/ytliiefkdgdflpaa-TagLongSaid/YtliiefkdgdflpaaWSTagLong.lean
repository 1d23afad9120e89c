/-
  TagLong's walk, for every input.
-/
import Derived.Test.YtliiefkdgdflpaaKSTagLong
import Derived.Test.YtliiefkdgdflpaaTagShown
import Derived.Test.YtliiefkdgdflpaaTagAny
namespace Go.Proofs.Ytliiefkdgdflpaa.WSTagLong
open Go.RowKit Go.Proofs.YtliiefkdgdflpaaW.PrintWords Go.Proofs.YtliiefkdgdflpaaW.PrintLast TagBytes TagText TagLaw TagShown TagAny KSTagLong
set_option linter.unusedVariables false

set_option maxRecDepth 100000 in
set_option maxHeartbeats 4000000 in
theorem few (w : World) (kind : Int) (xs : List ByteArray) (A : Option Addr) (c : Nat) (hC : Kd.string.C w A xs.length xs) (hc : xs.length ≤ c) (hlen : xs.length ≤ 65536) (hsz0 : ∀ p ∈ xs, p.size ≤ 140737488351232) :
    Calls Try.prog 11 #[.int .i64 kind, .slice A xs.length c] w fun e w' => e = .returned (.bool true) ∧ Below w.heap.size w w' := by
  have hlf := few_f xs hlen hsz0
  have hsz : ∀ p ∈ xs, p.size ≤ 9223372036854775807 := fun p hp => Nat.le_trans (hsz0 p hp) (by omega)
  have HC := Lib.hid hC
  have HS := Lib.hid hsz
  clear hC hsz hsz0
  obtain ⟨N, hN⟩ : ∃ N, N = xs.length + lsum xs := ⟨_, rfl⟩
  rw [← hN] at hlf
  have hNl : xs.length ≤ N := by omega
  have hbl := body_length xs
  replace hlf := Lib.hid hlf
  replace hN := Lib.hid hN
  replace hbl := Lib.hid hbl
  go_enter Try.func11, Try.ntmps11
  go_wp2_with fail
  refine (shownC _).mono ?_
  rintro e w1 ⟨rfl, hb1⟩
  have L1 := Lib.hid hb1
  clear hb1
  go_wp2_with fail
  refine (PTagLong.tabularyref03_Long.calls (xs.length + 1) A c xs N _ (Kd.C_below HC.out L1.out) hc hlf.out).mono ?_
  rintro e w2 ⟨rfl, hd2⟩
  have L2 := Lib.hid (below_then L1.out L1.out.size hd2.below)
  clear hd2
  by_cases hbig : (N : Int) > 5000
  · go_wp2_with fail
    go_ret
    exact ⟨rfl, L2.out⟩
  · rcases Int.lt_or_le kind 0 with hk | hk
    · go_wp2_with fail
      refine (text_arg kind A xs.length c _ (.inl hk)).mono ?_
      rintro e w3 ⟨rfl, hb3⟩
      have L3 := Lib.hid (below_then L2.out L2.out.size hb3)
      clear hb3
      go_wp2_with fail
      go_ret
      exact ⟨rfl, L3.out⟩
    rcases Int.lt_or_le 255 kind with hk2 | hk2
    · go_wp2_with fail
      refine (text_arg kind A xs.length c _ (.inr hk2)).mono ?_
      rintro e w3 ⟨rfl, hb3⟩
      have L3 := Lib.hid (below_then L2.out L2.out.size hb3)
      clear hb3
      go_wp2_with fail
      go_ret
      exact ⟨rfl, L3.out⟩
    · obtain ⟨S, hS⟩ : ∃ S : ByteArray, (⟨(hd kind xs.length ++ body xs).toArray⟩ : ByteArray) = S := ⟨_, rfl⟩
      have hSz : S.size = 5 + N + 7 * xs.length := by
        have h1 : S.size = (hd kind xs.length ++ body xs).length := by rw [← hS]; simp [ByteArray.size]
        rw [h1, List.length_append, hd_length, hbl.out, hN.out]; omega
      have h0S : 0 < S.size := by omega
      have hS0 : ((S[0].toNat : Nat) : Int) = kind := by
        subst hS
        have h2 : (hd kind xs.length ++ body xs)[0]? = some (UInt8.ofNat (kind % 256).toNat) := by
          unfold hd
          simp [be, strOfNums]
        have h3 : (⟨(hd kind xs.length ++ body xs).toArray⟩ : ByteArray)[0] = UInt8.ofNat (kind % 256).toNat := by
          have h4 := List.getElem?_eq_some_iff.1 h2
          exact h4.2
        rw [h3, UInt8.toNat_ofNat']
        omega
      replace hS := Lib.hid hS
      go_wp2_with fail
      refine (textS kind A c xs.length xs S hS.out rfl _ hk hk2 (by omega) (Kd.C_below HC.out L2.out) (by rw [hbl.out]; have := hN.out; omega) HS.out).mono ?_
      rintro e w3 ⟨rfl, hb3⟩
      have L3 := Lib.hid (below_then L2.out L2.out.size hb3)
      clear hb3
      go_wp2_with fail
      go_ret
      exact ⟨rfl, L3.out⟩

set_option maxRecDepth 100000 in
set_option maxHeartbeats 4000000 in
/-- more parts than may be: no text -/
theorem lots (w : World) (kind : Int) (xs : List ByteArray) (A : Option Addr) (c : Nat) (hC : Kd.string.C w A xs.length xs) (hc : xs.length ≤ c) (hlen : 65536 < xs.length) (hl : xs.length ≤ 4611686018427387904) :
    Calls Try.prog 11 #[.int .i64 kind, .slice A xs.length c] w fun e w' => e = .returned (.bool true) ∧ Below w.heap.size w w' := by
  have hlf := any_f xs hl
  have HC := Lib.hid hC
  clear hC
  obtain ⟨r, hr⟩ : ∃ r, fold64 (xs.length : Int) xs = r := ⟨_, rfl⟩
  rw [hr] at hlf
  clear hr
  replace hlf := Lib.hid hlf
  go_enter Try.func11, Try.ntmps11
  go_wp2_with fail
  refine (shownC _).mono ?_
  rintro e w1 ⟨rfl, hb1⟩
  have L1 := Lib.hid hb1
  clear hb1
  go_wp2_with fail
  refine (PTagLong.tabularyref03_Long.calls (xs.length + 1) A c xs r _ (Kd.C_below HC.out L1.out) hc hlf.out).mono ?_
  rintro e w2 ⟨rfl, hd2⟩
  have L2 := Lib.hid (below_then L1.out L1.out.size hd2.below)
  clear hd2
  by_cases hbig : r > 5000
  · go_wp2_with fail
    go_ret
    exact ⟨rfl, L2.out⟩
  · by_cases hk : kind < 0 ∨ 255 < kind
    · go_wp2_with fail
      refine (text_arg kind A xs.length c _ hk).mono ?_
      rintro e w3 ⟨rfl, hb3⟩
      have L3 := Lib.hid (below_then L2.out L2.out.size hb3)
      clear hb3
      go_wp2_with fail
      go_ret
      exact ⟨rfl, L3.out⟩
    · go_wp2_with fail
      refine (text_big kind A xs.length c _ (by omega) (by omega) hlen).mono ?_
      rintro e w3 ⟨rfl, hb3⟩
      have L3 := Lib.hid (below_then L2.out L2.out.size hb3)
      clear hb3
      go_wp2_with fail
      go_ret
      exact ⟨rfl, L3.out⟩

theorem b9 : Try.prog.bytesOf 9 = 16 := by kernel_rfl

theorem walk (w : World) (x0 : Int) (v0 : Value) (hK0 : kd3.K w x0 [v0]) (hs0 : s3 x0) (x1 : (List ByteArray)) (v1 : Value) (hK1 : kd61.K w x1 [v1]) (hs1 : s61 x1) :
    Calls Try.prog 11 #[v0, v1] w fun e w' => e = .returned (.bool true) ∧ Below w.heap.size w w' := by
  obtain ⟨A, c, h1, hc, hC⟩ := hK1
  cases hK0
  cases h1
  obtain ⟨hl, hs⟩ := hs1
  have hl' : x1.length * 16 ≤ 140737488351232 := by rw [b9] at hl; exact hl
  by_cases hlen : x1.length ≤ 65536
  · exact few w x0 x1 A c hC hc hlen hs
  · exact lots w x0 x1 A c hC hc (by omega) (by omega)
end Go.Proofs.Ytliiefkdgdflpaa.WSTagLong
