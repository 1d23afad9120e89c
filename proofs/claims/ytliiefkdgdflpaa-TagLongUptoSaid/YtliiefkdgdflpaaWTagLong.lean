/-
  TagLong's walk.
-/
import Derived.Test.YtliiefkdgdflpaaKTagLong
import Derived.Test.YtliiefkdgdflpaaTagLaw
namespace Go.Proofs.Ytliiefkdgdflpaa.WTagLong
open Go.RowKit Go.Proofs.YtliiefkdgdflpaaW.PrintWords Go.Proofs.YtliiefkdgdflpaaW.PrintLast TagBytes TagText TagLaw KTagLong
set_option linter.unusedVariables false

theorem textS (kind : Int) (A : Option Addr) (c n : Nat) (xs : List ByteArray) (S : ByteArray) (hS : (⟨(hd kind xs.length ++ body xs).toArray⟩ : ByteArray) = S) (hn : xs.length = n) (w : World) (h0 : 0 ≤ kind) (h1 : kind ≤ 255) (h : xs.length ≤ 65536) (hC : Kd.string.C w A xs.length xs) (htot : 5 + (body xs).length ≤ 140737488355328) (hsz : ∀ p ∈ xs, p.size ≤ 9223372036854775807) :
    Calls Try.prog 34 #[.int .i64 kind, .slice A n c] w fun e w' => e = .returned (.tuple #[.string S, .int .i64 0]) ∧ Below w.heap.size w w' := by
  subst hS hn
  exact text_ok kind A c xs w h0 h1 h hC htot hsz

def ab : ByteArray := ⟨#[97, 98]⟩
theorem ab_row (w : World) : Kd.string.C (w.alloc (.cells #[.string ⟨#[97, 98]⟩] 9)) (some ⟨w.heap.size, 0, none⟩) 1 [ab] := by
  refine ⟨rfl, by decide, fun _ => ⟨_, rfl, fun j p hj => ?_⟩⟩
  have h0 : j = 0 := by
    have := (List.getElem?_eq_some_iff.1 hj).1
    simp at this; exact this
  subst h0
  obtain rfl : ab = p := by simpa using hj
  refine ⟨[.string ab], rfl, rfl, fun i u hu => ?_⟩
  rw [Nat.zero_mul, add_none, blk_cell (blk_new w _), Nat.zero_add, Nat.zero_add]
  simpa [ab] using hu

theorem ab_sz : ∀ p ∈ [ab], p.size ≤ 9223372036854775807 := by
  intro p hp
  obtain rfl : p = ab := by simpa using hp
  decide

set_option maxRecDepth 100000 in
theorem shownC (w : World) : Calls Try.prog 32 #[] w fun e w' => e = .returned (.bool true) ∧ Below w.heap.size w w' := by
  have hR := Lib.hid (ab_row w)
  have L0 := Lib.hid (below_alloc (Below.refl _ w) (.cells #[.string ⟨#[97, 98]⟩] 9))
  go_enter Try.func32, Try.ntmps32
  go_wp2_with fail
  refine (textS 1 (some ⟨w.heap.size, 0, none⟩) 1 1 [ab] ⟨#[1, 0, 0, 0, 1, 0, 0, 0, 0, 0, 0, 0, 2, 97, 98]⟩ (by decide +kernel) rfl _ (by decide) (by decide) (by decide) hR.out (by decide +kernel) ab_sz).mono ?_
  rintro e w1 ⟨rfl, hb⟩
  have L1 := Lib.hid (below_then L0.out L0.out.size hb)
  clear hb
  go_wp2_with fail
  go_ret
  exact ⟨rfl, L1.out⟩

set_option maxRecDepth 100000 in
set_option maxHeartbeats 4000000 in
theorem core (w : World) (kind : Int) (xs : List ByteArray) (A : Option Addr) (c : Nat) (hC : Kd.string.C w A xs.length xs) (hc : xs.length ≤ c) (hb : xs.length + lsum xs ≤ 1048576) (hsz : ∀ p ∈ xs, p.size ≤ 9223372036854775807) :
    Calls Try.prog 11 #[.int .i64 kind, .slice A xs.length c] w fun e w' => e = .returned (.bool true) ∧ Below w.heap.size w w' := by
  have HC := Lib.hid hC
  have HS := Lib.hid hsz
  clear hC hsz
  obtain ⟨N, hN⟩ : ∃ N, N = xs.length + lsum xs := ⟨_, rfl⟩
  have hlf := long_f xs hb
  rw [← hN] at hlf hb
  have hNl : xs.length ≤ N := by omega
  have hbl := body_length xs
  replace hlf := Lib.hid hlf
  replace hN := Lib.hid hN
  replace hbl := Lib.hid hbl
  go_enter Try.func11, Try.ntmps11
  go_wp2_with fail
  refine (shownC _).mono ?_
  rintro e w1 ⟨rfl, hb1⟩
  have L1 := Lib.hid hb1
  clear hb1
  go_wp2_with fail
  refine (PTagLong.tabularyref03_Long.calls (xs.length + 1) A c xs N _ (Kd.C_below HC.out L1.out) hc hlf.out).mono ?_
  rintro e w2 ⟨rfl, hd2⟩
  have L2 := Lib.hid (below_then L1.out L1.out.size hd2.below)
  clear hd2
  by_cases hbig : (N : Int) > 5000
  · go_wp2_with fail
    go_ret
    exact ⟨rfl, L2.out⟩
  · rcases Int.lt_or_le kind 0 with hk | hk
    · go_wp2_with fail
      refine (text_arg kind A xs.length c _ (.inl hk)).mono ?_
      rintro e w3 ⟨rfl, hb3⟩
      have L3 := Lib.hid (below_then L2.out L2.out.size hb3)
      clear hb3
      go_wp2_with fail
      go_ret
      exact ⟨rfl, L3.out⟩
    rcases Int.lt_or_le 255 kind with hk2 | hk2
    · go_wp2_with fail
      refine (text_arg kind A xs.length c _ (.inr hk2)).mono ?_
      rintro e w3 ⟨rfl, hb3⟩
      have L3 := Lib.hid (below_then L2.out L2.out.size hb3)
      clear hb3
      go_wp2_with fail
      go_ret
      exact ⟨rfl, L3.out⟩
    · obtain ⟨S, hS⟩ : ∃ S : ByteArray, (⟨(hd kind xs.length ++ body xs).toArray⟩ : ByteArray) = S := ⟨_, rfl⟩
      have hSz : S.size = 5 + N + 7 * xs.length := by
        have h1 : S.size = (hd kind xs.length ++ body xs).length := by rw [← hS]; simp [ByteArray.size]
        rw [h1, List.length_append, hd_length, hbl.out, hN.out]; omega
      have h0S : 0 < S.size := by omega
      have hS0 : ((S[0].toNat : Nat) : Int) = kind := by
        subst hS
        have h2 : (hd kind xs.length ++ body xs)[0]? = some (UInt8.ofNat (kind % 256).toNat) := by
          unfold hd
          simp [be, strOfNums]
        have h3 : (⟨(hd kind xs.length ++ body xs).toArray⟩ : ByteArray)[0] = UInt8.ofNat (kind % 256).toNat := by
          have h4 := List.getElem?_eq_some_iff.1 h2
          exact h4.2
        rw [h3, UInt8.toNat_ofNat']
        omega
      replace hS := Lib.hid hS
      go_wp2_with fail
      refine (textS kind A c xs.length xs S hS.out rfl _ hk hk2 (by omega) (Kd.C_below HC.out L2.out) (by rw [hbl.out]; have := hN.out; omega) HS.out).mono ?_
      rintro e w3 ⟨rfl, hb3⟩
      have L3 := Lib.hid (below_then L2.out L2.out.size hb3)
      clear hb3
      go_wp2_with fail
      go_ret
      exact ⟨rfl, L3.out⟩

theorem len_le : ∀ xs : List ByteArray, xs.length + lsum xs ≤ (xs.map b9).sum := by
  intro xs
  induction xs with
  | nil => simp [lsum]
  | cons x xs ih =>
    have : b9 x = x.size + 1 := rfl
    simp only [List.length_cons, List.map_cons, List.sum_cons, lsum]
    omega

theorem walk (w : World) (x0 : Int) (v0 : Value) (hK0 : kd3.K w x0 [v0]) (hg0 : g3 x0) (x1 : (List ByteArray)) (v1 : Value) (hK1 : kd61.K w x1 [v1]) (hg1 : g61 x1) (hb : b3 x0 + b61 x1 ≤ 1048576) :
    Calls Try.prog 11 #[v0, v1] w fun e w' => e = .returned (.bool true) ∧ Below w.heap.size w w' := by
  obtain ⟨A, c, h1, hc, hC⟩ := hK1
  cases hK0
  cases h1
  have l1 := len_le x1
  simp only [b61] at hb
  exact core w x0 x1 A c hC hc (by omega) (fun p hp => hg1.2 p hp)
end Go.Proofs.Ytliiefkdgdflpaa.WTagLong
