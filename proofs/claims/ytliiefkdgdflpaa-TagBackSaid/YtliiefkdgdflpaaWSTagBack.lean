/-
  TagBack's walk, for every input.
-/
import Derived.Test.YtliiefkdgdflpaaKSTagBack
import Derived.Test.YtliiefkdgdflpaaTagShown
import Derived.Test.YtliiefkdgdflpaaTagAny
import Derived.Test.YtliiefkdgdflpaaTagCall
namespace Go.Proofs.Ytliiefkdgdflpaa.WSTagBack
open Go.RowKit Go.Proofs.YtliiefkdgdflpaaW.PrintWords Go.Proofs.YtliiefkdgdflpaaW.PrintLast TagBytes TagText TagLaw TagShown TagParse TagCall TagAny KSTagBack
set_option linter.unusedVariables false

set_option maxRecDepth 100000 in
set_option maxHeartbeats 4000000 in
theorem few (w : World) (kind cut : Int) (xs : List ByteArray) (A : Option Addr) (c : Nat) (more : ByteArray) (hC : Kd.string.C w A xs.length xs) (hc : xs.length ≤ c) (hlen : xs.length ≤ 65536) (hm : more.size ≤ 140737488351232) (hsz0 : ∀ p ∈ xs, p.size ≤ 140737488351232) :
    Calls Try.prog 14 #[.agg #[.int .i64 kind, .slice A xs.length c, .int .i64 cut, .string more]] w fun e w' => e = .returned (.bool true) ∧ Below w.heap.size w w' := by
  have hlf := few_f xs hlen hsz0
  have hsz : ∀ p ∈ xs, p.size ≤ 9223372036854775807 := fun p hp => Nat.le_trans (hsz0 p hp) (by omega)
  have HC := Lib.hid hC
  have HS := Lib.hid hsz
  clear hC hsz hsz0
  obtain ⟨N, hN⟩ : ∃ N, N = xs.length + lsum xs := ⟨_, rfl⟩
  rw [← hN] at hlf
  have hNl : xs.length ≤ N := by omega
  have hbl := body_length xs
  replace hlf := Lib.hid hlf
  replace hN := Lib.hid hN
  replace hbl := Lib.hid hbl
  have L0 := Lib.hid (below_alloc (Below.refl _ w) (.cells #[.int .i64 kind, .slice A xs.length c, .int .i64 cut, .string more] 74))
  go_enter Try.func14, Try.ntmps14
  go_wp2_with fail
  refine (shownC _).mono ?_
  rintro e w1 ⟨rfl, hb1⟩
  have L1 := Lib.hid (below_then L0.out L0.out.size hb1)
  clear hb1
  go_wp2_with fail
  refine (PTagLong.tabularyref03_Long.calls (xs.length + 1) A c xs N _ (Kd.C_below HC.out L1.out) hc hlf.out).mono ?_
  rintro e w2 ⟨rfl, hd2⟩
  have L2 := Lib.hid (below_then L1.out L1.out.size hd2.below)
  clear hd2
  by_cases hbig : (N : Int) > 5000
  · go_wp2_with fail
    go_ret
    exact ⟨rfl, L2.out⟩
  · rcases Int.lt_or_le kind 0 with hk | hk
    · go_wp2_with fail
      refine (text_arg kind A xs.length c _ (.inl hk)).mono ?_
      rintro e w3 ⟨rfl, hb3⟩
      have L3 := Lib.hid (below_then L2.out L2.out.size hb3)
      clear hb3
      go_wp2_with fail
      go_ret
      exact ⟨rfl, L3.out⟩
    rcases Int.lt_or_le 255 kind with hk2 | hk2
    · go_wp2_with fail
      refine (text_arg kind A xs.length c _ (.inr hk2)).mono ?_
      rintro e w3 ⟨rfl, hb3⟩
      have L3 := Lib.hid (below_then L2.out L2.out.size hb3)
      clear hb3
      go_wp2_with fail
      go_ret
      exact ⟨rfl, L3.out⟩
    · have hNN := hN.out
      obtain ⟨S, hS⟩ : ∃ S : ByteArray, (⟨(hd kind xs.length ++ body xs).toArray⟩ : ByteArray) = S := ⟨_, rfl⟩
      have hSz : S.size = 5 + N + 7 * xs.length := by
        have h1 : S.size = (hd kind xs.length ++ body xs).length := by rw [← hS]; simp [ByteArray.size]
        rw [h1, List.length_append, hd_length, hbl.out, hN.out]; omega
      have hSb : bytesOf S = text kind (xs.map bytesOf) := by rw [← hS]; exact bytes_text kind xs hk hk2
      have hps : ∀ p ∈ xs.map bytesOf, (p.length : Int) < 18446744073709551616 := by
        intro p hp
        obtain ⟨x, hx, rfl⟩ := List.mem_map.1 hp
        rw [bytesOf_length]
        have := HS.out x hx
        omega
      have hp1 := Lib.hid (parse_text kind (xs.map bytesOf) (by rw [List.length_map]; exact hlen) hps)
      have hp2 := Lib.hid (parse_more kind (xs.map bytesOf) (bytesOf more) (by rw [List.length_map]; exact hlen) hps)
      have hp3 := Lib.hid (fun k => parse_cut kind (xs.map bytesOf) k (by rw [List.length_map]; exact hlen) hps)
      rw [← hSb] at hp1 hp2 hp3
      replace hS := Lib.hid hS
      clear hSb hps
      replace hNN := Lib.hid hNN
      have hSs : S.size ≤ 100000 := by omega
      replace hSz := Lib.hid hSz
      go_wp2_with fail
      refine (textS kind A c xs.length xs S hS.out rfl _ hk hk2 hlen (Kd.C_below HC.out L2.out) (by rw [hbl.out]; have := hN.out; omega) HS.out).mono ?_
      rintro e w3 ⟨rfl, hb3⟩
      have L3 := Lib.hid (below_then L2.out L2.out.size hb3)
      clear hb3
      go_wp2_with fail
      refine (partsC S (by omega) kind (xs.map bytesOf) 0 hp1.out _).mono ?_
      rintro e w4 ⟨hb4, A4, c4, ys, rfl, hys, hc4, hC4⟩
      obtain rfl := bytes_inj_map hys
      clear hys
      have L4 := Lib.hid (below_then L3.out L3.out.size hb4)
      replace hC4 := Lib.hid hC4
      clear hb4
      go_wp2_with fail
      refine (PTagBack.tabularyref03_Strings.calls (ys.length + 1) A4 c4 ys A c ys true _ hC4.out hc4 (Kd.C_below HC.out L4.out) hc (by rw [strings_f ys ys (by omega)]; simp)).mono ?_
      rintro e w5 ⟨rfl, hd5⟩
      have L5 := Lib.hid (below_then L4.out L4.out.size hd5.below)
      clear hd5
      have hap : bytesOf (S ++ more) = bytesOf S ++ bytesOf more := by
        unfold bytesOf
        rw [← List.map_append]
        congr 1
      rw [← hap] at hp2
      clear hap
      obtain ⟨k6, ps6, e6, tb, hpp, h6, hme⟩ : ∃ (k6 : Int) (ps6 : List (List Int)) (e6 : Int) (tb : Bool), parse (bytesOf (S ++ more)) = (k6, ps6, e6) ∧ ((tb = true ∧ e6 = 0) ∨ (tb = false ∧ e6 = 3)) ∧ (more.toList == []) = tb := by
        by_cases hmore : bytesOf more = []
        · have h := hp2.out
          rw [if_pos hmore] at h
          exact ⟨_, _, _, true, h, .inl ⟨rfl, rfl⟩, by rw [TagEach.emp_iff]; exact decide_eq_true hmore⟩
        · have h := hp2.out
          rw [if_neg hmore] at h
          exact ⟨_, _, _, false, h, .inr ⟨rfl, rfl⟩, by rw [TagEach.emp_iff]; exact decide_eq_false hmore⟩
      replace hpp := Lib.hid hpp
      clear hp2
      go_wp2_with fail
      refine (partsC (S ++ more) (by rw [ByteArray.size_append]; omega) k6 ps6 e6 hpp.out _).mono ?_
      rintro e w6 ⟨hb6, A6, c6, zs, rfl, hzs, hc6, hC6⟩
      have L6 := Lib.hid (below_then L5.out L5.out.size hb6)
      clear hb6 hzs hC6 hc6
      by_cases hcut : 0 ≤ cut ∧ cut < (S.size : Int)
      · obtain ⟨hc0, hc1⟩ := hcut
        have hx : bytesOf (S.extract 0 cut.toNat) = (bytesOf S).take cut.toNat := by rw [TagEach.bytes_extract]; rfl
        have hp7 := hp3.out cut.toNat (by rw [bytesOf_length]; omega)
        rw [← hx] at hp7
        have hxs : (S.extract 0 cut.toNat).size < 4611686018427387904 := by rw [← bytesOf_length, hx, List.length_take, bytesOf_length]; omega
        clear hx
        obtain ⟨k7, ps7, e7, hq7⟩ : ∃ k7 ps7 e7, parse (bytesOf (S.extract 0 cut.toNat)) = (k7, ps7, e7) := ⟨_, _, _, rfl⟩
        rw [hq7] at hp7
        obtain rfl : e7 = 2 := hp7
        replace hq7 := Lib.hid hq7
        rcases h6 with ⟨rfl, rfl⟩ | ⟨rfl, rfl⟩
        all_goals
          go_wp2_with fail
          refine (partsC (S.extract 0 cut.toNat) hxs k7 ps7 2 hq7.out _).mono ?_
          rintro e w7 ⟨hb7, A7, c7, ts, rfl, hts, hc7, hC7⟩
          have L7 := Lib.hid (below_then L6.out L6.out.size hb7)
          clear hb7 hts hC7 hc7
          go_wp2_with fail
          go_ret
          exact ⟨rfl, L7.out⟩
      · rcases (by omega : cut < 0 ∨ (S.size : Int) ≤ cut) with hcc | hcc
        all_goals
          rcases h6 with ⟨rfl, rfl⟩ | ⟨rfl, rfl⟩
          all_goals
            go_wp2_with fail
            go_ret
            exact ⟨rfl, L6.out⟩

set_option maxRecDepth 100000 in
set_option maxHeartbeats 4000000 in
/-- more parts than may be: no text -/
theorem lots (w : World) (kind cut : Int) (xs : List ByteArray) (A : Option Addr) (c : Nat) (more : ByteArray) (hC : Kd.string.C w A xs.length xs) (hc : xs.length ≤ c) (hlen : 65536 < xs.length) (hl : xs.length ≤ 4611686018427387904) :
    Calls Try.prog 14 #[.agg #[.int .i64 kind, .slice A xs.length c, .int .i64 cut, .string more]] w fun e w' => e = .returned (.bool true) ∧ Below w.heap.size w w' := by
  have hlf := any_f xs hl
  have HC := Lib.hid hC
  clear hC
  have hli : (65536 : Int) < (xs.length : Int) := by omega
  obtain ⟨r, hr⟩ : ∃ r, fold64 (xs.length : Int) xs = r := ⟨_, rfl⟩
  rw [hr] at hlf
  clear hr
  replace hlf := Lib.hid hlf
  have L0 := Lib.hid (below_alloc (Below.refl _ w) (.cells #[.int .i64 kind, .slice A xs.length c, .int .i64 cut, .string more] 74))
  go_enter Try.func14, Try.ntmps14
  go_wp2_with fail
  refine (shownC _).mono ?_
  rintro e w1 ⟨rfl, hb1⟩
  have L1 := Lib.hid (below_then L0.out L0.out.size hb1)
  clear hb1
  go_wp2_with fail
  refine (PTagLong.tabularyref03_Long.calls (xs.length + 1) A c xs r _ (Kd.C_below HC.out L1.out) hc hlf.out).mono ?_
  rintro e w2 ⟨rfl, hd2⟩
  have L2 := Lib.hid (below_then L1.out L1.out.size hd2.below)
  clear hd2
  by_cases hbig : r > 5000
  · go_wp2_with fail
    go_ret
    exact ⟨rfl, L2.out⟩
  · by_cases hk : kind < 0
    · go_wp2_with fail
      refine (text_arg kind A xs.length c _ (.inl hk)).mono ?_
      rintro e w3 ⟨rfl, hb3⟩
      have L3 := Lib.hid (below_then L2.out L2.out.size hb3)
      clear hb3
      go_wp2_with fail
      go_ret
      exact ⟨rfl, L3.out⟩
    by_cases hk2 : 255 < kind
    · go_wp2_with fail
      refine (text_arg kind A xs.length c _ (.inr hk2)).mono ?_
      rintro e w3 ⟨rfl, hb3⟩
      have L3 := Lib.hid (below_then L2.out L2.out.size hb3)
      clear hb3
      go_wp2_with fail
      go_ret
      exact ⟨rfl, L3.out⟩
    · go_wp2_with fail
      refine (text_big kind A xs.length c _ (by omega) (by omega) hlen).mono ?_
      rintro e w3 ⟨rfl, hb3⟩
      have L3 := Lib.hid (below_then L2.out L2.out.size hb3)
      clear hb3
      go_wp2_with fail
      go_ret
      exact ⟨rfl, L3.out⟩

theorem b9 : Try.prog.bytesOf 9 = 16 := by kernel_rfl

theorem walk (w : World) (x0 : (Int × (List ByteArray) × Int × ByteArray)) (cs0 : Array Value) (hK0 : kd74.K w x0 cs0.toList) (hs0 : s74 x0) :
    Calls Try.prog 14 #[.agg cs0] w fun e w' => e = .returned (.bool true) ∧ Below w.heap.size w w' := by
  obtain ⟨kind, xs, cut, more⟩ := x0
  obtain ⟨a1, r1, h1, hA, a2, r2, h2, hB, a3, r3, h3, hC, hD⟩ := hK0
  obtain ⟨A, c, rfl, hc, hC'⟩ := hB
  cases hA
  cases hC
  cases hD
  subst h3 h2
  have e : cs0 = #[.int .i64 kind, .slice A xs.length c, .int .i64 cut, .string more] := by
    cases cs0; simpa using h1
  rw [e]
  obtain ⟨_, ⟨hl, hs⟩, _, hm⟩ := hs0
  have hl' : xs.length * 16 ≤ 140737488351232 := by rw [b9] at hl; exact hl
  by_cases hlen : xs.length ≤ 65536
  · exact few w kind cut xs A c more hC' hc hlen hm hs
  · exact lots w kind cut xs A c more hC' hc (by omega) (by omega)
end Go.Proofs.Ytliiefkdgdflpaa.WSTagBack
