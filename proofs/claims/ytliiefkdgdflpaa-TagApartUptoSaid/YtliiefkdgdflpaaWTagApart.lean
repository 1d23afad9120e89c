/-
  TagApart's walk.
-/
import Derived.Test.YtliiefkdgdflpaaKTagApart
import Derived.Test.YtliiefkdgdflpaaTagShown
import Derived.Test.YtliiefkdgdflpaaTagCall
namespace Go.Proofs.Ytliiefkdgdflpaa.WTagApart
open Go.RowKit Go.Proofs.YtliiefkdgdflpaaW.PrintWords Go.Proofs.YtliiefkdgdflpaaW.PrintLast TagBytes TagText TagLaw TagShown TagSplit TagParse TagCall KTagApart
set_option linter.unusedVariables false

/-- a text, or none -/
def Is (kind : Int) (xs : List ByteArray) (S : ByteArray) (e : Int) : Prop := (e = 0 ∧ 0 ≤ kind ∧ kind ≤ 255 ∧ bytesOf S = text kind (xs.map bytesOf)) ∨ e = 1

theorem text_any (kind : Int) (xs : List ByteArray) (h : xs.length ≤ 65536) (htot : 5 + (body xs).length ≤ 140737488355328) (hsz : ∀ p ∈ xs, p.size ≤ 9223372036854775807) :
    ∃ S e, Is kind xs S e ∧ ∀ (A : Option Addr) (c : Nat) (w : World), Kd.string.C w A xs.length xs → Calls Try.prog 34 #[.int .i64 kind, .slice A xs.length c] w fun x w' => x = .returned (.tuple #[.string S, .int .i64 e]) ∧ Below w.heap.size w w' := by
  by_cases hk : kind < 0 ∨ 255 < kind
  · exact ⟨⟨#[]⟩, 1, .inr rfl, fun A c w _ => text_arg kind A xs.length c w hk⟩
  · have h0 : 0 ≤ kind := by omega
    have h1 : kind ≤ 255 := by omega
    exact ⟨_, 0, .inl ⟨rfl, h0, h1, bytes_text kind xs h0 h1⟩, fun A c w hC => text_ok kind A c xs w h0 h1 h hC htot hsz⟩

theorem is_same {a b : Int} {xs ys : List ByteArray} {S T : ByteArray} (hx : xs.length ≤ 65536) (hy : ys.length ≤ 65536) (hxs : ∀ p ∈ xs, p.size ≤ 9223372036854775807) (hys : ∀ p ∈ ys, p.size ≤ 9223372036854775807)
    (hS : bytesOf S = text a (xs.map bytesOf)) (hT : bytesOf T = text b (ys.map bytesOf)) : (S.toList == T.toList) = (decide (a = b) && decide (xs = ys)) := by
  have hps : ∀ {zs : List ByteArray}, (∀ p ∈ zs, p.size ≤ 9223372036854775807) → ∀ p ∈ zs.map bytesOf, (p.length : Int) < 18446744073709551616 := by
    intro zs hz p hp
    obtain ⟨x, hx, rfl⟩ := List.mem_map.1 hp
    rw [bytesOf_length]
    have := hz x hx
    omega
  by_cases h : S = T
  · subst h
    have p1 := parse_text a (xs.map bytesOf) (by rw [List.length_map]; exact hx) (hps hxs)
    have p2 := parse_text b (ys.map bytesOf) (by rw [List.length_map]; exact hy) (hps hys)
    rw [← hS] at p1
    rw [← hT] at p2
    rw [p1] at p2
    simp only [Prod.mk.injEq] at p2
    have hab := p2.1
    have hxy := bytes_inj_map p2.2.1
    simp [hab, hxy]
  · have h1 : ¬ S.toList = T.toList := fun e => h ((toList_iff _ _).1 e)
    have h2 : ¬ (a = b ∧ xs = ys) := by
      rintro ⟨rfl, rfl⟩
      exact h (bytes_inj (hS.trans hT.symm))
    have h3 : (decide (a = b) && decide (xs = ys)) = false := by
      cases hd : (decide (a = b) && decide (xs = ys)) with
      | false => rfl
      | true =>
        simp only [Bool.and_eq_true, decide_eq_true_eq] at hd
        exact absurd hd h2
    rw [h3]
    simp [h1]

theorem part_le : ∀ (ps : List (List Int)), ∀ p ∈ ps, p.length ≤ (laid ps).length := by
  intro ps
  induction ps with
  | nil => intro p hp; cases hp
  | cons q ps ih =>
    intro p hp
    simp only [laid, List.length_append]
    rcases List.mem_cons.1 hp with rfl | hp
    · omega
    · have := ih p hp; omega

/-- what was taken is laid as it was -/
theorem again (s : ByteArray) (hs : s.size ≤ 140737488355328) (k : Int) (ps : List (List Int)) (h : parse (bytesOf s) = (k, ps, 0)) (ys : List ByteArray) (hy : ys.map bytesOf = ps) (A : Option Addr) (c : Nat) (w : World) (hC : Kd.string.C w A ys.length ys) :
    Calls Try.prog 34 #[.int .i64 k, .slice A ys.length c] w fun x w' => x = .returned (.tuple #[.string s, .int .i64 0]) ∧ Below w.heap.size w w' := by
  have hb := parse_back (bytesOf s) (TagNum.bytes_range s) (by rw [h])
  rw [h] at hb
  obtain ⟨h1, h2, h3, h4⟩ := hb
  dsimp only at h1 h2 h3 h4
  subst hy
  rw [List.length_map] at h2
  have hl : 5 + (laid (ys.map bytesOf)).length = s.size := by
    have := congrArg List.length h1
    rw [text_length, bytesOf_length] at this
    exact this
  have hbl : (body ys).length = (laid (ys.map bytesOf)).length := by rw [← bytes_body, List.length_map]
  refine textS k A c ys.length ys s ?_ rfl w h3 h4 h2 hC (by omega) (fun p hp => ?_)
  · exact bytes_inj ((bytes_text k ys h3 h4).trans h1)
  · have := part_le (ys.map bytesOf) (bytesOf p) (List.mem_map_of_mem hp)
    rw [bytesOf_length] at this
    omega

set_option maxRecDepth 100000 in
set_option maxHeartbeats 8000000 in
theorem core (w : World) (a b : Int) (xs ys : List ByteArray) (A B : Option Addr) (c d : Nat) (s : ByteArray) (hC : Kd.string.C w A xs.length xs) (hc : xs.length ≤ c) (hD : Kd.string.C w B ys.length ys) (hd : ys.length ≤ d) (hb : xs.length + lsum xs ≤ 1048576) (hb' : ys.length + lsum ys ≤ 1048576) (hm : s.size ≤ 1048576) (hsz : ∀ p ∈ xs, p.size ≤ 9223372036854775807) (hsz' : ∀ p ∈ ys, p.size ≤ 9223372036854775807) :
    Calls Try.prog 15 #[.agg #[.int .i64 a, .slice A xs.length c, .int .i64 b, .slice B ys.length d, .string s]] w fun e w' => e = .returned (.bool true) ∧ Below w.heap.size w w' := by
  have HC := Lib.hid hC
  have HD := Lib.hid hD
  have HS := Lib.hid hsz
  have HS' := Lib.hid hsz'
  clear hC hD hsz hsz'
  have hbx := body_length xs
  have hby := body_length ys
  obtain ⟨N, hN⟩ : ∃ N, N = xs.length + lsum xs := ⟨_, rfl⟩
  obtain ⟨M, hM⟩ : ∃ M, M = ys.length + lsum ys := ⟨_, rfl⟩
  have hlf := long_f xs hb
  have hlf' := long_f ys hb'
  rw [← hN] at hlf hb
  rw [← hM] at hlf' hb'
  have hNl : xs.length ≤ N := by omega
  have hMl : ys.length ≤ M := by omega
  have hbx2 : (body xs).length ≤ 8 * N := by omega
  have hby2 : (body ys).length ≤ 8 * M := by omega
  clear hbx hby hN hM
  replace hlf := Lib.hid hlf
  replace hlf' := Lib.hid hlf'
  have hw : wrap64 ((N : Int) + (M : Int)) = (N : Int) + (M : Int) := by unfold wrap64; omega
  have L0 := Lib.hid (below_alloc (Below.refl _ w) (.cells #[.int .i64 a, .slice A xs.length c, .int .i64 b, .slice B ys.length d, .string s] 80))
  go_enter Try.func15, Try.ntmps15
  go_wp2_with fail
  refine (shownC _).mono ?_
  rintro e w1 ⟨rfl, hb1⟩
  have L1 := Lib.hid (below_then L0.out L0.out.size hb1)
  clear hb1
  go_wp2_with fail
  refine (PTagLong.tabularyref03_Long.calls (xs.length + 1) A c xs N _ (Kd.C_below HC.out L1.out) hc hlf.out).mono ?_
  rintro e w2 ⟨rfl, hd2⟩
  have L2 := Lib.hid (below_then L1.out L1.out.size hd2.below)
  clear hd2
  go_wp2_with fail
  refine (PTagLong.tabularyref03_Long.calls (ys.length + 1) B d ys M _ (Kd.C_below HD.out L2.out) hd hlf'.out).mono ?_
  rintro e w3 ⟨rfl, hd3⟩
  have L3 := Lib.hid (below_then L2.out L2.out.size hd3.below)
  clear hd3
  by_cases hbig : (N : Int) + (M : Int) > 5000
  · go_wp2_with fail
    go_ret
    exact ⟨rfl, L3.out⟩
  · obtain ⟨S, eS, hIS, hcS⟩ := text_any a xs (by omega) (by omega) HS.out
    obtain ⟨T, eT, hIT, hcT⟩ := text_any b ys (by omega) (by omega) HS'.out
    obtain ⟨sm, hsm⟩ : ∃ sm, decide (xs = ys) = sm := ⟨_, rfl⟩
    have hsf := strings_f xs ys (by omega)
    rw [hsm] at hsf
    have key : eS = 1 ∨ (eS = 0 ∧ eT = 1) ∨ (eS = 0 ∧ eT = 0 ∧ ((S.toList == T.toList) = (decide (a = b) && sm))) := by
      rcases hIS with ⟨h1, h2, h3, h4⟩ | h1
      · rcases hIT with ⟨k1, k2, k3, k4⟩ | k1
        · exact .inr (.inr ⟨h1, k1, by rw [← hsm]; exact is_same (by omega) (by omega) HS.out HS'.out h4 k4⟩)
        · exact .inr (.inl ⟨h1, k1⟩)
      · exact .inl h1
    obtain ⟨k0, ps0, e0, hp0⟩ : ∃ k0 ps0 e0, parse (bytesOf s) = (k0, ps0, e0) := ⟨_, _, _, rfl⟩
    replace hp0 := Lib.hid hp0
    replace hsf := Lib.hid hsf
    replace key := Lib.hid key
    clear hIS hIT hsm
    replace hcS := Lib.hid hcS
    replace hcT := Lib.hid hcT
    go_wp2_with fail
    refine (hcS.out A c _ (Kd.C_below HC.out L3.out)).mono ?_
    rintro e w4 ⟨rfl, hb4⟩
    have L4 := Lib.hid (below_then L3.out L3.out.size hb4)
    clear hb4
    go_wp2_with fail
    refine (hcT.out B d _ (Kd.C_below HD.out L4.out)).mono ?_
    rintro e w5 ⟨rfl, hb5⟩
    have L5 := Lib.hid (below_then L4.out L4.out.size hb5)
    clear hb5
    go_wp2_with fail
    refine (PTagBack.tabularyref03_Strings.calls (xs.length + 1) A c xs B d ys sm _ (Kd.C_below HC.out L5.out) hc (Kd.C_below HD.out L5.out) hd hsf.out).mono ?_
    rintro e w6 ⟨rfl, hd6⟩
    have L6 := Lib.hid (below_then L5.out L5.out.size hd6.below)
    clear hd6
    have six : eS = 1 ∨ (eS = 0 ∧ eT = 1) ∨ (eS = 0 ∧ eT = 0 ∧ a = b ∧ sm = true ∧ (S.toList == T.toList) = true) ∨ (eS = 0 ∧ eT = 0 ∧ a = b ∧ sm = false ∧ (S.toList == T.toList) = false) ∨ (eS = 0 ∧ eT = 0 ∧ a ≠ b ∧ (S.toList == T.toList) = false) := by
      rcases key.out with h | h | ⟨h1, h2, h3⟩
      · exact .inl h
      · exact .inr (.inl h)
      · by_cases hab : a = b
        · rw [decide_eq_true hab, Bool.true_and] at h3
          cases sm with
          | true => exact .inr (.inr (.inl ⟨h1, h2, hab, rfl, h3⟩))
          | false => exact .inr (.inr (.inr (.inl ⟨h1, h2, hab, rfl, h3⟩)))
        · rw [decide_eq_false hab, Bool.false_and] at h3
          exact .inr (.inr (.inr (.inr ⟨h1, h2, hab, h3⟩)))
    clear key hcS hcT HC HD
    rcases six with rfl | ⟨rfl, rfl⟩ | ⟨rfl, rfl, rfl, rfl, hST⟩ | ⟨rfl, rfl, rfl, rfl, hST⟩ | ⟨rfl, rfl, hab, hST⟩
    all_goals
      go_wp2_with fail
      refine (partsC s (by omega) k0 ps0 e0 hp0.out _).mono ?_
      rintro e w7 ⟨hb7, A7, c7, zs, rfl, hzs, hc7, hC7⟩
      have L7 := Lib.hid (below_then L6.out L6.out.size hb7)
      replace hzs := Lib.hid hzs
      replace hC7 := Lib.hid hC7
      clear hb7
      by_cases h0 : e0 = 0
      · subst h0
        go_wp2_with fail
        refine (again s (by omega) k0 ps0 hp0.out zs hzs.out A7 c7 _ hC7.out).mono ?_
        rintro e w8 ⟨rfl, hb8⟩
        have L8 := Lib.hid (below_then L7.out L7.out.size hb8)
        clear hb8
        go_wp2_with fail
        go_ret
        exact ⟨rfl, L8.out⟩
      · go_wp2_with fail
        go_ret
        exact ⟨rfl, L7.out⟩

theorem len_le : ∀ xs : List ByteArray, xs.length + lsum xs ≤ (xs.map b9).sum := by
  intro xs
  induction xs with
  | nil => simp [lsum]
  | cons x xs ih =>
    have : b9 x = x.size + 1 := rfl
    simp only [List.length_cons, List.map_cons, List.sum_cons, lsum]
    omega

theorem walk (w : World) (x0 : (Int × (List ByteArray) × Int × (List ByteArray) × ByteArray)) (cs0 : Array Value) (hK0 : kd80.K w x0 cs0.toList) (hg0 : g80 x0) (hb : b80 x0 ≤ 1048576) :
    Calls Try.prog 15 #[.agg cs0] w fun e w' => e = .returned (.bool true) ∧ Below w.heap.size w w' := by
  obtain ⟨a, xs, b, ys, s⟩ := x0
  obtain ⟨a1, r1, h1, hA, a2, r2, h2, hX, a3, r3, h3, hB, a4, r4, h4, hY, hS⟩ := hK0
  obtain ⟨A, c, rfl, hc, hC⟩ := hX
  obtain ⟨B, d, rfl, hd, hD⟩ := hY
  cases hA
  cases hB
  cases hS
  subst h4 h3 h2
  have l1 := len_le xs
  have l2 := len_le ys
  simp only [b80, b61] at hb
  have hm : b9 s = s.size + 1 := rfl
  have e : cs0 = #[.int .i64 a, .slice A xs.length c, .int .i64 b, .slice B ys.length d, .string s] := by
    cases cs0; simpa using h1
  rw [e]
  exact core w a b xs ys A B c d s hC hc hD hd (by omega) (by omega) (by omega) (fun p hp => hg0.2.1.2 p hp) (fun p hp => hg0.2.2.2.1.2 p hp)
end Go.Proofs.Ytliiefkdgdflpaa.WTagApart
