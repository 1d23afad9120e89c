/-
  BriefBack's walk.
-/
import Derived.Test.YtliiefkdgdflpaaKBriefBack
import Derived.Test.YtliiefkdgdflpaaBriefParse
import Derived.Test.YtliiefkdgdflpaaBackLaw
namespace Go.Proofs.Ytliiefkdgdflpaa.WBriefBack
open Go.RowKit Go.Proofs.YtliiefkdgdflpaaW.PrintWords Go.Proofs.YtliiefkdgdflpaaW.PrintLast Go.Proofs.YtliiefkdgdflpaaW.PrintMore KBriefBack BriefBytes BriefLaw BriefText BriefParse BackLaw
set_option linter.unusedVariables false
set_option linter.unusedSimpArgs false
attribute [local go_sem high] PBriefOrder.eqA36

def parse (s : ByteArray) : Br × Int := if s.size = 33 ∧ right (dec s) = true ∧ txt (dec s) = s then (dec s, 0) else (none0, 3)

theorem parseC (s : ByteArray) (x : Br) (f : Int) (h : parse s = (x, f)) (hs : s.size ≤ 9223372036854775807) (w : World) : Calls Try.prog 36 #[.string s] w fun e w' => e = .returned (.tuple #[.agg #[.int .i64 x.first, .int .i64 x.last, .int .u32 x.grave, .int .u32 x.src, .int .u64 x.many, .bool x.keep], .int .i64 f]) ∧ Below w.heap.size w w' := by
  by_cases h33 : s.size = 33
  · have hp := parse_33 s w h33 _ _ _ _ _ (Lib.hid rfl) (Lib.hid rfl) (Lib.hid rfl) (Lib.hid rfl) (Lib.hid rfl) _ (Lib.hid rfl) _ _ _ _ (Lib.hid rfl) (Lib.hid rfl) (Lib.hid rfl) (Lib.hid rfl) _ (Lib.hid rfl) _ (Lib.hid rfl) _ rfl
    refine hp.mono fun e w' hh => ⟨?_, hh.2⟩
    rw [hh.1]
    have ht : ((txt (dec s)).toList == s.toList) = decide (txt (dec s) = s) := WWordApart.toList_beq _ _
    unfold parse at h
    by_cases hr : right (dec s) = true ∧ txt (dec s) = s
    · rw [if_pos ⟨h33, hr⟩] at h
      injection h with h1 h2
      subst h1 h2
      have hc : (right (dec s) && ((txt (dec s)).toList == s.toList)) = true := by rw [ht, Bool.and_eq_true, decide_eq_true_eq]; exact hr
      exact congrArg Ending.returned (if_pos hc)
    · rw [if_neg (fun hx => hr hx.2)] at h
      injection h with h1 h2
      subst h1 h2
      have hc : ¬ (right (dec s) && ((txt (dec s)).toList == s.toList)) = true := by rw [ht, Bool.and_eq_true, decide_eq_true_eq]; exact hr
      exact congrArg Ending.returned (if_neg hc)
  · unfold parse at h
    rw [if_neg (fun hx => h33 hx.1)] at h
    injection h with h1 h2
    subst h1 h2
    exact parse_other s w h33 hs

set_option maxRecDepth 100000 in
set_option maxHeartbeats 8000000 in
theorem core (w : World) (a b : Br) (s : ByteArray) (ha : InR a) (hb : InR b) (hs : s.size ≤ 9223372036854775807) :
    Calls Try.prog 12 #[.agg #[.int .i64 a.first, .int .i64 a.last, .int .u32 a.grave, .int .u32 a.src, .int .u64 a.many, .bool a.keep], .agg #[.int .i64 b.first, .int .i64 b.last, .int .u32 b.grave, .int .u32 b.src, .int .u64 b.many, .bool b.keep], .string s] w fun e w' => e = .returned (.bool true) ∧ Below w.heap.size w w' := by
  obtain ⟨ra, hra⟩ : ∃ r, right a = r := ⟨_, rfl⟩
  obtain ⟨t, ht⟩ : ∃ t, txt a = t := ⟨_, rfl⟩
  obtain ⟨u, hu⟩ : ∃ u, txt b = u := ⟨_, rfl⟩
  have htz : t.size = 33 := by rw [← ht]; exact txt_size a
  have hdt : dec t = a := by rw [← ht]; exact dec_txt a ha
  have htu : (t.toList == u.toList) = decide (a = b) := by
    rw [WWordApart.toList_beq, ← ht, ← hu]
    by_cases h : a = b
    · subst h; simp
    · have : ¬ txt a = txt b := fun hh => h (txt_inj a b ha hb hh)
      simp [h, this]
  have hpt : parse t = if ra then (a, 0) else (none0, 3) := by
    unfold parse
    rw [hdt, hra]
    cases ra with
    | true => rw [if_pos ⟨htz, rfl, ht⟩]; rfl
    | false => rw [if_neg (by simp)]; rfl
  obtain ⟨⟨y, f⟩, hy⟩ : ∃ yf, parse s = yf := ⟨_, rfl⟩
  have hyf : (f = 3) ∨ (f = 0 ∧ right y = true ∧ txt y = s) := by
    unfold parse at hy
    split at hy
    · rename_i h
      injection hy with h1 h2
      subst h1 h2
      exact .inr ⟨rfl, h.2⟩
    · injection hy with h1 h2
      exact .inl h2.symm
  have hu33 : u.size = 33 := by rw [← hu]; exact txt_size b
  replace hra := Lib.hid hra
  replace ht := Lib.hid ht
  replace hu := Lib.hid hu
  replace hy := Lib.hid hy
  replace hyf := Lib.hid hyf
  replace hpt := Lib.hid hpt
  replace htu := Lib.hid htu
  clear hdt ha hb
  have hsl := Lib.hid hs
  go_enter Try.func12, Try.ntmps12
  go_wp2_with fail
  refine (PBriefOrder.tabularylaw06_shown.calls true _ (by decide +kernel)).mono ?_; rintro e w1 ⟨rfl, hbc⟩
  have A1 := Lib.hid (blk_below (blk_alloc (blk_new w (.cells #[.int .i64 a.first, .int .i64 a.last, .int .u32 a.grave, .int .u32 a.src, .int .u64 a.many, .bool a.keep] 36)) (.cells #[.int .i64 b.first, .int .i64 b.last, .int .u32 b.grave, .int .u32 b.src, .int .u64 b.many, .bool b.keep] 36)) hbc)
  have C1 := Lib.hid (blk_below (blk_at (w.alloc (.cells #[.int .i64 a.first, .int .i64 a.last, .int .u32 a.grave, .int .u32 a.src, .int .u64 a.many, .bool a.keep] 36)) (.cells #[.int .i64 b.first, .int .i64 b.last, .int .u32 b.grave, .int .u32 b.src, .int .u64 b.many, .bool b.keep] 36) (w.heap.size + 1) (World.size_alloc _ _)) hbc)
  have B1 := Lib.hid (below_then (below_alloc (below_alloc (Below.refl _ w) (.cells #[.int .i64 a.first, .int .i64 a.last, .int .u32 a.grave, .int .u32 a.src, .int .u64 a.many, .bool a.keep] 36)) (.cells #[.int .i64 b.first, .int .i64 b.last, .int .u32 b.grave, .int .u32 b.src, .int .u64 b.many, .bool b.keep] 36)) (below_alloc (below_alloc (Below.refl _ w) (.cells #[.int .i64 a.first, .int .i64 a.last, .int .u32 a.grave, .int .u32 a.src, .int .u64 a.many, .bool a.keep] 36)) (.cells #[.int .i64 b.first, .int .i64 b.last, .int .u32 b.grave, .int .u32 b.src, .int .u64 b.many, .bool b.keep] 36)).size hbc)
  clear hbc
  have a0 : w1.cell? ⟨w.heap.size, 0, none⟩ = some (.int .i64 a.first) := (blk_cell A1.out 0).trans rfl
  have a1 : w1.cell? ⟨w.heap.size, 1, none⟩ = some (.int .i64 a.last) := (blk_cell A1.out 1).trans rfl
  have a2 : w1.cell? ⟨w.heap.size, 2, none⟩ = some (.int .u32 a.grave) := (blk_cell A1.out 2).trans rfl
  have a3 : w1.cell? ⟨w.heap.size, 3, none⟩ = some (.int .u32 a.src) := (blk_cell A1.out 3).trans rfl
  have a4 : w1.cell? ⟨w.heap.size, 4, none⟩ = some (.int .u64 a.many) := (blk_cell A1.out 4).trans rfl
  have a5 : w1.cell? ⟨w.heap.size, 5, none⟩ = some (.bool a.keep) := (blk_cell A1.out 5).trans rfl
  go_wp2_with fail
  refine (textP a t ht.out _).mono ?_; rintro e w2 ⟨rfl, hbc⟩
  have A2 := Lib.hid (blk_below A1.out hbc)
  have C2 := Lib.hid (blk_below C1.out hbc)
  have B2 := Lib.hid (below_then B1.out B1.out.size hbc)
  clear hbc
  go_wp2_with fail
  by_cases hab : a = b
  · subst hab
    have htu2 : (t.toList == u.toList) = true := by rw [htu.out]; simp
    have hut : t = u := ht.out.symm.trans hu.out
    subst hut
    clear htu hu hu33 htu2
    cases ra with
    | true =>
      refine (parseC t a 0 hpt.out (by omega) _).mono ?_; rintro e w3 ⟨rfl, hbc⟩
      have A3 := Lib.hid (blk_below A2.out hbc)
      have C3 := Lib.hid (blk_below C2.out hbc)
      have B3 := Lib.hid (below_then B2.out B2.out.size hbc)
      clear hbc
      go_wp2_with fail
      refine start_ (n := 29) (S := fun w' => w'.heap[w.heap.size]? = some (.cells #[.int .i64 a.first, .int .i64 a.last, .int .u32 a.grave, .int .u32 a.src, .int .u64 a.many, .bool a.keep] 36 (0, 0)) ∧ w'.heap[w.heap.size + 1]? = some (.cells #[.int .i64 a.first, .int .i64 a.last, .int .u32 a.grave, .int .u32 a.src, .int .u64 a.many, .bool a.keep] 36 (0, 0)) ∧ w'.heap[w3.heap.size]? = some (.cells #[.int .i64 a.first, .int .i64 a.last, .int .u32 a.grave, .int .u32 a.src, .int .u64 a.many, .bool a.keep] 36 (0, 0)) ∧ Below w.heap.size w w') (ds := []) #[false, false, false, false, false, false, false, false, false, false, false, false, false, false, false, false, false, false, false, false, false, false, false, false, false, false, false, false, false] (by kernel_rfl) rfl rfl (⟨blk_alloc A3.out _, blk_alloc C3.out _, blk_new _ _, (below_alloc B3.out _).drew⟩) (fun hS => ?_)
      refine pure_ (i := 0) (N := some 21) (v := ?_) (a' := ?_) #[true, false, false, false, false, false, false, false, false, false, false, false, false, false, false, false, false, false, false, false, false, false, false, false, false, false, false, false, false] rfl rfl (by kernel_rfl) (fun _ _ _ h => h) (Or.inl ⟨by rfl, ?_⟩) ?_ ?_
      rotate_left
      · intro w'
        go_simp
        with_reducible rfl
      rotate_left
      · simp only [Act.put, List.setIfInBounds_toArray, List.set_cons_zero, List.set_cons_succ, i64_w, i32_w]
        rfl
      refine pure_ (i := 1) (N := some 22) (v := ?_) (a' := ?_) #[true, true, false, false, false, false, false, false, false, false, false, false, false, false, false, false, false, false, false, false, false, false, false, false, false, false, false, false, false] rfl rfl (by kernel_rfl) (fun _ _ _ h => h) (Or.inl ⟨by rfl, ?_⟩) ?_ ?_
      rotate_left
      · intro w'
        go_simp
        with_reducible rfl
      rotate_left
      · simp only [Act.put, List.setIfInBounds_toArray, List.set_cons_zero, List.set_cons_succ, i64_w, i32_w]
        rfl
      refine take_ (i := 2) (N := some 23) (v := ?_) (a' := ?_) #[true, true, true, false, false, false, false, false, false, false, false, false, false, false, false, false, false, false, false, false, false, false, false, false, false, false, false, false, false] rfl rfl (by kernel_rfl) (fun _ _ _ h => h) (Or.inl ⟨by rfl, ?_⟩) hS ?_ ?_
      rotate_left
      · rintro w' hs
        have t0 : w'.cell? ⟨w.heap.size, 0, none⟩ = some (.int .i64 a.first) := (blk_cell hs.1 0).trans rfl
        have t1 : w'.cell? ⟨w.heap.size, 1, none⟩ = some (.int .i64 a.last) := (blk_cell hs.1 1).trans rfl
        have t2 : w'.cell? ⟨w.heap.size, 2, none⟩ = some (.int .u32 a.grave) := (blk_cell hs.1 2).trans rfl
        have t3 : w'.cell? ⟨w.heap.size, 3, none⟩ = some (.int .u32 a.src) := (blk_cell hs.1 3).trans rfl
        have t4 : w'.cell? ⟨w.heap.size, 4, none⟩ = some (.int .u64 a.many) := (blk_cell hs.1 4).trans rfl
        have t5 : w'.cell? ⟨w.heap.size, 5, none⟩ = some (.bool a.keep) := (blk_cell hs.1 5).trans rfl
        clear hs
        go_simp
        with_reducible rfl
      rotate_left
      · simp only [Act.put, List.setIfInBounds_toArray, List.set_cons_zero, List.set_cons_succ, i64_w, i32_w]
        rfl
      refine one_ (i := 3) (N := some 24) #[true, true, true, true, false, false, false, false, false, false, false, false, false, false, false, false, false, false, false, false, false, false, false, false, false, false, false, false, false] rfl rfl (by kernel_rfl) (by decide) (fun K hK => ?_)
      refine goes_ Try.func27 (by kernel_rfl) rfl #[.agg #[.int .i64 a.first, .int .i64 a.last, .int .u32 a.grave, .int .u32 a.src, .int .u64 a.many, .bool a.keep]] (by rfl) rfl rfl (by (try simp only [List.map_toArray, List.map_cons, List.map_nil]); first | done | rfl) ?_
      refine (rightP a true hra.out _).mono ?_
      rintro e w' ⟨rfl, hb'⟩
      refine ⟨_, rfl, ?_⟩
      refine hK.out _ _ (⟨blk_below hS.1 hb', blk_below hS.2.1 hb', blk_below hS.2.2.1 hb', below_then hS.2.2.2 hS.2.2.2.size hb'⟩) (fun hS => ?_)
      clear hK K
      refine norm_ (a' := ?_) ?_ ?_
      rotate_left
      · show Act.put _ (some 24) _ = _
        simp only [Act.put, List.setIfInBounds_toArray, List.set_cons_zero, List.set_cons_succ, i64_w, i32_w]
        rfl
      refine pure_ (i := 4) (N := some 25) (v := ?_) (a' := ?_) #[true, true, true, true, true, false, false, false, false, false, false, false, false, false, false, false, false, false, false, false, false, false, false, false, false, false, false, false, false] rfl rfl (by kernel_rfl) (fun _ _ _ h => h) (Or.inl ⟨by rfl, ?_⟩) ?_ ?_
      rotate_left
      · intro w'
        go_simp
        with_reducible rfl
      rotate_left
      · simp only [Act.put, List.setIfInBounds_toArray, List.set_cons_zero, List.set_cons_succ, i64_w, i32_w]
        rfl
      refine pure_ (i := 5) (N := some 26) (v := ?_) (a' := ?_) #[true, true, true, true, true, true, false, false, false, false, false, false, false, false, false, false, false, false, false, false, false, false, false, false, false, false, false, false, false] rfl rfl (by kernel_rfl) (fun _ _ _ h => h) (Or.inl ⟨by rfl, ?_⟩) ?_ ?_
      rotate_left
      · intro w'
        go_simp
        with_reducible rfl
      rotate_left
      · simp only [Act.put, List.setIfInBounds_toArray, List.set_cons_zero, List.set_cons_succ, i64_w, i32_w]
        rfl
      refine pure_ (i := 6) (N := some 27) (v := ?_) (a' := ?_) #[true, true, true, true, true, true, true, false, false, false, false, false, false, false, false, false, false, false, false, false, false, false, false, false, false, false, false, false, false] rfl rfl (by kernel_rfl) (fun _ _ _ h => h) (Or.inl ⟨by rfl, ?_⟩) ?_ ?_
      rotate_left
      · intro w'
        go_simp
        with_reducible rfl
      rotate_left
      · simp only [Act.put, List.setIfInBounds_toArray, List.set_cons_zero, List.set_cons_succ, i64_w, i32_w]
        rfl
      refine pure_ (i := 7) (N := some 28) (v := ?_) (a' := ?_) #[true, true, true, true, true, true, true, true, false, false, false, false, false, false, false, false, false, false, false, false, false, false, false, false, false, false, false, false, false] rfl rfl (by kernel_rfl) (fun _ _ _ h => h) (Or.inl ⟨by rfl, ?_⟩) ?_ ?_
      rotate_left
      · intro w'
        go_simp
        with_reducible rfl
      rotate_left
      · simp only [Act.put, List.setIfInBounds_toArray, List.set_cons_zero, List.set_cons_succ, i64_w, i32_w]
        rfl
      refine pure_ (i := 8) (N := some 29) (v := ?_) (a' := ?_) #[true, true, true, true, true, true, true, true, true, false, false, false, false, false, false, false, false, false, false, false, false, false, false, false, false, false, false, false, false] rfl rfl (by kernel_rfl) (fun _ _ _ h => h) (Or.inl ⟨by rfl, ?_⟩) ?_ ?_
      rotate_left
      · intro w'
        go_simp
        with_reducible rfl
      rotate_left
      · simp only [Act.put, List.setIfInBounds_toArray, List.set_cons_zero, List.set_cons_succ, i64_w, i32_w]
        rfl
      refine take_ (i := 9) (N := some 30) (v := ?_) (a' := ?_) #[true, true, true, true, true, true, true, true, true, true, false, false, false, false, false, false, false, false, false, false, false, false, false, false, false, false, false, false, false] rfl rfl (by kernel_rfl) (fun _ _ _ h => h) (Or.inl ⟨by rfl, ?_⟩) hS ?_ ?_
      rotate_left
      · rintro w' hs
        have t0 : w'.cell? ⟨w3.heap.size, 0, none⟩ = some (.int .i64 a.first) := (blk_cell hs.2.2.1 0).trans rfl
        have t1 : w'.cell? ⟨w3.heap.size, 1, none⟩ = some (.int .i64 a.last) := (blk_cell hs.2.2.1 1).trans rfl
        have t2 : w'.cell? ⟨w3.heap.size, 2, none⟩ = some (.int .u32 a.grave) := (blk_cell hs.2.2.1 2).trans rfl
        have t3 : w'.cell? ⟨w3.heap.size, 3, none⟩ = some (.int .u32 a.src) := (blk_cell hs.2.2.1 3).trans rfl
        have t4 : w'.cell? ⟨w3.heap.size, 4, none⟩ = some (.int .u64 a.many) := (blk_cell hs.2.2.1 4).trans rfl
        have t5 : w'.cell? ⟨w3.heap.size, 5, none⟩ = some (.bool a.keep) := (blk_cell hs.2.2.1 5).trans rfl
        clear hs
        go_simp
        with_reducible rfl
      rotate_left
      · simp only [Act.put, List.setIfInBounds_toArray, List.set_cons_zero, List.set_cons_succ, i64_w, i32_w]
        rfl
      refine take_ (i := 10) (N := some 31) (v := ?_) (a' := ?_) #[true, true, true, true, true, true, true, true, true, true, true, false, false, false, false, false, false, false, false, false, false, false, false, false, false, false, false, false, false] rfl rfl (by kernel_rfl) (fun _ _ _ h => h) (Or.inl ⟨by rfl, ?_⟩) hS ?_ ?_
      rotate_left
      · rintro w' hs
        have t0 : w'.cell? ⟨w.heap.size, 0, none⟩ = some (.int .i64 a.first) := (blk_cell hs.1 0).trans rfl
        have t1 : w'.cell? ⟨w.heap.size, 1, none⟩ = some (.int .i64 a.last) := (blk_cell hs.1 1).trans rfl
        have t2 : w'.cell? ⟨w.heap.size, 2, none⟩ = some (.int .u32 a.grave) := (blk_cell hs.1 2).trans rfl
        have t3 : w'.cell? ⟨w.heap.size, 3, none⟩ = some (.int .u32 a.src) := (blk_cell hs.1 3).trans rfl
        have t4 : w'.cell? ⟨w.heap.size, 4, none⟩ = some (.int .u64 a.many) := (blk_cell hs.1 4).trans rfl
        have t5 : w'.cell? ⟨w.heap.size, 5, none⟩ = some (.bool a.keep) := (blk_cell hs.1 5).trans rfl
        clear hs
        go_simp
        with_reducible rfl
      rotate_left
      · simp only [Act.put, List.setIfInBounds_toArray, List.set_cons_zero, List.set_cons_succ, i64_w, i32_w]
        rfl
      refine pure_ (i := 11) (N := some 32) (v := ?_) (a' := ?_) #[true, true, true, true, true, true, true, true, true, true, true, true, false, false, false, false, false, false, false, false, false, false, false, false, false, false, false, false, false] rfl rfl (by kernel_rfl) (fun _ _ _ h => h) (Or.inl ⟨by rfl, ?_⟩) ?_ ?_
      rotate_left
      · intro w'
        go_simp
        with_reducible rfl
      rotate_left
      · simp only [Act.put, List.setIfInBounds_toArray, List.set_cons_zero, List.set_cons_succ, i64_w, i32_w]
        rfl
      refine pure_ (i := 12) (N := some 33) (v := ?_) (a' := ?_) #[true, true, true, true, true, true, true, true, true, true, true, true, true, false, false, false, false, false, false, false, false, false, false, false, false, false, false, false, false] rfl rfl (by kernel_rfl) (fun _ _ _ h => h) (Or.inl ⟨by rfl, ?_⟩) ?_ ?_
      rotate_left
      · intro w'
        go_simp
        with_reducible rfl
      rotate_left
      · simp only [Act.put, List.setIfInBounds_toArray, List.set_cons_zero, List.set_cons_succ, i64_w, i32_w]
        rfl
      refine pure_ (i := 13) (N := some 34) (v := ?_) (a' := ?_) #[true, true, true, true, true, true, true, true, true, true, true, true, true, true, false, false, false, false, false, false, false, false, false, false, false, false, false, false, false] rfl rfl (by kernel_rfl) (fun _ _ _ h => h) (Or.inl ⟨by rfl, ?_⟩) ?_ ?_
      rotate_left
      · intro w'
        go_simp
        with_reducible rfl
      rotate_left
      · simp only [Act.put, List.setIfInBounds_toArray, List.set_cons_zero, List.set_cons_succ, i64_w, i32_w]
        rfl
      refine pure_ (i := 14) (N := some 35) (v := ?_) (a' := ?_) #[true, true, true, true, true, true, true, true, true, true, true, true, true, true, true, false, false, false, false, false, false, false, false, false, false, false, false, false, false] rfl rfl (by kernel_rfl) (fun _ _ _ h => h) (Or.inl ⟨by rfl, ?_⟩) ?_ ?_
      rotate_left
      · intro w'
        go_simp
        with_reducible rfl
      rotate_left
      · simp only [Act.put, List.setIfInBounds_toArray, List.set_cons_zero, List.set_cons_succ, i64_w, i32_w]
        rfl
      refine pure_ (i := 15) (N := some 36) (v := ?_) (a' := ?_) #[true, true, true, true, true, true, true, true, true, true, true, true, true, true, true, true, false, false, false, false, false, false, false, false, false, false, false, false, false] rfl rfl (by kernel_rfl) (fun _ _ _ h => h) (Or.inl ⟨by rfl, ?_⟩) ?_ ?_
      rotate_left
      · intro w'
        go_simp
        with_reducible rfl
      rotate_left
      · simp only [Act.put, List.setIfInBounds_toArray, List.set_cons_zero, List.set_cons_succ, i64_w, i32_w]
        rfl
      refine pure_ (i := 16) (N := some 37) (v := ?_) (a' := ?_) #[true, true, true, true, true, true, true, true, true, true, true, true, true, true, true, true, true, false, false, false, false, false, false, false, false, false, false, false, false] rfl rfl (by kernel_rfl) (fun _ _ _ h => h) (Or.inl ⟨by rfl, ?_⟩) ?_ ?_
      rotate_left
      · intro w'
        go_simp
        with_reducible rfl
      rotate_left
      · simp only [Act.put, List.setIfInBounds_toArray, List.set_cons_zero, List.set_cons_succ, i64_w, i32_w]
        rfl
      refine pure_ (i := 17) (N := some 38) (v := ?_) (a' := ?_) #[true, true, true, true, true, true, true, true, true, true, true, true, true, true, true, true, true, true, false, false, false, false, false, false, false, false, false, false, false] rfl rfl (by kernel_rfl) (fun _ _ _ h => h) (Or.inl ⟨by rfl, ?_⟩) ?_ ?_
      rotate_left
      · intro w'
        go_simp
        with_reducible rfl
      rotate_left
      · simp only [Act.put, List.setIfInBounds_toArray, List.set_cons_zero, List.set_cons_succ, i64_w, i32_w]
        rfl
      refine pure_ (i := 18) (N := some 39) (v := ?_) (a' := ?_) #[true, true, true, true, true, true, true, true, true, true, true, true, true, true, true, true, true, true, true, false, false, false, false, false, false, false, false, false, false] rfl rfl (by kernel_rfl) (fun _ _ _ h => h) (Or.inl ⟨by rfl, ?_⟩) ?_ ?_
      rotate_left
      · intro w'
        go_simp
        with_reducible rfl
      rotate_left
      · simp only [Act.put, List.setIfInBounds_toArray, List.set_cons_zero, List.set_cons_succ, i64_w, i32_w]
        rfl
      refine pure_ (i := 19) (N := some 40) (v := ?_) (a' := ?_) #[true, true, true, true, true, true, true, true, true, true, true, true, true, true, true, true, true, true, true, true, false, false, false, false, false, false, false, false, false] rfl rfl (by kernel_rfl) (fun _ _ _ h => h) (Or.inl ⟨by rfl, ?_⟩) ?_ ?_
      rotate_left
      · intro w'
        go_simp
        with_reducible rfl
      rotate_left
      · simp only [Act.put, List.setIfInBounds_toArray, List.set_cons_zero, List.set_cons_succ, i64_w, i32_w]
        rfl
      refine pure_ (i := 20) (N := some 41) (v := ?_) (a' := ?_) #[true, true, true, true, true, true, true, true, true, true, true, true, true, true, true, true, true, true, true, true, true, false, false, false, false, false, false, false, false] rfl rfl (by kernel_rfl) (fun _ _ _ h => h) (Or.inl ⟨by rfl, ?_⟩) ?_ ?_
      rotate_left
      · intro w'
        go_simp
        with_reducible rfl
      rotate_left
      · simp only [Act.put, List.setIfInBounds_toArray, List.set_cons_zero, List.set_cons_succ, i64_w, i32_w]
        rfl
      refine take_ (i := 21) (N := some 42) (v := ?_) (a' := ?_) #[true, true, true, true, true, true, true, true, true, true, true, true, true, true, true, true, true, true, true, true, true, true, false, false, false, false, false, false, false] rfl rfl (by kernel_rfl) (fun _ _ _ h => h) (Or.inl ⟨by rfl, ?_⟩) hS ?_ ?_
      rotate_left
      · rintro w' hs
        have t0 : w'.cell? ⟨w.heap.size + 1, 0, none⟩ = some (.int .i64 a.first) := (blk_cell hs.2.1 0).trans rfl
        have t1 : w'.cell? ⟨w.heap.size + 1, 1, none⟩ = some (.int .i64 a.last) := (blk_cell hs.2.1 1).trans rfl
        have t2 : w'.cell? ⟨w.heap.size + 1, 2, none⟩ = some (.int .u32 a.grave) := (blk_cell hs.2.1 2).trans rfl
        have t3 : w'.cell? ⟨w.heap.size + 1, 3, none⟩ = some (.int .u32 a.src) := (blk_cell hs.2.1 3).trans rfl
        have t4 : w'.cell? ⟨w.heap.size + 1, 4, none⟩ = some (.int .u64 a.many) := (blk_cell hs.2.1 4).trans rfl
        have t5 : w'.cell? ⟨w.heap.size + 1, 5, none⟩ = some (.bool a.keep) := (blk_cell hs.2.1 5).trans rfl
        clear hs
        go_simp
        with_reducible rfl
      rotate_left
      · simp only [Act.put, List.setIfInBounds_toArray, List.set_cons_zero, List.set_cons_succ, i64_w, i32_w]
        rfl
      refine take_ (i := 24) (N := some 45) (v := ?_) (a' := ?_) #[true, true, true, true, true, true, true, true, true, true, true, true, true, true, true, true, true, true, true, true, true, true, false, false, true, false, false, false, false] rfl rfl (by kernel_rfl) (fun _ _ _ h => h) (Or.inl ⟨by rfl, ?_⟩) hS ?_ ?_
      rotate_left
      · rintro w' hs
        have t0 : w'.cell? ⟨w.heap.size, 0, none⟩ = some (.int .i64 a.first) := (blk_cell hs.1 0).trans rfl
        have t1 : w'.cell? ⟨w.heap.size, 1, none⟩ = some (.int .i64 a.last) := (blk_cell hs.1 1).trans rfl
        have t2 : w'.cell? ⟨w.heap.size, 2, none⟩ = some (.int .u32 a.grave) := (blk_cell hs.1 2).trans rfl
        have t3 : w'.cell? ⟨w.heap.size, 3, none⟩ = some (.int .u32 a.src) := (blk_cell hs.1 3).trans rfl
        have t4 : w'.cell? ⟨w.heap.size, 4, none⟩ = some (.int .u64 a.many) := (blk_cell hs.1 4).trans rfl
        have t5 : w'.cell? ⟨w.heap.size, 5, none⟩ = some (.bool a.keep) := (blk_cell hs.1 5).trans rfl
        clear hs
        go_simp
        with_reducible rfl
      rotate_left
      · simp only [Act.put, List.setIfInBounds_toArray, List.set_cons_zero, List.set_cons_succ, i64_w, i32_w]
        rfl
      refine take_ (i := 25) (N := some 46) (v := ?_) (a' := ?_) #[true, true, true, true, true, true, true, true, true, true, true, true, true, true, true, true, true, true, true, true, true, true, false, false, true, true, false, false, false] rfl rfl (by kernel_rfl) (fun _ _ _ h => h) (Or.inl ⟨by rfl, ?_⟩) hS ?_ ?_
      rotate_left
      · rintro w' hs
        have t0 : w'.cell? ⟨w.heap.size + 1, 0, none⟩ = some (.int .i64 a.first) := (blk_cell hs.2.1 0).trans rfl
        have t1 : w'.cell? ⟨w.heap.size + 1, 1, none⟩ = some (.int .i64 a.last) := (blk_cell hs.2.1 1).trans rfl
        have t2 : w'.cell? ⟨w.heap.size + 1, 2, none⟩ = some (.int .u32 a.grave) := (blk_cell hs.2.1 2).trans rfl
        have t3 : w'.cell? ⟨w.heap.size + 1, 3, none⟩ = some (.int .u32 a.src) := (blk_cell hs.2.1 3).trans rfl
        have t4 : w'.cell? ⟨w.heap.size + 1, 4, none⟩ = some (.int .u64 a.many) := (blk_cell hs.2.1 4).trans rfl
        have t5 : w'.cell? ⟨w.heap.size + 1, 5, none⟩ = some (.bool a.keep) := (blk_cell hs.2.1 5).trans rfl
        clear hs
        go_simp
        with_reducible rfl
      rotate_left
      · simp only [Act.put, List.setIfInBounds_toArray, List.set_cons_zero, List.set_cons_succ, i64_w, i32_w]
        rfl
      refine pure_ (i := 26) (N := some 47) (v := ?_) (a' := ?_) #[true, true, true, true, true, true, true, true, true, true, true, true, true, true, true, true, true, true, true, true, true, true, false, false, true, true, true, false, false] rfl rfl (by kernel_rfl) (fun _ _ _ h => h) (Or.inl ⟨by rfl, ?_⟩) ?_ ?_
      rotate_left
      · intro w'
        go_simp
        with_reducible rfl
      rotate_left
      · simp only [Act.put, List.setIfInBounds_toArray, List.set_cons_zero, List.set_cons_succ, i64_w, i32_w]
        rfl
      refine one_ (i := 22) (N := some 43) #[true, true, true, true, true, true, true, true, true, true, true, true, true, true, true, true, true, true, true, true, true, true, true, false, true, true, true, false, false] rfl rfl (by kernel_rfl) (by decide) (fun K hK => ?_)
      refine goes_ Try.func35 (by kernel_rfl) rfl #[.agg #[.int .i64 a.first, .int .i64 a.last, .int .u32 a.grave, .int .u32 a.src, .int .u64 a.many, .bool a.keep]] (by rfl) rfl rfl (by (try simp only [List.map_toArray, List.map_cons, List.map_nil]); first | done | rfl) ?_
      refine (textP a t ht.out _).mono ?_
      rintro e w' ⟨rfl, hb'⟩
      refine ⟨_, rfl, ?_⟩
      refine hK.out _ _ (⟨blk_below hS.1 hb', blk_below hS.2.1 hb', blk_below hS.2.2.1 hb', below_then hS.2.2.2 hS.2.2.2.size hb'⟩) (fun hS => ?_)
      clear hK K
      refine norm_ (a' := ?_) ?_ ?_
      rotate_left
      · show Act.put _ (some 43) _ = _
        simp only [Act.put, List.setIfInBounds_toArray, List.set_cons_zero, List.set_cons_succ, i64_w, i32_w]
        rfl
      refine pure_ (i := 23) (N := some 44) (v := ?_) (a' := ?_) #[true, true, true, true, true, true, true, true, true, true, true, true, true, true, true, true, true, true, true, true, true, true, true, true, true, true, true, false, false] rfl rfl (by kernel_rfl) (fun _ _ _ h => h) (Or.inl ⟨by rfl, ?_⟩) ?_ ?_
      rotate_left
      · intro w'
        go_simp
        with_reducible rfl
      rotate_left
      · simp only [Act.put, List.setIfInBounds_toArray, List.set_cons_zero, List.set_cons_succ, i64_w, i32_w]
        rfl
      refine pure_ (i := 27) (N := some 48) (v := ?_) (a' := ?_) #[true, true, true, true, true, true, true, true, true, true, true, true, true, true, true, true, true, true, true, true, true, true, true, true, true, true, true, true, false] rfl rfl (by kernel_rfl) (fun _ _ _ h => h) (Or.inl ⟨by rfl, ?_⟩) ?_ ?_
      rotate_left
      · intro w'
        go_simp
        with_reducible rfl
      rotate_left
      · simp only [Act.put, List.setIfInBounds_toArray, List.set_cons_zero, List.set_cons_succ, i64_w, i32_w]
        rfl
      refine pure_ (i := 28) (N := some 49) (v := ?_) (a' := ?_) #[true, true, true, true, true, true, true, true, true, true, true, true, true, true, true, true, true, true, true, true, true, true, true, true, true, true, true, true, true] rfl rfl (by kernel_rfl) (fun _ _ _ h => h) (Or.inl ⟨by rfl, ?_⟩) ?_ ?_
      rotate_left
      · intro w'
        go_simp
        with_reducible rfl
      rotate_left
      · simp only [Act.put, List.setIfInBounds_toArray, List.set_cons_zero, List.set_cons_succ, i64_w, i32_w]
        rfl
      refine done_ (by kernel_rfl) ?_

      have B4 := Lib.hid hS.2.2.2
      clear hS
      go_wp2_with fail
      refine (parseC s y f hy.out hsl.out _).mono ?_; rintro e w5 ⟨rfl, hbc⟩
      have B5 := Lib.hid (below_then B4.out B4.out.size hbc)
      clear hbc
      have Y6 := Lib.hid (blk_new w5 (.cells #[.int .i64 y.first, .int .i64 y.last, .int .u32 y.grave, .int .u32 y.src, .int .u64 y.many, .bool y.keep] 36))
      have B6 := Lib.hid (below_alloc B5.out (.cells #[.int .i64 y.first, .int .i64 y.last, .int .u32 y.grave, .int .u32 y.src, .int .u64 y.many, .bool y.keep] 36))
      have y0 : (w5.alloc (.cells #[.int .i64 y.first, .int .i64 y.last, .int .u32 y.grave, .int .u32 y.src, .int .u64 y.many, .bool y.keep] 36)).cell? ⟨w5.heap.size, 0, none⟩ = some (.int .i64 y.first) := (blk_cell Y6.out 0).trans rfl
      have y1 : (w5.alloc (.cells #[.int .i64 y.first, .int .i64 y.last, .int .u32 y.grave, .int .u32 y.src, .int .u64 y.many, .bool y.keep] 36)).cell? ⟨w5.heap.size, 1, none⟩ = some (.int .i64 y.last) := (blk_cell Y6.out 1).trans rfl
      have y2 : (w5.alloc (.cells #[.int .i64 y.first, .int .i64 y.last, .int .u32 y.grave, .int .u32 y.src, .int .u64 y.many, .bool y.keep] 36)).cell? ⟨w5.heap.size, 2, none⟩ = some (.int .u32 y.grave) := (blk_cell Y6.out 2).trans rfl
      have y3 : (w5.alloc (.cells #[.int .i64 y.first, .int .i64 y.last, .int .u32 y.grave, .int .u32 y.src, .int .u64 y.many, .bool y.keep] 36)).cell? ⟨w5.heap.size, 3, none⟩ = some (.int .u32 y.src) := (blk_cell Y6.out 3).trans rfl
      have y4 : (w5.alloc (.cells #[.int .i64 y.first, .int .i64 y.last, .int .u32 y.grave, .int .u32 y.src, .int .u64 y.many, .bool y.keep] 36)).cell? ⟨w5.heap.size, 4, none⟩ = some (.int .u64 y.many) := (blk_cell Y6.out 4).trans rfl
      have y5 : (w5.alloc (.cells #[.int .i64 y.first, .int .i64 y.last, .int .u32 y.grave, .int .u32 y.src, .int .u64 y.many, .bool y.keep] 36)).cell? ⟨w5.heap.size, 5, none⟩ = some (.bool y.keep) := (blk_cell Y6.out 5).trans rfl
      rcases hyf.out with rfl | ⟨rfl, hry, hty⟩
      · go_wp2_with fail
        go_ret
        exact ⟨rfl, B6.out⟩
      · replace hry := Lib.hid hry
        replace hty := Lib.hid hty
        go_wp2_with fail
        refine (rightP y true hry.out _).mono ?_; rintro e w7 ⟨rfl, hbc⟩
        have Y7 := Lib.hid (blk_below Y6.out hbc)
        have B7 := Lib.hid (below_then B6.out B6.out.size hbc)
        clear hbc
        have z0 : w7.cell? ⟨w5.heap.size, 0, none⟩ = some (.int .i64 y.first) := (blk_cell Y7.out 0).trans rfl
        have z1 : w7.cell? ⟨w5.heap.size, 1, none⟩ = some (.int .i64 y.last) := (blk_cell Y7.out 1).trans rfl
        have z2 : w7.cell? ⟨w5.heap.size, 2, none⟩ = some (.int .u32 y.grave) := (blk_cell Y7.out 2).trans rfl
        have z3 : w7.cell? ⟨w5.heap.size, 3, none⟩ = some (.int .u32 y.src) := (blk_cell Y7.out 3).trans rfl
        have z4 : w7.cell? ⟨w5.heap.size, 4, none⟩ = some (.int .u64 y.many) := (blk_cell Y7.out 4).trans rfl
        have z5 : w7.cell? ⟨w5.heap.size, 5, none⟩ = some (.bool y.keep) := (blk_cell Y7.out 5).trans rfl
        go_wp2_with fail
        refine (textP y s hty.out _).mono ?_; rintro e w8 ⟨rfl, hbc⟩
        have B8 := Lib.hid (below_then B7.out B7.out.size hbc)
        clear hbc
        go_wp2_with fail
        go_ret
        exact ⟨rfl, B8.out⟩
    | false =>
      refine (parseC t none0 3 hpt.out (by omega) _).mono ?_; rintro e w3 ⟨rfl, hbc⟩
      have A3 := Lib.hid (blk_below A2.out hbc)
      have C3 := Lib.hid (blk_below C2.out hbc)
      have B3 := Lib.hid (below_then B2.out B2.out.size hbc)
      clear hbc
      go_wp2_with fail
      refine start_ (n := 29) (S := fun w' => w'.heap[w.heap.size]? = some (.cells #[.int .i64 a.first, .int .i64 a.last, .int .u32 a.grave, .int .u32 a.src, .int .u64 a.many, .bool a.keep] 36 (0, 0)) ∧ w'.heap[w.heap.size + 1]? = some (.cells #[.int .i64 a.first, .int .i64 a.last, .int .u32 a.grave, .int .u32 a.src, .int .u64 a.many, .bool a.keep] 36 (0, 0)) ∧ w'.heap[w3.heap.size]? = some (.cells #[.int .i64 none0.first, .int .i64 none0.last, .int .u32 none0.grave, .int .u32 none0.src, .int .u64 none0.many, .bool none0.keep] 36 (0, 0)) ∧ Below w.heap.size w w') (ds := []) #[false, false, false, false, false, false, false, false, false, false, false, false, false, false, false, false, false, false, false, false, false, false, false, false, false, false, false, false, false] (by kernel_rfl) rfl rfl (⟨blk_alloc A3.out _, blk_alloc C3.out _, blk_new _ _, (below_alloc B3.out _).drew⟩) (fun hS => ?_)
      refine pure_ (i := 0) (N := some 21) (v := ?_) (a' := ?_) #[true, false, false, false, false, false, false, false, false, false, false, false, false, false, false, false, false, false, false, false, false, false, false, false, false, false, false, false, false] rfl rfl (by kernel_rfl) (fun _ _ _ h => h) (Or.inl ⟨by rfl, ?_⟩) ?_ ?_
      rotate_left
      · intro w'
        go_simp
        with_reducible rfl
      rotate_left
      · simp only [Act.put, List.setIfInBounds_toArray, List.set_cons_zero, List.set_cons_succ, i64_w, i32_w]
        rfl
      refine pure_ (i := 1) (N := some 22) (v := ?_) (a' := ?_) #[true, true, false, false, false, false, false, false, false, false, false, false, false, false, false, false, false, false, false, false, false, false, false, false, false, false, false, false, false] rfl rfl (by kernel_rfl) (fun _ _ _ h => h) (Or.inl ⟨by rfl, ?_⟩) ?_ ?_
      rotate_left
      · intro w'
        go_simp
        with_reducible rfl
      rotate_left
      · simp only [Act.put, List.setIfInBounds_toArray, List.set_cons_zero, List.set_cons_succ, i64_w, i32_w]
        rfl
      refine take_ (i := 2) (N := some 23) (v := ?_) (a' := ?_) #[true, true, true, false, false, false, false, false, false, false, false, false, false, false, false, false, false, false, false, false, false, false, false, false, false, false, false, false, false] rfl rfl (by kernel_rfl) (fun _ _ _ h => h) (Or.inl ⟨by rfl, ?_⟩) hS ?_ ?_
      rotate_left
      · rintro w' hs
        have t0 : w'.cell? ⟨w.heap.size, 0, none⟩ = some (.int .i64 a.first) := (blk_cell hs.1 0).trans rfl
        have t1 : w'.cell? ⟨w.heap.size, 1, none⟩ = some (.int .i64 a.last) := (blk_cell hs.1 1).trans rfl
        have t2 : w'.cell? ⟨w.heap.size, 2, none⟩ = some (.int .u32 a.grave) := (blk_cell hs.1 2).trans rfl
        have t3 : w'.cell? ⟨w.heap.size, 3, none⟩ = some (.int .u32 a.src) := (blk_cell hs.1 3).trans rfl
        have t4 : w'.cell? ⟨w.heap.size, 4, none⟩ = some (.int .u64 a.many) := (blk_cell hs.1 4).trans rfl
        have t5 : w'.cell? ⟨w.heap.size, 5, none⟩ = some (.bool a.keep) := (blk_cell hs.1 5).trans rfl
        clear hs
        go_simp
        with_reducible rfl
      rotate_left
      · simp only [Act.put, List.setIfInBounds_toArray, List.set_cons_zero, List.set_cons_succ, i64_w, i32_w]
        rfl
      refine one_ (i := 3) (N := some 24) #[true, true, true, true, false, false, false, false, false, false, false, false, false, false, false, false, false, false, false, false, false, false, false, false, false, false, false, false, false] rfl rfl (by kernel_rfl) (by decide) (fun K hK => ?_)
      refine goes_ Try.func27 (by kernel_rfl) rfl #[.agg #[.int .i64 a.first, .int .i64 a.last, .int .u32 a.grave, .int .u32 a.src, .int .u64 a.many, .bool a.keep]] (by rfl) rfl rfl (by (try simp only [List.map_toArray, List.map_cons, List.map_nil]); first | done | rfl) ?_
      refine (rightP a false hra.out _).mono ?_
      rintro e w' ⟨rfl, hb'⟩
      refine ⟨_, rfl, ?_⟩
      refine hK.out _ _ (⟨blk_below hS.1 hb', blk_below hS.2.1 hb', blk_below hS.2.2.1 hb', below_then hS.2.2.2 hS.2.2.2.size hb'⟩) (fun hS => ?_)
      clear hK K
      refine norm_ (a' := ?_) ?_ ?_
      rotate_left
      · show Act.put _ (some 24) _ = _
        simp only [Act.put, List.setIfInBounds_toArray, List.set_cons_zero, List.set_cons_succ, i64_w, i32_w]
        rfl
      refine pure_ (i := 4) (N := some 25) (v := ?_) (a' := ?_) #[true, true, true, true, true, false, false, false, false, false, false, false, false, false, false, false, false, false, false, false, false, false, false, false, false, false, false, false, false] rfl rfl (by kernel_rfl) (fun _ _ _ h => h) (Or.inl ⟨by rfl, ?_⟩) ?_ ?_
      rotate_left
      · intro w'
        go_simp
        with_reducible rfl
      rotate_left
      · simp only [Act.put, List.setIfInBounds_toArray, List.set_cons_zero, List.set_cons_succ, i64_w, i32_w]
        rfl
      refine pure_ (i := 5) (N := some 26) (v := ?_) (a' := ?_) #[true, true, true, true, true, true, false, false, false, false, false, false, false, false, false, false, false, false, false, false, false, false, false, false, false, false, false, false, false] rfl rfl (by kernel_rfl) (fun _ _ _ h => h) (Or.inl ⟨by rfl, ?_⟩) ?_ ?_
      rotate_left
      · intro w'
        go_simp
        with_reducible rfl
      rotate_left
      · simp only [Act.put, List.setIfInBounds_toArray, List.set_cons_zero, List.set_cons_succ, i64_w, i32_w]
        rfl
      refine pure_ (i := 6) (N := some 27) (v := ?_) (a' := ?_) #[true, true, true, true, true, true, true, false, false, false, false, false, false, false, false, false, false, false, false, false, false, false, false, false, false, false, false, false, false] rfl rfl (by kernel_rfl) (fun _ _ _ h => h) (Or.inl ⟨by rfl, ?_⟩) ?_ ?_
      rotate_left
      · intro w'
        go_simp
        with_reducible rfl
      rotate_left
      · simp only [Act.put, List.setIfInBounds_toArray, List.set_cons_zero, List.set_cons_succ, i64_w, i32_w]
        rfl
      refine pure_ (i := 7) (N := some 28) (v := ?_) (a' := ?_) #[true, true, true, true, true, true, true, true, false, false, false, false, false, false, false, false, false, false, false, false, false, false, false, false, false, false, false, false, false] rfl rfl (by kernel_rfl) (fun _ _ _ h => h) (Or.inl ⟨by rfl, ?_⟩) ?_ ?_
      rotate_left
      · intro w'
        go_simp
        with_reducible rfl
      rotate_left
      · simp only [Act.put, List.setIfInBounds_toArray, List.set_cons_zero, List.set_cons_succ, i64_w, i32_w]
        rfl
      refine pure_ (i := 8) (N := some 29) (v := ?_) (a' := ?_) #[true, true, true, true, true, true, true, true, true, false, false, false, false, false, false, false, false, false, false, false, false, false, false, false, false, false, false, false, false] rfl rfl (by kernel_rfl) (fun _ _ _ h => h) (Or.inl ⟨by rfl, ?_⟩) ?_ ?_
      rotate_left
      · intro w'
        go_simp
        with_reducible rfl
      rotate_left
      · simp only [Act.put, List.setIfInBounds_toArray, List.set_cons_zero, List.set_cons_succ, i64_w, i32_w]
        rfl
      refine pure_ (i := 9) (N := some 30) (v := undef) (a' := ?_) #[true, true, true, true, true, true, true, true, true, true, false, false, false, false, false, false, false, false, false, false, false, false, false, false, false, false, false, false, false] rfl rfl (by kernel_rfl) (fun _ _ _ h => h) (Or.inr ⟨by rfl, rfl⟩) ?_ ?_
      rotate_left
      · simp only [Act.put, List.setIfInBounds_toArray, List.set_cons_zero, List.set_cons_succ, i64_w, i32_w]
        rfl
      refine pure_ (i := 10) (N := some 31) (v := undef) (a' := ?_) #[true, true, true, true, true, true, true, true, true, true, true, false, false, false, false, false, false, false, false, false, false, false, false, false, false, false, false, false, false] rfl rfl (by kernel_rfl) (fun _ _ _ h => h) (Or.inr ⟨by rfl, rfl⟩) ?_ ?_
      rotate_left
      · simp only [Act.put, List.setIfInBounds_toArray, List.set_cons_zero, List.set_cons_succ, i64_w, i32_w]
        rfl
      refine pure_ (i := 11) (N := some 32) (v := undef) (a' := ?_) #[true, true, true, true, true, true, true, true, true, true, true, true, false, false, false, false, false, false, false, false, false, false, false, false, false, false, false, false, false] rfl rfl (by kernel_rfl) (fun _ _ _ h => h) (Or.inr ⟨by rfl, rfl⟩) ?_ ?_
      rotate_left
      · simp only [Act.put, List.setIfInBounds_toArray, List.set_cons_zero, List.set_cons_succ, i64_w, i32_w]
        rfl
      refine pure_ (i := 12) (N := some 33) (v := ?_) (a' := ?_) #[true, true, true, true, true, true, true, true, true, true, true, true, true, false, false, false, false, false, false, false, false, false, false, false, false, false, false, false, false] rfl rfl (by kernel_rfl) (fun _ _ _ h => h) (Or.inl ⟨by rfl, ?_⟩) ?_ ?_
      rotate_left
      · intro w'
        go_simp
        with_reducible rfl
      rotate_left
      · simp only [Act.put, List.setIfInBounds_toArray, List.set_cons_zero, List.set_cons_succ, i64_w, i32_w]
        rfl
      refine pure_ (i := 13) (N := some 34) (v := ?_) (a' := ?_) #[true, true, true, true, true, true, true, true, true, true, true, true, true, true, false, false, false, false, false, false, false, false, false, false, false, false, false, false, false] rfl rfl (by kernel_rfl) (fun _ _ _ h => h) (Or.inl ⟨by rfl, ?_⟩) ?_ ?_
      rotate_left
      · intro w'
        go_simp
        with_reducible rfl
      rotate_left
      · simp only [Act.put, List.setIfInBounds_toArray, List.set_cons_zero, List.set_cons_succ, i64_w, i32_w]
        rfl
      refine pure_ (i := 14) (N := some 35) (v := ?_) (a' := ?_) #[true, true, true, true, true, true, true, true, true, true, true, true, true, true, true, false, false, false, false, false, false, false, false, false, false, false, false, false, false] rfl rfl (by kernel_rfl) (fun _ _ _ h => h) (Or.inl ⟨by rfl, ?_⟩) ?_ ?_
      rotate_left
      · intro w'
        go_simp
        with_reducible rfl
      rotate_left
      · simp only [Act.put, List.setIfInBounds_toArray, List.set_cons_zero, List.set_cons_succ, i64_w, i32_w]
        rfl
      refine pure_ (i := 15) (N := some 36) (v := ?_) (a' := ?_) #[true, true, true, true, true, true, true, true, true, true, true, true, true, true, true, true, false, false, false, false, false, false, false, false, false, false, false, false, false] rfl rfl (by kernel_rfl) (fun _ _ _ h => h) (Or.inl ⟨by rfl, ?_⟩) ?_ ?_
      rotate_left
      · intro w'
        go_simp
        with_reducible rfl
      rotate_left
      · simp only [Act.put, List.setIfInBounds_toArray, List.set_cons_zero, List.set_cons_succ, i64_w, i32_w]
        rfl
      refine pure_ (i := 16) (N := some 37) (v := ?_) (a' := ?_) #[true, true, true, true, true, true, true, true, true, true, true, true, true, true, true, true, true, false, false, false, false, false, false, false, false, false, false, false, false] rfl rfl (by kernel_rfl) (fun _ _ _ h => h) (Or.inl ⟨by rfl, ?_⟩) ?_ ?_
      rotate_left
      · intro w'
        go_simp
        with_reducible rfl
      rotate_left
      · simp only [Act.put, List.setIfInBounds_toArray, List.set_cons_zero, List.set_cons_succ, i64_w, i32_w]
        rfl
      refine pure_ (i := 17) (N := some 38) (v := ?_) (a' := ?_) #[true, true, true, true, true, true, true, true, true, true, true, true, true, true, true, true, true, true, false, false, false, false, false, false, false, false, false, false, false] rfl rfl (by kernel_rfl) (fun _ _ _ h => h) (Or.inl ⟨by rfl, ?_⟩) ?_ ?_
      rotate_left
      · intro w'
        go_simp
        with_reducible rfl
      rotate_left
      · simp only [Act.put, List.setIfInBounds_toArray, List.set_cons_zero, List.set_cons_succ, i64_w, i32_w]
        rfl
      refine pure_ (i := 18) (N := some 39) (v := ?_) (a' := ?_) #[true, true, true, true, true, true, true, true, true, true, true, true, true, true, true, true, true, true, true, false, false, false, false, false, false, false, false, false, false] rfl rfl (by kernel_rfl) (fun _ _ _ h => h) (Or.inl ⟨by rfl, ?_⟩) ?_ ?_
      rotate_left
      · intro w'
        go_simp
        with_reducible rfl
      rotate_left
      · simp only [Act.put, List.setIfInBounds_toArray, List.set_cons_zero, List.set_cons_succ, i64_w, i32_w]
        rfl
      refine pure_ (i := 19) (N := some 40) (v := ?_) (a' := ?_) #[true, true, true, true, true, true, true, true, true, true, true, true, true, true, true, true, true, true, true, true, false, false, false, false, false, false, false, false, false] rfl rfl (by kernel_rfl) (fun _ _ _ h => h) (Or.inl ⟨by rfl, ?_⟩) ?_ ?_
      rotate_left
      · intro w'
        go_simp
        with_reducible rfl
      rotate_left
      · simp only [Act.put, List.setIfInBounds_toArray, List.set_cons_zero, List.set_cons_succ, i64_w, i32_w]
        rfl
      refine pure_ (i := 20) (N := some 41) (v := ?_) (a' := ?_) #[true, true, true, true, true, true, true, true, true, true, true, true, true, true, true, true, true, true, true, true, true, false, false, false, false, false, false, false, false] rfl rfl (by kernel_rfl) (fun _ _ _ h => h) (Or.inl ⟨by rfl, ?_⟩) ?_ ?_
      rotate_left
      · intro w'
        go_simp
        with_reducible rfl
      rotate_left
      · simp only [Act.put, List.setIfInBounds_toArray, List.set_cons_zero, List.set_cons_succ, i64_w, i32_w]
        rfl
      refine take_ (i := 21) (N := some 42) (v := ?_) (a' := ?_) #[true, true, true, true, true, true, true, true, true, true, true, true, true, true, true, true, true, true, true, true, true, true, false, false, false, false, false, false, false] rfl rfl (by kernel_rfl) (fun _ _ _ h => h) (Or.inl ⟨by rfl, ?_⟩) hS ?_ ?_
      rotate_left
      · rintro w' hs
        have t0 : w'.cell? ⟨w.heap.size + 1, 0, none⟩ = some (.int .i64 a.first) := (blk_cell hs.2.1 0).trans rfl
        have t1 : w'.cell? ⟨w.heap.size + 1, 1, none⟩ = some (.int .i64 a.last) := (blk_cell hs.2.1 1).trans rfl
        have t2 : w'.cell? ⟨w.heap.size + 1, 2, none⟩ = some (.int .u32 a.grave) := (blk_cell hs.2.1 2).trans rfl
        have t3 : w'.cell? ⟨w.heap.size + 1, 3, none⟩ = some (.int .u32 a.src) := (blk_cell hs.2.1 3).trans rfl
        have t4 : w'.cell? ⟨w.heap.size + 1, 4, none⟩ = some (.int .u64 a.many) := (blk_cell hs.2.1 4).trans rfl
        have t5 : w'.cell? ⟨w.heap.size + 1, 5, none⟩ = some (.bool a.keep) := (blk_cell hs.2.1 5).trans rfl
        clear hs
        go_simp
        with_reducible rfl
      rotate_left
      · simp only [Act.put, List.setIfInBounds_toArray, List.set_cons_zero, List.set_cons_succ, i64_w, i32_w]
        rfl
      refine take_ (i := 24) (N := some 45) (v := ?_) (a' := ?_) #[true, true, true, true, true, true, true, true, true, true, true, true, true, true, true, true, true, true, true, true, true, true, false, false, true, false, false, false, false] rfl rfl (by kernel_rfl) (fun _ _ _ h => h) (Or.inl ⟨by rfl, ?_⟩) hS ?_ ?_
      rotate_left
      · rintro w' hs
        have t0 : w'.cell? ⟨w.heap.size, 0, none⟩ = some (.int .i64 a.first) := (blk_cell hs.1 0).trans rfl
        have t1 : w'.cell? ⟨w.heap.size, 1, none⟩ = some (.int .i64 a.last) := (blk_cell hs.1 1).trans rfl
        have t2 : w'.cell? ⟨w.heap.size, 2, none⟩ = some (.int .u32 a.grave) := (blk_cell hs.1 2).trans rfl
        have t3 : w'.cell? ⟨w.heap.size, 3, none⟩ = some (.int .u32 a.src) := (blk_cell hs.1 3).trans rfl
        have t4 : w'.cell? ⟨w.heap.size, 4, none⟩ = some (.int .u64 a.many) := (blk_cell hs.1 4).trans rfl
        have t5 : w'.cell? ⟨w.heap.size, 5, none⟩ = some (.bool a.keep) := (blk_cell hs.1 5).trans rfl
        clear hs
        go_simp
        with_reducible rfl
      rotate_left
      · simp only [Act.put, List.setIfInBounds_toArray, List.set_cons_zero, List.set_cons_succ, i64_w, i32_w]
        rfl
      refine take_ (i := 25) (N := some 46) (v := ?_) (a' := ?_) #[true, true, true, true, true, true, true, true, true, true, true, true, true, true, true, true, true, true, true, true, true, true, false, false, true, true, false, false, false] rfl rfl (by kernel_rfl) (fun _ _ _ h => h) (Or.inl ⟨by rfl, ?_⟩) hS ?_ ?_
      rotate_left
      · rintro w' hs
        have t0 : w'.cell? ⟨w.heap.size + 1, 0, none⟩ = some (.int .i64 a.first) := (blk_cell hs.2.1 0).trans rfl
        have t1 : w'.cell? ⟨w.heap.size + 1, 1, none⟩ = some (.int .i64 a.last) := (blk_cell hs.2.1 1).trans rfl
        have t2 : w'.cell? ⟨w.heap.size + 1, 2, none⟩ = some (.int .u32 a.grave) := (blk_cell hs.2.1 2).trans rfl
        have t3 : w'.cell? ⟨w.heap.size + 1, 3, none⟩ = some (.int .u32 a.src) := (blk_cell hs.2.1 3).trans rfl
        have t4 : w'.cell? ⟨w.heap.size + 1, 4, none⟩ = some (.int .u64 a.many) := (blk_cell hs.2.1 4).trans rfl
        have t5 : w'.cell? ⟨w.heap.size + 1, 5, none⟩ = some (.bool a.keep) := (blk_cell hs.2.1 5).trans rfl
        clear hs
        go_simp
        with_reducible rfl
      rotate_left
      · simp only [Act.put, List.setIfInBounds_toArray, List.set_cons_zero, List.set_cons_succ, i64_w, i32_w]
        rfl
      refine pure_ (i := 26) (N := some 47) (v := ?_) (a' := ?_) #[true, true, true, true, true, true, true, true, true, true, true, true, true, true, true, true, true, true, true, true, true, true, false, false, true, true, true, false, false] rfl rfl (by kernel_rfl) (fun _ _ _ h => h) (Or.inl ⟨by rfl, ?_⟩) ?_ ?_
      rotate_left
      · intro w'
        go_simp
        with_reducible rfl
      rotate_left
      · simp only [Act.put, List.setIfInBounds_toArray, List.set_cons_zero, List.set_cons_succ, i64_w, i32_w]
        rfl
      refine one_ (i := 22) (N := some 43) #[true, true, true, true, true, true, true, true, true, true, true, true, true, true, true, true, true, true, true, true, true, true, true, false, true, true, true, false, false] rfl rfl (by kernel_rfl) (by decide) (fun K hK => ?_)
      refine goes_ Try.func35 (by kernel_rfl) rfl #[.agg #[.int .i64 a.first, .int .i64 a.last, .int .u32 a.grave, .int .u32 a.src, .int .u64 a.many, .bool a.keep]] (by rfl) rfl rfl (by (try simp only [List.map_toArray, List.map_cons, List.map_nil]); first | done | rfl) ?_
      refine (textP a t ht.out _).mono ?_
      rintro e w' ⟨rfl, hb'⟩
      refine ⟨_, rfl, ?_⟩
      refine hK.out _ _ (⟨blk_below hS.1 hb', blk_below hS.2.1 hb', blk_below hS.2.2.1 hb', below_then hS.2.2.2 hS.2.2.2.size hb'⟩) (fun hS => ?_)
      clear hK K
      refine norm_ (a' := ?_) ?_ ?_
      rotate_left
      · show Act.put _ (some 43) _ = _
        simp only [Act.put, List.setIfInBounds_toArray, List.set_cons_zero, List.set_cons_succ, i64_w, i32_w]
        rfl
      refine pure_ (i := 23) (N := some 44) (v := ?_) (a' := ?_) #[true, true, true, true, true, true, true, true, true, true, true, true, true, true, true, true, true, true, true, true, true, true, true, true, true, true, true, false, false] rfl rfl (by kernel_rfl) (fun _ _ _ h => h) (Or.inl ⟨by rfl, ?_⟩) ?_ ?_
      rotate_left
      · intro w'
        go_simp
        with_reducible rfl
      rotate_left
      · simp only [Act.put, List.setIfInBounds_toArray, List.set_cons_zero, List.set_cons_succ, i64_w, i32_w]
        rfl
      refine pure_ (i := 27) (N := some 48) (v := ?_) (a' := ?_) #[true, true, true, true, true, true, true, true, true, true, true, true, true, true, true, true, true, true, true, true, true, true, true, true, true, true, true, true, false] rfl rfl (by kernel_rfl) (fun _ _ _ h => h) (Or.inl ⟨by rfl, ?_⟩) ?_ ?_
      rotate_left
      · intro w'
        go_simp
        with_reducible rfl
      rotate_left
      · simp only [Act.put, List.setIfInBounds_toArray, List.set_cons_zero, List.set_cons_succ, i64_w, i32_w]
        rfl
      refine pure_ (i := 28) (N := some 49) (v := ?_) (a' := ?_) #[true, true, true, true, true, true, true, true, true, true, true, true, true, true, true, true, true, true, true, true, true, true, true, true, true, true, true, true, true] rfl rfl (by kernel_rfl) (fun _ _ _ h => h) (Or.inl ⟨by rfl, ?_⟩) ?_ ?_
      rotate_left
      · intro w'
        go_simp
        with_reducible rfl
      rotate_left
      · simp only [Act.put, List.setIfInBounds_toArray, List.set_cons_zero, List.set_cons_succ, i64_w, i32_w]
        rfl
      refine done_ (by kernel_rfl) ?_

      have B4 := Lib.hid hS.2.2.2
      clear hS
      go_wp2_with fail
      refine (parseC s y f hy.out hsl.out _).mono ?_; rintro e w5 ⟨rfl, hbc⟩
      have B5 := Lib.hid (below_then B4.out B4.out.size hbc)
      clear hbc
      have Y6 := Lib.hid (blk_new w5 (.cells #[.int .i64 y.first, .int .i64 y.last, .int .u32 y.grave, .int .u32 y.src, .int .u64 y.many, .bool y.keep] 36))
      have B6 := Lib.hid (below_alloc B5.out (.cells #[.int .i64 y.first, .int .i64 y.last, .int .u32 y.grave, .int .u32 y.src, .int .u64 y.many, .bool y.keep] 36))
      have y0 : (w5.alloc (.cells #[.int .i64 y.first, .int .i64 y.last, .int .u32 y.grave, .int .u32 y.src, .int .u64 y.many, .bool y.keep] 36)).cell? ⟨w5.heap.size, 0, none⟩ = some (.int .i64 y.first) := (blk_cell Y6.out 0).trans rfl
      have y1 : (w5.alloc (.cells #[.int .i64 y.first, .int .i64 y.last, .int .u32 y.grave, .int .u32 y.src, .int .u64 y.many, .bool y.keep] 36)).cell? ⟨w5.heap.size, 1, none⟩ = some (.int .i64 y.last) := (blk_cell Y6.out 1).trans rfl
      have y2 : (w5.alloc (.cells #[.int .i64 y.first, .int .i64 y.last, .int .u32 y.grave, .int .u32 y.src, .int .u64 y.many, .bool y.keep] 36)).cell? ⟨w5.heap.size, 2, none⟩ = some (.int .u32 y.grave) := (blk_cell Y6.out 2).trans rfl
      have y3 : (w5.alloc (.cells #[.int .i64 y.first, .int .i64 y.last, .int .u32 y.grave, .int .u32 y.src, .int .u64 y.many, .bool y.keep] 36)).cell? ⟨w5.heap.size, 3, none⟩ = some (.int .u32 y.src) := (blk_cell Y6.out 3).trans rfl
      have y4 : (w5.alloc (.cells #[.int .i64 y.first, .int .i64 y.last, .int .u32 y.grave, .int .u32 y.src, .int .u64 y.many, .bool y.keep] 36)).cell? ⟨w5.heap.size, 4, none⟩ = some (.int .u64 y.many) := (blk_cell Y6.out 4).trans rfl
      have y5 : (w5.alloc (.cells #[.int .i64 y.first, .int .i64 y.last, .int .u32 y.grave, .int .u32 y.src, .int .u64 y.many, .bool y.keep] 36)).cell? ⟨w5.heap.size, 5, none⟩ = some (.bool y.keep) := (blk_cell Y6.out 5).trans rfl
      rcases hyf.out with rfl | ⟨rfl, hry, hty⟩
      · go_wp2_with fail
        go_ret
        exact ⟨rfl, B6.out⟩
      · replace hry := Lib.hid hry
        replace hty := Lib.hid hty
        go_wp2_with fail
        refine (rightP y true hry.out _).mono ?_; rintro e w7 ⟨rfl, hbc⟩
        have Y7 := Lib.hid (blk_below Y6.out hbc)
        have B7 := Lib.hid (below_then B6.out B6.out.size hbc)
        clear hbc
        have z0 : w7.cell? ⟨w5.heap.size, 0, none⟩ = some (.int .i64 y.first) := (blk_cell Y7.out 0).trans rfl
        have z1 : w7.cell? ⟨w5.heap.size, 1, none⟩ = some (.int .i64 y.last) := (blk_cell Y7.out 1).trans rfl
        have z2 : w7.cell? ⟨w5.heap.size, 2, none⟩ = some (.int .u32 y.grave) := (blk_cell Y7.out 2).trans rfl
        have z3 : w7.cell? ⟨w5.heap.size, 3, none⟩ = some (.int .u32 y.src) := (blk_cell Y7.out 3).trans rfl
        have z4 : w7.cell? ⟨w5.heap.size, 4, none⟩ = some (.int .u64 y.many) := (blk_cell Y7.out 4).trans rfl
        have z5 : w7.cell? ⟨w5.heap.size, 5, none⟩ = some (.bool y.keep) := (blk_cell Y7.out 5).trans rfl
        go_wp2_with fail
        refine (textP y s hty.out _).mono ?_; rintro e w8 ⟨rfl, hbc⟩
        have B8 := Lib.hid (below_then B7.out B7.out.size hbc)
        clear hbc
        go_wp2_with fail
        go_ret
        exact ⟨rfl, B8.out⟩
  · have htu2 : (t.toList == u.toList) = false := by rw [htu.out]; simp [hab]
    have hconj : (a.first == b.first && (a.last == b.last && (a.grave == b.grave && (a.src == b.src && (a.many == b.many && (a.keep == b.keep)))))) = false := by
      rw [Bool.eq_false_iff]; intro h; apply hab
      simp only [Bool.and_eq_true, beq_iff_eq] at h
      obtain ⟨h0, h1, h2, h3, h4, h5⟩ := h
      obtain ⟨a0, a1, a2, a3, a4, a5⟩ := a; obtain ⟨b0, b1, b2, b3, b4, b5⟩ := b
      simp only at h0 h1 h2 h3 h4 h5; subst h0 h1 h2 h3 h4 h5; rfl
    clear hab htu
    cases ra with
    | true =>
      refine (parseC t a 0 hpt.out (by omega) _).mono ?_; rintro e w3 ⟨rfl, hbc⟩
      have A3 := Lib.hid (blk_below A2.out hbc)
      have C3 := Lib.hid (blk_below C2.out hbc)
      have B3 := Lib.hid (below_then B2.out B2.out.size hbc)
      clear hbc
      go_wp2_with fail
      refine start_ (n := 29) (S := fun w' => w'.heap[w.heap.size]? = some (.cells #[.int .i64 a.first, .int .i64 a.last, .int .u32 a.grave, .int .u32 a.src, .int .u64 a.many, .bool a.keep] 36 (0, 0)) ∧ w'.heap[w.heap.size + 1]? = some (.cells #[.int .i64 b.first, .int .i64 b.last, .int .u32 b.grave, .int .u32 b.src, .int .u64 b.many, .bool b.keep] 36 (0, 0)) ∧ w'.heap[w3.heap.size]? = some (.cells #[.int .i64 a.first, .int .i64 a.last, .int .u32 a.grave, .int .u32 a.src, .int .u64 a.many, .bool a.keep] 36 (0, 0)) ∧ Below w.heap.size w w') (ds := []) #[false, false, false, false, false, false, false, false, false, false, false, false, false, false, false, false, false, false, false, false, false, false, false, false, false, false, false, false, false] (by kernel_rfl) rfl rfl (⟨blk_alloc A3.out _, blk_alloc C3.out _, blk_new _ _, (below_alloc B3.out _).drew⟩) (fun hS => ?_)
      refine pure_ (i := 0) (N := some 21) (v := ?_) (a' := ?_) #[true, false, false, false, false, false, false, false, false, false, false, false, false, false, false, false, false, false, false, false, false, false, false, false, false, false, false, false, false] rfl rfl (by kernel_rfl) (fun _ _ _ h => h) (Or.inl ⟨by rfl, ?_⟩) ?_ ?_
      rotate_left
      · intro w'
        go_simp
        with_reducible rfl
      rotate_left
      · simp only [Act.put, List.setIfInBounds_toArray, List.set_cons_zero, List.set_cons_succ, i64_w, i32_w]
        rfl
      refine pure_ (i := 1) (N := some 22) (v := ?_) (a' := ?_) #[true, true, false, false, false, false, false, false, false, false, false, false, false, false, false, false, false, false, false, false, false, false, false, false, false, false, false, false, false] rfl rfl (by kernel_rfl) (fun _ _ _ h => h) (Or.inl ⟨by rfl, ?_⟩) ?_ ?_
      rotate_left
      · intro w'
        go_simp
        with_reducible rfl
      rotate_left
      · simp only [Act.put, List.setIfInBounds_toArray, List.set_cons_zero, List.set_cons_succ, i64_w, i32_w]
        rfl
      refine take_ (i := 2) (N := some 23) (v := ?_) (a' := ?_) #[true, true, true, false, false, false, false, false, false, false, false, false, false, false, false, false, false, false, false, false, false, false, false, false, false, false, false, false, false] rfl rfl (by kernel_rfl) (fun _ _ _ h => h) (Or.inl ⟨by rfl, ?_⟩) hS ?_ ?_
      rotate_left
      · rintro w' hs
        have t0 : w'.cell? ⟨w.heap.size, 0, none⟩ = some (.int .i64 a.first) := (blk_cell hs.1 0).trans rfl
        have t1 : w'.cell? ⟨w.heap.size, 1, none⟩ = some (.int .i64 a.last) := (blk_cell hs.1 1).trans rfl
        have t2 : w'.cell? ⟨w.heap.size, 2, none⟩ = some (.int .u32 a.grave) := (blk_cell hs.1 2).trans rfl
        have t3 : w'.cell? ⟨w.heap.size, 3, none⟩ = some (.int .u32 a.src) := (blk_cell hs.1 3).trans rfl
        have t4 : w'.cell? ⟨w.heap.size, 4, none⟩ = some (.int .u64 a.many) := (blk_cell hs.1 4).trans rfl
        have t5 : w'.cell? ⟨w.heap.size, 5, none⟩ = some (.bool a.keep) := (blk_cell hs.1 5).trans rfl
        clear hs
        go_simp
        with_reducible rfl
      rotate_left
      · simp only [Act.put, List.setIfInBounds_toArray, List.set_cons_zero, List.set_cons_succ, i64_w, i32_w]
        rfl
      refine one_ (i := 3) (N := some 24) #[true, true, true, true, false, false, false, false, false, false, false, false, false, false, false, false, false, false, false, false, false, false, false, false, false, false, false, false, false] rfl rfl (by kernel_rfl) (by decide) (fun K hK => ?_)
      refine goes_ Try.func27 (by kernel_rfl) rfl #[.agg #[.int .i64 a.first, .int .i64 a.last, .int .u32 a.grave, .int .u32 a.src, .int .u64 a.many, .bool a.keep]] (by rfl) rfl rfl (by (try simp only [List.map_toArray, List.map_cons, List.map_nil]); first | done | rfl) ?_
      refine (rightP a true hra.out _).mono ?_
      rintro e w' ⟨rfl, hb'⟩
      refine ⟨_, rfl, ?_⟩
      refine hK.out _ _ (⟨blk_below hS.1 hb', blk_below hS.2.1 hb', blk_below hS.2.2.1 hb', below_then hS.2.2.2 hS.2.2.2.size hb'⟩) (fun hS => ?_)
      clear hK K
      refine norm_ (a' := ?_) ?_ ?_
      rotate_left
      · show Act.put _ (some 24) _ = _
        simp only [Act.put, List.setIfInBounds_toArray, List.set_cons_zero, List.set_cons_succ, i64_w, i32_w]
        rfl
      refine pure_ (i := 4) (N := some 25) (v := ?_) (a' := ?_) #[true, true, true, true, true, false, false, false, false, false, false, false, false, false, false, false, false, false, false, false, false, false, false, false, false, false, false, false, false] rfl rfl (by kernel_rfl) (fun _ _ _ h => h) (Or.inl ⟨by rfl, ?_⟩) ?_ ?_
      rotate_left
      · intro w'
        go_simp
        with_reducible rfl
      rotate_left
      · simp only [Act.put, List.setIfInBounds_toArray, List.set_cons_zero, List.set_cons_succ, i64_w, i32_w]
        rfl
      refine pure_ (i := 5) (N := some 26) (v := ?_) (a' := ?_) #[true, true, true, true, true, true, false, false, false, false, false, false, false, false, false, false, false, false, false, false, false, false, false, false, false, false, false, false, false] rfl rfl (by kernel_rfl) (fun _ _ _ h => h) (Or.inl ⟨by rfl, ?_⟩) ?_ ?_
      rotate_left
      · intro w'
        go_simp
        with_reducible rfl
      rotate_left
      · simp only [Act.put, List.setIfInBounds_toArray, List.set_cons_zero, List.set_cons_succ, i64_w, i32_w]
        rfl
      refine pure_ (i := 6) (N := some 27) (v := ?_) (a' := ?_) #[true, true, true, true, true, true, true, false, false, false, false, false, false, false, false, false, false, false, false, false, false, false, false, false, false, false, false, false, false] rfl rfl (by kernel_rfl) (fun _ _ _ h => h) (Or.inl ⟨by rfl, ?_⟩) ?_ ?_
      rotate_left
      · intro w'
        go_simp
        with_reducible rfl
      rotate_left
      · simp only [Act.put, List.setIfInBounds_toArray, List.set_cons_zero, List.set_cons_succ, i64_w, i32_w]
        rfl
      refine pure_ (i := 7) (N := some 28) (v := ?_) (a' := ?_) #[true, true, true, true, true, true, true, true, false, false, false, false, false, false, false, false, false, false, false, false, false, false, false, false, false, false, false, false, false] rfl rfl (by kernel_rfl) (fun _ _ _ h => h) (Or.inl ⟨by rfl, ?_⟩) ?_ ?_
      rotate_left
      · intro w'
        go_simp
        with_reducible rfl
      rotate_left
      · simp only [Act.put, List.setIfInBounds_toArray, List.set_cons_zero, List.set_cons_succ, i64_w, i32_w]
        rfl
      refine pure_ (i := 8) (N := some 29) (v := ?_) (a' := ?_) #[true, true, true, true, true, true, true, true, true, false, false, false, false, false, false, false, false, false, false, false, false, false, false, false, false, false, false, false, false] rfl rfl (by kernel_rfl) (fun _ _ _ h => h) (Or.inl ⟨by rfl, ?_⟩) ?_ ?_
      rotate_left
      · intro w'
        go_simp
        with_reducible rfl
      rotate_left
      · simp only [Act.put, List.setIfInBounds_toArray, List.set_cons_zero, List.set_cons_succ, i64_w, i32_w]
        rfl
      refine take_ (i := 9) (N := some 30) (v := ?_) (a' := ?_) #[true, true, true, true, true, true, true, true, true, true, false, false, false, false, false, false, false, false, false, false, false, false, false, false, false, false, false, false, false] rfl rfl (by kernel_rfl) (fun _ _ _ h => h) (Or.inl ⟨by rfl, ?_⟩) hS ?_ ?_
      rotate_left
      · rintro w' hs
        have t0 : w'.cell? ⟨w3.heap.size, 0, none⟩ = some (.int .i64 a.first) := (blk_cell hs.2.2.1 0).trans rfl
        have t1 : w'.cell? ⟨w3.heap.size, 1, none⟩ = some (.int .i64 a.last) := (blk_cell hs.2.2.1 1).trans rfl
        have t2 : w'.cell? ⟨w3.heap.size, 2, none⟩ = some (.int .u32 a.grave) := (blk_cell hs.2.2.1 2).trans rfl
        have t3 : w'.cell? ⟨w3.heap.size, 3, none⟩ = some (.int .u32 a.src) := (blk_cell hs.2.2.1 3).trans rfl
        have t4 : w'.cell? ⟨w3.heap.size, 4, none⟩ = some (.int .u64 a.many) := (blk_cell hs.2.2.1 4).trans rfl
        have t5 : w'.cell? ⟨w3.heap.size, 5, none⟩ = some (.bool a.keep) := (blk_cell hs.2.2.1 5).trans rfl
        clear hs
        go_simp
        with_reducible rfl
      rotate_left
      · simp only [Act.put, List.setIfInBounds_toArray, List.set_cons_zero, List.set_cons_succ, i64_w, i32_w]
        rfl
      refine take_ (i := 10) (N := some 31) (v := ?_) (a' := ?_) #[true, true, true, true, true, true, true, true, true, true, true, false, false, false, false, false, false, false, false, false, false, false, false, false, false, false, false, false, false] rfl rfl (by kernel_rfl) (fun _ _ _ h => h) (Or.inl ⟨by rfl, ?_⟩) hS ?_ ?_
      rotate_left
      · rintro w' hs
        have t0 : w'.cell? ⟨w.heap.size, 0, none⟩ = some (.int .i64 a.first) := (blk_cell hs.1 0).trans rfl
        have t1 : w'.cell? ⟨w.heap.size, 1, none⟩ = some (.int .i64 a.last) := (blk_cell hs.1 1).trans rfl
        have t2 : w'.cell? ⟨w.heap.size, 2, none⟩ = some (.int .u32 a.grave) := (blk_cell hs.1 2).trans rfl
        have t3 : w'.cell? ⟨w.heap.size, 3, none⟩ = some (.int .u32 a.src) := (blk_cell hs.1 3).trans rfl
        have t4 : w'.cell? ⟨w.heap.size, 4, none⟩ = some (.int .u64 a.many) := (blk_cell hs.1 4).trans rfl
        have t5 : w'.cell? ⟨w.heap.size, 5, none⟩ = some (.bool a.keep) := (blk_cell hs.1 5).trans rfl
        clear hs
        go_simp
        with_reducible rfl
      rotate_left
      · simp only [Act.put, List.setIfInBounds_toArray, List.set_cons_zero, List.set_cons_succ, i64_w, i32_w]
        rfl
      refine pure_ (i := 11) (N := some 32) (v := ?_) (a' := ?_) #[true, true, true, true, true, true, true, true, true, true, true, true, false, false, false, false, false, false, false, false, false, false, false, false, false, false, false, false, false] rfl rfl (by kernel_rfl) (fun _ _ _ h => h) (Or.inl ⟨by rfl, ?_⟩) ?_ ?_
      rotate_left
      · intro w'
        go_simp
        with_reducible rfl
      rotate_left
      · simp only [Act.put, List.setIfInBounds_toArray, List.set_cons_zero, List.set_cons_succ, i64_w, i32_w]
        rfl
      refine pure_ (i := 12) (N := some 33) (v := ?_) (a' := ?_) #[true, true, true, true, true, true, true, true, true, true, true, true, true, false, false, false, false, false, false, false, false, false, false, false, false, false, false, false, false] rfl rfl (by kernel_rfl) (fun _ _ _ h => h) (Or.inl ⟨by rfl, ?_⟩) ?_ ?_
      rotate_left
      · intro w'
        go_simp
        with_reducible rfl
      rotate_left
      · simp only [Act.put, List.setIfInBounds_toArray, List.set_cons_zero, List.set_cons_succ, i64_w, i32_w]
        rfl
      refine pure_ (i := 13) (N := some 34) (v := ?_) (a' := ?_) #[true, true, true, true, true, true, true, true, true, true, true, true, true, true, false, false, false, false, false, false, false, false, false, false, false, false, false, false, false] rfl rfl (by kernel_rfl) (fun _ _ _ h => h) (Or.inl ⟨by rfl, ?_⟩) ?_ ?_
      rotate_left
      · intro w'
        go_simp
        with_reducible rfl
      rotate_left
      · simp only [Act.put, List.setIfInBounds_toArray, List.set_cons_zero, List.set_cons_succ, i64_w, i32_w]
        rfl
      refine pure_ (i := 14) (N := some 35) (v := ?_) (a' := ?_) #[true, true, true, true, true, true, true, true, true, true, true, true, true, true, true, false, false, false, false, false, false, false, false, false, false, false, false, false, false] rfl rfl (by kernel_rfl) (fun _ _ _ h => h) (Or.inl ⟨by rfl, ?_⟩) ?_ ?_
      rotate_left
      · intro w'
        go_simp
        with_reducible rfl
      rotate_left
      · simp only [Act.put, List.setIfInBounds_toArray, List.set_cons_zero, List.set_cons_succ, i64_w, i32_w]
        rfl
      refine pure_ (i := 15) (N := some 36) (v := ?_) (a' := ?_) #[true, true, true, true, true, true, true, true, true, true, true, true, true, true, true, true, false, false, false, false, false, false, false, false, false, false, false, false, false] rfl rfl (by kernel_rfl) (fun _ _ _ h => h) (Or.inl ⟨by rfl, ?_⟩) ?_ ?_
      rotate_left
      · intro w'
        go_simp
        with_reducible rfl
      rotate_left
      · simp only [Act.put, List.setIfInBounds_toArray, List.set_cons_zero, List.set_cons_succ, i64_w, i32_w]
        rfl
      refine pure_ (i := 16) (N := some 37) (v := ?_) (a' := ?_) #[true, true, true, true, true, true, true, true, true, true, true, true, true, true, true, true, true, false, false, false, false, false, false, false, false, false, false, false, false] rfl rfl (by kernel_rfl) (fun _ _ _ h => h) (Or.inl ⟨by rfl, ?_⟩) ?_ ?_
      rotate_left
      · intro w'
        go_simp
        with_reducible rfl
      rotate_left
      · simp only [Act.put, List.setIfInBounds_toArray, List.set_cons_zero, List.set_cons_succ, i64_w, i32_w]
        rfl
      refine pure_ (i := 17) (N := some 38) (v := ?_) (a' := ?_) #[true, true, true, true, true, true, true, true, true, true, true, true, true, true, true, true, true, true, false, false, false, false, false, false, false, false, false, false, false] rfl rfl (by kernel_rfl) (fun _ _ _ h => h) (Or.inl ⟨by rfl, ?_⟩) ?_ ?_
      rotate_left
      · intro w'
        go_simp
        with_reducible rfl
      rotate_left
      · simp only [Act.put, List.setIfInBounds_toArray, List.set_cons_zero, List.set_cons_succ, i64_w, i32_w]
        rfl
      refine pure_ (i := 18) (N := some 39) (v := ?_) (a' := ?_) #[true, true, true, true, true, true, true, true, true, true, true, true, true, true, true, true, true, true, true, false, false, false, false, false, false, false, false, false, false] rfl rfl (by kernel_rfl) (fun _ _ _ h => h) (Or.inl ⟨by rfl, ?_⟩) ?_ ?_
      rotate_left
      · intro w'
        go_simp
        with_reducible rfl
      rotate_left
      · simp only [Act.put, List.setIfInBounds_toArray, List.set_cons_zero, List.set_cons_succ, i64_w, i32_w]
        rfl
      refine pure_ (i := 19) (N := some 40) (v := ?_) (a' := ?_) #[true, true, true, true, true, true, true, true, true, true, true, true, true, true, true, true, true, true, true, true, false, false, false, false, false, false, false, false, false] rfl rfl (by kernel_rfl) (fun _ _ _ h => h) (Or.inl ⟨by rfl, ?_⟩) ?_ ?_
      rotate_left
      · intro w'
        go_simp
        with_reducible rfl
      rotate_left
      · simp only [Act.put, List.setIfInBounds_toArray, List.set_cons_zero, List.set_cons_succ, i64_w, i32_w]
        rfl
      refine pure_ (i := 20) (N := some 41) (v := ?_) (a' := ?_) #[true, true, true, true, true, true, true, true, true, true, true, true, true, true, true, true, true, true, true, true, true, false, false, false, false, false, false, false, false] rfl rfl (by kernel_rfl) (fun _ _ _ h => h) (Or.inl ⟨by rfl, ?_⟩) ?_ ?_
      rotate_left
      · intro w'
        go_simp
        with_reducible rfl
      rotate_left
      · simp only [Act.put, List.setIfInBounds_toArray, List.set_cons_zero, List.set_cons_succ, i64_w, i32_w]
        rfl
      refine take_ (i := 21) (N := some 42) (v := ?_) (a' := ?_) #[true, true, true, true, true, true, true, true, true, true, true, true, true, true, true, true, true, true, true, true, true, true, false, false, false, false, false, false, false] rfl rfl (by kernel_rfl) (fun _ _ _ h => h) (Or.inl ⟨by rfl, ?_⟩) hS ?_ ?_
      rotate_left
      · rintro w' hs
        have t0 : w'.cell? ⟨w.heap.size + 1, 0, none⟩ = some (.int .i64 b.first) := (blk_cell hs.2.1 0).trans rfl
        have t1 : w'.cell? ⟨w.heap.size + 1, 1, none⟩ = some (.int .i64 b.last) := (blk_cell hs.2.1 1).trans rfl
        have t2 : w'.cell? ⟨w.heap.size + 1, 2, none⟩ = some (.int .u32 b.grave) := (blk_cell hs.2.1 2).trans rfl
        have t3 : w'.cell? ⟨w.heap.size + 1, 3, none⟩ = some (.int .u32 b.src) := (blk_cell hs.2.1 3).trans rfl
        have t4 : w'.cell? ⟨w.heap.size + 1, 4, none⟩ = some (.int .u64 b.many) := (blk_cell hs.2.1 4).trans rfl
        have t5 : w'.cell? ⟨w.heap.size + 1, 5, none⟩ = some (.bool b.keep) := (blk_cell hs.2.1 5).trans rfl
        clear hs
        go_simp
        with_reducible rfl
      rotate_left
      · simp only [Act.put, List.setIfInBounds_toArray, List.set_cons_zero, List.set_cons_succ, i64_w, i32_w]
        rfl
      refine take_ (i := 24) (N := some 45) (v := ?_) (a' := ?_) #[true, true, true, true, true, true, true, true, true, true, true, true, true, true, true, true, true, true, true, true, true, true, false, false, true, false, false, false, false] rfl rfl (by kernel_rfl) (fun _ _ _ h => h) (Or.inl ⟨by rfl, ?_⟩) hS ?_ ?_
      rotate_left
      · rintro w' hs
        have t0 : w'.cell? ⟨w.heap.size, 0, none⟩ = some (.int .i64 a.first) := (blk_cell hs.1 0).trans rfl
        have t1 : w'.cell? ⟨w.heap.size, 1, none⟩ = some (.int .i64 a.last) := (blk_cell hs.1 1).trans rfl
        have t2 : w'.cell? ⟨w.heap.size, 2, none⟩ = some (.int .u32 a.grave) := (blk_cell hs.1 2).trans rfl
        have t3 : w'.cell? ⟨w.heap.size, 3, none⟩ = some (.int .u32 a.src) := (blk_cell hs.1 3).trans rfl
        have t4 : w'.cell? ⟨w.heap.size, 4, none⟩ = some (.int .u64 a.many) := (blk_cell hs.1 4).trans rfl
        have t5 : w'.cell? ⟨w.heap.size, 5, none⟩ = some (.bool a.keep) := (blk_cell hs.1 5).trans rfl
        clear hs
        go_simp
        with_reducible rfl
      rotate_left
      · simp only [Act.put, List.setIfInBounds_toArray, List.set_cons_zero, List.set_cons_succ, i64_w, i32_w]
        rfl
      refine take_ (i := 25) (N := some 46) (v := ?_) (a' := ?_) #[true, true, true, true, true, true, true, true, true, true, true, true, true, true, true, true, true, true, true, true, true, true, false, false, true, true, false, false, false] rfl rfl (by kernel_rfl) (fun _ _ _ h => h) (Or.inl ⟨by rfl, ?_⟩) hS ?_ ?_
      rotate_left
      · rintro w' hs
        have t0 : w'.cell? ⟨w.heap.size + 1, 0, none⟩ = some (.int .i64 b.first) := (blk_cell hs.2.1 0).trans rfl
        have t1 : w'.cell? ⟨w.heap.size + 1, 1, none⟩ = some (.int .i64 b.last) := (blk_cell hs.2.1 1).trans rfl
        have t2 : w'.cell? ⟨w.heap.size + 1, 2, none⟩ = some (.int .u32 b.grave) := (blk_cell hs.2.1 2).trans rfl
        have t3 : w'.cell? ⟨w.heap.size + 1, 3, none⟩ = some (.int .u32 b.src) := (blk_cell hs.2.1 3).trans rfl
        have t4 : w'.cell? ⟨w.heap.size + 1, 4, none⟩ = some (.int .u64 b.many) := (blk_cell hs.2.1 4).trans rfl
        have t5 : w'.cell? ⟨w.heap.size + 1, 5, none⟩ = some (.bool b.keep) := (blk_cell hs.2.1 5).trans rfl
        clear hs
        go_simp
        with_reducible rfl
      rotate_left
      · simp only [Act.put, List.setIfInBounds_toArray, List.set_cons_zero, List.set_cons_succ, i64_w, i32_w]
        rfl
      refine pure_ (i := 26) (N := some 47) (v := ?_) (a' := ?_) #[true, true, true, true, true, true, true, true, true, true, true, true, true, true, true, true, true, true, true, true, true, true, false, false, true, true, true, false, false] rfl rfl (by kernel_rfl) (fun _ _ _ h => h) (Or.inl ⟨by rfl, ?_⟩) ?_ ?_
      rotate_left
      · intro w'
        go_simp
        with_reducible rfl
      rotate_left
      · simp only [Act.put, List.setIfInBounds_toArray, List.set_cons_zero, List.set_cons_succ, i64_w, i32_w]
        rfl
      refine one_ (i := 22) (N := some 43) #[true, true, true, true, true, true, true, true, true, true, true, true, true, true, true, true, true, true, true, true, true, true, true, false, true, true, true, false, false] rfl rfl (by kernel_rfl) (by decide) (fun K hK => ?_)
      refine goes_ Try.func35 (by kernel_rfl) rfl #[.agg #[.int .i64 b.first, .int .i64 b.last, .int .u32 b.grave, .int .u32 b.src, .int .u64 b.many, .bool b.keep]] (by rfl) rfl rfl (by (try simp only [List.map_toArray, List.map_cons, List.map_nil]); first | done | rfl) ?_
      refine (textP b u hu.out _).mono ?_
      rintro e w' ⟨rfl, hb'⟩
      refine ⟨_, rfl, ?_⟩
      refine hK.out _ _ (⟨blk_below hS.1 hb', blk_below hS.2.1 hb', blk_below hS.2.2.1 hb', below_then hS.2.2.2 hS.2.2.2.size hb'⟩) (fun hS => ?_)
      clear hK K
      refine norm_ (a' := ?_) ?_ ?_
      rotate_left
      · show Act.put _ (some 43) _ = _
        simp only [Act.put, List.setIfInBounds_toArray, List.set_cons_zero, List.set_cons_succ, i64_w, i32_w]
        rfl
      refine pure_ (i := 23) (N := some 44) (v := ?_) (a' := ?_) #[true, true, true, true, true, true, true, true, true, true, true, true, true, true, true, true, true, true, true, true, true, true, true, true, true, true, true, false, false] rfl rfl (by kernel_rfl) (fun _ _ _ h => h) (Or.inl ⟨by rfl, ?_⟩) ?_ ?_
      rotate_left
      · intro w'
        go_simp
        with_reducible rfl
      rotate_left
      · simp only [Act.put, List.setIfInBounds_toArray, List.set_cons_zero, List.set_cons_succ, i64_w, i32_w]
        rfl
      refine pure_ (i := 27) (N := some 48) (v := ?_) (a' := ?_) #[true, true, true, true, true, true, true, true, true, true, true, true, true, true, true, true, true, true, true, true, true, true, true, true, true, true, true, true, false] rfl rfl (by kernel_rfl) (fun _ _ _ h => h) (Or.inl ⟨by rfl, ?_⟩) ?_ ?_
      rotate_left
      · intro w'
        go_simp
        with_reducible rfl
      rotate_left
      · simp only [Act.put, List.setIfInBounds_toArray, List.set_cons_zero, List.set_cons_succ, i64_w, i32_w]
        rfl
      refine pure_ (i := 28) (N := some 49) (v := ?_) (a' := ?_) #[true, true, true, true, true, true, true, true, true, true, true, true, true, true, true, true, true, true, true, true, true, true, true, true, true, true, true, true, true] rfl rfl (by kernel_rfl) (fun _ _ _ h => h) (Or.inl ⟨by rfl, ?_⟩) ?_ ?_
      rotate_left
      · intro w'
        go_simp
        with_reducible rfl
      rotate_left
      · simp only [Act.put, List.setIfInBounds_toArray, List.set_cons_zero, List.set_cons_succ, i64_w, i32_w]
        rfl
      refine done_ (by kernel_rfl) ?_

      have B4 := Lib.hid hS.2.2.2
      clear hS
      go_wp2_with fail
      refine (parseC s y f hy.out hsl.out _).mono ?_; rintro e w5 ⟨rfl, hbc⟩
      have B5 := Lib.hid (below_then B4.out B4.out.size hbc)
      clear hbc
      have Y6 := Lib.hid (blk_new w5 (.cells #[.int .i64 y.first, .int .i64 y.last, .int .u32 y.grave, .int .u32 y.src, .int .u64 y.many, .bool y.keep] 36))
      have B6 := Lib.hid (below_alloc B5.out (.cells #[.int .i64 y.first, .int .i64 y.last, .int .u32 y.grave, .int .u32 y.src, .int .u64 y.many, .bool y.keep] 36))
      have y0 : (w5.alloc (.cells #[.int .i64 y.first, .int .i64 y.last, .int .u32 y.grave, .int .u32 y.src, .int .u64 y.many, .bool y.keep] 36)).cell? ⟨w5.heap.size, 0, none⟩ = some (.int .i64 y.first) := (blk_cell Y6.out 0).trans rfl
      have y1 : (w5.alloc (.cells #[.int .i64 y.first, .int .i64 y.last, .int .u32 y.grave, .int .u32 y.src, .int .u64 y.many, .bool y.keep] 36)).cell? ⟨w5.heap.size, 1, none⟩ = some (.int .i64 y.last) := (blk_cell Y6.out 1).trans rfl
      have y2 : (w5.alloc (.cells #[.int .i64 y.first, .int .i64 y.last, .int .u32 y.grave, .int .u32 y.src, .int .u64 y.many, .bool y.keep] 36)).cell? ⟨w5.heap.size, 2, none⟩ = some (.int .u32 y.grave) := (blk_cell Y6.out 2).trans rfl
      have y3 : (w5.alloc (.cells #[.int .i64 y.first, .int .i64 y.last, .int .u32 y.grave, .int .u32 y.src, .int .u64 y.many, .bool y.keep] 36)).cell? ⟨w5.heap.size, 3, none⟩ = some (.int .u32 y.src) := (blk_cell Y6.out 3).trans rfl
      have y4 : (w5.alloc (.cells #[.int .i64 y.first, .int .i64 y.last, .int .u32 y.grave, .int .u32 y.src, .int .u64 y.many, .bool y.keep] 36)).cell? ⟨w5.heap.size, 4, none⟩ = some (.int .u64 y.many) := (blk_cell Y6.out 4).trans rfl
      have y5 : (w5.alloc (.cells #[.int .i64 y.first, .int .i64 y.last, .int .u32 y.grave, .int .u32 y.src, .int .u64 y.many, .bool y.keep] 36)).cell? ⟨w5.heap.size, 5, none⟩ = some (.bool y.keep) := (blk_cell Y6.out 5).trans rfl
      rcases hyf.out with rfl | ⟨rfl, hry, hty⟩
      · go_wp2_with fail
        go_ret
        exact ⟨rfl, B6.out⟩
      · replace hry := Lib.hid hry
        replace hty := Lib.hid hty
        go_wp2_with fail
        refine (rightP y true hry.out _).mono ?_; rintro e w7 ⟨rfl, hbc⟩
        have Y7 := Lib.hid (blk_below Y6.out hbc)
        have B7 := Lib.hid (below_then B6.out B6.out.size hbc)
        clear hbc
        have z0 : w7.cell? ⟨w5.heap.size, 0, none⟩ = some (.int .i64 y.first) := (blk_cell Y7.out 0).trans rfl
        have z1 : w7.cell? ⟨w5.heap.size, 1, none⟩ = some (.int .i64 y.last) := (blk_cell Y7.out 1).trans rfl
        have z2 : w7.cell? ⟨w5.heap.size, 2, none⟩ = some (.int .u32 y.grave) := (blk_cell Y7.out 2).trans rfl
        have z3 : w7.cell? ⟨w5.heap.size, 3, none⟩ = some (.int .u32 y.src) := (blk_cell Y7.out 3).trans rfl
        have z4 : w7.cell? ⟨w5.heap.size, 4, none⟩ = some (.int .u64 y.many) := (blk_cell Y7.out 4).trans rfl
        have z5 : w7.cell? ⟨w5.heap.size, 5, none⟩ = some (.bool y.keep) := (blk_cell Y7.out 5).trans rfl
        go_wp2_with fail
        refine (textP y s hty.out _).mono ?_; rintro e w8 ⟨rfl, hbc⟩
        have B8 := Lib.hid (below_then B7.out B7.out.size hbc)
        clear hbc
        go_wp2_with fail
        go_ret
        exact ⟨rfl, B8.out⟩
    | false =>
      refine (parseC t none0 3 hpt.out (by omega) _).mono ?_; rintro e w3 ⟨rfl, hbc⟩
      have A3 := Lib.hid (blk_below A2.out hbc)
      have C3 := Lib.hid (blk_below C2.out hbc)
      have B3 := Lib.hid (below_then B2.out B2.out.size hbc)
      clear hbc
      go_wp2_with fail
      refine start_ (n := 29) (S := fun w' => w'.heap[w.heap.size]? = some (.cells #[.int .i64 a.first, .int .i64 a.last, .int .u32 a.grave, .int .u32 a.src, .int .u64 a.many, .bool a.keep] 36 (0, 0)) ∧ w'.heap[w.heap.size + 1]? = some (.cells #[.int .i64 b.first, .int .i64 b.last, .int .u32 b.grave, .int .u32 b.src, .int .u64 b.many, .bool b.keep] 36 (0, 0)) ∧ w'.heap[w3.heap.size]? = some (.cells #[.int .i64 none0.first, .int .i64 none0.last, .int .u32 none0.grave, .int .u32 none0.src, .int .u64 none0.many, .bool none0.keep] 36 (0, 0)) ∧ Below w.heap.size w w') (ds := []) #[false, false, false, false, false, false, false, false, false, false, false, false, false, false, false, false, false, false, false, false, false, false, false, false, false, false, false, false, false] (by kernel_rfl) rfl rfl (⟨blk_alloc A3.out _, blk_alloc C3.out _, blk_new _ _, (below_alloc B3.out _).drew⟩) (fun hS => ?_)
      refine pure_ (i := 0) (N := some 21) (v := ?_) (a' := ?_) #[true, false, false, false, false, false, false, false, false, false, false, false, false, false, false, false, false, false, false, false, false, false, false, false, false, false, false, false, false] rfl rfl (by kernel_rfl) (fun _ _ _ h => h) (Or.inl ⟨by rfl, ?_⟩) ?_ ?_
      rotate_left
      · intro w'
        go_simp
        with_reducible rfl
      rotate_left
      · simp only [Act.put, List.setIfInBounds_toArray, List.set_cons_zero, List.set_cons_succ, i64_w, i32_w]
        rfl
      refine pure_ (i := 1) (N := some 22) (v := ?_) (a' := ?_) #[true, true, false, false, false, false, false, false, false, false, false, false, false, false, false, false, false, false, false, false, false, false, false, false, false, false, false, false, false] rfl rfl (by kernel_rfl) (fun _ _ _ h => h) (Or.inl ⟨by rfl, ?_⟩) ?_ ?_
      rotate_left
      · intro w'
        go_simp
        with_reducible rfl
      rotate_left
      · simp only [Act.put, List.setIfInBounds_toArray, List.set_cons_zero, List.set_cons_succ, i64_w, i32_w]
        rfl
      refine take_ (i := 2) (N := some 23) (v := ?_) (a' := ?_) #[true, true, true, false, false, false, false, false, false, false, false, false, false, false, false, false, false, false, false, false, false, false, false, false, false, false, false, false, false] rfl rfl (by kernel_rfl) (fun _ _ _ h => h) (Or.inl ⟨by rfl, ?_⟩) hS ?_ ?_
      rotate_left
      · rintro w' hs
        have t0 : w'.cell? ⟨w.heap.size, 0, none⟩ = some (.int .i64 a.first) := (blk_cell hs.1 0).trans rfl
        have t1 : w'.cell? ⟨w.heap.size, 1, none⟩ = some (.int .i64 a.last) := (blk_cell hs.1 1).trans rfl
        have t2 : w'.cell? ⟨w.heap.size, 2, none⟩ = some (.int .u32 a.grave) := (blk_cell hs.1 2).trans rfl
        have t3 : w'.cell? ⟨w.heap.size, 3, none⟩ = some (.int .u32 a.src) := (blk_cell hs.1 3).trans rfl
        have t4 : w'.cell? ⟨w.heap.size, 4, none⟩ = some (.int .u64 a.many) := (blk_cell hs.1 4).trans rfl
        have t5 : w'.cell? ⟨w.heap.size, 5, none⟩ = some (.bool a.keep) := (blk_cell hs.1 5).trans rfl
        clear hs
        go_simp
        with_reducible rfl
      rotate_left
      · simp only [Act.put, List.setIfInBounds_toArray, List.set_cons_zero, List.set_cons_succ, i64_w, i32_w]
        rfl
      refine one_ (i := 3) (N := some 24) #[true, true, true, true, false, false, false, false, false, false, false, false, false, false, false, false, false, false, false, false, false, false, false, false, false, false, false, false, false] rfl rfl (by kernel_rfl) (by decide) (fun K hK => ?_)
      refine goes_ Try.func27 (by kernel_rfl) rfl #[.agg #[.int .i64 a.first, .int .i64 a.last, .int .u32 a.grave, .int .u32 a.src, .int .u64 a.many, .bool a.keep]] (by rfl) rfl rfl (by (try simp only [List.map_toArray, List.map_cons, List.map_nil]); first | done | rfl) ?_
      refine (rightP a false hra.out _).mono ?_
      rintro e w' ⟨rfl, hb'⟩
      refine ⟨_, rfl, ?_⟩
      refine hK.out _ _ (⟨blk_below hS.1 hb', blk_below hS.2.1 hb', blk_below hS.2.2.1 hb', below_then hS.2.2.2 hS.2.2.2.size hb'⟩) (fun hS => ?_)
      clear hK K
      refine norm_ (a' := ?_) ?_ ?_
      rotate_left
      · show Act.put _ (some 24) _ = _
        simp only [Act.put, List.setIfInBounds_toArray, List.set_cons_zero, List.set_cons_succ, i64_w, i32_w]
        rfl
      refine pure_ (i := 4) (N := some 25) (v := ?_) (a' := ?_) #[true, true, true, true, true, false, false, false, false, false, false, false, false, false, false, false, false, false, false, false, false, false, false, false, false, false, false, false, false] rfl rfl (by kernel_rfl) (fun _ _ _ h => h) (Or.inl ⟨by rfl, ?_⟩) ?_ ?_
      rotate_left
      · intro w'
        go_simp
        with_reducible rfl
      rotate_left
      · simp only [Act.put, List.setIfInBounds_toArray, List.set_cons_zero, List.set_cons_succ, i64_w, i32_w]
        rfl
      refine pure_ (i := 5) (N := some 26) (v := ?_) (a' := ?_) #[true, true, true, true, true, true, false, false, false, false, false, false, false, false, false, false, false, false, false, false, false, false, false, false, false, false, false, false, false] rfl rfl (by kernel_rfl) (fun _ _ _ h => h) (Or.inl ⟨by rfl, ?_⟩) ?_ ?_
      rotate_left
      · intro w'
        go_simp
        with_reducible rfl
      rotate_left
      · simp only [Act.put, List.setIfInBounds_toArray, List.set_cons_zero, List.set_cons_succ, i64_w, i32_w]
        rfl
      refine pure_ (i := 6) (N := some 27) (v := ?_) (a' := ?_) #[true, true, true, true, true, true, true, false, false, false, false, false, false, false, false, false, false, false, false, false, false, false, false, false, false, false, false, false, false] rfl rfl (by kernel_rfl) (fun _ _ _ h => h) (Or.inl ⟨by rfl, ?_⟩) ?_ ?_
      rotate_left
      · intro w'
        go_simp
        with_reducible rfl
      rotate_left
      · simp only [Act.put, List.setIfInBounds_toArray, List.set_cons_zero, List.set_cons_succ, i64_w, i32_w]
        rfl
      refine pure_ (i := 7) (N := some 28) (v := ?_) (a' := ?_) #[true, true, true, true, true, true, true, true, false, false, false, false, false, false, false, false, false, false, false, false, false, false, false, false, false, false, false, false, false] rfl rfl (by kernel_rfl) (fun _ _ _ h => h) (Or.inl ⟨by rfl, ?_⟩) ?_ ?_
      rotate_left
      · intro w'
        go_simp
        with_reducible rfl
      rotate_left
      · simp only [Act.put, List.setIfInBounds_toArray, List.set_cons_zero, List.set_cons_succ, i64_w, i32_w]
        rfl
      refine pure_ (i := 8) (N := some 29) (v := ?_) (a' := ?_) #[true, true, true, true, true, true, true, true, true, false, false, false, false, false, false, false, false, false, false, false, false, false, false, false, false, false, false, false, false] rfl rfl (by kernel_rfl) (fun _ _ _ h => h) (Or.inl ⟨by rfl, ?_⟩) ?_ ?_
      rotate_left
      · intro w'
        go_simp
        with_reducible rfl
      rotate_left
      · simp only [Act.put, List.setIfInBounds_toArray, List.set_cons_zero, List.set_cons_succ, i64_w, i32_w]
        rfl
      refine pure_ (i := 9) (N := some 30) (v := undef) (a' := ?_) #[true, true, true, true, true, true, true, true, true, true, false, false, false, false, false, false, false, false, false, false, false, false, false, false, false, false, false, false, false] rfl rfl (by kernel_rfl) (fun _ _ _ h => h) (Or.inr ⟨by rfl, rfl⟩) ?_ ?_
      rotate_left
      · simp only [Act.put, List.setIfInBounds_toArray, List.set_cons_zero, List.set_cons_succ, i64_w, i32_w]
        rfl
      refine pure_ (i := 10) (N := some 31) (v := undef) (a' := ?_) #[true, true, true, true, true, true, true, true, true, true, true, false, false, false, false, false, false, false, false, false, false, false, false, false, false, false, false, false, false] rfl rfl (by kernel_rfl) (fun _ _ _ h => h) (Or.inr ⟨by rfl, rfl⟩) ?_ ?_
      rotate_left
      · simp only [Act.put, List.setIfInBounds_toArray, List.set_cons_zero, List.set_cons_succ, i64_w, i32_w]
        rfl
      refine pure_ (i := 11) (N := some 32) (v := undef) (a' := ?_) #[true, true, true, true, true, true, true, true, true, true, true, true, false, false, false, false, false, false, false, false, false, false, false, false, false, false, false, false, false] rfl rfl (by kernel_rfl) (fun _ _ _ h => h) (Or.inr ⟨by rfl, rfl⟩) ?_ ?_
      rotate_left
      · simp only [Act.put, List.setIfInBounds_toArray, List.set_cons_zero, List.set_cons_succ, i64_w, i32_w]
        rfl
      refine pure_ (i := 12) (N := some 33) (v := ?_) (a' := ?_) #[true, true, true, true, true, true, true, true, true, true, true, true, true, false, false, false, false, false, false, false, false, false, false, false, false, false, false, false, false] rfl rfl (by kernel_rfl) (fun _ _ _ h => h) (Or.inl ⟨by rfl, ?_⟩) ?_ ?_
      rotate_left
      · intro w'
        go_simp
        with_reducible rfl
      rotate_left
      · simp only [Act.put, List.setIfInBounds_toArray, List.set_cons_zero, List.set_cons_succ, i64_w, i32_w]
        rfl
      refine pure_ (i := 13) (N := some 34) (v := ?_) (a' := ?_) #[true, true, true, true, true, true, true, true, true, true, true, true, true, true, false, false, false, false, false, false, false, false, false, false, false, false, false, false, false] rfl rfl (by kernel_rfl) (fun _ _ _ h => h) (Or.inl ⟨by rfl, ?_⟩) ?_ ?_
      rotate_left
      · intro w'
        go_simp
        with_reducible rfl
      rotate_left
      · simp only [Act.put, List.setIfInBounds_toArray, List.set_cons_zero, List.set_cons_succ, i64_w, i32_w]
        rfl
      refine pure_ (i := 14) (N := some 35) (v := ?_) (a' := ?_) #[true, true, true, true, true, true, true, true, true, true, true, true, true, true, true, false, false, false, false, false, false, false, false, false, false, false, false, false, false] rfl rfl (by kernel_rfl) (fun _ _ _ h => h) (Or.inl ⟨by rfl, ?_⟩) ?_ ?_
      rotate_left
      · intro w'
        go_simp
        with_reducible rfl
      rotate_left
      · simp only [Act.put, List.setIfInBounds_toArray, List.set_cons_zero, List.set_cons_succ, i64_w, i32_w]
        rfl
      refine pure_ (i := 15) (N := some 36) (v := ?_) (a' := ?_) #[true, true, true, true, true, true, true, true, true, true, true, true, true, true, true, true, false, false, false, false, false, false, false, false, false, false, false, false, false] rfl rfl (by kernel_rfl) (fun _ _ _ h => h) (Or.inl ⟨by rfl, ?_⟩) ?_ ?_
      rotate_left
      · intro w'
        go_simp
        with_reducible rfl
      rotate_left
      · simp only [Act.put, List.setIfInBounds_toArray, List.set_cons_zero, List.set_cons_succ, i64_w, i32_w]
        rfl
      refine pure_ (i := 16) (N := some 37) (v := ?_) (a' := ?_) #[true, true, true, true, true, true, true, true, true, true, true, true, true, true, true, true, true, false, false, false, false, false, false, false, false, false, false, false, false] rfl rfl (by kernel_rfl) (fun _ _ _ h => h) (Or.inl ⟨by rfl, ?_⟩) ?_ ?_
      rotate_left
      · intro w'
        go_simp
        with_reducible rfl
      rotate_left
      · simp only [Act.put, List.setIfInBounds_toArray, List.set_cons_zero, List.set_cons_succ, i64_w, i32_w]
        rfl
      refine pure_ (i := 17) (N := some 38) (v := ?_) (a' := ?_) #[true, true, true, true, true, true, true, true, true, true, true, true, true, true, true, true, true, true, false, false, false, false, false, false, false, false, false, false, false] rfl rfl (by kernel_rfl) (fun _ _ _ h => h) (Or.inl ⟨by rfl, ?_⟩) ?_ ?_
      rotate_left
      · intro w'
        go_simp
        with_reducible rfl
      rotate_left
      · simp only [Act.put, List.setIfInBounds_toArray, List.set_cons_zero, List.set_cons_succ, i64_w, i32_w]
        rfl
      refine pure_ (i := 18) (N := some 39) (v := ?_) (a' := ?_) #[true, true, true, true, true, true, true, true, true, true, true, true, true, true, true, true, true, true, true, false, false, false, false, false, false, false, false, false, false] rfl rfl (by kernel_rfl) (fun _ _ _ h => h) (Or.inl ⟨by rfl, ?_⟩) ?_ ?_
      rotate_left
      · intro w'
        go_simp
        with_reducible rfl
      rotate_left
      · simp only [Act.put, List.setIfInBounds_toArray, List.set_cons_zero, List.set_cons_succ, i64_w, i32_w]
        rfl
      refine pure_ (i := 19) (N := some 40) (v := ?_) (a' := ?_) #[true, true, true, true, true, true, true, true, true, true, true, true, true, true, true, true, true, true, true, true, false, false, false, false, false, false, false, false, false] rfl rfl (by kernel_rfl) (fun _ _ _ h => h) (Or.inl ⟨by rfl, ?_⟩) ?_ ?_
      rotate_left
      · intro w'
        go_simp
        with_reducible rfl
      rotate_left
      · simp only [Act.put, List.setIfInBounds_toArray, List.set_cons_zero, List.set_cons_succ, i64_w, i32_w]
        rfl
      refine pure_ (i := 20) (N := some 41) (v := ?_) (a' := ?_) #[true, true, true, true, true, true, true, true, true, true, true, true, true, true, true, true, true, true, true, true, true, false, false, false, false, false, false, false, false] rfl rfl (by kernel_rfl) (fun _ _ _ h => h) (Or.inl ⟨by rfl, ?_⟩) ?_ ?_
      rotate_left
      · intro w'
        go_simp
        with_reducible rfl
      rotate_left
      · simp only [Act.put, List.setIfInBounds_toArray, List.set_cons_zero, List.set_cons_succ, i64_w, i32_w]
        rfl
      refine take_ (i := 21) (N := some 42) (v := ?_) (a' := ?_) #[true, true, true, true, true, true, true, true, true, true, true, true, true, true, true, true, true, true, true, true, true, true, false, false, false, false, false, false, false] rfl rfl (by kernel_rfl) (fun _ _ _ h => h) (Or.inl ⟨by rfl, ?_⟩) hS ?_ ?_
      rotate_left
      · rintro w' hs
        have t0 : w'.cell? ⟨w.heap.size + 1, 0, none⟩ = some (.int .i64 b.first) := (blk_cell hs.2.1 0).trans rfl
        have t1 : w'.cell? ⟨w.heap.size + 1, 1, none⟩ = some (.int .i64 b.last) := (blk_cell hs.2.1 1).trans rfl
        have t2 : w'.cell? ⟨w.heap.size + 1, 2, none⟩ = some (.int .u32 b.grave) := (blk_cell hs.2.1 2).trans rfl
        have t3 : w'.cell? ⟨w.heap.size + 1, 3, none⟩ = some (.int .u32 b.src) := (blk_cell hs.2.1 3).trans rfl
        have t4 : w'.cell? ⟨w.heap.size + 1, 4, none⟩ = some (.int .u64 b.many) := (blk_cell hs.2.1 4).trans rfl
        have t5 : w'.cell? ⟨w.heap.size + 1, 5, none⟩ = some (.bool b.keep) := (blk_cell hs.2.1 5).trans rfl
        clear hs
        go_simp
        with_reducible rfl
      rotate_left
      · simp only [Act.put, List.setIfInBounds_toArray, List.set_cons_zero, List.set_cons_succ, i64_w, i32_w]
        rfl
      refine take_ (i := 24) (N := some 45) (v := ?_) (a' := ?_) #[true, true, true, true, true, true, true, true, true, true, true, true, true, true, true, true, true, true, true, true, true, true, false, false, true, false, false, false, false] rfl rfl (by kernel_rfl) (fun _ _ _ h => h) (Or.inl ⟨by rfl, ?_⟩) hS ?_ ?_
      rotate_left
      · rintro w' hs
        have t0 : w'.cell? ⟨w.heap.size, 0, none⟩ = some (.int .i64 a.first) := (blk_cell hs.1 0).trans rfl
        have t1 : w'.cell? ⟨w.heap.size, 1, none⟩ = some (.int .i64 a.last) := (blk_cell hs.1 1).trans rfl
        have t2 : w'.cell? ⟨w.heap.size, 2, none⟩ = some (.int .u32 a.grave) := (blk_cell hs.1 2).trans rfl
        have t3 : w'.cell? ⟨w.heap.size, 3, none⟩ = some (.int .u32 a.src) := (blk_cell hs.1 3).trans rfl
        have t4 : w'.cell? ⟨w.heap.size, 4, none⟩ = some (.int .u64 a.many) := (blk_cell hs.1 4).trans rfl
        have t5 : w'.cell? ⟨w.heap.size, 5, none⟩ = some (.bool a.keep) := (blk_cell hs.1 5).trans rfl
        clear hs
        go_simp
        with_reducible rfl
      rotate_left
      · simp only [Act.put, List.setIfInBounds_toArray, List.set_cons_zero, List.set_cons_succ, i64_w, i32_w]
        rfl
      refine take_ (i := 25) (N := some 46) (v := ?_) (a' := ?_) #[true, true, true, true, true, true, true, true, true, true, true, true, true, true, true, true, true, true, true, true, true, true, false, false, true, true, false, false, false] rfl rfl (by kernel_rfl) (fun _ _ _ h => h) (Or.inl ⟨by rfl, ?_⟩) hS ?_ ?_
      rotate_left
      · rintro w' hs
        have t0 : w'.cell? ⟨w.heap.size + 1, 0, none⟩ = some (.int .i64 b.first) := (blk_cell hs.2.1 0).trans rfl
        have t1 : w'.cell? ⟨w.heap.size + 1, 1, none⟩ = some (.int .i64 b.last) := (blk_cell hs.2.1 1).trans rfl
        have t2 : w'.cell? ⟨w.heap.size + 1, 2, none⟩ = some (.int .u32 b.grave) := (blk_cell hs.2.1 2).trans rfl
        have t3 : w'.cell? ⟨w.heap.size + 1, 3, none⟩ = some (.int .u32 b.src) := (blk_cell hs.2.1 3).trans rfl
        have t4 : w'.cell? ⟨w.heap.size + 1, 4, none⟩ = some (.int .u64 b.many) := (blk_cell hs.2.1 4).trans rfl
        have t5 : w'.cell? ⟨w.heap.size + 1, 5, none⟩ = some (.bool b.keep) := (blk_cell hs.2.1 5).trans rfl
        clear hs
        go_simp
        with_reducible rfl
      rotate_left
      · simp only [Act.put, List.setIfInBounds_toArray, List.set_cons_zero, List.set_cons_succ, i64_w, i32_w]
        rfl
      refine pure_ (i := 26) (N := some 47) (v := ?_) (a' := ?_) #[true, true, true, true, true, true, true, true, true, true, true, true, true, true, true, true, true, true, true, true, true, true, false, false, true, true, true, false, false] rfl rfl (by kernel_rfl) (fun _ _ _ h => h) (Or.inl ⟨by rfl, ?_⟩) ?_ ?_
      rotate_left
      · intro w'
        go_simp
        with_reducible rfl
      rotate_left
      · simp only [Act.put, List.setIfInBounds_toArray, List.set_cons_zero, List.set_cons_succ, i64_w, i32_w]
        rfl
      refine one_ (i := 22) (N := some 43) #[true, true, true, true, true, true, true, true, true, true, true, true, true, true, true, true, true, true, true, true, true, true, true, false, true, true, true, false, false] rfl rfl (by kernel_rfl) (by decide) (fun K hK => ?_)
      refine goes_ Try.func35 (by kernel_rfl) rfl #[.agg #[.int .i64 b.first, .int .i64 b.last, .int .u32 b.grave, .int .u32 b.src, .int .u64 b.many, .bool b.keep]] (by rfl) rfl rfl (by (try simp only [List.map_toArray, List.map_cons, List.map_nil]); first | done | rfl) ?_
      refine (textP b u hu.out _).mono ?_
      rintro e w' ⟨rfl, hb'⟩
      refine ⟨_, rfl, ?_⟩
      refine hK.out _ _ (⟨blk_below hS.1 hb', blk_below hS.2.1 hb', blk_below hS.2.2.1 hb', below_then hS.2.2.2 hS.2.2.2.size hb'⟩) (fun hS => ?_)
      clear hK K
      refine norm_ (a' := ?_) ?_ ?_
      rotate_left
      · show Act.put _ (some 43) _ = _
        simp only [Act.put, List.setIfInBounds_toArray, List.set_cons_zero, List.set_cons_succ, i64_w, i32_w]
        rfl
      refine pure_ (i := 23) (N := some 44) (v := ?_) (a' := ?_) #[true, true, true, true, true, true, true, true, true, true, true, true, true, true, true, true, true, true, true, true, true, true, true, true, true, true, true, false, false] rfl rfl (by kernel_rfl) (fun _ _ _ h => h) (Or.inl ⟨by rfl, ?_⟩) ?_ ?_
      rotate_left
      · intro w'
        go_simp
        with_reducible rfl
      rotate_left
      · simp only [Act.put, List.setIfInBounds_toArray, List.set_cons_zero, List.set_cons_succ, i64_w, i32_w]
        rfl
      refine pure_ (i := 27) (N := some 48) (v := ?_) (a' := ?_) #[true, true, true, true, true, true, true, true, true, true, true, true, true, true, true, true, true, true, true, true, true, true, true, true, true, true, true, true, false] rfl rfl (by kernel_rfl) (fun _ _ _ h => h) (Or.inl ⟨by rfl, ?_⟩) ?_ ?_
      rotate_left
      · intro w'
        go_simp
        with_reducible rfl
      rotate_left
      · simp only [Act.put, List.setIfInBounds_toArray, List.set_cons_zero, List.set_cons_succ, i64_w, i32_w]
        rfl
      refine pure_ (i := 28) (N := some 49) (v := ?_) (a' := ?_) #[true, true, true, true, true, true, true, true, true, true, true, true, true, true, true, true, true, true, true, true, true, true, true, true, true, true, true, true, true] rfl rfl (by kernel_rfl) (fun _ _ _ h => h) (Or.inl ⟨by rfl, ?_⟩) ?_ ?_
      rotate_left
      · intro w'
        go_simp
        with_reducible rfl
      rotate_left
      · simp only [Act.put, List.setIfInBounds_toArray, List.set_cons_zero, List.set_cons_succ, i64_w, i32_w]
        rfl
      refine done_ (by kernel_rfl) ?_

      have B4 := Lib.hid hS.2.2.2
      clear hS
      go_wp2_with fail
      refine (parseC s y f hy.out hsl.out _).mono ?_; rintro e w5 ⟨rfl, hbc⟩
      have B5 := Lib.hid (below_then B4.out B4.out.size hbc)
      clear hbc
      have Y6 := Lib.hid (blk_new w5 (.cells #[.int .i64 y.first, .int .i64 y.last, .int .u32 y.grave, .int .u32 y.src, .int .u64 y.many, .bool y.keep] 36))
      have B6 := Lib.hid (below_alloc B5.out (.cells #[.int .i64 y.first, .int .i64 y.last, .int .u32 y.grave, .int .u32 y.src, .int .u64 y.many, .bool y.keep] 36))
      have y0 : (w5.alloc (.cells #[.int .i64 y.first, .int .i64 y.last, .int .u32 y.grave, .int .u32 y.src, .int .u64 y.many, .bool y.keep] 36)).cell? ⟨w5.heap.size, 0, none⟩ = some (.int .i64 y.first) := (blk_cell Y6.out 0).trans rfl
      have y1 : (w5.alloc (.cells #[.int .i64 y.first, .int .i64 y.last, .int .u32 y.grave, .int .u32 y.src, .int .u64 y.many, .bool y.keep] 36)).cell? ⟨w5.heap.size, 1, none⟩ = some (.int .i64 y.last) := (blk_cell Y6.out 1).trans rfl
      have y2 : (w5.alloc (.cells #[.int .i64 y.first, .int .i64 y.last, .int .u32 y.grave, .int .u32 y.src, .int .u64 y.many, .bool y.keep] 36)).cell? ⟨w5.heap.size, 2, none⟩ = some (.int .u32 y.grave) := (blk_cell Y6.out 2).trans rfl
      have y3 : (w5.alloc (.cells #[.int .i64 y.first, .int .i64 y.last, .int .u32 y.grave, .int .u32 y.src, .int .u64 y.many, .bool y.keep] 36)).cell? ⟨w5.heap.size, 3, none⟩ = some (.int .u32 y.src) := (blk_cell Y6.out 3).trans rfl
      have y4 : (w5.alloc (.cells #[.int .i64 y.first, .int .i64 y.last, .int .u32 y.grave, .int .u32 y.src, .int .u64 y.many, .bool y.keep] 36)).cell? ⟨w5.heap.size, 4, none⟩ = some (.int .u64 y.many) := (blk_cell Y6.out 4).trans rfl
      have y5 : (w5.alloc (.cells #[.int .i64 y.first, .int .i64 y.last, .int .u32 y.grave, .int .u32 y.src, .int .u64 y.many, .bool y.keep] 36)).cell? ⟨w5.heap.size, 5, none⟩ = some (.bool y.keep) := (blk_cell Y6.out 5).trans rfl
      rcases hyf.out with rfl | ⟨rfl, hry, hty⟩
      · go_wp2_with fail
        go_ret
        exact ⟨rfl, B6.out⟩
      · replace hry := Lib.hid hry
        replace hty := Lib.hid hty
        go_wp2_with fail
        refine (rightP y true hry.out _).mono ?_; rintro e w7 ⟨rfl, hbc⟩
        have Y7 := Lib.hid (blk_below Y6.out hbc)
        have B7 := Lib.hid (below_then B6.out B6.out.size hbc)
        clear hbc
        have z0 : w7.cell? ⟨w5.heap.size, 0, none⟩ = some (.int .i64 y.first) := (blk_cell Y7.out 0).trans rfl
        have z1 : w7.cell? ⟨w5.heap.size, 1, none⟩ = some (.int .i64 y.last) := (blk_cell Y7.out 1).trans rfl
        have z2 : w7.cell? ⟨w5.heap.size, 2, none⟩ = some (.int .u32 y.grave) := (blk_cell Y7.out 2).trans rfl
        have z3 : w7.cell? ⟨w5.heap.size, 3, none⟩ = some (.int .u32 y.src) := (blk_cell Y7.out 3).trans rfl
        have z4 : w7.cell? ⟨w5.heap.size, 4, none⟩ = some (.int .u64 y.many) := (blk_cell Y7.out 4).trans rfl
        have z5 : w7.cell? ⟨w5.heap.size, 5, none⟩ = some (.bool y.keep) := (blk_cell Y7.out 5).trans rfl
        go_wp2_with fail
        refine (textP y s hty.out _).mono ?_; rintro e w8 ⟨rfl, hbc⟩
        have B8 := Lib.hid (below_then B7.out B7.out.size hbc)
        clear hbc
        go_wp2_with fail
        go_ret
        exact ⟨rfl, B8.out⟩

theorem inR (x : Int × Int × Int × Int × Int × Bool) (hg : g36 x) : InR ⟨x.1, x.2.1, x.2.2.1, x.2.2.2.1, x.2.2.2.2.1, x.2.2.2.2.2⟩ := by
  obtain ⟨a0, a1, a2, a3, a4, a5⟩ := x
  obtain ⟨h0, h1, h2, h3, h4, _⟩ := hg
  have e0 : IntKind.i64.min = -9223372036854775808 := rfl
  have e00 : IntKind.i64.max = 9223372036854775807 := rfl
  have e1 : IntKind.u32.min = 0 := rfl
  have e11 : IntKind.u32.max = 4294967295 := rfl
  have e2 : IntKind.u64.min = 0 := rfl
  have e22 : IntKind.u64.max = 18446744073709551615 := rfl
  simp only [g2, g28, g34, Lit.wf, e0, e00, e1, e11, e2, e22, Bool.and_eq_true, decide_eq_true_eq] at h0 h1 h2 h3 h4
  exact ⟨h0, h1, h2, h3, h4⟩

theorem walk (w : World) (x0 : (Int × Int × Int × Int × Int × Bool)) (cs0 : Array Value) (hK0 : kd36.K w x0 cs0.toList) (hg0 : g36 x0) (x1 : (Int × Int × Int × Int × Int × Bool)) (cs1 : Array Value) (hK1 : kd36.K w x1 cs1.toList) (hg1 : g36 x1) (x2 : ByteArray) (v2 : Value) (hK2 : kd9.K w x2 [v2]) (hg2 : g9 x2) :
    Calls Try.prog 12 #[.agg cs0, .agg cs1, v2] w fun e w' => e = .returned (.bool true) ∧ Below w.heap.size w w' := by
  have h0 := inR x0 hg0
  have h1 := inR x1 hg1
  obtain ⟨l0⟩ := cs0
  obtain ⟨l1⟩ := cs1
  obtain ⟨a0, a1, a2, a3, a4, a5⟩ := x0
  obtain ⟨b0, b1, b2, b3, b4, b5⟩ := x1
  obtain ⟨_, _, rfl, rfl, _, _, rfl, rfl, _, _, rfl, rfl, _, _, rfl, rfl, _, _, rfl, rfl, rfl⟩ := hK0
  obtain ⟨_, _, rfl, rfl, _, _, rfl, rfl, _, _, rfl, rfl, _, _, rfl, rfl, _, _, rfl, rfl, rfl⟩ := hK1
  cases hK2
  exact core w ⟨a0, a1, a2, a3, a4, a5⟩ ⟨b0, b1, b2, b3, b4, b5⟩ x2 h0 h1 hg2
end Go.Proofs.Ytliiefkdgdflpaa.WBriefBack
