/-
  tag.Parts: a text's parts.
-/
import Derived.Maps.AppendAt
import Derived.Test.YtliiefkdgdflpaaTagEach
namespace Go.Proofs.Ytliiefkdgdflpaa.TagParts
open Go.RowKit Go.Shelf Go.Proofs.YtliiefkdgdflpaaW.PrintWords Go.Proofs.YtliiefkdgdflpaaW.PrintLast TagSplit TagNum TagBytes TagEach
set_option linter.unusedVariables false
set_option linter.unusedSimpArgs false
attribute [local go_sem] Oper.semAt_some

theorem parts_short (s : ByteArray) (h5 : s.size < 5) (w : World) :
    Calls Try.prog 38 #[.string s] w fun e w' => e = .returned (.tuple #[.int .i64 0, .slice none 0 0, .int .i64 2]) ∧ Below w.heap.size w w' := by
  have h5i : (s.size : Int) < 5 := by omega
  go_enter Try.func38, Try.ntmps38
  go_wp2_with fail
  go_ret3
  exact ⟨rfl, Below.refl _ _⟩

theorem many_fact (s : ByteArray) (h5 : ¬ s.size < 5) : (s.extract 1 5).size = 4 ∧ bytesOf (s.extract 1 5) = ((bytesOf s).drop 1).take 4 := by
  have h := bytes_extract s 1 5
  refine ⟨?_, h⟩
  rw [← bytesOf_length, h, List.length_take, List.length_drop, bytesOf_length]
  omega

theorem parts_form (s : ByteArray) (h5 : ¬ s.size < 5) (hm : num (((bytesOf s).drop 1).take 4) 0 > 65536) (w : World) :
    Calls Try.prog 38 #[.string s] w fun e w' => e = .returned (.tuple #[.int .i64 0, .slice none 0 0, .int .i64 3]) ∧ Below w.heap.size w w' := by
  have h5i : ¬ (s.size : Int) < 5 := by omega
  have h5j : (5 : Int) ≤ (s.size : Int) := by omega
  obtain ⟨hs4, hb4⟩ := many_fact s h5
  obtain ⟨N, hN⟩ : ∃ N, num (((bytesOf s).drop 1).take 4) 0 = N := ⟨_, rfl⟩
  rw [hN] at hm
  have hg1 : decide (N > 65536) = true := decide_eq_true hm
  have hnum := numberC (s.extract 1 5) (by omega) w
  rw [hb4, hN] at hnum
  go_enter Try.func38, Try.ntmps38
  go_wp2_with fail
  refine hnum.mono ?_
  rintro e w1 ⟨rfl, hb1⟩
  go_wp2_with fail
  go_ret3
  exact ⟨rfl, hb1⟩

/-- A loop over the parts: what the loop keeps (I) abides the iterator's own writes: its box of s, the box of the reason, the loop's record. -/
theorem range_parts {g : Operand} {ps : Array Tmp} {assign body : Code} {Q : Exit → Act → World → Prop} {a : Act} {w : World} (n : Nat) (hn : 3 ≤ n) (bs bm be bb many : Nat) (hmany : many ≤ 65536) (s : ByteArray) (hsz : s.size < 4611686018427387904) (v0 : Int)
    (hg : a.eval g = .func (.func 56) #[] #[.pointer (some ⟨bm, 0, none⟩), .pointer (some ⟨bs, 0, none⟩), .pointer (some ⟨be, 0, none⟩)]) (hps : ps.size = 1)
    (hne1 : bs ≠ bm) (hne2 : bs ≠ be) (hne3 : bs ≠ bb) (hne4 : bb ≠ bm) (hne5 : bb ≠ be)
    (hm : w.heap[bm]? = some (.cells #[.int .i64 many] 3 (0, 0))) (hsx : w.heap[bs]? = some (.cells #[.string s] 9 (0, 0)))
    (he : w.heap[be]? = some (.cells #[.func (.func 53) #[] #[.pointer (some ⟨bb, 0, none⟩)]] 106 (0, 0))) (hbb : w.heap[bb]? = some (.cells #[.int .i64 v0] 54 (0, 0)))
    (I : List ByteArray → World → Prop) (a1 : ByteArray → Act)
    (hI : ∀ pre A B, I pre A → Below 0 A B → (∀ k, k < A.heap.size → k ≠ bs → k ≠ bb → k ≠ w.heap.size + 1 → B.heap[k]? = A.heap[k]?) → I pre B) (h0 : I [] w)
    (hassign : ∀ (x : ByteArray) (W : World) (K : Act → World → Prop), K (a1 x) W →
      assign.wpIn (Fence.wide.inRound (w.heap.size + 1)) (n - 1 - 1) Try.prog (Exit.then K (fun _ _ _ => False)) { tmps := (ps.zip #[.string x]).foldl (fun t (p, v) => t.setIfInBounds p v) a.tmps, defers := [] } W)
    (hbody : ∀ (pre : List ByteArray) (x : ByteArray) (W : World), I pre W → pre.length < many → w.heap.size + 2 ≤ W.heap.size →
      body.wpIn (Fence.wide.inRound (w.heap.size + 1)) (n - 1 - 1) Try.prog (fun e a' W' => e = .normal ∧ I (pre ++ [x]) W' ∧ W.heap.size ≤ W'.heap.size ∧ ∀ k, k < w.heap.size + 2 → (k = bm ∨ k = bs ∨ k = be ∨ k = bb ∨ k = w.heap.size ∨ k = w.heap.size + 1) → W'.heap[k]? = W.heap[k]?) (a1 x) W)
    (hdone : ∀ (ys : List ByteArray) (W : World), ys.map bytesOf = (split many (bytesOf s)).1 → I ys W → W.heap[bb]? = some (.cells #[.int .i64 (split many (bytesOf s)).2] 54 (0, 0)) → W.heap[w.heap.size]? = some (.deferred (some [])) →
      Q .normal { a with defers := { target := .collected w.heap.size, args := #[] } :: a.defers } W) :
    (Code.rangeFunc g ps assign body).wpIn Fence.wide n Try.prog Q a w := by
  have lt1 : bm < w.heap.size := (Array.getElem?_eq_some_iff.1 hm).1
  have lt2 : bs < w.heap.size := (Array.getElem?_eq_some_iff.1 hsx).1
  have lt3 : be < w.heap.size := (Array.getElem?_eq_some_iff.1 he).1
  have lt4 : bb < w.heap.size := (Array.getElem?_eq_some_iff.1 hbb).1
  refine wpIn_rangeFunc (fun fn hfn => ?_)
  obtain ⟨rc, hrc⟩ : ∃ rc : LoopState → Option Code → Loop, rc = fun st pe => { state := st, pending := pe, fn, tmps := a.tmps, params := ps, assign, body, defers := w.heap.size } := ⟨_, rfl⟩
  obtain ⟨W1, hW1⟩ : ∃ W1, W1 = (w.alloc (.deferred (some []))).alloc (.loop (rc .ready none)) := ⟨_, rfl⟩
  have hs1 : W1.heap.size = w.heap.size + 2 := by rw [hW1]; simp
  have hb1 : Below w.heap.size w W1 := by rw [hW1]; exact ((Below.refl _ w).alloc (Nat.le_refl _) _).alloc (by simp) _
  have hL1 : W1.heap[w.heap.size + 1]? = some (.loop (rc .ready none)) := by
    have h := World.alloc_heap_new (w.alloc (.deferred (some []))) (.loop (rc .ready none))
    rw [World.size_alloc] at h
    rw [hW1]; exact h
  have hD1 : W1.heap[w.heap.size]? = some (.deferred (some [])) := by
    rw [hW1]; exact (Below.heap_alloc (w.alloc (.deferred (some []))) _ _ (by simp)).trans (World.alloc_heap_new w _)
  refine ⟨w.heap.size + 1, [{ target := .collected w.heap.size, args := #[] }], W1, { target := .fn (.func 56) #[.pointer (some ⟨bm, 0, none⟩), .pointer (some ⟨bs, 0, none⟩), .pointer (some ⟨be, 0, none⟩)], args := #[.func (.yield (w.heap.size + 1)) #[] #[]] }, W1, 56,
    #[.func (.yield (w.heap.size + 1)) #[] #[], .pointer (some ⟨bm, 0, none⟩), .pointer (some ⟨bs, 0, none⟩), .pointer (some ⟨be, 0, none⟩)], W1, ?_, ?_, fun _ _ => trivial, ?_, fun _ => by omega, ?_⟩
  · rw [hW1, hrc]; exact run_enterLoop_outer _ _ _ _ _
  · simp only [resolve, hg]
    simp [go_sem]
  · simp [invoke, go_sem, enters_of Try.func56 (by kernel_rfl) rfl]
  · refine (each1_in (n - 1) (by omega) (w.heap.size + 1) bs bm be bb many hmany s hsz
      (fun pre W => I pre W ∧ W.heap[w.heap.size + 1]? = some (.loop (rc .ready none)) ∧ W.heap[w.heap.size]? = some (.deferred (some [])) ∧ w.heap.size + 2 ≤ W.heap.size)
      ?_ hne1 hne2 hne3 hne4 hne5 ?_ W1 v0 ((hb1.block _ lt1).trans hm) ((hb1.block _ lt2).trans hsx) ((hb1.block _ lt3).trans he) ((hb1.block _ lt4).trans hbb) ⟨hI [] w W1 h0 (hb1.mono (Nat.zero_le _)) (fun k hk _ _ _ => hb1.block k hk), hL1, hD1, by omega⟩).mono ?_
    · rintro pre A B ⟨hi, hl, hd, hsA⟩ hk
      exact ⟨hI pre A B hi hk.base (fun k h1 h2 h3 _ => hk.same k h1 h2 h3), (hk.same _ (by omega) (by omega) (by omega)).trans hl, (hk.same _ (by omega) (by omega) (by omega)).trans hd, Nat.le_trans hsA hk.base.size⟩
    · rintro pre x W ⟨hi, hl, hd, hsW⟩ hlen
      have hy := run_yield (P := Try.prog) (args := #[.string x]) hl (by rw [hrc]; exact hps.symm)
      rw [hrc] at hy
      refine ⟨fn, _, assign, body, hy, roundIn_of_wpIn hfn (hassign x W _ ?_)⟩
      clear hy
      have hput : ∀ (X : World) (o : Obj), w.heap.size + 2 ≤ X.heap.size → ∀ k, k < X.heap.size → k ≠ bs → k ≠ bb → k ≠ w.heap.size + 1 → (X.putObj (w.heap.size + 1) o).heap[k]? = X.heap[k]? := fun X o _ k _ _ _ h => World.putObj_heap_other h
      have hbel : ∀ (X : World) (o : Obj), Below 0 X (X.putObj (w.heap.size + 1) o) := fun X o => ⟨rfl, rfl, rfl, by simp, fun k hk => absurd hk (Nat.not_lt_zero _)⟩
      refine ⟨_, run_beginRound hl (by rw [hrc]), ?_⟩
      have hl2 : (W.putObj (w.heap.size + 1) (.loop { rc .ready none with state := .busy })).heap[w.heap.size + 1]? = some (.loop { rc .ready none with state := .busy }) := World.putObj_heap_same (by omega)
      have hd2 : (W.putObj (w.heap.size + 1) (.loop { rc .ready none with state := .busy })).heap[w.heap.size]? = some (.deferred (some [])) := (World.putObj_heap_other (by omega)).trans hd
      refine wpIn_mono (hbody pre x _ (hI _ _ _ hi (hbel _ _) (hput _ _ hsW)) hlen (by simpa using hsW)) ?_
      rintro e a3 W3 ⟨rfl, hi3, hs3, hk3⟩
      rw [World.putObj_size] at hs3
      have hl3 := (hk3 (w.heap.size + 1) (by omega) (by simp)).trans hl2
      have hd3 := (hk3 w.heap.size (by omega) (by simp)).trans hd2
      have hend := run_endRound (P := Try.prog) none hl3
      refine ⟨_, _, hend, rfl, ⟨hI _ _ _ hi3 (hbel _ _) (hput _ _ (by omega)), ?_, (World.putObj_heap_other (by omega)).trans hd3, by simp; omega⟩, ?_⟩
      · rw [World.putObj_heap_same (by omega)]; rw [hrc]; rfl
      · intro k hk
        have h1 : k ≠ w.heap.size + 1 := by omega
        exact (World.putObj_heap_other h1).trans ((hk3 k (by omega) (by omega)).trans (World.putObj_heap_other h1))
    · rintro e W2 ⟨⟨v, rfl⟩, ys, hys, ⟨hi, hl, hd, hs2⟩, hB⟩
      refine ⟨none, _, by have h := run_endLoop (P := Try.prog) hl (by rw [hrc]; simp); rw [hrc] at h; exact h, ?_⟩
      refine hdone ys _ hys (hI _ _ _ hi ⟨rfl, rfl, rfl, by simp, fun k hk => absurd hk (Nat.not_lt_zero _)⟩ (fun k _ _ _ h => World.putObj_heap_other h)) ((World.putObj_heap_other (by omega)).trans hB) ((World.putObj_heap_other (by omega)).trans hd)

def alone (Q : Exit → Act → World → Prop) : Exit → Act → World → Prop
  | .normal, a, w => Q .normal a w
  | _, _, _ => False
theorem wp_alone {P : Program} {c : Code} {Q : Exit → Act → World → Prop} {a : Act} {w : World} (h : c.wp P (alone Q) a w) : c.wp P Q a w :=
  wp_mono h (fun e a w hq => by cases e <;> first | exact hq | exact hq.elim)

theorem own_lower {W : World} {b b' e sz n : Nat} {v : Value} {xs : List Value} (h : W.ownsRow b e sz v n xs) (hb : b' ≤ b) : W.ownsRow b' e sz v n xs :=
  ⟨h.1, h.2.imp id fun ⟨g, cap, cur, e1, h2, r⟩ => ⟨g, cap, cur, e1, Nat.le_trans hb h2, r⟩⟩

set_option maxRecDepth 100000 in
set_option maxHeartbeats 4000000 in
theorem parts_walk (n : Nat) (hn : 3 ≤ n) (s : ByteArray) (hsz : s.size < 4611686018427387904) (h5 : ¬ s.size < 5) (many : Nat) (hN : num (((bytesOf s).drop 1).take 4) 0 = many) (hmany : many ≤ 65536) (w : World) :
    CallsIn Fence.wide n Try.prog 38 #[.string s] w fun x w' => Below w.heap.size w w' ∧
      ((split many ((bytesOf s).drop 5)).2 ≠ 0 → x = .returned (.tuple #[.int .i64 0, .slice none 0 0, .int .i64 (split many ((bytesOf s).drop 5)).2])) ∧
      ((split many ((bytesOf s).drop 5)).2 = 0 → ∃ A c ys, x = .returned (.tuple #[.int .i64 (bt s 0), .slice A ys.length c, .int .i64 0]) ∧ ys.map bytesOf = (split many ((bytesOf s).drop 5)).1 ∧ ys.length ≤ c ∧ Kd.C Kd.string w' A ys.length ys) := by
  have h5i : ¬ (s.size : Int) < 5 := by omega
  have h5j : (5 : Int) ≤ (s.size : Int) := by omega
  have hd1 : decide ((s.size : Int) < 5) = false := decide_eq_false h5i
  obtain ⟨hs4, hb4⟩ := many_fact s h5
  have hm1 : ¬ ((many : Nat) : Int) > 65536 := by omega
  have hg1 : decide (((many : Nat) : Int) > 65536) = false := decide_eq_false hm1
  have hm2 : IntKind.i64.wrap (many : Int) = many := i64w' _ (by omega) (by omega)
  have hnum := numberC (s.extract 1 5) (by omega) w
  rw [hb4, hN] at hnum
  have h1 : 1 ≤ n := by omega
  refine callsIn_of_wp_marks Try.func38 rfl trivial ?_ rfl
  simp only [Try.ntmps38, List.size_toArray, List.length_cons, List.length_nil, Nat.reduceAdd, Nat.reduceSub, Array.replicate_succ, Array.replicate_zero, List.push_toArray, List.append_toArray, List.nil_append, List.cons_append]
  gi_wp2
  refine ⟨trivial, ?_⟩
  refine (callsIn_wide.2 hnum).mono ?_
  rintro e w1 ⟨rfl, hb1⟩
  gi_wp2
  refine ⟨trivial, ?_⟩
  refine (each_in (n - 1) _ _ _ _).mono ?_
  rintro e w2 ⟨rfl, rfl⟩
  gi_wp2
  have hlast : bytesOf (s.extract 5 s.size) = (bytesOf s).drop 5 := by rw [bytes_extract, List.take_of_length_le]; rw [List.length_drop, bytesOf_length]; exact Nat.le_refl _
  obtain ⟨W0, hW0⟩ : ∃ W0, ((((w1.alloc (.cells #[.slice none 0 0] 61)).alloc (.cells #[.int .i64 0] 54)).alloc (.cells #[.string (s.extract 5 s.size)] 9)).alloc (.cells #[.int .i64 many] 3)).alloc (.cells #[.func (.func 53) #[] #[.pointer (some ⟨w1.heap.size + 1, 0, none⟩)]] 106) = W0 := ⟨_, rfl⟩
  have g1 : w.heap.size ≤ w1.heap.size := hb1.size
  have hz0 : W0.heap.size = w1.heap.size + 5 := by rw [← hW0]; simp
  have B0 : Below w.heap.size w W0 := by
    rw [← hW0]
    exact ((((hb1.alloc hb1.size _).alloc (by simp; omega) _).alloc (by simp; omega) _).alloc (by simp; omega) _).alloc (by simp; omega) _
  have x0 : Boxed W0 w1.heap.size 61 (.slice none 0 0) := by
    rw [← hW0]; exact ((((Boxed.new w1 61 _).alloc _).alloc _).alloc _).alloc _
  have x1 : Boxed W0 (w1.heap.size + 1) 54 (.int .i64 0) := by
    rw [← hW0]; have h := Boxed.new (w1.alloc (.cells #[.slice none 0 0] 61)) 54 (.int .i64 0); rw [World.size_alloc] at h; exact ((h.alloc _).alloc _).alloc _
  have x2 : Boxed W0 (w1.heap.size + 1 + 1) 9 (.string (s.extract 5 s.size)) := by
    rw [← hW0]; have h := Boxed.new ((w1.alloc (.cells #[.slice none 0 0] 61)).alloc (.cells #[.int .i64 0] 54)) 9 (.string (s.extract 5 s.size)); simp only [World.size_alloc] at h; exact (h.alloc _).alloc _
  have x3 : Boxed W0 (w1.heap.size + 1 + 1 + 1) 3 (.int .i64 many) := by
    rw [← hW0]; have h := Boxed.new (((w1.alloc (.cells #[.slice none 0 0] 61)).alloc (.cells #[.int .i64 0] 54)).alloc (.cells #[.string (s.extract 5 s.size)] 9)) 3 (.int .i64 many); simp only [World.size_alloc] at h; exact h.alloc _
  have x4 : Boxed W0 (w1.heap.size + 1 + 1 + 1 + 1) 106 (.func (.func 53) #[] #[.pointer (some ⟨w1.heap.size + 1, 0, none⟩)]) := by
    rw [← hW0]; have h := Boxed.new ((((w1.alloc (.cells #[.slice none 0 0] 61)).alloc (.cells #[.int .i64 0] 54)).alloc (.cells #[.string (s.extract 5 s.size)] 9)).alloc (.cells #[.int .i64 many] 3)) 106 (.func (.func 53) #[] #[.pointer (some ⟨w1.heap.size + 1, 0, none⟩)]); simp only [World.size_alloc] at h; exact h
  change Code.wpIn _ _ _ _ _ _ (((((w1.alloc (.cells #[.slice none 0 0] 61)).alloc (.cells #[.int .i64 0] 54)).alloc (.cells #[.string (s.extract 5 s.size)] 9)).alloc (.cells #[.int .i64 many] 3)).alloc (.cells #[.func (.func 53) #[] #[.pointer (some ⟨w1.heap.size + 1, 0, none⟩)]] 106))
  rw [hW0]
  clear hW0
  replace hz0 := Lib.hid hz0
  refine range_parts n hn (w1.heap.size + 1 + 1) (w1.heap.size + 1 + 1 + 1) (w1.heap.size + 1 + 1 + 1 + 1) (w1.heap.size + 1) many hmany (s.extract 5 s.size) (by rw [← bytesOf_length, hlast, List.length_drop, bytesOf_length]; omega) 0 rfl rfl (by omega) (by omega) (by omega) (by omega) (by omega)
    x3 x2 x4 x1
    (fun pre W => (∃ v, Boxed W w1.heap.size 61 v ∧ W.ownsRow (W0.heap.size + 2) 9 1 v pre.length (pre.map Value.string)) ∧ Below w.heap.size w W ∧ W0.heap.size ≤ W.heap.size)
    (fun x => { tmps := #[.string s, undef, .int .i64 0, .slice none 0 0, .int .i64 0, .int .u64 many, .pointer (some ⟨w1.heap.size, 0, none⟩), .pointer (some ⟨w1.heap.size + 1, 0, none⟩), .string x, .string s, .int .i64 s.size, .bool false, .string s, .string (s.extract 1 5), .int .u64 many, .int .u64 many, .bool false, .string s, .string (s.extract 5 s.size), .int .u64 many, .int .i64 many, .func (.func 53) #[] #[.pointer (some ⟨w1.heap.size + 1, 0, none⟩)], .func (.func 56) #[] #[.pointer (some ⟨w1.heap.size + 1 + 1 + 1, 0, none⟩), .pointer (some ⟨w1.heap.size + 1 + 1, 0, none⟩), .pointer (some ⟨w1.heap.size + 1 + 1 + 1 + 1, 0, none⟩)], .string x, undef, undef, undef, undef, undef, undef, undef, undef, undef, undef, undef], defers := [] })
    ?hI ⟨⟨_, x0, World.ownsRow_nil _ _ _ _⟩, B0, Nat.le_refl _⟩ ?assign ?body ?done
  case hI =>
    rintro pre A B ⟨⟨v, hv, hr⟩, hb, hs⟩ hb0 hk
    have hz := hz0.out
    refine ⟨⟨v, (hk _ hv.lt (by omega) (by omega) (by omega)).trans hv, own_move hr (fun k hk' => ?_)⟩, ⟨hb0.os.trans hb.os, hb0.tape.trans hb.tape, hb0.output.trans hb.output, Nat.le_trans hb.size hb0.size, fun k hk' => (hk k (by have := hb.size; omega) (by omega) (by omega) (by omega)).trans (hb.block k hk')⟩, Nat.le_trans hs hb0.size⟩
    rcases hr.2 with ⟨rfl, _⟩ | ⟨g, cap, cur, rfl, hg, hh, r⟩
    · simp [Value.ownBlock] at hk'
    · obtain rfl : g = k := by simpa [Value.ownBlock] using hk'
      exact hk g (Array.getElem?_eq_some_iff.1 hh).1 (by omega) (by omega) (by omega)
  case assign =>
    intro x W K hK
    gi_wp2
    exact hK
  case body =>
    rintro pre x W ⟨⟨v, hv, hrow⟩, hb, hs⟩ hlen hsz2
    have hvc := hv.cell
    have hinfo : (Try.prog.info? 9).map (fun i => (i.zero, i.size, i.bytes)) = some (some (.string ⟨#[]⟩), 1, 16) := by kernel_rfl
    obtain ⟨i0, hi, hz0', hz1, hz2⟩ := info_parts hinfo
    have hz := Lib.hid hz0.out
    gi_wp2_with (gi_at_builtin; refine wpListIn_append_own _ rfl _ _ 61 rfl (W0.heap.size + 2) 9 i0 (.string ⟨#[]⟩) 1 16 Try.underlying61 hi hz0' hz1 hz2 rfl (by decide) _ _ _ rfl (hrow.alloc _) ⟨W.heap.size, 0, none⟩ 1 1 [.string x] rfl rfl (cell_one_new _ _ _) (by simp [Value.oneCell']) (by unfold maxLen; omega) (by omega) (by simp; omega) ?_; intro v' w4 hown' hgrow _; obtain ⟨g', cap', rfl⟩ := ownsRow_succ hown'; obtain ⟨hv1, hv2, hr2, hk2, hb2⟩ := hv.appended (n₀ := w.heap.size) (by decide) (own_lower hrow (by have := hz.out; omega)) hb.size g1 (own_lower hown' (by have := hz.out; omega)) hgrow; have hc1 := hv1.cell; have hf1 := hv1.frozen; have hgrow := Lib.hid hgrow)
    have hsz4 : W.heap.size ≤ w4.heap.size := by have h := hb2.size; simpa using h
    refine ⟨⟨⟨_, hv2, ?_⟩, hb.trans hb2, Nat.le_trans hs hsz4⟩, hsz4, ?_⟩
    · have h := hown'.kept (grownBy_setCell' w4 w1.heap.size (.slice (some ⟨g', 0, none⟩) (pre.length + 1) cap')) (.inr (hv1.not_row (by decide) hown').symm)
      simpa using h
    · intro k hk hkk
      have hzz := hz.out
      rw [Below.heap_setCell w4 ⟨w1.heap.size, 0, none⟩ _ k (by rcases hkk with h | h | h | h | h | h <;> simp only [] <;> omega)]
      refine (hgrow.out.block k (by simp; omega) ?_).trans (Below.heap_alloc W _ k (by omega))
      intro e
      rcases hrow.2 with ⟨rfl, _⟩ | ⟨g, cap, cur, rfl, hg, hh, r⟩
      · exact absurd (show some k = none from e) (by simp)
      · have e2 : some k = some g := e
        obtain rfl : k = g := by simpa using e2
        omega
  case done =>
    rintro ys W hys ⟨⟨v, hv, hrow⟩, hb, hs⟩ hB hD
    rw [hlast] at hys hB
    obtain ⟨er, her⟩ : ∃ er, (split many ((bytesOf s).drop 5)).2 = er := ⟨_, rfl⟩
    rw [her] at hB
    have b0 : W.cell? ⟨w1.heap.size + 1, 0, none⟩ = some (.int .i64 er) := (blk_cell hB 0).trans rfl
    have v0 := hv.cell
    have hbz : ∀ X : World, Below w.heap.size w X → W0.heap.size ≤ X.heap.size → Below w.heap.size w (X.drew.putObj W0.heap.size (.deferred none)) := fun X hX hsX =>
      ⟨hX.os, hX.tape, hX.output, by simpa using hX.size, fun k hk => (World.putObj_heap_other (by have := hz0.out; omega)).trans (hX.block k hk)⟩
    by_cases h0 : er = 0
    · subst h0
      have hpos : 0 < s.size := by omega
      have hposi : (0 : Int) < (s.size : Int) := by omega
      gi_wp2
      refine wpIn_wide.2 (wp_alone ?_)
      refine start_ (n := 7) (S := fun w' => w'.heap[w1.heap.size]? = some (.cells #[v] 61 (0, 0))) (ds := []) #[false, false, false, false, false, false, false] (by kernel_rfl) rfl rfl (hv) (fun hS => ?_)
      refine pure_ (i := 0) (N := some 31) (v := ?_) (a' := ?_) #[true, false, false, false, false, false, false] rfl rfl (by kernel_rfl) (fun _ _ _ h => h) (Or.inl ⟨by rfl, ?_⟩) ?_ ?_
      rotate_left
      · intro w'
        go_simp
        with_reducible rfl
      rotate_left
      · simp only [Act.put, List.setIfInBounds_toArray, List.set_cons_zero, List.set_cons_succ, i64_w, i32_w]
        rfl
      refine pure_ (i := 1) (N := some 32) (v := ?_) (a' := ?_) #[true, true, false, false, false, false, false] rfl rfl (by kernel_rfl) (fun _ _ _ h => h) (Or.inl ⟨by rfl, ?_⟩) ?_ ?_
      rotate_left
      · intro w'
        go_simp
        with_reducible rfl
      rotate_left
      · simp only [Act.put, List.setIfInBounds_toArray, List.set_cons_zero, List.set_cons_succ, i64_w, i32_w]
        rfl
      refine pure_ (i := 2) (N := some 33) (v := ?_) (a' := ?_) #[true, true, true, false, false, false, false] rfl rfl (by kernel_rfl) (fun _ _ _ h => h) (Or.inl ⟨by rfl, ?_⟩) ?_ ?_
      rotate_left
      · intro w'
        go_simp
        with_reducible rfl
      rotate_left
      · simp only [Act.put, List.setIfInBounds_toArray, List.set_cons_zero, List.set_cons_succ, i64_w, i32_w]
        rfl
      refine take_ (i := 3) (N := some 34) (v := ?_) (a' := ?_) #[true, true, true, true, false, false, false] rfl rfl (by kernel_rfl) (fun _ _ _ h => h) (Or.inl ⟨by rfl, ?_⟩) hS ?_ ?_
      rotate_left
      · rintro w' hs
        have t0 : w'.cell? ⟨w1.heap.size, 0, none⟩ = some v := (blk_cell hs 0).trans rfl
        clear hs
        go_simp
        with_reducible rfl
      rotate_left
      · simp only [Act.put, List.setIfInBounds_toArray, List.set_cons_zero, List.set_cons_succ, i64_w, i32_w]
        rfl
      refine pure_ (i := 4) (N := some 2) (v := ?_) (a' := ?_) #[true, true, true, true, true, false, false] rfl rfl (by kernel_rfl) (fun _ _ _ h => h) (Or.inl ⟨by rfl, ?_⟩) ?_ ?_
      rotate_left
      · intro w'
        go_simp
        with_reducible rfl
      rotate_left
      · simp only [Act.put, List.setIfInBounds_toArray, List.set_cons_zero, List.set_cons_succ, i64_w, i32_w]
        rfl
      refine pure_ (i := 5) (N := some 3) (v := ?_) (a' := ?_) #[true, true, true, true, true, true, false] rfl rfl (by kernel_rfl) (fun _ _ _ h => h) (Or.inl ⟨by rfl, ?_⟩) ?_ ?_
      rotate_left
      · intro w'
        go_simp
        with_reducible rfl
      rotate_left
      · simp only [Act.put, List.setIfInBounds_toArray, List.set_cons_zero, List.set_cons_succ, i64_w, i32_w]
        rfl
      refine pure_ (i := 6) (N := some 4) (v := ?_) (a' := ?_) #[true, true, true, true, true, true, true] rfl rfl (by kernel_rfl) (fun _ _ _ h => h) (Or.inl ⟨by rfl, ?_⟩) ?_ ?_
      rotate_left
      · intro w'
        go_simp
        with_reducible rfl
      rotate_left
      · simp only [Act.put, List.setIfInBounds_toArray, List.set_cons_zero, List.set_cons_succ, i64_w, i32_w]
        rfl
      refine done_ (by kernel_rfl) ?_
      simp only [alone]
      gi_wp2
      have hD' : W.drew.heap[W0.heap.size]? = some (.deferred (some [])) := hD
      have hrow' : W.drew.ownsRow (W0.heap.size + 2) 9 1 v ys.length (ys.map Value.string) := own_move hrow (fun _ _ => rfl)
      have hrow2 := ownsRow_putObj hrow' (.deferred none) hD' rfl
      have hR := Kd.R_of_own (enc := Value.string) (h1 := fun _ => rfl) (ok := fun _ => True) hrow2 (fun _ _ => trivial)
      obtain ⟨A, c, rfl, hlc, hC⟩ := Kd.R_reads hR
      refine ⟨by simp, .inl ⟨_, _, rfl, run_takeDeferred hD', ?_⟩⟩
      refine ⟨_, results_tmp3 rfl _ _ _, hbz W hb hs, fun h => absurd her h, fun _ => ⟨A, c, ys, ?_, hys, hlc, hC⟩⟩
      have hw0 : wrap64 ((s[0]'hpos).toNat : Int) = bt s 0 := by
        have h1 := bt_at s 0 hpos
        have h2 := bt_range s 0
        have h3 : ((s[0]'hpos).toNat : Int) = bt s 0 := h1
        rw [h3, ← i64_w, i64w' _ (by omega) (by omega)]
      rw [← hw0]
      rfl
    · have h0' : decide (er = 0) = false := decide_eq_false h0
      have h0'' : (er != 0) = true := by simpa using h0
      gi_wp2
      refine wpIn_wide.2 (wp_alone ?_)
      refine start_ (n := 4) (S := fun w' => w'.heap[w1.heap.size + 1]? = some (.cells #[.int .i64 er] 54 (0, 0))) (ds := []) #[false, false, false, false] (by kernel_rfl) rfl rfl (hB) (fun hS => ?_)
      refine take_ (i := 0) (N := some 30) (v := ?_) (a' := ?_) #[true, false, false, false] rfl rfl (by kernel_rfl) (fun _ _ _ h => h) (Or.inl ⟨by rfl, ?_⟩) hS ?_ ?_
      rotate_left
      · rintro w' hs
        have t0 : w'.cell? ⟨w1.heap.size + 1, 0, none⟩ = some (.int .i64 er) := (blk_cell hs 0).trans rfl
        clear hs
        go_simp
        with_reducible rfl
      rotate_left
      · simp only [Act.put, List.setIfInBounds_toArray, List.set_cons_zero, List.set_cons_succ, i64_w, i32_w]
        rfl
      refine pure_ (i := 1) (N := some 2) (v := ?_) (a' := ?_) #[true, true, false, false] rfl rfl (by kernel_rfl) (fun _ _ _ h => h) (Or.inl ⟨by rfl, ?_⟩) ?_ ?_
      rotate_left
      · intro w'
        go_simp
        with_reducible rfl
      rotate_left
      · simp only [Act.put, List.setIfInBounds_toArray, List.set_cons_zero, List.set_cons_succ, i64_w, i32_w]
        rfl
      refine pure_ (i := 2) (N := some 3) (v := ?_) (a' := ?_) #[true, true, true, false] rfl rfl (by kernel_rfl) (fun _ _ _ h => h) (Or.inl ⟨by rfl, ?_⟩) ?_ ?_
      rotate_left
      · intro w'
        go_simp
        with_reducible rfl
      rotate_left
      · simp only [Act.put, List.setIfInBounds_toArray, List.set_cons_zero, List.set_cons_succ, i64_w, i32_w]
        rfl
      refine pure_ (i := 3) (N := some 4) (v := ?_) (a' := ?_) #[true, true, true, true] rfl rfl (by kernel_rfl) (fun _ _ _ h => h) (Or.inl ⟨by rfl, ?_⟩) ?_ ?_
      rotate_left
      · intro w'
        go_simp
        with_reducible rfl
      rotate_left
      · simp only [Act.put, List.setIfInBounds_toArray, List.set_cons_zero, List.set_cons_succ, i64_w, i32_w]
        rfl
      refine done_ (by kernel_rfl) ?_
      simp only [alone]
      gi_wp2
      have hD' : W.drew.heap[W0.heap.size]? = some (.deferred (some [])) := hD
      refine ⟨by simp, .inl ⟨_, _, rfl, run_takeDeferred hD', ?_⟩⟩
      refine ⟨_, results_tmp3 rfl _ _ _, hbz W hb hs, fun _ => ?_, fun h => absurd (her.symm.trans h) h0⟩
      rw [her]
      rfl
end Go.Proofs.Ytliiefkdgdflpaa.TagParts
