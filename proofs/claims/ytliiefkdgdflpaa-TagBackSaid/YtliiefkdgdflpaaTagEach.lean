/-
  tag.each's closure: the parts, one behind the other.
-/
import Derived.RangeFuncNested
import Derived.RangeFuncBound
import Derived.RangeFuncCalls
import Derived.RangeFuncLeaves
import Derived.RangeFuncBox
import Derived.Shelf.Abstract
import Derived.Shelf.RegionOpen
import Derived.WalkKit
import Derived.OwnWalkIn
import Derived.TacticsInMore
import Derived.LoopNIn
import Derived.LoopIn
import Derived.Test.YtliiefkdgdflpaaWLast
import Derived.Test.YtliiefkdgdflpaaTagEnd
namespace Go.Proofs.Ytliiefkdgdflpaa.TagEach
open Go.RowKit Go.Shelf Go.Proofs.YtliiefkdgdflpaaW.PrintWords Go.Proofs.YtliiefkdgdflpaaW.PrintLast TagSplit TagNum TagBytes
set_option linter.unusedVariables false
set_option linter.unusedSimpArgs false
attribute [local go_sem] Oper.semAt_some

theorem bytes_extract (t : ByteArray) (i j : Nat) : bytesOf (t.extract i j) = ((bytesOf t).drop i).take (j - i) := by
  unfold bytesOf
  rw [← List.map_drop, ← List.map_take]
  congr 1
  simp

/-- what lay, lies: but for two blocks -/
structure Kept2 (x y : Nat) (A B : World) : Prop where
  base : Below 0 A B
  same : ∀ k, k < A.heap.size → k ≠ x → k ≠ y → B.heap[k]? = A.heap[k]?
theorem Kept2.of_below {x y : Nat} {A B : World} (h : Below A.heap.size A B) : Kept2 x y A B := ⟨h.mono (Nat.zero_le _), fun k hk _ _ => h.block k hk⟩
theorem Kept2.trans {x y : Nat} {A B C : World} (h : Kept2 x y A B) (k : Kept2 x y B C) : Kept2 x y A C :=
  ⟨h.base.trans k.base, fun i hi h1 h2 => (k.same i (Nat.lt_of_lt_of_le hi h.base.size) h1 h2).trans (h.same i hi h1 h2)⟩
theorem Kept2.setx {x y : Nat} (A : World) (o : Nat) (v : Value) : Kept2 x y A (A.setCell ⟨x, o, none⟩ v) :=
  ⟨(Below.refl 0 A).setCell (p := ⟨x, o, none⟩) (Nat.zero_le _) v, fun k _ h1 _ => Below.heap_setCell A ⟨x, o, none⟩ v k h1⟩

theorem i64w' (x : Int) (h : -9223372036854775808 ≤ x) (h' : x < 9223372036854775808) : IntKind.i64.wrap x = x := by
  simp [IntKind.wrap, IntKind.bits, IntKind.signed]
  omega
theorem emp : ((⟨#[]⟩ : ByteArray).toList == []) = true := by rw [ByteArray.toList_eq]; rfl
theorem emp_iff (t : ByteArray) : (t.toList == []) = decide (bytesOf t = []) := by
  rw [ByteArray.toList_eq]
  unfold bytesOf
  cases h : t.data.toList <;> simp

theorem end_in (n g : Nat) (r : ByteArray) (e v e' : Int) (w : World) (hg : w.heap[g]? = some (.cells #[.int .i64 v] 54 (0, 0))) (tb : Bool) (ht : (r.toList == []) = tb) (he : (if tb then e else 3) = e') :
    CallsIn Fence.wide n Try.prog 53 #[.string r, .int .i64 e, .pointer (some ⟨g, 0, none⟩)] w fun x w' => x = .returned (.tuple #[]) ∧ w'.heap[g]? = some (.cells #[.int .i64 e'] 54 (0, 0)) ∧ (∀ x, Kept2 x g w w') := by
  refine callsIn_wide.2 ((TagEnd.endC g r e v w hg tb ht).mono ?_)
  rintro x w' ⟨h1, h2, h3, h4⟩
  have hlt : g < w.heap.size := (Array.getElem?_eq_some_iff.1 hg).1
  exact ⟨h1, by rw [← he]; exact h2, fun x => ⟨(h4 hlt).mono (Nat.zero_le _), fun k _ _ hk => h3 k hk⟩⟩

set_option maxRecDepth 100000 in
set_option maxHeartbeats 8000000 in
theorem each1_in (n : Nat) (hn : 1 ≤ n) (l bs bm be bb : Nat) (many : Nat) (hmany : many ≤ 65536) (s : ByteArray) (hsz : s.size < 4611686018427387904) (J : List ByteArray → World → Prop)
    (hJ : ∀ pre A B, J pre A → Kept2 bs bb A B → J pre B)
    (hne1 : bs ≠ bm) (hne2 : bs ≠ be) (hne3 : bs ≠ bb) (hne4 : bb ≠ bm) (hne5 : bb ≠ be)
    (hY : ∀ pre x W, J pre W → pre.length < many → YieldAt Fence.wide (n - 1) Try.prog l #[.string x] W fun e W' =>
      e = .returned (.bool true) ∧ J (pre ++ [x]) W' ∧ (∀ k, k = bm ∨ k = bs ∨ k = be ∨ k = bb → W'.heap[k]? = W.heap[k]?))
    (W : World) (v0 : Int) (hm : W.heap[bm]? = some (.cells #[.int .i64 many] 3 (0, 0))) (hsx : W.heap[bs]? = some (.cells #[.string s] 9 (0, 0)))
    (he : W.heap[be]? = some (.cells #[.func (.func 53) #[] #[.pointer (some ⟨bb, 0, none⟩)]] 106 (0, 0))) (hbb : W.heap[bb]? = some (.cells #[.int .i64 v0] 54 (0, 0))) (h0 : J [] W) :
    CallsIn Fence.wide n Try.prog 56 #[.func (.yield l) #[] #[], .pointer (some ⟨bm, 0, none⟩), .pointer (some ⟨bs, 0, none⟩), .pointer (some ⟨be, 0, none⟩)] W fun e W' =>
      (∃ v, e = .returned v) ∧ ∃ ys : List ByteArray, ys.map bytesOf = (split many (bytesOf s)).1 ∧ J ys W' ∧ W'.heap[bb]? = some (.cells #[.int .i64 (split many (bytesOf s)).2] 54 (0, 0)) := by
  refine callsIn_of_wp Try.func56 rfl trivial ?_ rfl
  have c0 : W.cell? ⟨bm, 0, none⟩ = some (.int .i64 many) := (blk_cell hm 0).trans rfl
  simp only [Try.ntmps56, List.size_toArray, List.length_cons, List.length_nil, Nat.reduceAdd, Nat.reduceSub, Array.replicate_succ, Array.replicate_zero, List.push_toArray, List.append_toArray, List.nil_append, List.cons_append]
  gi_wp2
  clear c0
  gi_loopw [7] (fun i wr => ∃ (k : Nat) (t : ByteArray) (pre : List ByteArray), k ≤ many ∧ i = .int .i64 k ∧ pre.length = k ∧ t.size ≤ s.size ∧ J pre wr ∧
      (wr.heap[bm]? = some (.cells #[.int .i64 many] 3 (0, 0)) ∧ wr.heap[bs]? = some (.cells #[.string t] 9 (0, 0)) ∧ wr.heap[be]? = some (.cells #[.func (.func 53) #[] #[.pointer (some ⟨bb, 0, none⟩)]] 106 (0, 0)) ∧ wr.heap[bb]? = some (.cells #[.int .i64 v0] 54 (0, 0))) ∧
      RowKit.Hid (split many (bytesOf s) = (pre.map bytesOf ++ (split (many - k) (bytesOf t)).1, (split (many - k) (bytesOf t)).2)))
    (fun i _ => many - (intOf i).toNat)
  case atStart => exact ⟨0, s, [], Nat.zero_le _, rfl, rfl, Nat.le_refl _, h0, ⟨hm, hsx, he, hbb⟩, Lib.hid rfl⟩
  case round =>
    obtain ⟨k, t, pre, hk, rfl, hpl, hts, hJs, ⟨hM, hT, hE, hB⟩, hsp⟩ := hrel
    have d0 : wr.cell? ⟨bs, 0, none⟩ = some (.string t) := (blk_cell hT 0).trans rfl
    by_cases hlt : k < many
    · obtain ⟨m, hmk⟩ : ∃ m, many - k = m + 1 := ⟨many - k - 1, by omega⟩
      by_cases h8 : t.size < 8
      · have h8i : (t.size : Int) < 8 := by omega
        have hs2 : split (many - k) (bytesOf t) = ([], 2) := by rw [hmk, split, if_pos (Or.inl (by rw [bytesOf_length]; exact h8))]
        gi_wp2
        refine wpIn_wide.2 ?_
        refine start_ (n := 13) (S := fun w' => w'.heap[bs]? = some (.cells #[.string t] 9 (0, 0)) ∧ Below wr.heap.size wr w') (ds := []) #[false, false, false, false, false, false, false, false, false, false, false, false, false] (by kernel_rfl) rfl rfl (⟨hT, (Below.refl _ _).drew⟩) (fun hS => ?_)
        refine take_ (i := 0) (N := some 9) (v := ?_) (a' := ?_) #[true, false, false, false, false, false, false, false, false, false, false, false, false] rfl rfl (by kernel_rfl) (fun _ _ _ h => h) (Or.inl ⟨by rfl, ?_⟩) hS ?_ ?_
        rotate_left
        · rintro w' ⟨hs, -⟩
          have t0 : w'.cell? ⟨bs, 0, none⟩ = some (.string t) := (blk_cell hs 0).trans rfl
          clear hs
          go_simp
          with_reducible rfl
        rotate_left
        · simp only [Act.put, List.setIfInBounds_toArray, List.set_cons_zero, List.set_cons_succ, i64_w, i32_w]
          rfl
        refine pure_ (i := 1) (N := some 10) (v := ?_) (a' := ?_) #[true, true, false, false, false, false, false, false, false, false, false, false, false] rfl rfl (by kernel_rfl) (fun _ _ _ h => h) (Or.inl ⟨by rfl, ?_⟩) ?_ ?_
        rotate_left
        · intro w'
          go_simp
          with_reducible rfl
        rotate_left
        · simp only [Act.put, List.setIfInBounds_toArray, List.set_cons_zero, List.set_cons_succ, i64_w, i32_w]
          rfl
        refine pure_ (i := 2) (N := some 11) (v := ?_) (a' := ?_) #[true, true, true, false, false, false, false, false, false, false, false, false, false] rfl rfl (by kernel_rfl) (fun _ _ _ h => h) (Or.inl ⟨by rfl, ?_⟩) ?_ ?_
        rotate_left
        · intro w'
          go_simp
          with_reducible rfl
        rotate_left
        · simp only [Act.put, List.setIfInBounds_toArray, List.set_cons_zero, List.set_cons_succ, i64_w, i32_w]
          rfl
        refine pure_ (i := 3) (N := some 12) (v := ?_) (a' := ?_) #[true, true, true, true, false, false, false, false, false, false, false, false, false] rfl rfl (by kernel_rfl) (fun _ _ _ h => h) (Or.inl ⟨by rfl, ?_⟩) ?_ ?_
        rotate_left
        · intro w'
          go_simp
          with_reducible rfl
        rotate_left
        · simp only [Act.put, List.setIfInBounds_toArray, List.set_cons_zero, List.set_cons_succ, i64_w, i32_w]
          rfl
        refine pure_ (i := 4) (N := some 13) (v := undef) (a' := ?_) #[true, true, true, true, true, false, false, false, false, false, false, false, false] rfl rfl (by kernel_rfl) (fun _ _ _ h => h) (Or.inr ⟨by rfl, rfl⟩) ?_ ?_
        rotate_left
        · simp only [Act.put, List.setIfInBounds_toArray, List.set_cons_zero, List.set_cons_succ, i64_w, i32_w]
          rfl
        refine pure_ (i := 5) (N := some 14) (v := undef) (a' := ?_) #[true, true, true, true, true, true, false, false, false, false, false, false, false] rfl rfl (by kernel_rfl) (fun _ _ _ h => h) (Or.inr ⟨by rfl, rfl⟩) ?_ ?_
        rotate_left
        · simp only [Act.put, List.setIfInBounds_toArray, List.set_cons_zero, List.set_cons_succ, i64_w, i32_w]
          rfl
        refine pure_ (i := 6) (N := some 15) (v := undef) (a' := ?_) #[true, true, true, true, true, true, true, false, false, false, false, false, false] rfl rfl (by kernel_rfl) (fun _ _ _ h => h) (Or.inr ⟨by rfl, rfl⟩) ?_ ?_
        rotate_left
        · simp only [Act.put, List.setIfInBounds_toArray, List.set_cons_zero, List.set_cons_succ, i64_w, i32_w]
          rfl
        refine pure_ (i := 7) (N := some 16) (v := undef) (a' := ?_) #[true, true, true, true, true, true, true, true, false, false, false, false, false] rfl rfl (by kernel_rfl) (fun _ _ _ h => h) (Or.inr ⟨by rfl, rfl⟩) ?_ ?_
        rotate_left
        · simp only [Act.put, List.setIfInBounds_toArray, List.set_cons_zero, List.set_cons_succ, i64_w, i32_w]
          rfl
        refine pure_ (i := 8) (N := some 17) (v := undef) (a' := ?_) #[true, true, true, true, true, true, true, true, true, false, false, false, false] rfl rfl (by kernel_rfl) (fun _ _ _ h => h) (Or.inr ⟨by rfl, rfl⟩) ?_ ?_
        rotate_left
        · simp only [Act.put, List.setIfInBounds_toArray, List.set_cons_zero, List.set_cons_succ, i64_w, i32_w]
          rfl
        refine pure_ (i := 9) (N := some 18) (v := undef) (a' := ?_) #[true, true, true, true, true, true, true, true, true, true, false, false, false] rfl rfl (by kernel_rfl) (fun _ _ _ h => h) (Or.inr ⟨by rfl, rfl⟩) ?_ ?_
        rotate_left
        · simp only [Act.put, List.setIfInBounds_toArray, List.set_cons_zero, List.set_cons_succ, i64_w, i32_w]
          rfl
        refine pure_ (i := 10) (N := some 19) (v := undef) (a' := ?_) #[true, true, true, true, true, true, true, true, true, true, true, false, false] rfl rfl (by kernel_rfl) (fun _ _ _ h => h) (Or.inr ⟨by rfl, rfl⟩) ?_ ?_
        rotate_left
        · simp only [Act.put, List.setIfInBounds_toArray, List.set_cons_zero, List.set_cons_succ, i64_w, i32_w]
          rfl
        refine pure_ (i := 11) (N := some 20) (v := undef) (a' := ?_) #[true, true, true, true, true, true, true, true, true, true, true, true, false] rfl rfl (by kernel_rfl) (fun _ _ _ h => h) (Or.inr ⟨by rfl, rfl⟩) ?_ ?_
        rotate_left
        · simp only [Act.put, List.setIfInBounds_toArray, List.set_cons_zero, List.set_cons_succ, i64_w, i32_w]
          rfl
        refine pure_ (i := 12) (N := some 21) (v := ?_) (a' := ?_) #[true, true, true, true, true, true, true, true, true, true, true, true, true] rfl rfl (by kernel_rfl) (fun _ _ _ h => h) (Or.inl ⟨by rfl, ?_⟩) ?_ ?_
        rotate_left
        · intro w'
          go_simp
          with_reducible rfl
        rotate_left
        · simp only [Act.put, List.setIfInBounds_toArray, List.set_cons_zero, List.set_cons_succ, i64_w, i32_w]
          rfl
        refine done_ (by kernel_rfl) ?_
        have e0 : wr.drew.cell? ⟨be, 0, none⟩ = some (.func (.func 53) #[] #[.pointer (some ⟨bb, 0, none⟩)]) := (blk_cell (w := wr.drew) hE 0).trans rfl
        gi_wp2
        refine ⟨trivial, ?_⟩
        refine (end_in (n - 1) bb _ 2 v0 2 wr.drew hB true emp rfl).mono ?_
        rintro e w2 ⟨rfl, hb2, hk2⟩
        gi_wp2
        refine bodyPost_ret (results_none rfl _ _ _) rfl ?_
        refine ⟨⟨_, rfl⟩, pre, ?_, hJ _ _ _ hJs ((Kept2.of_below (Below.refl _ wr).drew).trans (hk2 bs)), ?_⟩
        · rw [hsp.out, hs2, List.append_nil]
        · rw [hsp.out, hs2]; exact hb2
      · have h8i : ¬ (t.size : Int) < 8 := by omega
        have h8j : (8 : Int) ≤ (t.size : Int) := by omega
        have hd1 : decide ((t.size : Int) < 8) = false := decide_eq_false h8i
        have hd2 : decide (t.size < 8) = false := decide_eq_false h8
        have hx8 : bytesOf (t.extract 0 8) = (bytesOf t).take 8 := by rw [bytes_extract]; rfl
        have hsz8 : (t.extract 0 8).size = 8 := by rw [← bytesOf_length, hx8, List.length_take, bytesOf_length]; omega
        have hNb := num_bound 8 ((bytesOf t).take 8) (by rw [List.length_take, bytesOf_length]; omega) (fun x hx => bytes_range t x (List.mem_of_mem_take hx))
        obtain ⟨N, hN⟩ : ∃ N : Nat, num ((bytesOf t).take 8) 0 = N := ⟨(num ((bytesOf t).take 8) 0).toNat, by omega⟩
        rw [hN] at hNb
        have hnum : ∀ w, Calls Try.prog 51 #[.string (t.extract 0 8)] w fun e w' => e = .returned (.int .u64 N) ∧ Below w.heap.size w w' := fun w => by
          have h := numberC (t.extract 0 8) (by omega) w
          rw [hx8, hN] at h
          exact h
        have hw8 : IntKind.i64.wrap ((t.size : Int) - 8) = (t.size : Int) - 8 := i64w' _ (by omega) (by omega)
        have hw9 : IntKind.u64.wrap ((t.size : Int) - 8) = (t.size : Int) - 8 := by rw [u64w]; omega
        by_cases hbig : (N : Int) > (t.size : Int) - 8
        · have hg1 : decide ((N : Int) > (t.size : Int) - 8) = true := decide_eq_true hbig
          have hg2 : decide ((t.size : Int) - 8 < (N : Int)) = true := decide_eq_true hbig
          have hs2 : split (many - k) (bytesOf t) = ([], 2) := by rw [hmk, split, hN, bytesOf_length, if_pos (Or.inr hbig)]
          gi_wp2
          refine wpIn_wide.2 ?_
          refine start_ (n := 13) (S := fun w' => w'.heap[bs]? = some (.cells #[.string t] 9 (0, 0)) ∧ Below wr.heap.size wr w') (ds := []) #[false, false, false, false, false, false, false, false, false, false, false, false, false] (by kernel_rfl) rfl rfl (⟨hT, (Below.refl _ _).drew⟩) (fun hS => ?_)
          refine take_ (i := 0) (N := some 9) (v := ?_) (a' := ?_) #[true, false, false, false, false, false, false, false, false, false, false, false, false] rfl rfl (by kernel_rfl) (fun _ _ _ h => h) (Or.inl ⟨by rfl, ?_⟩) hS ?_ ?_
          rotate_left
          · rintro w' ⟨hs, -⟩
            have t0 : w'.cell? ⟨bs, 0, none⟩ = some (.string t) := (blk_cell hs 0).trans rfl
            clear hs
            go_simp
            with_reducible rfl
          rotate_left
          · simp only [Act.put, List.setIfInBounds_toArray, List.set_cons_zero, List.set_cons_succ, i64_w, i32_w]
            rfl
          refine pure_ (i := 1) (N := some 10) (v := ?_) (a' := ?_) #[true, true, false, false, false, false, false, false, false, false, false, false, false] rfl rfl (by kernel_rfl) (fun _ _ _ h => h) (Or.inl ⟨by rfl, ?_⟩) ?_ ?_
          rotate_left
          · intro w'
            go_simp
            with_reducible rfl
          rotate_left
          · simp only [Act.put, List.setIfInBounds_toArray, List.set_cons_zero, List.set_cons_succ, i64_w, i32_w]
            rfl
          refine pure_ (i := 2) (N := some 11) (v := ?_) (a' := ?_) #[true, true, true, false, false, false, false, false, false, false, false, false, false] rfl rfl (by kernel_rfl) (fun _ _ _ h => h) (Or.inl ⟨by rfl, ?_⟩) ?_ ?_
          rotate_left
          · intro w'
            go_simp
            with_reducible rfl
          rotate_left
          · simp only [Act.put, List.setIfInBounds_toArray, List.set_cons_zero, List.set_cons_succ, i64_w, i32_w]
            rfl
          refine pure_ (i := 3) (N := some 12) (v := ?_) (a' := ?_) #[true, true, true, true, false, false, false, false, false, false, false, false, false] rfl rfl (by kernel_rfl) (fun _ _ _ h => h) (Or.inl ⟨by rfl, ?_⟩) ?_ ?_
          rotate_left
          · intro w'
            go_simp
            with_reducible rfl
          rotate_left
          · simp only [Act.put, List.setIfInBounds_toArray, List.set_cons_zero, List.set_cons_succ, i64_w, i32_w]
            rfl
          refine take_ (i := 4) (N := some 13) (v := ?_) (a' := ?_) #[true, true, true, true, true, false, false, false, false, false, false, false, false] rfl rfl (by kernel_rfl) (fun _ _ _ h => h) (Or.inl ⟨by rfl, ?_⟩) hS ?_ ?_
          rotate_left
          · rintro w' ⟨hs, -⟩
            have t0 : w'.cell? ⟨bs, 0, none⟩ = some (.string t) := (blk_cell hs 0).trans rfl
            clear hs
            go_simp
            with_reducible rfl
          rotate_left
          · simp only [Act.put, List.setIfInBounds_toArray, List.set_cons_zero, List.set_cons_succ, i64_w, i32_w]
            rfl
          refine pure_ (i := 5) (N := some 14) (v := ?_) (a' := ?_) #[true, true, true, true, true, true, false, false, false, false, false, false, false] rfl rfl (by kernel_rfl) (fun _ _ _ h => h) (Or.inl ⟨by rfl, ?_⟩) ?_ ?_
          rotate_left
          · intro w'
            go_simp
            with_reducible rfl
          rotate_left
          · simp only [Act.put, List.setIfInBounds_toArray, List.set_cons_zero, List.set_cons_succ, i64_w, i32_w]
            rfl
          refine take_ (i := 7) (N := some 16) (v := ?_) (a' := ?_) #[true, true, true, true, true, true, false, true, false, false, false, false, false] rfl rfl (by kernel_rfl) (fun _ _ _ h => h) (Or.inl ⟨by rfl, ?_⟩) hS ?_ ?_
          rotate_left
          · rintro w' ⟨hs, -⟩
            have t0 : w'.cell? ⟨bs, 0, none⟩ = some (.string t) := (blk_cell hs 0).trans rfl
            clear hs
            go_simp
            with_reducible rfl
          rotate_left
          · simp only [Act.put, List.setIfInBounds_toArray, List.set_cons_zero, List.set_cons_succ, i64_w, i32_w]
            rfl
          refine pure_ (i := 8) (N := some 17) (v := ?_) (a' := ?_) #[true, true, true, true, true, true, false, true, true, false, false, false, false] rfl rfl (by kernel_rfl) (fun _ _ _ h => h) (Or.inl ⟨by rfl, ?_⟩) ?_ ?_
          rotate_left
          · intro w'
            go_simp
            with_reducible rfl
          rotate_left
          · simp only [Act.put, List.setIfInBounds_toArray, List.set_cons_zero, List.set_cons_succ, i64_w, i32_w]
            rfl
          refine pure_ (i := 9) (N := some 18) (v := ?_) (a' := ?_) #[true, true, true, true, true, true, false, true, true, true, false, false, false] rfl rfl (by kernel_rfl) (fun _ _ _ h => h) (Or.inl ⟨by rfl, ?_⟩) ?_ ?_
          rotate_left
          · intro w'
            go_simp; (try simp only [hw8])
            with_reducible rfl
          rotate_left
          · simp only [Act.put, List.setIfInBounds_toArray, List.set_cons_zero, List.set_cons_succ, i64_w, i32_w]
            rfl
          refine pure_ (i := 10) (N := some 19) (v := ?_) (a' := ?_) #[true, true, true, true, true, true, false, true, true, true, true, false, false] rfl rfl (by kernel_rfl) (fun _ _ _ h => h) (Or.inl ⟨by rfl, ?_⟩) ?_ ?_
          rotate_left
          · intro w'
            go_simp; (try simp only [hw9])
            with_reducible rfl
          rotate_left
          · simp only [Act.put, List.setIfInBounds_toArray, List.set_cons_zero, List.set_cons_succ, i64_w, i32_w]
            rfl
          refine one_ (i := 6) (N := some 15) #[true, true, true, true, true, true, true, true, true, true, true, false, false] rfl rfl (by kernel_rfl) (by decide) (fun K hK => ?_)
          refine goes_ Try.func51 (by kernel_rfl) rfl #[.string (t.extract 0 8)] (by rfl) rfl rfl (by (try simp only [List.map_toArray, List.map_cons, List.map_nil]); first | done | rfl) ?_
          refine (hnum _).mono ?_
          rintro e w' ⟨rfl, hb'⟩
          refine ⟨_, rfl, ?_⟩
          refine hK.out _ _ (⟨blk_below hS.1 hb', below_then hS.2 hS.2.size hb'⟩) (fun hS => ?_)
          clear hK K
          refine norm_ (a' := ?_) ?_ ?_
          rotate_left
          · show Act.put _ (some 15) _ = _
            simp only [Act.put, List.setIfInBounds_toArray, List.set_cons_zero, List.set_cons_succ, i64_w, i32_w]
            rfl
          refine pure_ (i := 11) (N := some 20) (v := ?_) (a' := ?_) #[true, true, true, true, true, true, true, true, true, true, true, true, false] rfl rfl (by kernel_rfl) (fun _ _ _ h => h) (Or.inl ⟨by rfl, ?_⟩) ?_ ?_
          rotate_left
          · intro w'
            go_simp; (try simp only [hg1, hg2])
            with_reducible rfl
          rotate_left
          · simp only [Act.put, List.setIfInBounds_toArray, List.set_cons_zero, List.set_cons_succ, i64_w, i32_w]
            rfl
          refine pure_ (i := 12) (N := some 21) (v := ?_) (a' := ?_) #[true, true, true, true, true, true, true, true, true, true, true, true, true] rfl rfl (by kernel_rfl) (fun _ _ _ h => h) (Or.inl ⟨by rfl, ?_⟩) ?_ ?_
          rotate_left
          · intro w'
            go_simp
            with_reducible rfl
          rotate_left
          · simp only [Act.put, List.setIfInBounds_toArray, List.set_cons_zero, List.set_cons_succ, i64_w, i32_w]
            rfl
          refine done_ (by kernel_rfl) ?_
          have e0 : w'.cell? ⟨be, 0, none⟩ = some (.func (.func 53) #[] #[.pointer (some ⟨bb, 0, none⟩)]) := (blk_cell (blk_below hE hS.2) 0).trans rfl
          gi_wp2
          refine ⟨trivial, ?_⟩
          refine (end_in (n - 1) bb _ 2 v0 2 w' (blk_below hB hS.2) true emp rfl).mono ?_
          rintro e w2 ⟨rfl, hb2, hk2⟩
          gi_wp2
          refine bodyPost_ret (results_none rfl _ _ _) rfl ?_
          refine ⟨⟨_, rfl⟩, pre, ?_, hJ _ _ _ hJs ((Kept2.of_below hS.2).trans (hk2 bs)), ?_⟩
          · rw [hsp.out, hs2, List.append_nil]
          · rw [hsp.out, hs2]; exact hb2
        · have hg1 : decide ((N : Int) > (t.size : Int) - 8) = false := decide_eq_false hbig
          have hg2 : decide ((t.size : Int) - 8 < (N : Int)) = false := decide_eq_false hbig
          have hle : 8 + N ≤ t.size := by omega
          have hle2 : (8 : Int) + (N : Int) ≤ (t.size : Int) := by omega
          have hle3 : (8 : Int) ≤ 8 + (N : Int) := by omega
          have hw10 : IntKind.u64.wrap (8 + (N : Int)) = 8 + (N : Int) := by rw [u64w]; omega
          have hw11 : IntKind.i64.wrap (8 + (N : Int)) = 8 + (N : Int) := i64w' _ (by omega) (by omega)
          have hx9 : bytesOf (t.extract 8 (8 + N)) = ((bytesOf t).drop 8).take N := by rw [bytes_extract, Nat.add_sub_cancel_left]
          have hx10 : bytesOf (t.extract (8 + N) t.size) = (bytesOf t).drop (8 + N) := by rw [bytes_extract, List.take_of_length_le]; rw [List.length_drop, bytesOf_length]; exact Nat.le_refl _
          have hs2 : split (many - k) (bytesOf t) = (((bytesOf t).drop 8).take N :: (split (many - (k + 1)) ((bytesOf t).drop (8 + N))).1, (split (many - (k + 1)) ((bytesOf t).drop (8 + N))).2) := by
            rw [hmk, split, hN, bytesOf_length, if_neg (by omega), show many - (k + 1) = m by omega]; rfl
          gi_wp2
          refine wpIn_wide.2 ?_
          refine start_ (n := 13) (S := fun w' => w'.heap[bs]? = some (.cells #[.string t] 9 (0, 0)) ∧ Below wr.heap.size wr w') (ds := []) #[false, false, false, false, false, false, false, false, false, false, false, false, false] (by kernel_rfl) rfl rfl (⟨hT, (Below.refl _ _).drew⟩) (fun hS => ?_)
          refine take_ (i := 0) (N := some 9) (v := ?_) (a' := ?_) #[true, false, false, false, false, false, false, false, false, false, false, false, false] rfl rfl (by kernel_rfl) (fun _ _ _ h => h) (Or.inl ⟨by rfl, ?_⟩) hS ?_ ?_
          rotate_left
          · rintro w' ⟨hs, -⟩
            have t0 : w'.cell? ⟨bs, 0, none⟩ = some (.string t) := (blk_cell hs 0).trans rfl
            clear hs
            go_simp
            with_reducible rfl
          rotate_left
          · simp only [Act.put, List.setIfInBounds_toArray, List.set_cons_zero, List.set_cons_succ, i64_w, i32_w]
            rfl
          refine pure_ (i := 1) (N := some 10) (v := ?_) (a' := ?_) #[true, true, false, false, false, false, false, false, false, false, false, false, false] rfl rfl (by kernel_rfl) (fun _ _ _ h => h) (Or.inl ⟨by rfl, ?_⟩) ?_ ?_
          rotate_left
          · intro w'
            go_simp
            with_reducible rfl
          rotate_left
          · simp only [Act.put, List.setIfInBounds_toArray, List.set_cons_zero, List.set_cons_succ, i64_w, i32_w]
            rfl
          refine pure_ (i := 2) (N := some 11) (v := ?_) (a' := ?_) #[true, true, true, false, false, false, false, false, false, false, false, false, false] rfl rfl (by kernel_rfl) (fun _ _ _ h => h) (Or.inl ⟨by rfl, ?_⟩) ?_ ?_
          rotate_left
          · intro w'
            go_simp
            with_reducible rfl
          rotate_left
          · simp only [Act.put, List.setIfInBounds_toArray, List.set_cons_zero, List.set_cons_succ, i64_w, i32_w]
            rfl
          refine pure_ (i := 3) (N := some 12) (v := ?_) (a' := ?_) #[true, true, true, true, false, false, false, false, false, false, false, false, false] rfl rfl (by kernel_rfl) (fun _ _ _ h => h) (Or.inl ⟨by rfl, ?_⟩) ?_ ?_
          rotate_left
          · intro w'
            go_simp
            with_reducible rfl
          rotate_left
          · simp only [Act.put, List.setIfInBounds_toArray, List.set_cons_zero, List.set_cons_succ, i64_w, i32_w]
            rfl
          refine take_ (i := 4) (N := some 13) (v := ?_) (a' := ?_) #[true, true, true, true, true, false, false, false, false, false, false, false, false] rfl rfl (by kernel_rfl) (fun _ _ _ h => h) (Or.inl ⟨by rfl, ?_⟩) hS ?_ ?_
          rotate_left
          · rintro w' ⟨hs, -⟩
            have t0 : w'.cell? ⟨bs, 0, none⟩ = some (.string t) := (blk_cell hs 0).trans rfl
            clear hs
            go_simp
            with_reducible rfl
          rotate_left
          · simp only [Act.put, List.setIfInBounds_toArray, List.set_cons_zero, List.set_cons_succ, i64_w, i32_w]
            rfl
          refine pure_ (i := 5) (N := some 14) (v := ?_) (a' := ?_) #[true, true, true, true, true, true, false, false, false, false, false, false, false] rfl rfl (by kernel_rfl) (fun _ _ _ h => h) (Or.inl ⟨by rfl, ?_⟩) ?_ ?_
          rotate_left
          · intro w'
            go_simp
            with_reducible rfl
          rotate_left
          · simp only [Act.put, List.setIfInBounds_toArray, List.set_cons_zero, List.set_cons_succ, i64_w, i32_w]
            rfl
          refine take_ (i := 7) (N := some 16) (v := ?_) (a' := ?_) #[true, true, true, true, true, true, false, true, false, false, false, false, false] rfl rfl (by kernel_rfl) (fun _ _ _ h => h) (Or.inl ⟨by rfl, ?_⟩) hS ?_ ?_
          rotate_left
          · rintro w' ⟨hs, -⟩
            have t0 : w'.cell? ⟨bs, 0, none⟩ = some (.string t) := (blk_cell hs 0).trans rfl
            clear hs
            go_simp
            with_reducible rfl
          rotate_left
          · simp only [Act.put, List.setIfInBounds_toArray, List.set_cons_zero, List.set_cons_succ, i64_w, i32_w]
            rfl
          refine pure_ (i := 8) (N := some 17) (v := ?_) (a' := ?_) #[true, true, true, true, true, true, false, true, true, false, false, false, false] rfl rfl (by kernel_rfl) (fun _ _ _ h => h) (Or.inl ⟨by rfl, ?_⟩) ?_ ?_
          rotate_left
          · intro w'
            go_simp
            with_reducible rfl
          rotate_left
          · simp only [Act.put, List.setIfInBounds_toArray, List.set_cons_zero, List.set_cons_succ, i64_w, i32_w]
            rfl
          refine pure_ (i := 9) (N := some 18) (v := ?_) (a' := ?_) #[true, true, true, true, true, true, false, true, true, true, false, false, false] rfl rfl (by kernel_rfl) (fun _ _ _ h => h) (Or.inl ⟨by rfl, ?_⟩) ?_ ?_
          rotate_left
          · intro w'
            go_simp; (try simp only [hw8])
            with_reducible rfl
          rotate_left
          · simp only [Act.put, List.setIfInBounds_toArray, List.set_cons_zero, List.set_cons_succ, i64_w, i32_w]
            rfl
          refine pure_ (i := 10) (N := some 19) (v := ?_) (a' := ?_) #[true, true, true, true, true, true, false, true, true, true, true, false, false] rfl rfl (by kernel_rfl) (fun _ _ _ h => h) (Or.inl ⟨by rfl, ?_⟩) ?_ ?_
          rotate_left
          · intro w'
            go_simp; (try simp only [hw9])
            with_reducible rfl
          rotate_left
          · simp only [Act.put, List.setIfInBounds_toArray, List.set_cons_zero, List.set_cons_succ, i64_w, i32_w]
            rfl
          refine one_ (i := 6) (N := some 15) #[true, true, true, true, true, true, true, true, true, true, true, false, false] rfl rfl (by kernel_rfl) (by decide) (fun K hK => ?_)
          refine goes_ Try.func51 (by kernel_rfl) rfl #[.string (t.extract 0 8)] (by rfl) rfl rfl (by (try simp only [List.map_toArray, List.map_cons, List.map_nil]); first | done | rfl) ?_
          refine (hnum _).mono ?_
          rintro e w' ⟨rfl, hb'⟩
          refine ⟨_, rfl, ?_⟩
          refine hK.out _ _ (⟨blk_below hS.1 hb', below_then hS.2 hS.2.size hb'⟩) (fun hS => ?_)
          clear hK K
          refine norm_ (a' := ?_) ?_ ?_
          rotate_left
          · show Act.put _ (some 15) _ = _
            simp only [Act.put, List.setIfInBounds_toArray, List.set_cons_zero, List.set_cons_succ, i64_w, i32_w]
            rfl
          refine pure_ (i := 11) (N := some 20) (v := ?_) (a' := ?_) #[true, true, true, true, true, true, true, true, true, true, true, true, false] rfl rfl (by kernel_rfl) (fun _ _ _ h => h) (Or.inl ⟨by rfl, ?_⟩) ?_ ?_
          rotate_left
          · intro w'
            go_simp; (try simp only [hg1, hg2])
            with_reducible rfl
          rotate_left
          · simp only [Act.put, List.setIfInBounds_toArray, List.set_cons_zero, List.set_cons_succ, i64_w, i32_w]
            rfl
          refine pure_ (i := 12) (N := some 21) (v := ?_) (a' := ?_) #[true, true, true, true, true, true, true, true, true, true, true, true, true] rfl rfl (by kernel_rfl) (fun _ _ _ h => h) (Or.inl ⟨by rfl, ?_⟩) ?_ ?_
          rotate_left
          · intro w'
            go_simp
            with_reducible rfl
          rotate_left
          · simp only [Act.put, List.setIfInBounds_toArray, List.set_cons_zero, List.set_cons_succ, i64_w, i32_w]
            rfl
          refine done_ (by kernel_rfl) ?_
          have t1 : w'.cell? ⟨bs, 0, none⟩ = some (.string t) := (blk_cell hS.1 0).trans rfl
          gi_wp2
          refine ⟨trivial, ?_⟩
          refine (callsIn_wide.2 (hnum w')).mono ?_
          rintro e w2 ⟨rfl, hb2⟩
          have hS2 : Below wr.heap.size wr w2 := below_then hS.2 hS.2.size hb2
          have hT2 := blk_below hS.1 hb2
          have t2 : w2.cell? ⟨bs, 0, none⟩ = some (.string t) := (blk_cell hT2 0).trans rfl
          obtain ⟨fn, tmps, assign, body, hy, hR⟩ := hY pre (t.extract 8 (8 + N)) w2 (hJ _ _ _ hJs (Kept2.of_below hS2)) (by omega)
          gi_wp2
          refine hR.mono ?_
          rintro e w3 ⟨rfl, hJ3, hk3⟩
          have hM3 := (hk3 bm (.inl rfl)).trans (blk_below hM hS2)
          have hT3 := (hk3 bs (.inr (.inl rfl))).trans (blk_below hT hS2)
          have hE3 := (hk3 be (.inr (.inr (.inl rfl)))).trans (blk_below hE hS2)
          have hB3 := (hk3 bb (.inr (.inr (.inr rfl)))).trans (blk_below hB hS2)
          have t3 : w3.cell? ⟨bs, 0, none⟩ = some (.string t) := (blk_cell hT3 0).trans rfl
          have f3 := blk_frozen hT3 0
          gi_wp2
          go_roundw
          case rel =>
            refine ⟨k + 1, t.extract (8 + N) t.size, pre ++ [t.extract 8 (8 + N)], by omega, rfl, by simp [hpl], ?_, hJ _ _ _ hJ3 (Kept2.setx _ _ _), ⟨blk_far hM3 hne1.symm _, blk_set hT3 0 _, blk_far hE3 hne2.symm _, blk_far hB3 hne3.symm _⟩, Lib.hid ?_⟩
            · rw [← bytesOf_length, hx10, List.length_drop, bytesOf_length]; omega
            · rw [hsp.out, hs2, hx10, List.map_append, List.append_assoc, List.map_cons, hx9]; rfl
          case measure => simp [intOf]; omega
    · obtain rfl : k = many := by omega
      have e0 : wr.cell? ⟨be, 0, none⟩ = some (.func (.func 53) #[] #[.pointer (some ⟨bb, 0, none⟩)]) := (blk_cell hE 0).trans rfl
      have hs2 : split (k - k) (bytesOf t) = ([], if bytesOf t = [] then 0 else 3) := by rw [Nat.sub_self]; rfl
      gi_wp2
      refine ⟨trivial, ?_⟩
      refine (end_in (n - 1) bb _ 0 v0 (if bytesOf t = [] then 0 else 3) wr hB (decide (bytesOf t = [])) (emp_iff t) (by simp)).mono ?_
      rintro e w2 ⟨rfl, hb2, hk2⟩
      gi_wp2
      go_end0
      refine ⟨⟨_, rfl⟩, pre, ?_, hJ _ _ _ hJs (hk2 bs), ?_⟩
      · rw [hsp.out, hs2, List.append_nil]
      · rw [hsp.out, hs2]; exact hb2
set_option maxHeartbeats 1000000 in
theorem each_in (n : Nat) (s : ByteArray) (many : Int) (bb : Nat) (w : World) :
    CallsIn Fence.wide n Try.prog 52 #[.string s, .int .i64 many, .func (.func 53) #[] #[.pointer (some ⟨bb, 0, none⟩)]] w fun e w' => e = .returned (.func (.func 56) #[] #[.pointer (some ⟨w.heap.size + 1, 0, none⟩), .pointer (some ⟨w.heap.size, 0, none⟩), .pointer (some ⟨w.heap.size + 1 + 1, 0, none⟩)]) ∧
      w' = ((w.alloc (.cells #[.string s] 9)).alloc (.cells #[.int .i64 many] 3)).alloc (.cells #[.func (.func 53) #[] #[.pointer (some ⟨bb, 0, none⟩)]] 106) := by
  refine callsIn_of_wp Try.func52 rfl trivial ?_ rfl
  simp only [Try.ntmps52, List.size_toArray, List.length_cons, List.length_nil, Nat.reduceAdd, Nat.reduceSub, Array.replicate_succ, Array.replicate_zero, List.push_toArray, List.append_toArray, List.nil_append, List.cons_append]
  gi_wp2
  go_ret
  exact ⟨rfl, rfl⟩
end Go.Proofs.Ytliiefkdgdflpaa.TagEach
