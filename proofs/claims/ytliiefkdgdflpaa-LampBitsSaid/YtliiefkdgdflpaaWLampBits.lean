/-
  LampBits's walk.
-/
import Derived.Test.YtliiefkdgdflpaaArrEq
import Derived.Test.YtliiefkdgdflpaaHex
import Derived.Deep.RegionHeld3
import Derived.Deep.DrawnRows
import Derived.Test.YtliiefkdgdflpaaWLast
import Derived.Test.YtliiefkdgdflpaaWLast
import Derived.Test.YtliiefkdgdflpaaWLast
namespace Go.Proofs.Ytliiefkdgdflpaa.WLampBits
open Go.RowKit Go.Proofs.YtliiefkdgdflpaaW.PrintWords Go.Proofs.YtliiefkdgdflpaaW.PrintLast Lamp Arr
set_option linter.unusedVariables false
set_option linter.unusedSimpArgs false

theorem cast_beq (a b : Nat) : ((a : Int) == (b : Int)) = (a == b) := by
  rw [Bool.eq_iff_iff]
  simp only [beq_iff_eq]
  omega

theorem bit_any (cs : Array Value) (f : Nat → Nat) (hcs : IsArr cs f) (n : Nat) (x : Int) (w : World) (hx : x = n) (h : n < 256) :
    Calls Try.prog 17 #[.agg cs, .int .i64 x] w fun e w' => e = .returned (.int .i64 (bitOf f n : Nat)) ∧ Below w.heap.size w w' := by
  subst hx; exact bit_mid cs f hcs n w h

theorem range_blk {w : World} {b : Nat} {t : TypeId} {l : List Value} (h : w.heap[b]? = some (.cells l.toArray t (0, 0))) : w.rangeAt b 0 l := fun j v hv => by
  rw [Nat.zero_add, blk_cell h]
  simpa using hv

theorem carry {w W w' : World} {ga gb : Nat} {l k : List Value} (hb' : Below W.heap.size W w') (hA : W.heap[ga]? = some (.cells l.toArray 23 (0, 0))) (hB : W.heap[gb]? = some (.cells k.toArray 23 (0, 0))) (hb : Below w.heap.size w W) :
    w'.rangeAt ga 0 l ∧ w'.rangeAt gb 0 k ∧ w'.heap[ga]? = some (.cells l.toArray 23 (0, 0)) ∧ w'.heap[gb]? = some (.cells k.toArray 23 (0, 0)) ∧ Below w.heap.size w w' := by
  have h1 := (hb'.block _ (blk_lt hA)).trans hA
  have h2 := (hb'.block _ (blk_lt hB)).trans hB
  exact ⟨range_blk h1, range_blk h2, h1, h2, below_then hb hb.size hb'⟩

set_option maxRecDepth 100000 in
set_option maxHeartbeats 4000000 in
theorem main (l k : List Value) (f g : Nat → Nat) (hl : IsArr l.toArray f) (hk : IsArr k.toArray g) (i : Int) (w : World) (hi4 : i < 0 ∨ 255 < i ∨ (31 < i ∧ i ≤ 255) ∨ ∃ n : Nat, n ≤ 31 ∧ i = n) :
    Calls Try.prog 3 #[.agg l.toArray, .agg k.toArray, .int .i64 i] w fun e w' => e = .returned (.bool true) ∧ Below w.heap.size w w' := by
  have hll : l.length = 32 := hl.1
  have hkl : k.length = 32 := hk.1


  have hu := Try.underlying23
  have hi1 : (Try.prog.info? 23).map (·.size) = some l.length := by rw [hll]; kernel_rfl
  have hi2 : (Try.prog.info? 23).map (·.size) = some k.length := by rw [hkl]; kernel_rfl
  go_enter Try.func3, Try.ntmps3
  go_wp2_with (first
    | ((with_reducible refine gate_dst (N := 3) rfl ?_); refine box_event (cs := l.toArray) (t := 23) rfl (N := 3) rfl (by first | (go_simp; done) | (go_simp; rfl)) ?_; intro ga hga w1 hA0 hb0)
    | ((with_reducible refine gate_dst (N := 4) rfl ?_); refine box_event (cs := k.toArray) (t := 23) rfl (N := 4) rfl (by first | (go_simp; done) | (go_simp; rfl)) ?_; intro gb hgb w2 hB0 hb2; have hA1 := (hb2.block _ (blk_lt hA0)).trans hA0; have hb1 := below_then hb0 hb0.size hb2; clear hA0 hb0 hb2 hga hgb))
  refine (shown_true _).mono ?_; rintro e w3 ⟨rfl, hb3⟩
  have hA3 := (hb3.block _ (blk_lt hA1)).trans hA1
  have hB3 := (hb3.block _ (blk_lt hB0)).trans hB0
  have hb3 := below_then hb1 hb1.size hb3
  clear hA1 hB0 hb1
  go_wp2_with fail
  go_loopw [8, 9] (fun s n wr => ∃ (m : Nat), m ≤ 256 ∧ n = .int .i64 m ∧ s = .bool (alleq f g m) ∧ wr.heap[ga]? = some (.cells l.toArray 23 (0, 0)) ∧ wr.heap[gb]? = some (.cells k.toArray 23 (0, 0)) ∧ Below w.heap.size w wr) (fun _ n _ => 256 - (intOf n).toNat)
  case atStart => exact ⟨0, by omega, rfl, rfl, hA3, hB3, hb3⟩
  case round =>
    clear hA3 hB3 hb3
    obtain ⟨m, hm, rfl, rfl, hA, hB, hb⟩ := hrel
    by_cases hlt : m < 256
    · have hsucc := Lib.hid (alleq_succ f g m)
      generalize alleq f g m = same at hsucc ⊢
      cases same with
      | false =>
        go_wp2_with fail
        go_quiet (fail)
        go_wp2_with fail
        go_roundw
        case rel => exact ⟨m + 1, by omega, by go_num, by rw [hsucc.out]; rfl, hA, hB, pw_below_drewN hb _⟩
        case measure => simp [intOf]; omega
      | true =>
        have hrA := range_blk hA
        have hrB := range_blk hB
        go_wp2_with fail
        refine start_ (n := 11) (S := fun w' => w'.rangeAt ga 0 l ∧ w'.rangeAt gb 0 k ∧ w'.heap[ga]? = some (.cells l.toArray 23 (0, 0)) ∧ w'.heap[gb]? = some (.cells k.toArray 23 (0, 0)) ∧ Below w.heap.size w w') (ds := []) #[false, false, false, false, false, false, false, false, false, false, false] (by kernel_rfl) rfl rfl (⟨hrA, hrB, hA, hB, hb.drew⟩) (fun hS => ?_)
        refine pure_ (i := 0) (N := some 17) (v := ?_) (a' := ?_) #[true, false, false, false, false, false, false, false, false, false, false] rfl rfl (by kernel_rfl) (fun _ _ _ h => h) (Or.inl ⟨by rfl, ?_⟩) ?_ ?_
        rotate_left
        · intro w'
          go_simp
          with_reducible rfl
        rotate_left
        · simp only [Act.put, List.setIfInBounds_toArray, List.set_cons_zero, List.set_cons_succ, i64_w, i32_w]
          rfl
        refine pure_ (i := 1) (N := some 18) (v := ?_) (a' := ?_) #[true, true, false, false, false, false, false, false, false, false, false] rfl rfl (by kernel_rfl) (fun _ _ _ h => h) (Or.inl ⟨by rfl, ?_⟩) ?_ ?_
        rotate_left
        · intro w'
          go_simp
          with_reducible rfl
        rotate_left
        · simp only [Act.put, List.setIfInBounds_toArray, List.set_cons_zero, List.set_cons_succ, i64_w, i32_w]
          rfl
        refine take_ (i := 2) (N := some 19) (v := .agg l.toArray) (a' := ?_) #[true, true, true, false, false, false, false, false, false, false, false] rfl rfl (by kernel_rfl) (fun _ _ _ h => h) (by exact yieldsIf_load_mid (by rfl) 23 (.tmp 3) rfl ga 0 rfl l (.array 32 5) (fun _ h => h.1) Try.underlying23 rfl hi1) hS ?_ ?_
        rotate_left
        · simp only [Act.put, List.setIfInBounds_toArray, List.set_cons_zero, List.set_cons_succ, i64_w, i32_w]
          rfl
        refine pure_ (i := 3) (N := some 20) (v := ?_) (a' := ?_) #[true, true, true, true, false, false, false, false, false, false, false] rfl rfl (by kernel_rfl) (fun _ _ _ h => h) (Or.inl ⟨by rfl, ?_⟩) ?_ ?_
        rotate_left
        · intro w'
          go_simp
          with_reducible rfl
        rotate_left
        · simp only [Act.put, List.setIfInBounds_toArray, List.set_cons_zero, List.set_cons_succ, i64_w, i32_w]
          rfl
        refine take_ (i := 5) (N := some 22) (v := .agg k.toArray) (a' := ?_) #[true, true, true, true, false, true, false, false, false, false, false] rfl rfl (by kernel_rfl) (fun _ _ _ h => h) (by exact yieldsIf_load_mid (by rfl) 23 (.tmp 4) rfl gb 0 rfl k (.array 32 5) (fun _ h => h.2.1) Try.underlying23 rfl hi2) hS ?_ ?_
        rotate_left
        · simp only [Act.put, List.setIfInBounds_toArray, List.set_cons_zero, List.set_cons_succ, i64_w, i32_w]
          rfl
        refine pure_ (i := 6) (N := some 23) (v := ?_) (a' := ?_) #[true, true, true, true, false, true, true, false, false, false, false] rfl rfl (by kernel_rfl) (fun _ _ _ h => h) (Or.inl ⟨by rfl, ?_⟩) ?_ ?_
        rotate_left
        · intro w'
          go_simp
          with_reducible rfl
        rotate_left
        · simp only [Act.put, List.setIfInBounds_toArray, List.set_cons_zero, List.set_cons_succ, i64_w, i32_w]
          rfl
        refine one_ (i := 4) (N := some 21) #[true, true, true, true, true, true, true, false, false, false, false] rfl rfl (by kernel_rfl) (by decide) (fun K hK => ?_)
        refine goes_ Try.func17 (by kernel_rfl) rfl #[.agg l.toArray, .int .i64 m] (by rfl) rfl rfl (by (try simp only [List.map_toArray, List.map_cons, List.map_nil]); first | done | rfl) ?_
        refine (bit_mid l.toArray f hl m _ hlt).mono ?_
        rintro e w' ⟨rfl, hb'⟩
        refine ⟨_, rfl, ?_⟩
        refine hK.out _ _ (carry hb' hS.2.2.1 hS.2.2.2.1 hS.2.2.2.2) (fun hS => ?_)
        clear hK K
        refine norm_ (a' := ?_) ?_ ?_
        rotate_left
        · show Act.put _ (some 21) _ = _
          simp only [Act.put, List.setIfInBounds_toArray, List.set_cons_zero, List.set_cons_succ, i64_w, i32_w]
          rfl
        refine one_ (i := 7) (N := some 24) #[true, true, true, true, true, true, true, true, false, false, false] rfl rfl (by kernel_rfl) (by decide) (fun K hK => ?_)
        refine goes_ Try.func17 (by kernel_rfl) rfl #[.agg k.toArray, .int .i64 m] (by rfl) rfl rfl (by (try simp only [List.map_toArray, List.map_cons, List.map_nil]); first | done | rfl) ?_
        refine (bit_mid k.toArray g hk m _ hlt).mono ?_
        rintro e w'' ⟨rfl, hb''⟩
        refine ⟨_, rfl, ?_⟩
        refine hK.out _ _ (carry hb'' hS.2.2.1 hS.2.2.2.1 hS.2.2.2.2) (fun hS => ?_)
        clear hK K
        refine norm_ (a' := ?_) ?_ ?_
        rotate_left
        · show Act.put _ (some 24) _ = _
          simp only [Act.put, List.setIfInBounds_toArray, List.set_cons_zero, List.set_cons_succ, i64_w, i32_w]
          rfl
        refine pure_ (i := 8) (N := some 25) (v := ?_) (a' := ?_) #[true, true, true, true, true, true, true, true, true, false, false] rfl rfl (by kernel_rfl) (fun _ _ _ h => h) (Or.inl ⟨by rfl, ?_⟩) ?_ ?_
        rotate_left
        · intro w'
          go_simp
          with_reducible rfl
        rotate_left
        · simp only [Act.put, List.setIfInBounds_toArray, List.set_cons_zero, List.set_cons_succ, i64_w, i32_w]
          rfl
        refine pure_ (i := 9) (N := some 26) (v := ?_) (a' := ?_) #[true, true, true, true, true, true, true, true, true, true, false] rfl rfl (by kernel_rfl) (fun _ _ _ h => h) (Or.inl ⟨by rfl, ?_⟩) ?_ ?_
        rotate_left
        · intro w'
          go_simp
          with_reducible rfl
        rotate_left
        · simp only [Act.put, List.setIfInBounds_toArray, List.set_cons_zero, List.set_cons_succ, i64_w, i32_w]
          rfl
        refine pure_ (i := 10) (N := some 8) (v := ?_) (a' := ?_) #[true, true, true, true, true, true, true, true, true, true, true] rfl rfl (by kernel_rfl) (fun _ _ _ h => h) (Or.inl ⟨by rfl, ?_⟩) ?_ ?_
        rotate_left
        · intro w'
          go_simp
          with_reducible rfl
        rotate_left
        · simp only [Act.put, List.setIfInBounds_toArray, List.set_cons_zero, List.set_cons_succ, i64_w, i32_w]
          rfl
        refine done_ (by kernel_rfl) ?_
        go_wp2_with fail
        go_roundw
        case rel => exact ⟨m + 1, by omega, by go_num, by rw [hsucc.out, cast_beq]; rfl, hS.2.2.1, hS.2.2.2.1, hS.2.2.2.2⟩
        case measure => simp [intOf]; omega
    · obtain rfl : m = 256 := by omega
      have heq : ∀ w', (binOp .eql 23 (.agg l.toArray) (.agg k.toArray)).run Try.prog w' = .ok (.bool (alleq f g 256)) w' := fun w' => by
        rw [alleq_256 f g hl.2.1 hk.2.1]; exact eql_arr w' _ _ f g hl hk
      generalize alleq f g 256 = same at heq ⊢
      have hsz1 : (Try.prog.info? 23).map (·.size) = some l.toArray.size := hi1
      have hsz2 : (Try.prog.info? 23).map (·.size) = some k.toArray.size := hi2
      cases same
      all_goals
        go_wp2_with (first
          | ((with_reducible refine gate_dst (N := 28) rfl ?_); refine wpList_load_row (by rfl) 23 (.tmp 3) (by rfl) ga (by rfl) 23 l.toArray (0, 0) (.array 32 5) hA Try.underlying23 rfl hsz1 ?_)
          | ((with_reducible refine gate_dst (N := 29) rfl ?_); refine wpList_load_row (by rfl) 23 (.tmp 4) (by rfl) gb (by rfl) 23 k.toArray (0, 0) (.array 32 5) hB Try.underlying23 rfl hsz2 ?_)
          | ((with_reducible refine gate_dst (N := 33) rfl ?_); refine gate_guard (by rfl) ?_; dsimp only; refine wpList_load_row (by rfl) 23 (.tmp 3) (by rfl) ga (by rfl) 23 l.toArray (0, 0) (.array 32 5) hA Try.underlying23 rfl hsz1 ?_))
        refine (hex_any l.toArray f hl _).mono ?_
        rintro e w4 ⟨⟨s, hs, rfl⟩, hb4⟩
        have hA4 := (hb4.block _ (blk_lt hA)).trans hA
        have hb4 := below_then hb hb.size hb4
        clear hA hB hb heq
        have hs1 : (s.toList == []) = false := by
          rw [ByteArray.toList_eq]
          have : s.data.toList.length = 64 := by rw [Array.length_toList]; exact hs
          cases h : s.data.toList with
          | nil => rw [h] at this; simp at this
          | cons a b => rfl
        rcases hi4 with h4 | h4 | ⟨h4, h5⟩ | ⟨n, h4, rfl⟩
        · go_wp2_with (first
            | ((with_reducible refine gate_dst (N := 48) rfl ?_); refine gate_guard (by rfl) ?_; dsimp only; refine wpList_load_row (by rfl) 23 (.tmp 3) (by rfl) ga (by rfl) 23 l.toArray (0, 0) (.array 32 5) hA4 Try.underlying23 rfl hsz1 ?_))
          refine (bit_out l.toArray i _ (.inl h4)).mono ?_
          rintro e w5 ⟨rfl, hb5⟩
          go_wp2_with fail
          go_ret
          exact ⟨rfl, below_then hb4 hb4.size hb5⟩
        · go_wp2_with (first
            | ((with_reducible refine gate_dst (N := 57) rfl ?_); refine gate_guard (by rfl) ?_; dsimp only; refine wpList_load_row (by rfl) 23 (.tmp 3) (by rfl) ga (by rfl) 23 l.toArray (0, 0) (.array 32 5) hA4 Try.underlying23 rfl hsz1 ?_))
          refine (bit_out l.toArray i _ (.inr (by omega))).mono ?_
          rintro e w5 ⟨rfl, hb5⟩
          go_wp2_with fail
          go_ret
          exact ⟨rfl, below_then hb4 hb4.size hb5⟩
        · go_wp2_with fail
          go_ret
          exact ⟨rfl, hb4⟩
        · have hn1 : (n : Int) ≤ 31 := by omega
          go_wp2_with fail
          go_loopw [10, 11] (fun v j wr => ∃ (m : Nat), m ≤ 8 ∧ j = .int .i64 m ∧ v = .int .i64 (upTo f n m : Nat) ∧ wr.heap[ga]? = some (.cells l.toArray 23 (0, 0)) ∧ Below w.heap.size w wr) (fun _ j _ => 8 - (intOf j).toNat)
          case atStart => exact ⟨0, by omega, rfl, rfl, hA4, hb4⟩
          case round =>
            clear hA4 hb4
            obtain ⟨m, hm, rfl, rfl, hA, hb⟩ := hrel
            by_cases hlt : m < 8
            · have hu1 : upTo f n m ≤ 255 := by
                have h := upTo_lt f n m hm
                have h2 : 2 ^ m ≤ 2 ^ 8 := Nat.pow_le_pow_right (by omega) hm
                omega
              have hu2 : bitOf f (8 * n + m) ≤ 1 := by have := bitOf_lt f (8 * n + m); omega
              go_wp2_with ((with_reducible refine gate_dst (N := 78) rfl ?_); refine wpList_load_row (by rfl) 23 (.tmp 3) (by rfl) ga (by rfl) 23 l.toArray (0, 0) (.array 32 5) hA Try.underlying23 rfl hsz1 ?_)
              refine (bit_any l.toArray f hl (8 * n + m) _ _ (by omega) (by omega)).mono ?_
              rintro e w5 ⟨rfl, hb5⟩
              have hA5 := (hb5.block _ (blk_lt hA)).trans hA
              have hb5 := below_then hb hb.size hb5
              clear hA hb
              go_wp2_with fail
              go_roundw
              case rel => exact ⟨m + 1, by omega, by go_num, by simp only [upTo]; push_cast; rfl, hA5, hb5⟩
              case measure => simp [intOf]; omega
            · obtain rfl : m = 8 := by omega
              rw [upTo_8 f n (hl.2.1 n)]
              have hcell : wr.cell? ⟨ga, n, none⟩ = some (.int .u8 (f n : Nat)) := (blk_cell hA n).trans (hl.2.2 n (by omega))
              have hf := hl.2.1 n
              go_wp2_with fail
              go_ret
              exact ⟨rfl, hb⟩
end Go.Proofs.Ytliiefkdgdflpaa.WLampBits
