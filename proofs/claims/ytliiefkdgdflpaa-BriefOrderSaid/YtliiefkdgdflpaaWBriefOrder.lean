/-
  BriefOrder's walk.
-/
import Derived.Test.YtliiefkdgdflpaaKBriefOrder
import Derived.Test.YtliiefkdgdflpaaBriefLaw
import Derived.Test.YtliiefkdgdflpaaWLast
import Derived.Outline
import Derived.Lib.Hide
import Derived.Test.YtliiefkdgdflpaaWGuard
namespace Go.Proofs.Ytliiefkdgdflpaa.WBriefOrder
open Go.RowKit Go.Proofs.YtliiefkdgdflpaaW.PrintWords Go.Proofs.YtliiefkdgdflpaaW.PrintLast Go.Proofs.YtliiefkdgdflpaaW.PrintMore KBriefOrder PBriefOrder BriefLaw
set_option linter.unusedVariables false
set_option linter.unusedSimpArgs false
theorem shown_eq : tabularylaw06_shown.f = some true := by decide +kernel
theorem blk_at (w : World) (o : Obj) (n : Nat) (h : w.heap.size = n) : (w.alloc o).heap[n]? = some o := h ▸ blk_new w o

theorem rightC (a : Br) (r : Bool) (h : right a = r) (w : World) : Calls Try.prog 27 #[.agg #[.int .i64 a.first, .int .i64 a.last, .int .u32 a.grave, .int .u32 a.src, .int .u64 a.many, .bool a.keep]] w fun e w' => e = .returned (.bool r) ∧ Below w.heap.size w w' := by
  subst h; exact brief_Right.calls 2 _ _ _ _ _ _ _ w (right_f a)
theorem joinC (a b c : Br) (h : join a b = c) (w : World) : Calls Try.prog 28 #[.agg #[.int .i64 a.first, .int .i64 a.last, .int .u32 a.grave, .int .u32 a.src, .int .u64 a.many, .bool a.keep], .agg #[.int .i64 b.first, .int .i64 b.last, .int .u32 b.grave, .int .u32 b.src, .int .u64 b.many, .bool b.keep]] w fun e w' => e = .returned (.agg #[.int .i64 c.first, .int .i64 c.last, .int .u32 c.grave, .int .u32 c.src, .int .u64 c.many, .bool c.keep]) ∧ Below w.heap.size w w' := by
  subst h; exact brief_Join.calls _ _ _ _ _ _ _ _ _ _ _ _ _ _ _ _ _ _ w (join_f a b)
theorem noneC (w : World) : Calls Try.prog 29 #[] w fun e w' => e = .returned (.agg #[.int .i64 0, .int .i64 0, .int .u32 0, .int .u32 0, .int .u64 0, .bool false]) ∧ Below w.heap.size w w' := brief_None.calls 0 0 0 0 0 false w rfl

def SS (B : Nat) (w : World) (ga gb gc gx : Nat) (A C D X : Array Value) (w' : World) : Prop :=
  w'.heap[ga]? = some (.cells A 36 (0, 0)) ∧ w'.heap[gb]? = some (.cells C 36 (0, 0)) ∧ w'.heap[gc]? = some (.cells D 36 (0, 0)) ∧ w'.heap[gx]? = some (.cells X 36 (0, 0)) ∧ Below B w w'
theorem carryS {w W w' : World} {ga gb gc gx : Nat} {A C D X : Array Value} (hb' : Below W.heap.size W w') (h : SS w.heap.size w ga gb gc gx A C D X W) : SS w.heap.size w ga gb gc gx A C D X w' :=
  ⟨blk_below h.1 hb', blk_below h.2.1 hb', blk_below h.2.2.1 hb', blk_below h.2.2.2.1 hb', below_then h.2.2.2.2 h.2.2.2.2.size hb'⟩
attribute [local go_sem high] eqA36

set_option maxRecDepth 100000 in
set_option maxHeartbeats 8000000 in
theorem core (w : World) (a b c : Br) (ha : Ok a ∨ right a = false) (hb : Ok b ∨ right b = false) (hc : Ok c ∨ right c = false) :
    Calls Try.prog 8 #[.agg #[.int .i64 a.first, .int .i64 a.last, .int .u32 a.grave, .int .u32 a.src, .int .u64 a.many, .bool a.keep], .agg #[.int .i64 b.first, .int .i64 b.last, .int .u32 b.grave, .int .u32 b.src, .int .u64 b.many, .bool b.keep], .agg #[.int .i64 c.first, .int .i64 c.last, .int .u32 c.grave, .int .u32 c.src, .int .u64 c.many, .bool c.keep]] w fun e w' => e = .returned (.bool true) ∧ Below w.heap.size w w' := by
  go_enter Try.func8, Try.ntmps8
  go_wp2_with fail
  refine (tabularylaw06_shown.calls true _ shown_eq).mono ?_; rintro e v5 ⟨rfl, hbc⟩
  have HB : Below w.heap.size w v5 := by
    refine below_then ?_ ?_ hbc
    · repeat (first | exact Below.refl _ _ | apply below_alloc)
    · simp only [World.alloc, Array.size_push]; omega
  have Ha : v5.heap[w.heap.size]? = some (.cells #[.int .i64 a.first, .int .i64 a.last, .int .u32 a.grave, .int .u32 a.src, .int .u64 a.many, .bool a.keep] 36 (0, 0)) := (hbc.block _ (by simp only [World.alloc, Array.size_push]; omega)).trans (by repeat (first | exact blk_at _ _ _ (by first | rfl | simp only [World.alloc, Array.size_push]) | refine blk_alloc ?_ _))
  have Hb : v5.heap[w.heap.size + 1]? = some (.cells #[.int .i64 b.first, .int .i64 b.last, .int .u32 b.grave, .int .u32 b.src, .int .u64 b.many, .bool b.keep] 36 (0, 0)) := (hbc.block _ (by simp only [World.alloc, Array.size_push]; omega)).trans (by repeat (first | exact blk_at _ _ _ (by first | rfl | simp only [World.alloc, Array.size_push]) | refine blk_alloc ?_ _))
  have Hc : v5.heap[w.heap.size + 1 + 1]? = some (.cells #[.int .i64 c.first, .int .i64 c.last, .int .u32 c.grave, .int .u32 c.src, .int .u64 c.many, .bool c.keep] 36 (0, 0)) := (hbc.block _ (by simp only [World.alloc, Array.size_push]; omega)).trans (by repeat (first | exact blk_at _ _ _ (by first | rfl | simp only [World.alloc, Array.size_push]) | refine blk_alloc ?_ _))
  clear hbc
  generalize w.heap.size + 1 + 1 = gc at *
  generalize w.heap.size + 1 = gb at *
  have ta0v5 : v5.cell? ⟨w.heap.size, 0, none⟩ = some (.int .i64 a.first) := (blk_cell Ha 0).trans rfl
  have ta1v5 : v5.cell? ⟨w.heap.size, 1, none⟩ = some (.int .i64 a.last) := (blk_cell Ha 1).trans rfl
  have ta2v5 : v5.cell? ⟨w.heap.size, 2, none⟩ = some (.int .u32 a.grave) := (blk_cell Ha 2).trans rfl
  have ta3v5 : v5.cell? ⟨w.heap.size, 3, none⟩ = some (.int .u32 a.src) := (blk_cell Ha 3).trans rfl
  have ta4v5 : v5.cell? ⟨w.heap.size, 4, none⟩ = some (.int .u64 a.many) := (blk_cell Ha 4).trans rfl
  have ta5v5 : v5.cell? ⟨w.heap.size, 5, none⟩ = some (.bool a.keep) := (blk_cell Ha 5).trans rfl
  have tb0v5 : v5.cell? ⟨gb, 0, none⟩ = some (.int .i64 b.first) := (blk_cell Hb 0).trans rfl
  have tb1v5 : v5.cell? ⟨gb, 1, none⟩ = some (.int .i64 b.last) := (blk_cell Hb 1).trans rfl
  have tb2v5 : v5.cell? ⟨gb, 2, none⟩ = some (.int .u32 b.grave) := (blk_cell Hb 2).trans rfl
  have tb3v5 : v5.cell? ⟨gb, 3, none⟩ = some (.int .u32 b.src) := (blk_cell Hb 3).trans rfl
  have tb4v5 : v5.cell? ⟨gb, 4, none⟩ = some (.int .u64 b.many) := (blk_cell Hb 4).trans rfl
  have tb5v5 : v5.cell? ⟨gb, 5, none⟩ = some (.bool b.keep) := (blk_cell Hb 5).trans rfl
  have tc0v5 : v5.cell? ⟨gc, 0, none⟩ = some (.int .i64 c.first) := (blk_cell Hc 0).trans rfl
  have tc1v5 : v5.cell? ⟨gc, 1, none⟩ = some (.int .i64 c.last) := (blk_cell Hc 1).trans rfl
  have tc2v5 : v5.cell? ⟨gc, 2, none⟩ = some (.int .u32 c.grave) := (blk_cell Hc 2).trans rfl
  have tc3v5 : v5.cell? ⟨gc, 3, none⟩ = some (.int .u32 c.src) := (blk_cell Hc 3).trans rfl
  have tc4v5 : v5.cell? ⟨gc, 4, none⟩ = some (.int .u64 c.many) := (blk_cell Hc 4).trans rfl
  have tc5v5 : v5.cell? ⟨gc, 5, none⟩ = some (.bool c.keep) := (blk_cell Hc 5).trans rfl
  go_wp2_with fail
  obtain ⟨r, hr⟩ : ∃ r, right a = r := ⟨_, rfl⟩
  refine (rightC a r hr _).mono ?_
  rintro e u1 ⟨rfl, hbc⟩
  have HB1 := Lib.hid (below_then HB (HB).size hbc)
  have La1 := Lib.hid ((hbc.block _ (blk_lt Ha)).trans Ha)
  have Lb1 := Lib.hid ((hbc.block _ (blk_lt Hb)).trans Hb)
  have Lc1 := Lib.hid ((hbc.block _ (blk_lt Hc)).trans Hc)
  clear hbc
  have ta0u1 : u1.cell? ⟨w.heap.size, 0, none⟩ = some (.int .i64 a.first) := (blk_cell La1.out 0).trans rfl
  have ta1u1 : u1.cell? ⟨w.heap.size, 1, none⟩ = some (.int .i64 a.last) := (blk_cell La1.out 1).trans rfl
  have ta2u1 : u1.cell? ⟨w.heap.size, 2, none⟩ = some (.int .u32 a.grave) := (blk_cell La1.out 2).trans rfl
  have ta3u1 : u1.cell? ⟨w.heap.size, 3, none⟩ = some (.int .u32 a.src) := (blk_cell La1.out 3).trans rfl
  have ta4u1 : u1.cell? ⟨w.heap.size, 4, none⟩ = some (.int .u64 a.many) := (blk_cell La1.out 4).trans rfl
  have ta5u1 : u1.cell? ⟨w.heap.size, 5, none⟩ = some (.bool a.keep) := (blk_cell La1.out 5).trans rfl
  have tb0u1 : u1.cell? ⟨gb, 0, none⟩ = some (.int .i64 b.first) := (blk_cell Lb1.out 0).trans rfl
  have tb1u1 : u1.cell? ⟨gb, 1, none⟩ = some (.int .i64 b.last) := (blk_cell Lb1.out 1).trans rfl
  have tb2u1 : u1.cell? ⟨gb, 2, none⟩ = some (.int .u32 b.grave) := (blk_cell Lb1.out 2).trans rfl
  have tb3u1 : u1.cell? ⟨gb, 3, none⟩ = some (.int .u32 b.src) := (blk_cell Lb1.out 3).trans rfl
  have tb4u1 : u1.cell? ⟨gb, 4, none⟩ = some (.int .u64 b.many) := (blk_cell Lb1.out 4).trans rfl
  have tb5u1 : u1.cell? ⟨gb, 5, none⟩ = some (.bool b.keep) := (blk_cell Lb1.out 5).trans rfl
  have tc0u1 : u1.cell? ⟨gc, 0, none⟩ = some (.int .i64 c.first) := (blk_cell Lc1.out 0).trans rfl
  have tc1u1 : u1.cell? ⟨gc, 1, none⟩ = some (.int .i64 c.last) := (blk_cell Lc1.out 1).trans rfl
  have tc2u1 : u1.cell? ⟨gc, 2, none⟩ = some (.int .u32 c.grave) := (blk_cell Lc1.out 2).trans rfl
  have tc3u1 : u1.cell? ⟨gc, 3, none⟩ = some (.int .u32 c.src) := (blk_cell Lc1.out 3).trans rfl
  have tc4u1 : u1.cell? ⟨gc, 4, none⟩ = some (.int .u64 c.many) := (blk_cell Lc1.out 4).trans rfl
  have tc5u1 : u1.cell? ⟨gc, 5, none⟩ = some (.bool c.keep) := (blk_cell Lc1.out 5).trans rfl
  cases r with
  | false => go_wp2_with fail; go_ret; exact ⟨rfl, HB1.out⟩
  | true =>
    have Oa : Ok a := by rcases ha with h | h; exact h; rw [hr] at h; cases h
    go_wp2_with fail
    obtain ⟨r, hr⟩ : ∃ r, right b = r := ⟨_, rfl⟩
    refine (rightC b r hr _).mono ?_
    rintro e u2 ⟨rfl, hbc⟩
    have HB2 := Lib.hid (below_then HB1.out (HB1.out).size hbc)
    have La2 := Lib.hid ((hbc.block _ (blk_lt La1.out)).trans La1.out)
    have Lb2 := Lib.hid ((hbc.block _ (blk_lt Lb1.out)).trans Lb1.out)
    have Lc2 := Lib.hid ((hbc.block _ (blk_lt Lc1.out)).trans Lc1.out)
    clear hbc
    have ta0u2 : u2.cell? ⟨w.heap.size, 0, none⟩ = some (.int .i64 a.first) := (blk_cell La2.out 0).trans rfl
    have ta1u2 : u2.cell? ⟨w.heap.size, 1, none⟩ = some (.int .i64 a.last) := (blk_cell La2.out 1).trans rfl
    have ta2u2 : u2.cell? ⟨w.heap.size, 2, none⟩ = some (.int .u32 a.grave) := (blk_cell La2.out 2).trans rfl
    have ta3u2 : u2.cell? ⟨w.heap.size, 3, none⟩ = some (.int .u32 a.src) := (blk_cell La2.out 3).trans rfl
    have ta4u2 : u2.cell? ⟨w.heap.size, 4, none⟩ = some (.int .u64 a.many) := (blk_cell La2.out 4).trans rfl
    have ta5u2 : u2.cell? ⟨w.heap.size, 5, none⟩ = some (.bool a.keep) := (blk_cell La2.out 5).trans rfl
    have tb0u2 : u2.cell? ⟨gb, 0, none⟩ = some (.int .i64 b.first) := (blk_cell Lb2.out 0).trans rfl
    have tb1u2 : u2.cell? ⟨gb, 1, none⟩ = some (.int .i64 b.last) := (blk_cell Lb2.out 1).trans rfl
    have tb2u2 : u2.cell? ⟨gb, 2, none⟩ = some (.int .u32 b.grave) := (blk_cell Lb2.out 2).trans rfl
    have tb3u2 : u2.cell? ⟨gb, 3, none⟩ = some (.int .u32 b.src) := (blk_cell Lb2.out 3).trans rfl
    have tb4u2 : u2.cell? ⟨gb, 4, none⟩ = some (.int .u64 b.many) := (blk_cell Lb2.out 4).trans rfl
    have tb5u2 : u2.cell? ⟨gb, 5, none⟩ = some (.bool b.keep) := (blk_cell Lb2.out 5).trans rfl
    have tc0u2 : u2.cell? ⟨gc, 0, none⟩ = some (.int .i64 c.first) := (blk_cell Lc2.out 0).trans rfl
    have tc1u2 : u2.cell? ⟨gc, 1, none⟩ = some (.int .i64 c.last) := (blk_cell Lc2.out 1).trans rfl
    have tc2u2 : u2.cell? ⟨gc, 2, none⟩ = some (.int .u32 c.grave) := (blk_cell Lc2.out 2).trans rfl
    have tc3u2 : u2.cell? ⟨gc, 3, none⟩ = some (.int .u32 c.src) := (blk_cell Lc2.out 3).trans rfl
    have tc4u2 : u2.cell? ⟨gc, 4, none⟩ = some (.int .u64 c.many) := (blk_cell Lc2.out 4).trans rfl
    have tc5u2 : u2.cell? ⟨gc, 5, none⟩ = some (.bool c.keep) := (blk_cell Lc2.out 5).trans rfl
    cases r with
    | false => go_wp2_with fail; go_ret; exact ⟨rfl, HB2.out⟩
    | true =>
      have Ob : Ok b := by rcases hb with h | h; exact h; rw [hr] at h; cases h
      go_wp2_with fail
      obtain ⟨r, hr⟩ : ∃ r, right c = r := ⟨_, rfl⟩
      refine (rightC c r hr _).mono ?_
      rintro e u3 ⟨rfl, hbc⟩
      have HB3 := Lib.hid (below_then HB2.out (HB2.out).size hbc)
      have La3 := Lib.hid ((hbc.block _ (blk_lt La2.out)).trans La2.out)
      have Lb3 := Lib.hid ((hbc.block _ (blk_lt Lb2.out)).trans Lb2.out)
      have Lc3 := Lib.hid ((hbc.block _ (blk_lt Lc2.out)).trans Lc2.out)
      clear hbc
      have ta0u3 : u3.cell? ⟨w.heap.size, 0, none⟩ = some (.int .i64 a.first) := (blk_cell La3.out 0).trans rfl
      have ta1u3 : u3.cell? ⟨w.heap.size, 1, none⟩ = some (.int .i64 a.last) := (blk_cell La3.out 1).trans rfl
      have ta2u3 : u3.cell? ⟨w.heap.size, 2, none⟩ = some (.int .u32 a.grave) := (blk_cell La3.out 2).trans rfl
      have ta3u3 : u3.cell? ⟨w.heap.size, 3, none⟩ = some (.int .u32 a.src) := (blk_cell La3.out 3).trans rfl
      have ta4u3 : u3.cell? ⟨w.heap.size, 4, none⟩ = some (.int .u64 a.many) := (blk_cell La3.out 4).trans rfl
      have ta5u3 : u3.cell? ⟨w.heap.size, 5, none⟩ = some (.bool a.keep) := (blk_cell La3.out 5).trans rfl
      have tb0u3 : u3.cell? ⟨gb, 0, none⟩ = some (.int .i64 b.first) := (blk_cell Lb3.out 0).trans rfl
      have tb1u3 : u3.cell? ⟨gb, 1, none⟩ = some (.int .i64 b.last) := (blk_cell Lb3.out 1).trans rfl
      have tb2u3 : u3.cell? ⟨gb, 2, none⟩ = some (.int .u32 b.grave) := (blk_cell Lb3.out 2).trans rfl
      have tb3u3 : u3.cell? ⟨gb, 3, none⟩ = some (.int .u32 b.src) := (blk_cell Lb3.out 3).trans rfl
      have tb4u3 : u3.cell? ⟨gb, 4, none⟩ = some (.int .u64 b.many) := (blk_cell Lb3.out 4).trans rfl
      have tb5u3 : u3.cell? ⟨gb, 5, none⟩ = some (.bool b.keep) := (blk_cell Lb3.out 5).trans rfl
      have tc0u3 : u3.cell? ⟨gc, 0, none⟩ = some (.int .i64 c.first) := (blk_cell Lc3.out 0).trans rfl
      have tc1u3 : u3.cell? ⟨gc, 1, none⟩ = some (.int .i64 c.last) := (blk_cell Lc3.out 1).trans rfl
      have tc2u3 : u3.cell? ⟨gc, 2, none⟩ = some (.int .u32 c.grave) := (blk_cell Lc3.out 2).trans rfl
      have tc3u3 : u3.cell? ⟨gc, 3, none⟩ = some (.int .u32 c.src) := (blk_cell Lc3.out 3).trans rfl
      have tc4u3 : u3.cell? ⟨gc, 4, none⟩ = some (.int .u64 c.many) := (blk_cell Lc3.out 4).trans rfl
      have tc5u3 : u3.cell? ⟨gc, 5, none⟩ = some (.bool c.keep) := (blk_cell Lc3.out 5).trans rfl
      cases r with
      | false => go_wp2_with fail; go_ret; exact ⟨rfl, HB3.out⟩
      | true =>
        have Oc : Ok c := by rcases hc with h | h; exact h; rw [hr] at h; cases h
        by_cases ma : a.many > 1152921504606846976
        · have da : decide (a.many > 1152921504606846976) = true := decide_eq_true ma
          go_wp2_with fail; go_ret; exact ⟨rfl, HB3.out⟩
        have da : decide (a.many > 1152921504606846976) = false := decide_eq_false ma
        by_cases mb : b.many > 1152921504606846976
        · have db : decide (b.many > 1152921504606846976) = true := decide_eq_true mb
          go_wp2_with fail; go_ret; exact ⟨rfl, HB3.out⟩
        have db : decide (b.many > 1152921504606846976) = false := decide_eq_false mb
        by_cases mc : c.many > 1152921504606846976
        · have dc : decide (c.many > 1152921504606846976) = true := decide_eq_true mc
          go_wp2_with fail; go_ret; exact ⟨rfl, HB3.out⟩
        have dc : decide (c.many > 1152921504606846976) = false := decide_eq_false mc
        go_wp2_with fail
        have na := ok_many a Oa
        have nb := ok_many b Ob
        have nc := ok_many c Oc
        have Ox := join_ok a b Oa Ob (by omega)
        have Mx := join_many a b Oa Ob (by omega)
        have e1 := join_comm b a Ob Oa
        have e2 := join_assoc a b c Oa Ob Oc (by omega)
        have e3 := join_none a Oa
        have e4 := none_join a
        have e5 := right_of _ Ox
        obtain ⟨y, hy⟩ : ∃ y, join b c = y := ⟨_, rfl⟩
        obtain ⟨x, hx⟩ : ∃ x, join a b = x := ⟨_, rfl⟩
        obtain ⟨z, hz⟩ : ∃ z, join x c = z := ⟨_, rfl⟩
        rw [hx] at Ox Mx e1 e2 e5
        rw [hz, hy] at e2
        have e2 := e2.symm
        have Mx2 := Lib.hid (show IntKind.u64.wrap (a.many + b.many) = x.many from by rw [BriefLaw.wrap64]; omega)
        replace e1 := Lib.hid e1
        replace e2 := Lib.hid e2
        replace e3 := Lib.hid e3
        replace e4 := Lib.hid e4
        replace e5 := Lib.hid e5
        replace hx := Lib.hid hx
        replace hy := Lib.hid hy
        replace hz := Lib.hid hz
        clear Mx
        clear ma mb mc Ox
        refine (joinC a b x hx.out _).mono ?_
        rintro e u4 ⟨rfl, hbc⟩
        have HB4 := Lib.hid (below_then HB3.out (HB3.out).size hbc)
        have La4 := Lib.hid ((hbc.block _ (blk_lt La3.out)).trans La3.out)
        have Lb4 := Lib.hid ((hbc.block _ (blk_lt Lb3.out)).trans Lb3.out)
        have Lc4 := Lib.hid ((hbc.block _ (blk_lt Lc3.out)).trans Lc3.out)
        clear hbc
        go_wp2_with fail
        refine start_ (n := 48) (S := SS w.heap.size w w.heap.size gb gc u4.heap.size #[.int .i64 a.first, .int .i64 a.last, .int .u32 a.grave, .int .u32 a.src, .int .u64 a.many, .bool a.keep] #[.int .i64 b.first, .int .i64 b.last, .int .u32 b.grave, .int .u32 b.src, .int .u64 b.many, .bool b.keep] #[.int .i64 c.first, .int .i64 c.last, .int .u32 c.grave, .int .u32 c.src, .int .u64 c.many, .bool c.keep] #[.int .i64 x.first, .int .i64 x.last, .int .u32 x.grave, .int .u32 x.src, .int .u64 x.many, .bool x.keep]) (ds := []) #[false, false, false, false, false, false, false, false, false, false, false, false, false, false, false, false, false, false, false, false, false, false, false, false, false, false, false, false, false, false, false, false, false, false, false, false, false, false, false, false, false, false, false, false, false, false, false, false] (by kernel_rfl) rfl rfl (⟨blk_alloc La4.out _, blk_alloc Lb4.out _, blk_alloc Lc4.out _, blk_new _ _, (below_alloc HB4.out _).drew⟩) (fun hS => ?_)
        refine pure_ (i := 0) (N := some 42) (v := ?_) (a' := ?_) #[true, false, false, false, false, false, false, false, false, false, false, false, false, false, false, false, false, false, false, false, false, false, false, false, false, false, false, false, false, false, false, false, false, false, false, false, false, false, false, false, false, false, false, false, false, false, false, false] rfl rfl (by kernel_rfl) (fun _ _ _ h => h) (Or.inl ⟨by rfl, ?_⟩) ?_ ?_
        rotate_left
        · intro w'
          go_simp
          with_reducible rfl
        rotate_left
        · simp only [Act.put, List.setIfInBounds_toArray, List.set_cons_zero, List.set_cons_succ, i64_w, i32_w]
          rfl
        refine pure_ (i := 1) (N := some 43) (v := ?_) (a' := ?_) #[true, true, false, false, false, false, false, false, false, false, false, false, false, false, false, false, false, false, false, false, false, false, false, false, false, false, false, false, false, false, false, false, false, false, false, false, false, false, false, false, false, false, false, false, false, false, false, false] rfl rfl (by kernel_rfl) (fun _ _ _ h => h) (Or.inl ⟨by rfl, ?_⟩) ?_ ?_
        rotate_left
        · intro w'
          go_simp
          with_reducible rfl
        rotate_left
        · simp only [Act.put, List.setIfInBounds_toArray, List.set_cons_zero, List.set_cons_succ, i64_w, i32_w]
          rfl
        refine take_ (i := 2) (N := some 44) (v := ?_) (a' := ?_) #[true, true, true, false, false, false, false, false, false, false, false, false, false, false, false, false, false, false, false, false, false, false, false, false, false, false, false, false, false, false, false, false, false, false, false, false, false, false, false, false, false, false, false, false, false, false, false, false] rfl rfl (by kernel_rfl) (fun _ _ _ h => h) (Or.inl ⟨by rfl, ?_⟩) hS ?_ ?_
        rotate_left
        · rintro w' hs
          have t0 : w'.cell? ⟨u4.heap.size, 0, none⟩ = some (.int .i64 x.first) := (blk_cell hs.2.2.2.1 0).trans rfl
          have t1 : w'.cell? ⟨u4.heap.size, 1, none⟩ = some (.int .i64 x.last) := (blk_cell hs.2.2.2.1 1).trans rfl
          have t2 : w'.cell? ⟨u4.heap.size, 2, none⟩ = some (.int .u32 x.grave) := (blk_cell hs.2.2.2.1 2).trans rfl
          have t3 : w'.cell? ⟨u4.heap.size, 3, none⟩ = some (.int .u32 x.src) := (blk_cell hs.2.2.2.1 3).trans rfl
          have t4 : w'.cell? ⟨u4.heap.size, 4, none⟩ = some (.int .u64 x.many) := (blk_cell hs.2.2.2.1 4).trans rfl
          have t5 : w'.cell? ⟨u4.heap.size, 5, none⟩ = some (.bool x.keep) := (blk_cell hs.2.2.2.1 5).trans rfl
          clear hs
          go_simp
          with_reducible rfl
        rotate_left
        · simp only [Act.put, List.setIfInBounds_toArray, List.set_cons_zero, List.set_cons_succ, i64_w, i32_w]
          rfl
        refine take_ (i := 3) (N := some 45) (v := ?_) (a' := ?_) #[true, true, true, true, false, false, false, false, false, false, false, false, false, false, false, false, false, false, false, false, false, false, false, false, false, false, false, false, false, false, false, false, false, false, false, false, false, false, false, false, false, false, false, false, false, false, false, false] rfl rfl (by kernel_rfl) (fun _ _ _ h => h) (Or.inl ⟨by rfl, ?_⟩) hS ?_ ?_
        rotate_left
        · rintro w' hs
          have t0 : w'.cell? ⟨gb, 0, none⟩ = some (.int .i64 b.first) := (blk_cell hs.2.1 0).trans rfl
          have t1 : w'.cell? ⟨gb, 1, none⟩ = some (.int .i64 b.last) := (blk_cell hs.2.1 1).trans rfl
          have t2 : w'.cell? ⟨gb, 2, none⟩ = some (.int .u32 b.grave) := (blk_cell hs.2.1 2).trans rfl
          have t3 : w'.cell? ⟨gb, 3, none⟩ = some (.int .u32 b.src) := (blk_cell hs.2.1 3).trans rfl
          have t4 : w'.cell? ⟨gb, 4, none⟩ = some (.int .u64 b.many) := (blk_cell hs.2.1 4).trans rfl
          have t5 : w'.cell? ⟨gb, 5, none⟩ = some (.bool b.keep) := (blk_cell hs.2.1 5).trans rfl
          clear hs
          go_simp
          with_reducible rfl
        rotate_left
        · simp only [Act.put, List.setIfInBounds_toArray, List.set_cons_zero, List.set_cons_succ, i64_w, i32_w]
          rfl
        refine take_ (i := 4) (N := some 46) (v := ?_) (a' := ?_) #[true, true, true, true, true, false, false, false, false, false, false, false, false, false, false, false, false, false, false, false, false, false, false, false, false, false, false, false, false, false, false, false, false, false, false, false, false, false, false, false, false, false, false, false, false, false, false, false] rfl rfl (by kernel_rfl) (fun _ _ _ h => h) (Or.inl ⟨by rfl, ?_⟩) hS ?_ ?_
        rotate_left
        · rintro w' hs
          have t0 : w'.cell? ⟨w.heap.size, 0, none⟩ = some (.int .i64 a.first) := (blk_cell hs.1 0).trans rfl
          have t1 : w'.cell? ⟨w.heap.size, 1, none⟩ = some (.int .i64 a.last) := (blk_cell hs.1 1).trans rfl
          have t2 : w'.cell? ⟨w.heap.size, 2, none⟩ = some (.int .u32 a.grave) := (blk_cell hs.1 2).trans rfl
          have t3 : w'.cell? ⟨w.heap.size, 3, none⟩ = some (.int .u32 a.src) := (blk_cell hs.1 3).trans rfl
          have t4 : w'.cell? ⟨w.heap.size, 4, none⟩ = some (.int .u64 a.many) := (blk_cell hs.1 4).trans rfl
          have t5 : w'.cell? ⟨w.heap.size, 5, none⟩ = some (.bool a.keep) := (blk_cell hs.1 5).trans rfl
          clear hs
          go_simp
          with_reducible rfl
        rotate_left
        · simp only [Act.put, List.setIfInBounds_toArray, List.set_cons_zero, List.set_cons_succ, i64_w, i32_w]
          rfl
        refine one_ (i := 5) (N := some 47) #[true, true, true, true, true, true, false, false, false, false, false, false, false, false, false, false, false, false, false, false, false, false, false, false, false, false, false, false, false, false, false, false, false, false, false, false, false, false, false, false, false, false, false, false, false, false, false, false] rfl rfl (by kernel_rfl) (by decide) (fun K hK => ?_)
        refine goes_ Try.func28 (by kernel_rfl) rfl #[.agg #[.int .i64 b.first, .int .i64 b.last, .int .u32 b.grave, .int .u32 b.src, .int .u64 b.many, .bool b.keep], .agg #[.int .i64 a.first, .int .i64 a.last, .int .u32 a.grave, .int .u32 a.src, .int .u64 a.many, .bool a.keep]] (by rfl) rfl rfl (by (try simp only [List.map_toArray, List.map_cons, List.map_nil]); first | done | rfl) ?_
        refine (joinC b a x e1.out _).mono ?_
        rintro e w' ⟨rfl, hb'⟩
        refine ⟨_, rfl, ?_⟩
        refine hK.out _ _ (carryS hb' hS) (fun hS => ?_)
        clear hK K
        refine norm_ (a' := ?_) ?_ ?_
        rotate_left
        · show Act.put _ (some 47) _ = _
          simp only [Act.put, List.setIfInBounds_toArray, List.set_cons_zero, List.set_cons_succ, i64_w, i32_w]
          rfl
        refine pure_ (i := 6) (N := some 48) (v := ?_) (a' := ?_) #[true, true, true, true, true, true, true, false, false, false, false, false, false, false, false, false, false, false, false, false, false, false, false, false, false, false, false, false, false, false, false, false, false, false, false, false, false, false, false, false, false, false, false, false, false, false, false, false] rfl rfl (by kernel_rfl) (fun _ _ _ h => h) (Or.inl ⟨by rfl, ?_⟩) ?_ ?_
        rotate_left
        · intro w'
          go_simp
          with_reducible rfl
        rotate_left
        · simp only [Act.put, List.setIfInBounds_toArray, List.set_cons_zero, List.set_cons_succ, i64_w, i32_w]
          rfl
        refine pure_ (i := 7) (N := some 49) (v := ?_) (a' := ?_) #[true, true, true, true, true, true, true, true, false, false, false, false, false, false, false, false, false, false, false, false, false, false, false, false, false, false, false, false, false, false, false, false, false, false, false, false, false, false, false, false, false, false, false, false, false, false, false, false] rfl rfl (by kernel_rfl) (fun _ _ _ h => h) (Or.inl ⟨by rfl, ?_⟩) ?_ ?_
        rotate_left
        · intro w'
          go_simp
          with_reducible rfl
        rotate_left
        · simp only [Act.put, List.setIfInBounds_toArray, List.set_cons_zero, List.set_cons_succ, i64_w, i32_w]
          rfl
        refine pure_ (i := 8) (N := some 50) (v := ?_) (a' := ?_) #[true, true, true, true, true, true, true, true, true, false, false, false, false, false, false, false, false, false, false, false, false, false, false, false, false, false, false, false, false, false, false, false, false, false, false, false, false, false, false, false, false, false, false, false, false, false, false, false] rfl rfl (by kernel_rfl) (fun _ _ _ h => h) (Or.inl ⟨by rfl, ?_⟩) ?_ ?_
        rotate_left
        · intro w'
          go_simp
          with_reducible rfl
        rotate_left
        · simp only [Act.put, List.setIfInBounds_toArray, List.set_cons_zero, List.set_cons_succ, i64_w, i32_w]
          rfl
        refine take_ (i := 9) (N := some 51) (v := ?_) (a' := ?_) #[true, true, true, true, true, true, true, true, true, true, false, false, false, false, false, false, false, false, false, false, false, false, false, false, false, false, false, false, false, false, false, false, false, false, false, false, false, false, false, false, false, false, false, false, false, false, false, false] rfl rfl (by kernel_rfl) (fun _ _ _ h => h) (Or.inl ⟨by rfl, ?_⟩) hS ?_ ?_
        rotate_left
        · rintro w' hs
          have t0 : w'.cell? ⟨u4.heap.size, 0, none⟩ = some (.int .i64 x.first) := (blk_cell hs.2.2.2.1 0).trans rfl
          have t1 : w'.cell? ⟨u4.heap.size, 1, none⟩ = some (.int .i64 x.last) := (blk_cell hs.2.2.2.1 1).trans rfl
          have t2 : w'.cell? ⟨u4.heap.size, 2, none⟩ = some (.int .u32 x.grave) := (blk_cell hs.2.2.2.1 2).trans rfl
          have t3 : w'.cell? ⟨u4.heap.size, 3, none⟩ = some (.int .u32 x.src) := (blk_cell hs.2.2.2.1 3).trans rfl
          have t4 : w'.cell? ⟨u4.heap.size, 4, none⟩ = some (.int .u64 x.many) := (blk_cell hs.2.2.2.1 4).trans rfl
          have t5 : w'.cell? ⟨u4.heap.size, 5, none⟩ = some (.bool x.keep) := (blk_cell hs.2.2.2.1 5).trans rfl
          clear hs
          go_simp
          with_reducible rfl
        rotate_left
        · simp only [Act.put, List.setIfInBounds_toArray, List.set_cons_zero, List.set_cons_succ, i64_w, i32_w]
          rfl
        refine take_ (i := 10) (N := some 52) (v := ?_) (a' := ?_) #[true, true, true, true, true, true, true, true, true, true, true, false, false, false, false, false, false, false, false, false, false, false, false, false, false, false, false, false, false, false, false, false, false, false, false, false, false, false, false, false, false, false, false, false, false, false, false, false] rfl rfl (by kernel_rfl) (fun _ _ _ h => h) (Or.inl ⟨by rfl, ?_⟩) hS ?_ ?_
        rotate_left
        · rintro w' hs
          have t0 : w'.cell? ⟨gc, 0, none⟩ = some (.int .i64 c.first) := (blk_cell hs.2.2.1 0).trans rfl
          have t1 : w'.cell? ⟨gc, 1, none⟩ = some (.int .i64 c.last) := (blk_cell hs.2.2.1 1).trans rfl
          have t2 : w'.cell? ⟨gc, 2, none⟩ = some (.int .u32 c.grave) := (blk_cell hs.2.2.1 2).trans rfl
          have t3 : w'.cell? ⟨gc, 3, none⟩ = some (.int .u32 c.src) := (blk_cell hs.2.2.1 3).trans rfl
          have t4 : w'.cell? ⟨gc, 4, none⟩ = some (.int .u64 c.many) := (blk_cell hs.2.2.1 4).trans rfl
          have t5 : w'.cell? ⟨gc, 5, none⟩ = some (.bool c.keep) := (blk_cell hs.2.2.1 5).trans rfl
          clear hs
          go_simp
          with_reducible rfl
        rotate_left
        · simp only [Act.put, List.setIfInBounds_toArray, List.set_cons_zero, List.set_cons_succ, i64_w, i32_w]
          rfl
        refine take_ (i := 12) (N := some 54) (v := ?_) (a' := ?_) #[true, true, true, true, true, true, true, true, true, true, true, false, true, false, false, false, false, false, false, false, false, false, false, false, false, false, false, false, false, false, false, false, false, false, false, false, false, false, false, false, false, false, false, false, false, false, false, false] rfl rfl (by kernel_rfl) (fun _ _ _ h => h) (Or.inl ⟨by rfl, ?_⟩) hS ?_ ?_
        rotate_left
        · rintro w' hs
          have t0 : w'.cell? ⟨w.heap.size, 0, none⟩ = some (.int .i64 a.first) := (blk_cell hs.1 0).trans rfl
          have t1 : w'.cell? ⟨w.heap.size, 1, none⟩ = some (.int .i64 a.last) := (blk_cell hs.1 1).trans rfl
          have t2 : w'.cell? ⟨w.heap.size, 2, none⟩ = some (.int .u32 a.grave) := (blk_cell hs.1 2).trans rfl
          have t3 : w'.cell? ⟨w.heap.size, 3, none⟩ = some (.int .u32 a.src) := (blk_cell hs.1 3).trans rfl
          have t4 : w'.cell? ⟨w.heap.size, 4, none⟩ = some (.int .u64 a.many) := (blk_cell hs.1 4).trans rfl
          have t5 : w'.cell? ⟨w.heap.size, 5, none⟩ = some (.bool a.keep) := (blk_cell hs.1 5).trans rfl
          clear hs
          go_simp
          with_reducible rfl
        rotate_left
        · simp only [Act.put, List.setIfInBounds_toArray, List.set_cons_zero, List.set_cons_succ, i64_w, i32_w]
          rfl
        refine take_ (i := 13) (N := some 55) (v := ?_) (a' := ?_) #[true, true, true, true, true, true, true, true, true, true, true, false, true, true, false, false, false, false, false, false, false, false, false, false, false, false, false, false, false, false, false, false, false, false, false, false, false, false, false, false, false, false, false, false, false, false, false, false] rfl rfl (by kernel_rfl) (fun _ _ _ h => h) (Or.inl ⟨by rfl, ?_⟩) hS ?_ ?_
        rotate_left
        · rintro w' hs
          have t0 : w'.cell? ⟨gb, 0, none⟩ = some (.int .i64 b.first) := (blk_cell hs.2.1 0).trans rfl
          have t1 : w'.cell? ⟨gb, 1, none⟩ = some (.int .i64 b.last) := (blk_cell hs.2.1 1).trans rfl
          have t2 : w'.cell? ⟨gb, 2, none⟩ = some (.int .u32 b.grave) := (blk_cell hs.2.1 2).trans rfl
          have t3 : w'.cell? ⟨gb, 3, none⟩ = some (.int .u32 b.src) := (blk_cell hs.2.1 3).trans rfl
          have t4 : w'.cell? ⟨gb, 4, none⟩ = some (.int .u64 b.many) := (blk_cell hs.2.1 4).trans rfl
          have t5 : w'.cell? ⟨gb, 5, none⟩ = some (.bool b.keep) := (blk_cell hs.2.1 5).trans rfl
          clear hs
          go_simp
          with_reducible rfl
        rotate_left
        · simp only [Act.put, List.setIfInBounds_toArray, List.set_cons_zero, List.set_cons_succ, i64_w, i32_w]
          rfl
        refine take_ (i := 14) (N := some 56) (v := ?_) (a' := ?_) #[true, true, true, true, true, true, true, true, true, true, true, false, true, true, true, false, false, false, false, false, false, false, false, false, false, false, false, false, false, false, false, false, false, false, false, false, false, false, false, false, false, false, false, false, false, false, false, false] rfl rfl (by kernel_rfl) (fun _ _ _ h => h) (Or.inl ⟨by rfl, ?_⟩) hS ?_ ?_
        rotate_left
        · rintro w' hs
          have t0 : w'.cell? ⟨gc, 0, none⟩ = some (.int .i64 c.first) := (blk_cell hs.2.2.1 0).trans rfl
          have t1 : w'.cell? ⟨gc, 1, none⟩ = some (.int .i64 c.last) := (blk_cell hs.2.2.1 1).trans rfl
          have t2 : w'.cell? ⟨gc, 2, none⟩ = some (.int .u32 c.grave) := (blk_cell hs.2.2.1 2).trans rfl
          have t3 : w'.cell? ⟨gc, 3, none⟩ = some (.int .u32 c.src) := (blk_cell hs.2.2.1 3).trans rfl
          have t4 : w'.cell? ⟨gc, 4, none⟩ = some (.int .u64 c.many) := (blk_cell hs.2.2.1 4).trans rfl
          have t5 : w'.cell? ⟨gc, 5, none⟩ = some (.bool c.keep) := (blk_cell hs.2.2.1 5).trans rfl
          clear hs
          go_simp
          with_reducible rfl
        rotate_left
        · simp only [Act.put, List.setIfInBounds_toArray, List.set_cons_zero, List.set_cons_succ, i64_w, i32_w]
          rfl
        refine one_ (i := 11) (N := some 53) #[true, true, true, true, true, true, true, true, true, true, true, true, true, true, true, false, false, false, false, false, false, false, false, false, false, false, false, false, false, false, false, false, false, false, false, false, false, false, false, false, false, false, false, false, false, false, false, false] rfl rfl (by kernel_rfl) (by decide) (fun K hK => ?_)
        refine goes_ Try.func28 (by kernel_rfl) rfl #[.agg #[.int .i64 x.first, .int .i64 x.last, .int .u32 x.grave, .int .u32 x.src, .int .u64 x.many, .bool x.keep], .agg #[.int .i64 c.first, .int .i64 c.last, .int .u32 c.grave, .int .u32 c.src, .int .u64 c.many, .bool c.keep]] (by rfl) rfl rfl (by (try simp only [List.map_toArray, List.map_cons, List.map_nil]); first | done | rfl) ?_
        refine (joinC x c z hz.out _).mono ?_
        rintro e w' ⟨rfl, hb'⟩
        refine ⟨_, rfl, ?_⟩
        refine hK.out _ _ (carryS hb' hS) (fun hS => ?_)
        clear hK K
        refine norm_ (a' := ?_) ?_ ?_
        rotate_left
        · show Act.put _ (some 53) _ = _
          simp only [Act.put, List.setIfInBounds_toArray, List.set_cons_zero, List.set_cons_succ, i64_w, i32_w]
          rfl
        refine one_ (i := 15) (N := some 57) #[true, true, true, true, true, true, true, true, true, true, true, true, true, true, true, true, false, false, false, false, false, false, false, false, false, false, false, false, false, false, false, false, false, false, false, false, false, false, false, false, false, false, false, false, false, false, false, false] rfl rfl (by kernel_rfl) (by decide) (fun K hK => ?_)
        refine goes_ Try.func28 (by kernel_rfl) rfl #[.agg #[.int .i64 b.first, .int .i64 b.last, .int .u32 b.grave, .int .u32 b.src, .int .u64 b.many, .bool b.keep], .agg #[.int .i64 c.first, .int .i64 c.last, .int .u32 c.grave, .int .u32 c.src, .int .u64 c.many, .bool c.keep]] (by rfl) rfl rfl (by (try simp only [List.map_toArray, List.map_cons, List.map_nil]); first | done | rfl) ?_
        refine (joinC b c y hy.out _).mono ?_
        rintro e w' ⟨rfl, hb'⟩
        refine ⟨_, rfl, ?_⟩
        refine hK.out _ _ (carryS hb' hS) (fun hS => ?_)
        clear hK K
        refine norm_ (a' := ?_) ?_ ?_
        rotate_left
        · show Act.put _ (some 57) _ = _
          simp only [Act.put, List.setIfInBounds_toArray, List.set_cons_zero, List.set_cons_succ, i64_w, i32_w]
          rfl
        refine one_ (i := 16) (N := some 58) #[true, true, true, true, true, true, true, true, true, true, true, true, true, true, true, true, true, false, false, false, false, false, false, false, false, false, false, false, false, false, false, false, false, false, false, false, false, false, false, false, false, false, false, false, false, false, false, false] rfl rfl (by kernel_rfl) (by decide) (fun K hK => ?_)
        refine goes_ Try.func28 (by kernel_rfl) rfl #[.agg #[.int .i64 a.first, .int .i64 a.last, .int .u32 a.grave, .int .u32 a.src, .int .u64 a.many, .bool a.keep], .agg #[.int .i64 y.first, .int .i64 y.last, .int .u32 y.grave, .int .u32 y.src, .int .u64 y.many, .bool y.keep]] (by rfl) rfl rfl (by (try simp only [List.map_toArray, List.map_cons, List.map_nil]); first | done | rfl) ?_
        refine (joinC a y z e2.out _).mono ?_
        rintro e w' ⟨rfl, hb'⟩
        refine ⟨_, rfl, ?_⟩
        refine hK.out _ _ (carryS hb' hS) (fun hS => ?_)
        clear hK K
        refine norm_ (a' := ?_) ?_ ?_
        rotate_left
        · show Act.put _ (some 58) _ = _
          simp only [Act.put, List.setIfInBounds_toArray, List.set_cons_zero, List.set_cons_succ, i64_w, i32_w]
          rfl
        refine pure_ (i := 17) (N := some 59) (v := ?_) (a' := ?_) #[true, true, true, true, true, true, true, true, true, true, true, true, true, true, true, true, true, true, false, false, false, false, false, false, false, false, false, false, false, false, false, false, false, false, false, false, false, false, false, false, false, false, false, false, false, false, false, false] rfl rfl (by kernel_rfl) (fun _ _ _ h => h) (Or.inl ⟨by rfl, ?_⟩) ?_ ?_
        rotate_left
        · intro w'
          go_simp
          with_reducible rfl
        rotate_left
        · simp only [Act.put, List.setIfInBounds_toArray, List.set_cons_zero, List.set_cons_succ, i64_w, i32_w]
          rfl
        refine pure_ (i := 18) (N := some 60) (v := ?_) (a' := ?_) #[true, true, true, true, true, true, true, true, true, true, true, true, true, true, true, true, true, true, true, false, false, false, false, false, false, false, false, false, false, false, false, false, false, false, false, false, false, false, false, false, false, false, false, false, false, false, false, false] rfl rfl (by kernel_rfl) (fun _ _ _ h => h) (Or.inl ⟨by rfl, ?_⟩) ?_ ?_
        rotate_left
        · intro w'
          go_simp
          with_reducible rfl
        rotate_left
        · simp only [Act.put, List.setIfInBounds_toArray, List.set_cons_zero, List.set_cons_succ, i64_w, i32_w]
          rfl
        refine pure_ (i := 19) (N := some 61) (v := ?_) (a' := ?_) #[true, true, true, true, true, true, true, true, true, true, true, true, true, true, true, true, true, true, true, true, false, false, false, false, false, false, false, false, false, false, false, false, false, false, false, false, false, false, false, false, false, false, false, false, false, false, false, false] rfl rfl (by kernel_rfl) (fun _ _ _ h => h) (Or.inl ⟨by rfl, ?_⟩) ?_ ?_
        rotate_left
        · intro w'
          go_simp
          with_reducible rfl
        rotate_left
        · simp only [Act.put, List.setIfInBounds_toArray, List.set_cons_zero, List.set_cons_succ, i64_w, i32_w]
          rfl
        refine take_ (i := 20) (N := some 62) (v := ?_) (a' := ?_) #[true, true, true, true, true, true, true, true, true, true, true, true, true, true, true, true, true, true, true, true, true, false, false, false, false, false, false, false, false, false, false, false, false, false, false, false, false, false, false, false, false, false, false, false, false, false, false, false] rfl rfl (by kernel_rfl) (fun _ _ _ h => h) (Or.inl ⟨by rfl, ?_⟩) hS ?_ ?_
        rotate_left
        · rintro w' hs
          have t0 : w'.cell? ⟨w.heap.size, 0, none⟩ = some (.int .i64 a.first) := (blk_cell hs.1 0).trans rfl
          have t1 : w'.cell? ⟨w.heap.size, 1, none⟩ = some (.int .i64 a.last) := (blk_cell hs.1 1).trans rfl
          have t2 : w'.cell? ⟨w.heap.size, 2, none⟩ = some (.int .u32 a.grave) := (blk_cell hs.1 2).trans rfl
          have t3 : w'.cell? ⟨w.heap.size, 3, none⟩ = some (.int .u32 a.src) := (blk_cell hs.1 3).trans rfl
          have t4 : w'.cell? ⟨w.heap.size, 4, none⟩ = some (.int .u64 a.many) := (blk_cell hs.1 4).trans rfl
          have t5 : w'.cell? ⟨w.heap.size, 5, none⟩ = some (.bool a.keep) := (blk_cell hs.1 5).trans rfl
          clear hs
          go_simp
          with_reducible rfl
        rotate_left
        · simp only [Act.put, List.setIfInBounds_toArray, List.set_cons_zero, List.set_cons_succ, i64_w, i32_w]
          rfl
        refine take_ (i := 23) (N := some 65) (v := ?_) (a' := ?_) #[true, true, true, true, true, true, true, true, true, true, true, true, true, true, true, true, true, true, true, true, true, false, false, true, false, false, false, false, false, false, false, false, false, false, false, false, false, false, false, false, false, false, false, false, false, false, false, false] rfl rfl (by kernel_rfl) (fun _ _ _ h => h) (Or.inl ⟨by rfl, ?_⟩) hS ?_ ?_
        rotate_left
        · rintro w' hs
          have t0 : w'.cell? ⟨w.heap.size, 0, none⟩ = some (.int .i64 a.first) := (blk_cell hs.1 0).trans rfl
          have t1 : w'.cell? ⟨w.heap.size, 1, none⟩ = some (.int .i64 a.last) := (blk_cell hs.1 1).trans rfl
          have t2 : w'.cell? ⟨w.heap.size, 2, none⟩ = some (.int .u32 a.grave) := (blk_cell hs.1 2).trans rfl
          have t3 : w'.cell? ⟨w.heap.size, 3, none⟩ = some (.int .u32 a.src) := (blk_cell hs.1 3).trans rfl
          have t4 : w'.cell? ⟨w.heap.size, 4, none⟩ = some (.int .u64 a.many) := (blk_cell hs.1 4).trans rfl
          have t5 : w'.cell? ⟨w.heap.size, 5, none⟩ = some (.bool a.keep) := (blk_cell hs.1 5).trans rfl
          clear hs
          go_simp
          with_reducible rfl
        rotate_left
        · simp only [Act.put, List.setIfInBounds_toArray, List.set_cons_zero, List.set_cons_succ, i64_w, i32_w]
          rfl
        refine one_ (i := 21) (N := some 63) #[true, true, true, true, true, true, true, true, true, true, true, true, true, true, true, true, true, true, true, true, true, true, false, true, false, false, false, false, false, false, false, false, false, false, false, false, false, false, false, false, false, false, false, false, false, false, false, false] rfl rfl (by kernel_rfl) (by decide) (fun K hK => ?_)
        refine goes_ Try.func29 (by kernel_rfl) rfl #[] (by rfl) rfl rfl (by (try simp only [List.map_toArray, List.map_cons, List.map_nil]); first | done | rfl) ?_
        refine (noneC _).mono ?_
        rintro e w' ⟨rfl, hb'⟩
        refine ⟨_, rfl, ?_⟩
        refine hK.out _ _ (carryS hb' hS) (fun hS => ?_)
        clear hK K
        refine norm_ (a' := ?_) ?_ ?_
        rotate_left
        · show Act.put _ (some 63) _ = _
          simp only [Act.put, List.setIfInBounds_toArray, List.set_cons_zero, List.set_cons_succ, i64_w, i32_w]
          rfl
        refine one_ (i := 22) (N := some 64) #[true, true, true, true, true, true, true, true, true, true, true, true, true, true, true, true, true, true, true, true, true, true, true, true, false, false, false, false, false, false, false, false, false, false, false, false, false, false, false, false, false, false, false, false, false, false, false, false] rfl rfl (by kernel_rfl) (by decide) (fun K hK => ?_)
        refine goes_ Try.func28 (by kernel_rfl) rfl #[.agg #[.int .i64 a.first, .int .i64 a.last, .int .u32 a.grave, .int .u32 a.src, .int .u64 a.many, .bool a.keep], .agg #[.int .i64 0, .int .i64 0, .int .u32 0, .int .u32 0, .int .u64 0, .bool false]] (by rfl) rfl rfl (by (try simp only [List.map_toArray, List.map_cons, List.map_nil]); first | done | rfl) ?_
        refine (joinC a none0 a e3.out _).mono ?_
        rintro e w' ⟨rfl, hb'⟩
        refine ⟨_, rfl, ?_⟩
        refine hK.out _ _ (carryS hb' hS) (fun hS => ?_)
        clear hK K
        refine norm_ (a' := ?_) ?_ ?_
        rotate_left
        · show Act.put _ (some 64) _ = _
          simp only [Act.put, List.setIfInBounds_toArray, List.set_cons_zero, List.set_cons_succ, i64_w, i32_w]
          rfl
        refine pure_ (i := 24) (N := some 66) (v := ?_) (a' := ?_) #[true, true, true, true, true, true, true, true, true, true, true, true, true, true, true, true, true, true, true, true, true, true, true, true, true, false, false, false, false, false, false, false, false, false, false, false, false, false, false, false, false, false, false, false, false, false, false, false] rfl rfl (by kernel_rfl) (fun _ _ _ h => h) (Or.inl ⟨by rfl, ?_⟩) ?_ ?_
        rotate_left
        · intro w'
          go_simp
          with_reducible rfl
        rotate_left
        · simp only [Act.put, List.setIfInBounds_toArray, List.set_cons_zero, List.set_cons_succ, i64_w, i32_w]
          rfl
        refine pure_ (i := 25) (N := some 67) (v := ?_) (a' := ?_) #[true, true, true, true, true, true, true, true, true, true, true, true, true, true, true, true, true, true, true, true, true, true, true, true, true, true, false, false, false, false, false, false, false, false, false, false, false, false, false, false, false, false, false, false, false, false, false, false] rfl rfl (by kernel_rfl) (fun _ _ _ h => h) (Or.inl ⟨by rfl, ?_⟩) ?_ ?_
        rotate_left
        · intro w'
          go_simp
          with_reducible rfl
        rotate_left
        · simp only [Act.put, List.setIfInBounds_toArray, List.set_cons_zero, List.set_cons_succ, i64_w, i32_w]
          rfl
        refine pure_ (i := 26) (N := some 68) (v := ?_) (a' := ?_) #[true, true, true, true, true, true, true, true, true, true, true, true, true, true, true, true, true, true, true, true, true, true, true, true, true, true, true, false, false, false, false, false, false, false, false, false, false, false, false, false, false, false, false, false, false, false, false, false] rfl rfl (by kernel_rfl) (fun _ _ _ h => h) (Or.inl ⟨by rfl, ?_⟩) ?_ ?_
        rotate_left
        · intro w'
          go_simp
          with_reducible rfl
        rotate_left
        · simp only [Act.put, List.setIfInBounds_toArray, List.set_cons_zero, List.set_cons_succ, i64_w, i32_w]
          rfl
        refine take_ (i := 28) (N := some 70) (v := ?_) (a' := ?_) #[true, true, true, true, true, true, true, true, true, true, true, true, true, true, true, true, true, true, true, true, true, true, true, true, true, true, true, false, true, false, false, false, false, false, false, false, false, false, false, false, false, false, false, false, false, false, false, false] rfl rfl (by kernel_rfl) (fun _ _ _ h => h) (Or.inl ⟨by rfl, ?_⟩) hS ?_ ?_
        rotate_left
        · rintro w' hs
          have t0 : w'.cell? ⟨w.heap.size, 0, none⟩ = some (.int .i64 a.first) := (blk_cell hs.1 0).trans rfl
          have t1 : w'.cell? ⟨w.heap.size, 1, none⟩ = some (.int .i64 a.last) := (blk_cell hs.1 1).trans rfl
          have t2 : w'.cell? ⟨w.heap.size, 2, none⟩ = some (.int .u32 a.grave) := (blk_cell hs.1 2).trans rfl
          have t3 : w'.cell? ⟨w.heap.size, 3, none⟩ = some (.int .u32 a.src) := (blk_cell hs.1 3).trans rfl
          have t4 : w'.cell? ⟨w.heap.size, 4, none⟩ = some (.int .u64 a.many) := (blk_cell hs.1 4).trans rfl
          have t5 : w'.cell? ⟨w.heap.size, 5, none⟩ = some (.bool a.keep) := (blk_cell hs.1 5).trans rfl
          clear hs
          go_simp
          with_reducible rfl
        rotate_left
        · simp only [Act.put, List.setIfInBounds_toArray, List.set_cons_zero, List.set_cons_succ, i64_w, i32_w]
          rfl
        refine take_ (i := 30) (N := some 72) (v := ?_) (a' := ?_) #[true, true, true, true, true, true, true, true, true, true, true, true, true, true, true, true, true, true, true, true, true, true, true, true, true, true, true, false, true, false, true, false, false, false, false, false, false, false, false, false, false, false, false, false, false, false, false, false] rfl rfl (by kernel_rfl) (fun _ _ _ h => h) (Or.inl ⟨by rfl, ?_⟩) hS ?_ ?_
        rotate_left
        · rintro w' hs
          have t0 : w'.cell? ⟨w.heap.size, 0, none⟩ = some (.int .i64 a.first) := (blk_cell hs.1 0).trans rfl
          have t1 : w'.cell? ⟨w.heap.size, 1, none⟩ = some (.int .i64 a.last) := (blk_cell hs.1 1).trans rfl
          have t2 : w'.cell? ⟨w.heap.size, 2, none⟩ = some (.int .u32 a.grave) := (blk_cell hs.1 2).trans rfl
          have t3 : w'.cell? ⟨w.heap.size, 3, none⟩ = some (.int .u32 a.src) := (blk_cell hs.1 3).trans rfl
          have t4 : w'.cell? ⟨w.heap.size, 4, none⟩ = some (.int .u64 a.many) := (blk_cell hs.1 4).trans rfl
          have t5 : w'.cell? ⟨w.heap.size, 5, none⟩ = some (.bool a.keep) := (blk_cell hs.1 5).trans rfl
          clear hs
          go_simp
          with_reducible rfl
        rotate_left
        · simp only [Act.put, List.setIfInBounds_toArray, List.set_cons_zero, List.set_cons_succ, i64_w, i32_w]
          rfl
        refine one_ (i := 27) (N := some 69) #[true, true, true, true, true, true, true, true, true, true, true, true, true, true, true, true, true, true, true, true, true, true, true, true, true, true, true, true, true, false, true, false, false, false, false, false, false, false, false, false, false, false, false, false, false, false, false, false] rfl rfl (by kernel_rfl) (by decide) (fun K hK => ?_)
        refine goes_ Try.func29 (by kernel_rfl) rfl #[] (by rfl) rfl rfl (by (try simp only [List.map_toArray, List.map_cons, List.map_nil]); first | done | rfl) ?_
        refine (noneC _).mono ?_
        rintro e w' ⟨rfl, hb'⟩
        refine ⟨_, rfl, ?_⟩
        refine hK.out _ _ (carryS hb' hS) (fun hS => ?_)
        clear hK K
        refine norm_ (a' := ?_) ?_ ?_
        rotate_left
        · show Act.put _ (some 69) _ = _
          simp only [Act.put, List.setIfInBounds_toArray, List.set_cons_zero, List.set_cons_succ, i64_w, i32_w]
          rfl
        refine one_ (i := 29) (N := some 71) #[true, true, true, true, true, true, true, true, true, true, true, true, true, true, true, true, true, true, true, true, true, true, true, true, true, true, true, true, true, true, true, false, false, false, false, false, false, false, false, false, false, false, false, false, false, false, false, false] rfl rfl (by kernel_rfl) (by decide) (fun K hK => ?_)
        refine goes_ Try.func28 (by kernel_rfl) rfl #[.agg #[.int .i64 0, .int .i64 0, .int .u32 0, .int .u32 0, .int .u64 0, .bool false], .agg #[.int .i64 a.first, .int .i64 a.last, .int .u32 a.grave, .int .u32 a.src, .int .u64 a.many, .bool a.keep]] (by rfl) rfl rfl (by (try simp only [List.map_toArray, List.map_cons, List.map_nil]); first | done | rfl) ?_
        refine (joinC none0 a a e4.out _).mono ?_
        rintro e w' ⟨rfl, hb'⟩
        refine ⟨_, rfl, ?_⟩
        refine hK.out _ _ (carryS hb' hS) (fun hS => ?_)
        clear hK K
        refine norm_ (a' := ?_) ?_ ?_
        rotate_left
        · show Act.put _ (some 71) _ = _
          simp only [Act.put, List.setIfInBounds_toArray, List.set_cons_zero, List.set_cons_succ, i64_w, i32_w]
          rfl
        refine pure_ (i := 31) (N := some 73) (v := ?_) (a' := ?_) #[true, true, true, true, true, true, true, true, true, true, true, true, true, true, true, true, true, true, true, true, true, true, true, true, true, true, true, true, true, true, true, true, false, false, false, false, false, false, false, false, false, false, false, false, false, false, false, false] rfl rfl (by kernel_rfl) (fun _ _ _ h => h) (Or.inl ⟨by rfl, ?_⟩) ?_ ?_
        rotate_left
        · intro w'
          go_simp
          with_reducible rfl
        rotate_left
        · simp only [Act.put, List.setIfInBounds_toArray, List.set_cons_zero, List.set_cons_succ, i64_w, i32_w]
          rfl
        refine pure_ (i := 32) (N := some 74) (v := ?_) (a' := ?_) #[true, true, true, true, true, true, true, true, true, true, true, true, true, true, true, true, true, true, true, true, true, true, true, true, true, true, true, true, true, true, true, true, true, false, false, false, false, false, false, false, false, false, false, false, false, false, false, false] rfl rfl (by kernel_rfl) (fun _ _ _ h => h) (Or.inl ⟨by rfl, ?_⟩) ?_ ?_
        rotate_left
        · intro w'
          go_simp
          with_reducible rfl
        rotate_left
        · simp only [Act.put, List.setIfInBounds_toArray, List.set_cons_zero, List.set_cons_succ, i64_w, i32_w]
          rfl
        refine pure_ (i := 33) (N := some 75) (v := ?_) (a' := ?_) #[true, true, true, true, true, true, true, true, true, true, true, true, true, true, true, true, true, true, true, true, true, true, true, true, true, true, true, true, true, true, true, true, true, true, false, false, false, false, false, false, false, false, false, false, false, false, false, false] rfl rfl (by kernel_rfl) (fun _ _ _ h => h) (Or.inl ⟨by rfl, ?_⟩) ?_ ?_
        rotate_left
        · intro w'
          go_simp
          with_reducible rfl
        rotate_left
        · simp only [Act.put, List.setIfInBounds_toArray, List.set_cons_zero, List.set_cons_succ, i64_w, i32_w]
          rfl
        refine take_ (i := 34) (N := some 76) (v := ?_) (a' := ?_) #[true, true, true, true, true, true, true, true, true, true, true, true, true, true, true, true, true, true, true, true, true, true, true, true, true, true, true, true, true, true, true, true, true, true, true, false, false, false, false, false, false, false, false, false, false, false, false, false] rfl rfl (by kernel_rfl) (fun _ _ _ h => h) (Or.inl ⟨by rfl, ?_⟩) hS ?_ ?_
        rotate_left
        · rintro w' hs
          have t0 : w'.cell? ⟨u4.heap.size, 0, none⟩ = some (.int .i64 x.first) := (blk_cell hs.2.2.2.1 0).trans rfl
          have t1 : w'.cell? ⟨u4.heap.size, 1, none⟩ = some (.int .i64 x.last) := (blk_cell hs.2.2.2.1 1).trans rfl
          have t2 : w'.cell? ⟨u4.heap.size, 2, none⟩ = some (.int .u32 x.grave) := (blk_cell hs.2.2.2.1 2).trans rfl
          have t3 : w'.cell? ⟨u4.heap.size, 3, none⟩ = some (.int .u32 x.src) := (blk_cell hs.2.2.2.1 3).trans rfl
          have t4 : w'.cell? ⟨u4.heap.size, 4, none⟩ = some (.int .u64 x.many) := (blk_cell hs.2.2.2.1 4).trans rfl
          have t5 : w'.cell? ⟨u4.heap.size, 5, none⟩ = some (.bool x.keep) := (blk_cell hs.2.2.2.1 5).trans rfl
          clear hs
          go_simp
          with_reducible rfl
        rotate_left
        · simp only [Act.put, List.setIfInBounds_toArray, List.set_cons_zero, List.set_cons_succ, i64_w, i32_w]
          rfl
        refine one_ (i := 35) (N := some 77) #[true, true, true, true, true, true, true, true, true, true, true, true, true, true, true, true, true, true, true, true, true, true, true, true, true, true, true, true, true, true, true, true, true, true, true, true, false, false, false, false, false, false, false, false, false, false, false, false] rfl rfl (by kernel_rfl) (by decide) (fun K hK => ?_)
        refine goes_ Try.func27 (by kernel_rfl) rfl #[.agg #[.int .i64 x.first, .int .i64 x.last, .int .u32 x.grave, .int .u32 x.src, .int .u64 x.many, .bool x.keep]] (by rfl) rfl rfl (by (try simp only [List.map_toArray, List.map_cons, List.map_nil]); first | done | rfl) ?_
        refine (rightC x true e5.out _).mono ?_
        rintro e w' ⟨rfl, hb'⟩
        refine ⟨_, rfl, ?_⟩
        refine hK.out _ _ (carryS hb' hS) (fun hS => ?_)
        clear hK K
        refine norm_ (a' := ?_) ?_ ?_
        rotate_left
        · show Act.put _ (some 77) _ = _
          simp only [Act.put, List.setIfInBounds_toArray, List.set_cons_zero, List.set_cons_succ, i64_w, i32_w]
          rfl
        refine pure_ (i := 36) (N := some 78) (v := ?_) (a' := ?_) #[true, true, true, true, true, true, true, true, true, true, true, true, true, true, true, true, true, true, true, true, true, true, true, true, true, true, true, true, true, true, true, true, true, true, true, true, true, false, false, false, false, false, false, false, false, false, false, false] rfl rfl (by kernel_rfl) (fun _ _ _ h => h) (Or.inl ⟨by rfl, ?_⟩) ?_ ?_
        rotate_left
        · intro w'
          go_simp
          with_reducible rfl
        rotate_left
        · simp only [Act.put, List.setIfInBounds_toArray, List.set_cons_zero, List.set_cons_succ, i64_w, i32_w]
          rfl
        refine pure_ (i := 37) (N := some 79) (v := ?_) (a' := ?_) #[true, true, true, true, true, true, true, true, true, true, true, true, true, true, true, true, true, true, true, true, true, true, true, true, true, true, true, true, true, true, true, true, true, true, true, true, true, true, false, false, false, false, false, false, false, false, false, false] rfl rfl (by kernel_rfl) (fun _ _ _ h => h) (Or.inl ⟨by rfl, ?_⟩) ?_ ?_
        rotate_left
        · intro w'
          go_simp
          with_reducible rfl
        rotate_left
        · simp only [Act.put, List.setIfInBounds_toArray, List.set_cons_zero, List.set_cons_succ, i64_w, i32_w]
          rfl
        refine pure_ (i := 38) (N := some 80) (v := ?_) (a' := ?_) #[true, true, true, true, true, true, true, true, true, true, true, true, true, true, true, true, true, true, true, true, true, true, true, true, true, true, true, true, true, true, true, true, true, true, true, true, true, true, true, false, false, false, false, false, false, false, false, false] rfl rfl (by kernel_rfl) (fun _ _ _ h => h) (Or.inl ⟨by rfl, ?_⟩) ?_ ?_
        rotate_left
        · intro w'
          go_simp
          with_reducible rfl
        rotate_left
        · simp only [Act.put, List.setIfInBounds_toArray, List.set_cons_zero, List.set_cons_succ, i64_w, i32_w]
          rfl
        refine take_ (i := 39) (N := some 81) (v := ?_) (a' := ?_) #[true, true, true, true, true, true, true, true, true, true, true, true, true, true, true, true, true, true, true, true, true, true, true, true, true, true, true, true, true, true, true, true, true, true, true, true, true, true, true, true, false, false, false, false, false, false, false, false] rfl rfl (by kernel_rfl) (fun _ _ _ h => h) (Or.inl ⟨by rfl, ?_⟩) hS ?_ ?_
        rotate_left
        · rintro w' hs
          have t0 : w'.cell? ⟨u4.heap.size, 0, none⟩ = some (.int .i64 x.first) := (blk_cell hs.2.2.2.1 0).trans rfl
          have t1 : w'.cell? ⟨u4.heap.size, 1, none⟩ = some (.int .i64 x.last) := (blk_cell hs.2.2.2.1 1).trans rfl
          have t2 : w'.cell? ⟨u4.heap.size, 2, none⟩ = some (.int .u32 x.grave) := (blk_cell hs.2.2.2.1 2).trans rfl
          have t3 : w'.cell? ⟨u4.heap.size, 3, none⟩ = some (.int .u32 x.src) := (blk_cell hs.2.2.2.1 3).trans rfl
          have t4 : w'.cell? ⟨u4.heap.size, 4, none⟩ = some (.int .u64 x.many) := (blk_cell hs.2.2.2.1 4).trans rfl
          have t5 : w'.cell? ⟨u4.heap.size, 5, none⟩ = some (.bool x.keep) := (blk_cell hs.2.2.2.1 5).trans rfl
          clear hs
          go_simp
          with_reducible rfl
        rotate_left
        · simp only [Act.put, List.setIfInBounds_toArray, List.set_cons_zero, List.set_cons_succ, i64_w, i32_w]
          rfl
        refine pure_ (i := 40) (N := some 82) (v := ?_) (a' := ?_) #[true, true, true, true, true, true, true, true, true, true, true, true, true, true, true, true, true, true, true, true, true, true, true, true, true, true, true, true, true, true, true, true, true, true, true, true, true, true, true, true, true, false, false, false, false, false, false, false] rfl rfl (by kernel_rfl) (fun _ _ _ h => h) (Or.inl ⟨by rfl, ?_⟩) ?_ ?_
        rotate_left
        · intro w'
          go_simp
          with_reducible rfl
        rotate_left
        · simp only [Act.put, List.setIfInBounds_toArray, List.set_cons_zero, List.set_cons_succ, i64_w, i32_w]
          rfl
        refine take_ (i := 41) (N := some 83) (v := ?_) (a' := ?_) #[true, true, true, true, true, true, true, true, true, true, true, true, true, true, true, true, true, true, true, true, true, true, true, true, true, true, true, true, true, true, true, true, true, true, true, true, true, true, true, true, true, true, false, false, false, false, false, false] rfl rfl (by kernel_rfl) (fun _ _ _ h => h) (Or.inl ⟨by rfl, ?_⟩) hS ?_ ?_
        rotate_left
        · rintro w' hs
          have t0 : w'.cell? ⟨w.heap.size, 0, none⟩ = some (.int .i64 a.first) := (blk_cell hs.1 0).trans rfl
          have t1 : w'.cell? ⟨w.heap.size, 1, none⟩ = some (.int .i64 a.last) := (blk_cell hs.1 1).trans rfl
          have t2 : w'.cell? ⟨w.heap.size, 2, none⟩ = some (.int .u32 a.grave) := (blk_cell hs.1 2).trans rfl
          have t3 : w'.cell? ⟨w.heap.size, 3, none⟩ = some (.int .u32 a.src) := (blk_cell hs.1 3).trans rfl
          have t4 : w'.cell? ⟨w.heap.size, 4, none⟩ = some (.int .u64 a.many) := (blk_cell hs.1 4).trans rfl
          have t5 : w'.cell? ⟨w.heap.size, 5, none⟩ = some (.bool a.keep) := (blk_cell hs.1 5).trans rfl
          clear hs
          go_simp
          with_reducible rfl
        rotate_left
        · simp only [Act.put, List.setIfInBounds_toArray, List.set_cons_zero, List.set_cons_succ, i64_w, i32_w]
          rfl
        refine pure_ (i := 42) (N := some 84) (v := ?_) (a' := ?_) #[true, true, true, true, true, true, true, true, true, true, true, true, true, true, true, true, true, true, true, true, true, true, true, true, true, true, true, true, true, true, true, true, true, true, true, true, true, true, true, true, true, true, true, false, false, false, false, false] rfl rfl (by kernel_rfl) (fun _ _ _ h => h) (Or.inl ⟨by rfl, ?_⟩) ?_ ?_
        rotate_left
        · intro w'
          go_simp
          with_reducible rfl
        rotate_left
        · simp only [Act.put, List.setIfInBounds_toArray, List.set_cons_zero, List.set_cons_succ, i64_w, i32_w]
          rfl
        refine take_ (i := 43) (N := some 85) (v := ?_) (a' := ?_) #[true, true, true, true, true, true, true, true, true, true, true, true, true, true, true, true, true, true, true, true, true, true, true, true, true, true, true, true, true, true, true, true, true, true, true, true, true, true, true, true, true, true, true, true, false, false, false, false] rfl rfl (by kernel_rfl) (fun _ _ _ h => h) (Or.inl ⟨by rfl, ?_⟩) hS ?_ ?_
        rotate_left
        · rintro w' hs
          have t0 : w'.cell? ⟨gb, 0, none⟩ = some (.int .i64 b.first) := (blk_cell hs.2.1 0).trans rfl
          have t1 : w'.cell? ⟨gb, 1, none⟩ = some (.int .i64 b.last) := (blk_cell hs.2.1 1).trans rfl
          have t2 : w'.cell? ⟨gb, 2, none⟩ = some (.int .u32 b.grave) := (blk_cell hs.2.1 2).trans rfl
          have t3 : w'.cell? ⟨gb, 3, none⟩ = some (.int .u32 b.src) := (blk_cell hs.2.1 3).trans rfl
          have t4 : w'.cell? ⟨gb, 4, none⟩ = some (.int .u64 b.many) := (blk_cell hs.2.1 4).trans rfl
          have t5 : w'.cell? ⟨gb, 5, none⟩ = some (.bool b.keep) := (blk_cell hs.2.1 5).trans rfl
          clear hs
          go_simp
          with_reducible rfl
        rotate_left
        · simp only [Act.put, List.setIfInBounds_toArray, List.set_cons_zero, List.set_cons_succ, i64_w, i32_w]
          rfl
        refine pure_ (i := 44) (N := some 86) (v := ?_) (a' := ?_) #[true, true, true, true, true, true, true, true, true, true, true, true, true, true, true, true, true, true, true, true, true, true, true, true, true, true, true, true, true, true, true, true, true, true, true, true, true, true, true, true, true, true, true, true, true, false, false, false] rfl rfl (by kernel_rfl) (fun _ _ _ h => h) (Or.inl ⟨by rfl, ?_⟩) ?_ ?_
        rotate_left
        · intro w'
          go_simp
          with_reducible rfl
        rotate_left
        · simp only [Act.put, List.setIfInBounds_toArray, List.set_cons_zero, List.set_cons_succ, i64_w, i32_w]
          rfl
        refine pure_ (i := 45) (N := some 87) (v := ?_) (a' := ?_) #[true, true, true, true, true, true, true, true, true, true, true, true, true, true, true, true, true, true, true, true, true, true, true, true, true, true, true, true, true, true, true, true, true, true, true, true, true, true, true, true, true, true, true, true, true, true, false, false] rfl rfl (by kernel_rfl) (fun _ _ _ h => h) (Or.inl ⟨by rfl, ?_⟩) ?_ ?_
        rotate_left
        · intro w'
          simp only [Mx2.out]
          go_simp
          with_reducible rfl
        rotate_left
        · simp only [Act.put, List.setIfInBounds_toArray, List.set_cons_zero, List.set_cons_succ, i64_w, i32_w]
          rfl
        refine pure_ (i := 46) (N := some 88) (v := ?_) (a' := ?_) #[true, true, true, true, true, true, true, true, true, true, true, true, true, true, true, true, true, true, true, true, true, true, true, true, true, true, true, true, true, true, true, true, true, true, true, true, true, true, true, true, true, true, true, true, true, true, true, false] rfl rfl (by kernel_rfl) (fun _ _ _ h => h) (Or.inl ⟨by rfl, ?_⟩) ?_ ?_
        rotate_left
        · intro w'
          go_simp
          with_reducible rfl
        rotate_left
        · simp only [Act.put, List.setIfInBounds_toArray, List.set_cons_zero, List.set_cons_succ, i64_w, i32_w]
          rfl
        refine pure_ (i := 47) (N := some 6) (v := ?_) (a' := ?_) #[true, true, true, true, true, true, true, true, true, true, true, true, true, true, true, true, true, true, true, true, true, true, true, true, true, true, true, true, true, true, true, true, true, true, true, true, true, true, true, true, true, true, true, true, true, true, true, true] rfl rfl (by kernel_rfl) (fun _ _ _ h => h) (Or.inl ⟨by rfl, ?_⟩) ?_ ?_
        rotate_left
        · intro w'
          go_simp
          with_reducible rfl
        rotate_left
        · simp only [Act.put, List.setIfInBounds_toArray, List.set_cons_zero, List.set_cons_succ, i64_w, i32_w]
          rfl
        refine done_ (by kernel_rfl) ?_

        go_wp2_with fail
        go_ret
        exact ⟨rfl, hS.2.2.2.2⟩

theorem ok36 (x : Int × Int × Int × Int × Int × Bool) (hg : g36 x) : Ok ⟨x.1, x.2.1, x.2.2.1, x.2.2.2.1, x.2.2.2.2.1, x.2.2.2.2.2⟩ ∨ right ⟨x.1, x.2.1, x.2.2.1, x.2.2.2.1, x.2.2.2.2.1, x.2.2.2.2.2⟩ = false := by
  obtain ⟨a0, a1, a2, a3, a4, a5⟩ := x
  obtain ⟨_, _, h2, h3, h4, _⟩ := hg
  have e1 : IntKind.u32.min = 0 := rfl
  have e2 : IntKind.u64.min = 0 := rfl
  simp only [g28, g34, Lit.wf, e1, e2, Bool.and_eq_true, decide_eq_true_eq] at h2 h3 h4
  cases hr : right ⟨a0, a1, a2, a3, a4, a5⟩ with
  | false => exact .inr rfl
  | true => exact .inl (ok_of _ hr h2.1 h3.1 h4.1)

theorem walk (w : World) (x0 : (Int × Int × Int × Int × Int × Bool)) (cs0 : Array Value) (hK0 : kd36.K w x0 cs0.toList) (hg0 : g36 x0) (x1 : (Int × Int × Int × Int × Int × Bool)) (cs1 : Array Value) (hK1 : kd36.K w x1 cs1.toList) (hg1 : g36 x1) (x2 : (Int × Int × Int × Int × Int × Bool)) (cs2 : Array Value) (hK2 : kd36.K w x2 cs2.toList) (hg2 : g36 x2) :
    Calls Try.prog 8 #[.agg cs0, .agg cs1, .agg cs2] w fun e w' => e = .returned (.bool true) ∧ Below w.heap.size w w' := by
  have h0 := ok36 x0 hg0
  have h1 := ok36 x1 hg1
  have h2 := ok36 x2 hg2
  obtain ⟨l0⟩ := cs0
  obtain ⟨l1⟩ := cs1
  obtain ⟨l2⟩ := cs2
  obtain ⟨a0, a1, a2, a3, a4, a5⟩ := x0
  obtain ⟨b0, b1, b2, b3, b4, b5⟩ := x1
  obtain ⟨c0, c1, c2, c3, c4, c5⟩ := x2
  obtain ⟨_, _, rfl, rfl, _, _, rfl, rfl, _, _, rfl, rfl, _, _, rfl, rfl, _, _, rfl, rfl, rfl⟩ := hK0
  obtain ⟨_, _, rfl, rfl, _, _, rfl, rfl, _, _, rfl, rfl, _, _, rfl, rfl, _, _, rfl, rfl, rfl⟩ := hK1
  obtain ⟨_, _, rfl, rfl, _, _, rfl, rfl, _, _, rfl, rfl, _, _, rfl, rfl, _, _, rfl, rfl, rfl⟩ := hK2
  exact core w ⟨a0, a1, a2, a3, a4, a5⟩ ⟨b0, b1, b2, b3, b4, b5⟩ ⟨c0, c1, c2, c3, c4, c5⟩ h0 h1 h2
end Go.Proofs.Ytliiefkdgdflpaa.WBriefOrder
