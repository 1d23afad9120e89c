/-
  BriefWide's walk.
-/
import Derived.Test.YtliiefkdgdflpaaKBriefWide
import Derived.Test.YtliiefkdgdflpaaMono
import Derived.Outline
import Derived.Lib.Hide
import Derived.Test.YtliiefkdgdflpaaWGuard
namespace Go.Proofs.Ytliiefkdgdflpaa.WBriefWide
open Go.RowKit Go.Proofs.YtliiefkdgdflpaaW.PrintWords Go.Proofs.YtliiefkdgdflpaaW.PrintLast Go.Proofs.YtliiefkdgdflpaaW.PrintMore KBriefWide PBriefWide
set_option linter.unusedVariables false

def mayB (q0 q1 q2 q3 b0 b1 b2 b3 b4 : Int) : Bool := decide (b4 ≠ 0) && decide (q0 ≤ q1 ∧ q0 ≤ b1 ∧ b0 ≤ q1 ∧ b0 ≤ b1) && (Go.bits .and .u32 q2 b2 != 0) && (Go.bits .and .u32 q3 b3 != 0)

theorem mayB_mono (q0 q1 q2 q3 p0 p1 p2 p3 b0 b1 b2 b3 b4 : Int) (h0 : p0 ≤ q0) (h1 : q1 ≤ p1) (h2 : Go.bits .and .u32 q2 b2 ≠ 0 → Go.bits .and .u32 p2 b2 ≠ 0) (h3 : Go.bits .and .u32 q3 b3 ≠ 0 → Go.bits .and .u32 p3 b3 ≠ 0) :
    mayB q0 q1 q2 q3 b0 b1 b2 b3 b4 = true → mayB p0 p1 p2 p3 b0 b1 b2 b3 b4 = true := by
  simp only [mayB, Bool.and_eq_true, decide_eq_true_eq, bne_iff_ne]
  rintro ⟨⟨⟨h4, h5⟩, h6⟩, h7⟩
  exact ⟨⟨⟨h4, by omega⟩, h2 h6⟩, h3 h7⟩

theorem may_f (q0 q1 q2 q3 b0 b1 b2 b3 b4 : Int) (b5 : Bool) : brief_May.f q0 q1 q2 q3 b0 b1 b2 b3 b4 b5 = some (mayB q0 q1 q2 q3 b0 b1 b2 b3 b4) := by
  unfold brief_May.f mayB mx mn
  generalize (Go.bits .and .u32 q2 b2) = x
  generalize (Go.bits .and .u32 q3 b3) = y
  by_cases h4 : b4 = 0
  · rw [if_pos h4]; simp [h4]
  rw [if_neg h4]
  by_cases h : q0 ≤ q1 ∧ q0 ≤ b1 ∧ b0 ≤ q1 ∧ b0 ≤ b1
  · rw [if_neg (by repeat' split
                   all_goals omega)]
    by_cases hx : x = 0
    · simp [h4, h, hx]
    · simp [h4, h, hx]
  · rw [if_pos (by repeat' split
                   all_goals omega)]
    simp [h]

theorem match_f (e0 e1 : Int) (e2 : Bool) (e3 : Int) (e4 e5 e6 e7 : ByteArray) (e8 : List S129) (e9 : ByteArray) :
    ∃ o0 o1 o2 o3 o4 : Int, ∀ q0 q1 q2 q3 : Int, brief_Match.f q0 q1 q2 q3 e0 e1 e2 e3 e4 e5 e6 e7 e8 e9 = some (decide (o4 = 1) && mayB q0 q1 q2 q3 o0 o1 o2 o3 o4) := by
  have ho : ∃ o0 o1 o2 o3 o4 o5, brief_Of.f e0 e1 e2 e3 e4 e5 e6 e7 e8 e9 false = some (o0, o1, o2, o3, o4, o5) := by
    unfold brief_Of.f brief_None.f
    simp only [Option.bind_some]
    by_cases h0 : e0 < 0
    · rw [if_pos h0]; exact ⟨_, _, _, _, _, _, rfl⟩
    rw [if_neg h0]
    by_cases h1 : e0 > 7
    · rw [if_pos h1]; exact ⟨_, _, _, _, _, _, rfl⟩
    rw [if_neg h1]
    by_cases h2 : e1 < 0
    · rw [if_pos h2]; exact ⟨_, _, _, _, _, _, rfl⟩
    rw [if_neg h2]
    by_cases h3 : e1 > 23
    · rw [if_pos h3]; exact ⟨_, _, _, _, _, _, rfl⟩
    rw [if_neg h3, if_pos (by omega), if_pos (by omega)]
    exact ⟨_, _, _, _, _, _, rfl⟩
  obtain ⟨o0, o1, o2, o3, o4, o5, ho⟩ := ho
  refine ⟨o0, o1, o2, o3, o4, fun q0 q1 q2 q3 => ?_⟩
  unfold brief_Match.f
  rw [ho]
  simp only [Option.bind_some]
  by_cases h : o4 = 1
  · rw [if_pos h, may_f]; simp [h]
  · rw [if_neg h]; simp [h]

theorem shown_eq : tabularylaw06_shown.f = some true := by decide +kernel

theorem blk_at (w : World) (o : Obj) (n : Nat) (h : w.heap.size = n) : (w.alloc o).heap[n]? = some o := h ▸ blk_new w o

set_option maxRecDepth 100000 in
set_option maxHeartbeats 4000000 in
theorem core (w : World) (q0 q1 q2 q3 k0 k1 k2 k3 e0 e1 : Int) (e2 : Bool) (e3 : Int) (e4 e5 e6 e7 : ByteArray) (A : Option Addr) (c : Nat) (e8 : List S129) (e9 : ByteArray) (b0 b1 b2 b3 b4 : Int) (b5 : Bool)
    (hC : Kd.C k129 w A e8.length e8) (hc : e8.length ≤ c) :
    Calls Try.prog 5 #[.agg #[.int .i64 q0, .int .i64 q1, .int .u32 q2, .int .u32 q3, .int .i64 k0, .int .i64 k1, .int .u32 k2, .int .u32 k3, .int .i64 e0, .int .i64 e1, .bool e2, .int .i64 e3, .string e4, .string e5, .string e6, .string e7, .slice A e8.length c, .string e9, .int .i64 b0, .int .i64 b1, .int .u32 b2, .int .u32 b3, .int .u64 b4, .bool b5]] w fun e w' => e = .returned (.bool true) ∧ Below w.heap.size w w' := by
  go_enter Try.func5, Try.ntmps5
  go_wp2_with fail
  refine (tabularylaw06_shown.calls true _ shown_eq).mono ?_; rintro e v5 ⟨rfl, hb⟩
  have HB : Below w.heap.size w v5 := by
    refine below_then ?_ ?_ hb
    · repeat (first | exact Below.refl _ _ | apply below_alloc)
    · simp only [World.alloc, Array.size_push]; omega
  have Hq : v5.heap[w.heap.size + 1]? = some (.cells #[.int .i64 q0, .int .i64 q1, .int .u32 q2, .int .u32 q3] 30 (0, 0)) := (hb.block _ (by simp only [World.alloc, Array.size_push]; omega)).trans (by repeat (first | exact blk_at _ _ _ (by simp only [World.alloc, Array.size_push]) | refine blk_alloc ?_ _))
  have Hk : v5.heap[w.heap.size + 1 + 1]? = some (.cells #[.int .i64 k0, .int .i64 k1, .int .u32 k2, .int .u32 k3] 30 (0, 0)) := (hb.block _ (by simp only [World.alloc, Array.size_push]; omega)).trans (by repeat (first | exact blk_at _ _ _ (by simp only [World.alloc, Array.size_push]) | refine blk_alloc ?_ _))
  have He : v5.heap[w.heap.size + 1 + 1 + 1]? = some (.cells #[.int .i64 e0, .int .i64 e1, .bool e2, .int .i64 e3, .string e4, .string e5, .string e6, .string e7, .slice A e8.length c, .string e9] 33 (0, 0)) := (hb.block _ (by simp only [World.alloc, Array.size_push]; omega)).trans (by repeat (first | exact blk_at _ _ _ (by simp only [World.alloc, Array.size_push]) | refine blk_alloc ?_ _))
  have Hb : v5.heap[w.heap.size + 1 + 1 + 1 + 1]? = some (.cells #[.int .i64 b0, .int .i64 b1, .int .u32 b2, .int .u32 b3, .int .u64 b4, .bool b5] 36 (0, 0)) := (hb.block _ (by simp only [World.alloc, Array.size_push]; omega)).trans (by repeat (first | exact blk_at _ _ _ (by simp only [World.alloc, Array.size_push]) | refine blk_alloc ?_ _))
  have hsz : w.heap.size + 1 + 1 + 1 + 1 < v5.heap.size := Nat.lt_of_lt_of_le (by simp only [World.alloc, Array.size_push]; omega) hb.size
  clear hb
  have nq : w.heap.size + 1 ≠ v5.heap.size := by omega
  have nk : w.heap.size + 1 + 1 ≠ v5.heap.size := by omega
  have ne : w.heap.size + 1 + 1 + 1 ≠ v5.heap.size := by omega
  have nb : w.heap.size + 1 + 1 + 1 + 1 ≠ v5.heap.size := by omega
  have hwq : w.heap.size ≤ w.heap.size + 1 := by omega
  generalize w.heap.size + 1 + 1 + 1 + 1 = gb at *
  generalize w.heap.size + 1 + 1 + 1 = ge at *
  generalize w.heap.size + 1 + 1 = gk at *
  generalize w.heap.size + 1 = gq at *
  have c_q0 : v5.cell? ⟨gq, 0, none⟩ = some (.int .i64 q0) := (blk_cell Hq 0).trans rfl; have f_q0 := blk_frozen Hq 0; have c_q1 : v5.cell? ⟨gq, 1, none⟩ = some (.int .i64 q1) := (blk_cell Hq 1).trans rfl; have f_q1 := blk_frozen Hq 1; have c_q2 : v5.cell? ⟨gq, 2, none⟩ = some (.int .u32 q2) := (blk_cell Hq 2).trans rfl; have f_q2 := blk_frozen Hq 2; have c_q3 : v5.cell? ⟨gq, 3, none⟩ = some (.int .u32 q3) := (blk_cell Hq 3).trans rfl; have f_q3 := blk_frozen Hq 3
  have c_k0 : v5.cell? ⟨gk, 0, none⟩ = some (.int .i64 k0) := (blk_cell Hk 0).trans rfl; have f_k0 := blk_frozen Hk 0; have c_k1 : v5.cell? ⟨gk, 1, none⟩ = some (.int .i64 k1) := (blk_cell Hk 1).trans rfl; have f_k1 := blk_frozen Hk 1; have c_k2 : v5.cell? ⟨gk, 2, none⟩ = some (.int .u32 k2) := (blk_cell Hk 2).trans rfl; have f_k2 := blk_frozen Hk 2; have c_k3 : v5.cell? ⟨gk, 3, none⟩ = some (.int .u32 k3) := (blk_cell Hk 3).trans rfl; have f_k3 := blk_frozen Hk 3
  have c_e0 : v5.cell? ⟨ge, 0, none⟩ = some (.int .i64 e0) := (blk_cell He 0).trans rfl; have f_e0 := blk_frozen He 0; have c_e1 : v5.cell? ⟨ge, 1, none⟩ = some (.int .i64 e1) := (blk_cell He 1).trans rfl; have f_e1 := blk_frozen He 1; have c_e2 : v5.cell? ⟨ge, 2, none⟩ = some (.bool e2) := (blk_cell He 2).trans rfl; have f_e2 := blk_frozen He 2; have c_e3 : v5.cell? ⟨ge, 3, none⟩ = some (.int .i64 e3) := (blk_cell He 3).trans rfl; have f_e3 := blk_frozen He 3; have c_e4 : v5.cell? ⟨ge, 4, none⟩ = some (.string e4) := (blk_cell He 4).trans rfl; have f_e4 := blk_frozen He 4; have c_e5 : v5.cell? ⟨ge, 5, none⟩ = some (.string e5) := (blk_cell He 5).trans rfl; have f_e5 := blk_frozen He 5; have c_e6 : v5.cell? ⟨ge, 6, none⟩ = some (.string e6) := (blk_cell He 6).trans rfl; have f_e6 := blk_frozen He 6; have c_e7 : v5.cell? ⟨ge, 7, none⟩ = some (.string e7) := (blk_cell He 7).trans rfl; have f_e7 := blk_frozen He 7; have c_e8 : v5.cell? ⟨ge, 8, none⟩ = some (.slice A e8.length c) := (blk_cell He 8).trans rfl; have f_e8 := blk_frozen He 8; have c_e9 : v5.cell? ⟨ge, 9, none⟩ = some (.string e9) := (blk_cell He 9).trans rfl; have f_e9 := blk_frozen He 9
  have c_b0 : v5.cell? ⟨gb, 0, none⟩ = some (.int .i64 b0) := (blk_cell Hb 0).trans rfl; have f_b0 := blk_frozen Hb 0; have c_b1 : v5.cell? ⟨gb, 1, none⟩ = some (.int .i64 b1) := (blk_cell Hb 1).trans rfl; have f_b1 := blk_frozen Hb 1; have c_b2 : v5.cell? ⟨gb, 2, none⟩ = some (.int .u32 b2) := (blk_cell Hb 2).trans rfl; have f_b2 := blk_frozen Hb 2; have c_b3 : v5.cell? ⟨gb, 3, none⟩ = some (.int .u32 b3) := (blk_cell Hb 3).trans rfl; have f_b3 := blk_frozen Hb 3; have c_b4 : v5.cell? ⟨gb, 4, none⟩ = some (.int .u64 b4) := (blk_cell Hb 4).trans rfl; have f_b4 := blk_frozen Hb 4; have c_b5 : v5.cell? ⟨gb, 5, none⟩ = some (.bool b5) := (blk_cell Hb 5).trans rfl; have f_b5 := blk_frozen Hb 5
  have hwg : w.heap.size ≤ v5.heap.size := HB.size
  have aq0 : (v5.alloc (.cells #[.int .i64 q0, .int .i64 q1, .int .u32 (Go.bits .or .u32 q2 k2), .int .u32 (Go.bits .or .u32 q3 k3)] 30 (0, 0))).cell? ⟨gq, 0, none⟩ = some (.int .i64 q0) := (blk_cell (blk_alloc Hq (.cells #[.int .i64 q0, .int .i64 q1, .int .u32 (Go.bits .or .u32 q2 k2), .int .u32 (Go.bits .or .u32 q3 k3)] 30 (0, 0))) 0).trans rfl
  have aq1 : (v5.alloc (.cells #[.int .i64 q0, .int .i64 q1, .int .u32 (Go.bits .or .u32 q2 k2), .int .u32 (Go.bits .or .u32 q3 k3)] 30 (0, 0))).cell? ⟨gq, 1, none⟩ = some (.int .i64 q1) := (blk_cell (blk_alloc Hq (.cells #[.int .i64 q0, .int .i64 q1, .int .u32 (Go.bits .or .u32 q2 k2), .int .u32 (Go.bits .or .u32 q3 k3)] 30 (0, 0))) 1).trans rfl
  have aq2 : (v5.alloc (.cells #[.int .i64 q0, .int .i64 q1, .int .u32 (Go.bits .or .u32 q2 k2), .int .u32 (Go.bits .or .u32 q3 k3)] 30 (0, 0))).cell? ⟨gq, 2, none⟩ = some (.int .u32 q2) := (blk_cell (blk_alloc Hq (.cells #[.int .i64 q0, .int .i64 q1, .int .u32 (Go.bits .or .u32 q2 k2), .int .u32 (Go.bits .or .u32 q3 k3)] 30 (0, 0))) 2).trans rfl
  have aq3 : (v5.alloc (.cells #[.int .i64 q0, .int .i64 q1, .int .u32 (Go.bits .or .u32 q2 k2), .int .u32 (Go.bits .or .u32 q3 k3)] 30 (0, 0))).cell? ⟨gq, 3, none⟩ = some (.int .u32 q3) := (blk_cell (blk_alloc Hq (.cells #[.int .i64 q0, .int .i64 q1, .int .u32 (Go.bits .or .u32 q2 k2), .int .u32 (Go.bits .or .u32 q3 k3)] 30 (0, 0))) 3).trans rfl
  have ak0 : (v5.alloc (.cells #[.int .i64 q0, .int .i64 q1, .int .u32 (Go.bits .or .u32 q2 k2), .int .u32 (Go.bits .or .u32 q3 k3)] 30 (0, 0))).cell? ⟨gk, 0, none⟩ = some (.int .i64 k0) := (blk_cell (blk_alloc Hk (.cells #[.int .i64 q0, .int .i64 q1, .int .u32 (Go.bits .or .u32 q2 k2), .int .u32 (Go.bits .or .u32 q3 k3)] 30 (0, 0))) 0).trans rfl
  have ak1 : (v5.alloc (.cells #[.int .i64 q0, .int .i64 q1, .int .u32 (Go.bits .or .u32 q2 k2), .int .u32 (Go.bits .or .u32 q3 k3)] 30 (0, 0))).cell? ⟨gk, 1, none⟩ = some (.int .i64 k1) := (blk_cell (blk_alloc Hk (.cells #[.int .i64 q0, .int .i64 q1, .int .u32 (Go.bits .or .u32 q2 k2), .int .u32 (Go.bits .or .u32 q3 k3)] 30 (0, 0))) 1).trans rfl
  have ak2 : (v5.alloc (.cells #[.int .i64 q0, .int .i64 q1, .int .u32 (Go.bits .or .u32 q2 k2), .int .u32 (Go.bits .or .u32 q3 k3)] 30 (0, 0))).cell? ⟨gk, 2, none⟩ = some (.int .u32 k2) := (blk_cell (blk_alloc Hk (.cells #[.int .i64 q0, .int .i64 q1, .int .u32 (Go.bits .or .u32 q2 k2), .int .u32 (Go.bits .or .u32 q3 k3)] 30 (0, 0))) 2).trans rfl
  have ak3 : (v5.alloc (.cells #[.int .i64 q0, .int .i64 q1, .int .u32 (Go.bits .or .u32 q2 k2), .int .u32 (Go.bits .or .u32 q3 k3)] 30 (0, 0))).cell? ⟨gk, 3, none⟩ = some (.int .u32 k3) := (blk_cell (blk_alloc Hk (.cells #[.int .i64 q0, .int .i64 q1, .int .u32 (Go.bits .or .u32 q2 k2), .int .u32 (Go.bits .or .u32 q3 k3)] 30 (0, 0))) 3).trans rfl
  obtain ⟨o0, o1, o2, o3, o4, hm⟩ := match_f e0 e1 e2 e3 e4 e5 e6 e7 e8 e9
  have mt := Lib.hid (fun (x0 x1 x2 x3 : Int) (W : World) (hW : Below w.heap.size w W) => brief_Match.calls x0 x1 x2 x3 e0 e1 e2 e3 e4 e5 e6 e7 A c e8 e9 _ W (Kd.C_below hC hW) hc (hm x0 x1 x2 x3))
  have my := Lib.hid (fun (x0 x1 x2 x3 : Int) (W : World) => brief_May.calls x0 x1 x2 x3 b0 b1 b2 b3 b4 b5 _ W (may_f x0 x1 x2 x3 b0 b1 b2 b3 b4 b5))
  clear hm
  by_cases h1 : k0 < q0
  · skip
    have d1 : decide (k0 < q0) = true := decide_eq_true h1
    have pq0 : (v5.alloc (.cells #[.int .i64 k0, .int .i64 q1, .int .u32 (Go.bits .or .u32 q2 k2), .int .u32 (Go.bits .or .u32 q3 k3)] 30 (0, 0))).cell? ⟨gq, 0, none⟩ = some (.int .i64 q0) := (blk_cell (blk_alloc Hq (.cells #[.int .i64 k0, .int .i64 q1, .int .u32 (Go.bits .or .u32 q2 k2), .int .u32 (Go.bits .or .u32 q3 k3)] 30 (0, 0))) 0).trans rfl
    have pq1 : (v5.alloc (.cells #[.int .i64 k0, .int .i64 q1, .int .u32 (Go.bits .or .u32 q2 k2), .int .u32 (Go.bits .or .u32 q3 k3)] 30 (0, 0))).cell? ⟨gq, 1, none⟩ = some (.int .i64 q1) := (blk_cell (blk_alloc Hq (.cells #[.int .i64 k0, .int .i64 q1, .int .u32 (Go.bits .or .u32 q2 k2), .int .u32 (Go.bits .or .u32 q3 k3)] 30 (0, 0))) 1).trans rfl
    have pq2 : (v5.alloc (.cells #[.int .i64 k0, .int .i64 q1, .int .u32 (Go.bits .or .u32 q2 k2), .int .u32 (Go.bits .or .u32 q3 k3)] 30 (0, 0))).cell? ⟨gq, 2, none⟩ = some (.int .u32 q2) := (blk_cell (blk_alloc Hq (.cells #[.int .i64 k0, .int .i64 q1, .int .u32 (Go.bits .or .u32 q2 k2), .int .u32 (Go.bits .or .u32 q3 k3)] 30 (0, 0))) 2).trans rfl
    have pq3 : (v5.alloc (.cells #[.int .i64 k0, .int .i64 q1, .int .u32 (Go.bits .or .u32 q2 k2), .int .u32 (Go.bits .or .u32 q3 k3)] 30 (0, 0))).cell? ⟨gq, 3, none⟩ = some (.int .u32 q3) := (blk_cell (blk_alloc Hq (.cells #[.int .i64 k0, .int .i64 q1, .int .u32 (Go.bits .or .u32 q2 k2), .int .u32 (Go.bits .or .u32 q3 k3)] 30 (0, 0))) 3).trans rfl
    have pk0 : (v5.alloc (.cells #[.int .i64 k0, .int .i64 q1, .int .u32 (Go.bits .or .u32 q2 k2), .int .u32 (Go.bits .or .u32 q3 k3)] 30 (0, 0))).cell? ⟨gk, 0, none⟩ = some (.int .i64 k0) := (blk_cell (blk_alloc Hk (.cells #[.int .i64 k0, .int .i64 q1, .int .u32 (Go.bits .or .u32 q2 k2), .int .u32 (Go.bits .or .u32 q3 k3)] 30 (0, 0))) 0).trans rfl
    have pk1 : (v5.alloc (.cells #[.int .i64 k0, .int .i64 q1, .int .u32 (Go.bits .or .u32 q2 k2), .int .u32 (Go.bits .or .u32 q3 k3)] 30 (0, 0))).cell? ⟨gk, 1, none⟩ = some (.int .i64 k1) := (blk_cell (blk_alloc Hk (.cells #[.int .i64 k0, .int .i64 q1, .int .u32 (Go.bits .or .u32 q2 k2), .int .u32 (Go.bits .or .u32 q3 k3)] 30 (0, 0))) 1).trans rfl
    have pk2 : (v5.alloc (.cells #[.int .i64 k0, .int .i64 q1, .int .u32 (Go.bits .or .u32 q2 k2), .int .u32 (Go.bits .or .u32 q3 k3)] 30 (0, 0))).cell? ⟨gk, 2, none⟩ = some (.int .u32 k2) := (blk_cell (blk_alloc Hk (.cells #[.int .i64 k0, .int .i64 q1, .int .u32 (Go.bits .or .u32 q2 k2), .int .u32 (Go.bits .or .u32 q3 k3)] 30 (0, 0))) 2).trans rfl
    have pk3 : (v5.alloc (.cells #[.int .i64 k0, .int .i64 q1, .int .u32 (Go.bits .or .u32 q2 k2), .int .u32 (Go.bits .or .u32 q3 k3)] 30 (0, 0))).cell? ⟨gk, 3, none⟩ = some (.int .u32 k3) := (blk_cell (blk_alloc Hk (.cells #[.int .i64 k0, .int .i64 q1, .int .u32 (Go.bits .or .u32 q2 k2), .int .u32 (Go.bits .or .u32 q3 k3)] 30 (0, 0))) 3).trans rfl
    by_cases h2 : k1 > q1
    · skip
      have d2 : decide (k1 > q1) = true := decide_eq_true h2
      have sq0 : (v5.alloc (.cells #[.int .i64 k0, .int .i64 k1, .int .u32 (Go.bits .or .u32 q2 k2), .int .u32 (Go.bits .or .u32 q3 k3)] 30 (0, 0))).cell? ⟨gq, 0, none⟩ = some (.int .i64 q0) := (blk_cell (blk_alloc Hq (.cells #[.int .i64 k0, .int .i64 k1, .int .u32 (Go.bits .or .u32 q2 k2), .int .u32 (Go.bits .or .u32 q3 k3)] 30 (0, 0))) 0).trans rfl
      have sq1 : (v5.alloc (.cells #[.int .i64 k0, .int .i64 k1, .int .u32 (Go.bits .or .u32 q2 k2), .int .u32 (Go.bits .or .u32 q3 k3)] 30 (0, 0))).cell? ⟨gq, 1, none⟩ = some (.int .i64 q1) := (blk_cell (blk_alloc Hq (.cells #[.int .i64 k0, .int .i64 k1, .int .u32 (Go.bits .or .u32 q2 k2), .int .u32 (Go.bits .or .u32 q3 k3)] 30 (0, 0))) 1).trans rfl
      have sq2 : (v5.alloc (.cells #[.int .i64 k0, .int .i64 k1, .int .u32 (Go.bits .or .u32 q2 k2), .int .u32 (Go.bits .or .u32 q3 k3)] 30 (0, 0))).cell? ⟨gq, 2, none⟩ = some (.int .u32 q2) := (blk_cell (blk_alloc Hq (.cells #[.int .i64 k0, .int .i64 k1, .int .u32 (Go.bits .or .u32 q2 k2), .int .u32 (Go.bits .or .u32 q3 k3)] 30 (0, 0))) 2).trans rfl
      have sq3 : (v5.alloc (.cells #[.int .i64 k0, .int .i64 k1, .int .u32 (Go.bits .or .u32 q2 k2), .int .u32 (Go.bits .or .u32 q3 k3)] 30 (0, 0))).cell? ⟨gq, 3, none⟩ = some (.int .u32 q3) := (blk_cell (blk_alloc Hq (.cells #[.int .i64 k0, .int .i64 k1, .int .u32 (Go.bits .or .u32 q2 k2), .int .u32 (Go.bits .or .u32 q3 k3)] 30 (0, 0))) 3).trans rfl
      have sk0 : (v5.alloc (.cells #[.int .i64 k0, .int .i64 k1, .int .u32 (Go.bits .or .u32 q2 k2), .int .u32 (Go.bits .or .u32 q3 k3)] 30 (0, 0))).cell? ⟨gk, 0, none⟩ = some (.int .i64 k0) := (blk_cell (blk_alloc Hk (.cells #[.int .i64 k0, .int .i64 k1, .int .u32 (Go.bits .or .u32 q2 k2), .int .u32 (Go.bits .or .u32 q3 k3)] 30 (0, 0))) 0).trans rfl
      have sk1 : (v5.alloc (.cells #[.int .i64 k0, .int .i64 k1, .int .u32 (Go.bits .or .u32 q2 k2), .int .u32 (Go.bits .or .u32 q3 k3)] 30 (0, 0))).cell? ⟨gk, 1, none⟩ = some (.int .i64 k1) := (blk_cell (blk_alloc Hk (.cells #[.int .i64 k0, .int .i64 k1, .int .u32 (Go.bits .or .u32 q2 k2), .int .u32 (Go.bits .or .u32 q3 k3)] 30 (0, 0))) 1).trans rfl
      have sk2 : (v5.alloc (.cells #[.int .i64 k0, .int .i64 k1, .int .u32 (Go.bits .or .u32 q2 k2), .int .u32 (Go.bits .or .u32 q3 k3)] 30 (0, 0))).cell? ⟨gk, 2, none⟩ = some (.int .u32 k2) := (blk_cell (blk_alloc Hk (.cells #[.int .i64 k0, .int .i64 k1, .int .u32 (Go.bits .or .u32 q2 k2), .int .u32 (Go.bits .or .u32 q3 k3)] 30 (0, 0))) 2).trans rfl
      have sk3 : (v5.alloc (.cells #[.int .i64 k0, .int .i64 k1, .int .u32 (Go.bits .or .u32 q2 k2), .int .u32 (Go.bits .or .u32 q3 k3)] 30 (0, 0))).cell? ⟨gk, 3, none⟩ = some (.int .u32 k3) := (blk_cell (blk_alloc Hk (.cells #[.int .i64 k0, .int .i64 k1, .int .u32 (Go.bits .or .u32 q2 k2), .int .u32 (Go.bits .or .u32 q3 k3)] 30 (0, 0))) 3).trans rfl
      have se0 : (v5.alloc (.cells #[.int .i64 k0, .int .i64 k1, .int .u32 (Go.bits .or .u32 q2 k2), .int .u32 (Go.bits .or .u32 q3 k3)] 30 (0, 0))).cell? ⟨ge, 0, none⟩ = some (.int .i64 e0) := (blk_cell (blk_alloc He (.cells #[.int .i64 k0, .int .i64 k1, .int .u32 (Go.bits .or .u32 q2 k2), .int .u32 (Go.bits .or .u32 q3 k3)] 30 (0, 0))) 0).trans rfl
      have se1 : (v5.alloc (.cells #[.int .i64 k0, .int .i64 k1, .int .u32 (Go.bits .or .u32 q2 k2), .int .u32 (Go.bits .or .u32 q3 k3)] 30 (0, 0))).cell? ⟨ge, 1, none⟩ = some (.int .i64 e1) := (blk_cell (blk_alloc He (.cells #[.int .i64 k0, .int .i64 k1, .int .u32 (Go.bits .or .u32 q2 k2), .int .u32 (Go.bits .or .u32 q3 k3)] 30 (0, 0))) 1).trans rfl
      have se2 : (v5.alloc (.cells #[.int .i64 k0, .int .i64 k1, .int .u32 (Go.bits .or .u32 q2 k2), .int .u32 (Go.bits .or .u32 q3 k3)] 30 (0, 0))).cell? ⟨ge, 2, none⟩ = some (.bool e2) := (blk_cell (blk_alloc He (.cells #[.int .i64 k0, .int .i64 k1, .int .u32 (Go.bits .or .u32 q2 k2), .int .u32 (Go.bits .or .u32 q3 k3)] 30 (0, 0))) 2).trans rfl
      have se3 : (v5.alloc (.cells #[.int .i64 k0, .int .i64 k1, .int .u32 (Go.bits .or .u32 q2 k2), .int .u32 (Go.bits .or .u32 q3 k3)] 30 (0, 0))).cell? ⟨ge, 3, none⟩ = some (.int .i64 e3) := (blk_cell (blk_alloc He (.cells #[.int .i64 k0, .int .i64 k1, .int .u32 (Go.bits .or .u32 q2 k2), .int .u32 (Go.bits .or .u32 q3 k3)] 30 (0, 0))) 3).trans rfl
      have se4 : (v5.alloc (.cells #[.int .i64 k0, .int .i64 k1, .int .u32 (Go.bits .or .u32 q2 k2), .int .u32 (Go.bits .or .u32 q3 k3)] 30 (0, 0))).cell? ⟨ge, 4, none⟩ = some (.string e4) := (blk_cell (blk_alloc He (.cells #[.int .i64 k0, .int .i64 k1, .int .u32 (Go.bits .or .u32 q2 k2), .int .u32 (Go.bits .or .u32 q3 k3)] 30 (0, 0))) 4).trans rfl
      have se5 : (v5.alloc (.cells #[.int .i64 k0, .int .i64 k1, .int .u32 (Go.bits .or .u32 q2 k2), .int .u32 (Go.bits .or .u32 q3 k3)] 30 (0, 0))).cell? ⟨ge, 5, none⟩ = some (.string e5) := (blk_cell (blk_alloc He (.cells #[.int .i64 k0, .int .i64 k1, .int .u32 (Go.bits .or .u32 q2 k2), .int .u32 (Go.bits .or .u32 q3 k3)] 30 (0, 0))) 5).trans rfl
      have se6 : (v5.alloc (.cells #[.int .i64 k0, .int .i64 k1, .int .u32 (Go.bits .or .u32 q2 k2), .int .u32 (Go.bits .or .u32 q3 k3)] 30 (0, 0))).cell? ⟨ge, 6, none⟩ = some (.string e6) := (blk_cell (blk_alloc He (.cells #[.int .i64 k0, .int .i64 k1, .int .u32 (Go.bits .or .u32 q2 k2), .int .u32 (Go.bits .or .u32 q3 k3)] 30 (0, 0))) 6).trans rfl
      have se7 : (v5.alloc (.cells #[.int .i64 k0, .int .i64 k1, .int .u32 (Go.bits .or .u32 q2 k2), .int .u32 (Go.bits .or .u32 q3 k3)] 30 (0, 0))).cell? ⟨ge, 7, none⟩ = some (.string e7) := (blk_cell (blk_alloc He (.cells #[.int .i64 k0, .int .i64 k1, .int .u32 (Go.bits .or .u32 q2 k2), .int .u32 (Go.bits .or .u32 q3 k3)] 30 (0, 0))) 7).trans rfl
      have se8 : (v5.alloc (.cells #[.int .i64 k0, .int .i64 k1, .int .u32 (Go.bits .or .u32 q2 k2), .int .u32 (Go.bits .or .u32 q3 k3)] 30 (0, 0))).cell? ⟨ge, 8, none⟩ = some (.slice A e8.length c) := (blk_cell (blk_alloc He (.cells #[.int .i64 k0, .int .i64 k1, .int .u32 (Go.bits .or .u32 q2 k2), .int .u32 (Go.bits .or .u32 q3 k3)] 30 (0, 0))) 8).trans rfl
      have se9 : (v5.alloc (.cells #[.int .i64 k0, .int .i64 k1, .int .u32 (Go.bits .or .u32 q2 k2), .int .u32 (Go.bits .or .u32 q3 k3)] 30 (0, 0))).cell? ⟨ge, 9, none⟩ = some (.string e9) := (blk_cell (blk_alloc He (.cells #[.int .i64 k0, .int .i64 k1, .int .u32 (Go.bits .or .u32 q2 k2), .int .u32 (Go.bits .or .u32 q3 k3)] 30 (0, 0))) 9).trans rfl
      have sb0 : (v5.alloc (.cells #[.int .i64 k0, .int .i64 k1, .int .u32 (Go.bits .or .u32 q2 k2), .int .u32 (Go.bits .or .u32 q3 k3)] 30 (0, 0))).cell? ⟨gb, 0, none⟩ = some (.int .i64 b0) := (blk_cell (blk_alloc Hb (.cells #[.int .i64 k0, .int .i64 k1, .int .u32 (Go.bits .or .u32 q2 k2), .int .u32 (Go.bits .or .u32 q3 k3)] 30 (0, 0))) 0).trans rfl
      have sb1 : (v5.alloc (.cells #[.int .i64 k0, .int .i64 k1, .int .u32 (Go.bits .or .u32 q2 k2), .int .u32 (Go.bits .or .u32 q3 k3)] 30 (0, 0))).cell? ⟨gb, 1, none⟩ = some (.int .i64 b1) := (blk_cell (blk_alloc Hb (.cells #[.int .i64 k0, .int .i64 k1, .int .u32 (Go.bits .or .u32 q2 k2), .int .u32 (Go.bits .or .u32 q3 k3)] 30 (0, 0))) 1).trans rfl
      have sb2 : (v5.alloc (.cells #[.int .i64 k0, .int .i64 k1, .int .u32 (Go.bits .or .u32 q2 k2), .int .u32 (Go.bits .or .u32 q3 k3)] 30 (0, 0))).cell? ⟨gb, 2, none⟩ = some (.int .u32 b2) := (blk_cell (blk_alloc Hb (.cells #[.int .i64 k0, .int .i64 k1, .int .u32 (Go.bits .or .u32 q2 k2), .int .u32 (Go.bits .or .u32 q3 k3)] 30 (0, 0))) 2).trans rfl
      have sb3 : (v5.alloc (.cells #[.int .i64 k0, .int .i64 k1, .int .u32 (Go.bits .or .u32 q2 k2), .int .u32 (Go.bits .or .u32 q3 k3)] 30 (0, 0))).cell? ⟨gb, 3, none⟩ = some (.int .u32 b3) := (blk_cell (blk_alloc Hb (.cells #[.int .i64 k0, .int .i64 k1, .int .u32 (Go.bits .or .u32 q2 k2), .int .u32 (Go.bits .or .u32 q3 k3)] 30 (0, 0))) 3).trans rfl
      have sb4 : (v5.alloc (.cells #[.int .i64 k0, .int .i64 k1, .int .u32 (Go.bits .or .u32 q2 k2), .int .u32 (Go.bits .or .u32 q3 k3)] 30 (0, 0))).cell? ⟨gb, 4, none⟩ = some (.int .u64 b4) := (blk_cell (blk_alloc Hb (.cells #[.int .i64 k0, .int .i64 k1, .int .u32 (Go.bits .or .u32 q2 k2), .int .u32 (Go.bits .or .u32 q3 k3)] 30 (0, 0))) 4).trans rfl
      have sb5 : (v5.alloc (.cells #[.int .i64 k0, .int .i64 k1, .int .u32 (Go.bits .or .u32 q2 k2), .int .u32 (Go.bits .or .u32 q3 k3)] 30 (0, 0))).cell? ⟨gb, 5, none⟩ = some (.bool b5) := (blk_cell (blk_alloc Hb (.cells #[.int .i64 k0, .int .i64 k1, .int .u32 (Go.bits .or .u32 q2 k2), .int .u32 (Go.bits .or .u32 q3 k3)] 30 (0, 0))) 5).trans rfl
      have sw0 : (v5.alloc (.cells #[.int .i64 k0, .int .i64 k1, .int .u32 (Go.bits .or .u32 q2 k2), .int .u32 (Go.bits .or .u32 q3 k3)] 30 (0, 0))).cell? ⟨v5.heap.size, 0, none⟩ = some (.int .i64 k0) := (blk_cell (blk_new v5 (.cells #[.int .i64 k0, .int .i64 k1, .int .u32 (Go.bits .or .u32 q2 k2), .int .u32 (Go.bits .or .u32 q3 k3)] 30 (0, 0))) 0).trans rfl
      have Fsw0 := blk_frozen (blk_new v5 (.cells #[.int .i64 k0, .int .i64 k1, .int .u32 (Go.bits .or .u32 q2 k2), .int .u32 (Go.bits .or .u32 q3 k3)] 30 (0, 0))) 0
      have sw1 : (v5.alloc (.cells #[.int .i64 k0, .int .i64 k1, .int .u32 (Go.bits .or .u32 q2 k2), .int .u32 (Go.bits .or .u32 q3 k3)] 30 (0, 0))).cell? ⟨v5.heap.size, 1, none⟩ = some (.int .i64 k1) := (blk_cell (blk_new v5 (.cells #[.int .i64 k0, .int .i64 k1, .int .u32 (Go.bits .or .u32 q2 k2), .int .u32 (Go.bits .or .u32 q3 k3)] 30 (0, 0))) 1).trans rfl
      have Fsw1 := blk_frozen (blk_new v5 (.cells #[.int .i64 k0, .int .i64 k1, .int .u32 (Go.bits .or .u32 q2 k2), .int .u32 (Go.bits .or .u32 q3 k3)] 30 (0, 0))) 1
      have sw2 : (v5.alloc (.cells #[.int .i64 k0, .int .i64 k1, .int .u32 (Go.bits .or .u32 q2 k2), .int .u32 (Go.bits .or .u32 q3 k3)] 30 (0, 0))).cell? ⟨v5.heap.size, 2, none⟩ = some (.int .u32 (Go.bits .or .u32 q2 k2)) := (blk_cell (blk_new v5 (.cells #[.int .i64 k0, .int .i64 k1, .int .u32 (Go.bits .or .u32 q2 k2), .int .u32 (Go.bits .or .u32 q3 k3)] 30 (0, 0))) 2).trans rfl
      have Fsw2 := blk_frozen (blk_new v5 (.cells #[.int .i64 k0, .int .i64 k1, .int .u32 (Go.bits .or .u32 q2 k2), .int .u32 (Go.bits .or .u32 q3 k3)] 30 (0, 0))) 2
      have sw3 : (v5.alloc (.cells #[.int .i64 k0, .int .i64 k1, .int .u32 (Go.bits .or .u32 q2 k2), .int .u32 (Go.bits .or .u32 q3 k3)] 30 (0, 0))).cell? ⟨v5.heap.size, 3, none⟩ = some (.int .u32 (Go.bits .or .u32 q3 k3)) := (blk_cell (blk_new v5 (.cells #[.int .i64 k0, .int .i64 k1, .int .u32 (Go.bits .or .u32 q2 k2), .int .u32 (Go.bits .or .u32 q3 k3)] 30 (0, 0))) 3).trans rfl
      have Fsw3 := blk_frozen (blk_new v5 (.cells #[.int .i64 k0, .int .i64 k1, .int .u32 (Go.bits .or .u32 q2 k2), .int .u32 (Go.bits .or .u32 q3 k3)] 30 (0, 0))) 3
      have Mmq := Lib.hid (mayB_mono q0 q1 q2 q3 (k0) (k1) ((Go.bits .or .u32 q2 k2)) ((Go.bits .or .u32 q3 k3)) o0 o1 o2 o3 o4 (by omega) (by omega) (Mono.or_left _ _ _) (Mono.or_left _ _ _))
      have Mbq := Lib.hid (mayB_mono q0 q1 q2 q3 (k0) (k1) ((Go.bits .or .u32 q2 k2)) ((Go.bits .or .u32 q3 k3)) b0 b1 b2 b3 b4 (by omega) (by omega) (Mono.or_left _ _ _) (Mono.or_left _ _ _))
      have Mbk := Lib.hid (mayB_mono k0 k1 k2 k3 (k0) (k1) ((Go.bits .or .u32 q2 k2)) ((Go.bits .or .u32 q3 k3)) b0 b1 b2 b3 b4 (by omega) (by omega) (Mono.or_right _ _ _) (Mono.or_right _ _ _))
      have LW := Lib.hid (And.intro (blk_new v5 (.cells #[.int .i64 k0, .int .i64 k1, .int .u32 (Go.bits .or .u32 q2 k2), .int .u32 (Go.bits .or .u32 q3 k3)] 30 (0, 0))) (below_alloc HB (.cells #[.int .i64 k0, .int .i64 k1, .int .u32 (Go.bits .or .u32 q2 k2), .int .u32 (Go.bits .or .u32 q3 k3)] 30 (0, 0))))
      have Lq := Lib.hid (blk_alloc Hq (.cells #[.int .i64 k0, .int .i64 k1, .int .u32 (Go.bits .or .u32 q2 k2), .int .u32 (Go.bits .or .u32 q3 k3)] 30 (0, 0)))
      have Lk := Lib.hid (blk_alloc Hk (.cells #[.int .i64 k0, .int .i64 k1, .int .u32 (Go.bits .or .u32 q2 k2), .int .u32 (Go.bits .or .u32 q3 k3)] 30 (0, 0)))
      have Le := Lib.hid (blk_alloc He (.cells #[.int .i64 k0, .int .i64 k1, .int .u32 (Go.bits .or .u32 q2 k2), .int .u32 (Go.bits .or .u32 q3 k3)] 30 (0, 0)))
      have Lb := Lib.hid (blk_alloc Hb (.cells #[.int .i64 k0, .int .i64 k1, .int .u32 (Go.bits .or .u32 q2 k2), .int .u32 (Go.bits .or .u32 q3 k3)] 30 (0, 0)))
      go_wp2_with fail
      refine (mt.out q0 q1 q2 q3 _ LW.out.2).mono ?_
      rintro e u1 ⟨rfl, hbc⟩
      have BB1 := Lib.hid (below_then LW.out.2 (LW.out.2).size hbc)
      have Lw1 := Lib.hid ((hbc.block _ (blk_lt LW.out.1)).trans LW.out.1)
      have Lq1 := Lib.hid ((hbc.block _ (blk_lt Lq.out)).trans Lq.out)
      have Lk1 := Lib.hid ((hbc.block _ (blk_lt Lk.out)).trans Lk.out)
      have Le1 := Lib.hid ((hbc.block _ (blk_lt Le.out)).trans Le.out)
      have Lb1 := Lib.hid ((hbc.block _ (blk_lt Lb.out)).trans Lb.out)
      clear hbc
      have tw0_1 : u1.cell? ⟨v5.heap.size, 0, none⟩ = some (.int .i64 k0) := (blk_cell Lw1.out 0).trans rfl
      have tw1_1 : u1.cell? ⟨v5.heap.size, 1, none⟩ = some (.int .i64 k1) := (blk_cell Lw1.out 1).trans rfl
      have tw2_1 : u1.cell? ⟨v5.heap.size, 2, none⟩ = some (.int .u32 (Go.bits .or .u32 q2 k2)) := (blk_cell Lw1.out 2).trans rfl
      have tw3_1 : u1.cell? ⟨v5.heap.size, 3, none⟩ = some (.int .u32 (Go.bits .or .u32 q3 k3)) := (blk_cell Lw1.out 3).trans rfl
      have tq0_1 : u1.cell? ⟨gq, 0, none⟩ = some (.int .i64 q0) := (blk_cell Lq1.out 0).trans rfl
      have tq1_1 : u1.cell? ⟨gq, 1, none⟩ = some (.int .i64 q1) := (blk_cell Lq1.out 1).trans rfl
      have tq2_1 : u1.cell? ⟨gq, 2, none⟩ = some (.int .u32 q2) := (blk_cell Lq1.out 2).trans rfl
      have tq3_1 : u1.cell? ⟨gq, 3, none⟩ = some (.int .u32 q3) := (blk_cell Lq1.out 3).trans rfl
      have tk0_1 : u1.cell? ⟨gk, 0, none⟩ = some (.int .i64 k0) := (blk_cell Lk1.out 0).trans rfl
      have tk1_1 : u1.cell? ⟨gk, 1, none⟩ = some (.int .i64 k1) := (blk_cell Lk1.out 1).trans rfl
      have tk2_1 : u1.cell? ⟨gk, 2, none⟩ = some (.int .u32 k2) := (blk_cell Lk1.out 2).trans rfl
      have tk3_1 : u1.cell? ⟨gk, 3, none⟩ = some (.int .u32 k3) := (blk_cell Lk1.out 3).trans rfl
      have te0_1 : u1.cell? ⟨ge, 0, none⟩ = some (.int .i64 e0) := (blk_cell Le1.out 0).trans rfl
      have te1_1 : u1.cell? ⟨ge, 1, none⟩ = some (.int .i64 e1) := (blk_cell Le1.out 1).trans rfl
      have te2_1 : u1.cell? ⟨ge, 2, none⟩ = some (.bool e2) := (blk_cell Le1.out 2).trans rfl
      have te3_1 : u1.cell? ⟨ge, 3, none⟩ = some (.int .i64 e3) := (blk_cell Le1.out 3).trans rfl
      have te4_1 : u1.cell? ⟨ge, 4, none⟩ = some (.string e4) := (blk_cell Le1.out 4).trans rfl
      have te5_1 : u1.cell? ⟨ge, 5, none⟩ = some (.string e5) := (blk_cell Le1.out 5).trans rfl
      have te6_1 : u1.cell? ⟨ge, 6, none⟩ = some (.string e6) := (blk_cell Le1.out 6).trans rfl
      have te7_1 : u1.cell? ⟨ge, 7, none⟩ = some (.string e7) := (blk_cell Le1.out 7).trans rfl
      have te8_1 : u1.cell? ⟨ge, 8, none⟩ = some (.slice A e8.length c) := (blk_cell Le1.out 8).trans rfl
      have te9_1 : u1.cell? ⟨ge, 9, none⟩ = some (.string e9) := (blk_cell Le1.out 9).trans rfl
      have tb0_1 : u1.cell? ⟨gb, 0, none⟩ = some (.int .i64 b0) := (blk_cell Lb1.out 0).trans rfl
      have tb1_1 : u1.cell? ⟨gb, 1, none⟩ = some (.int .i64 b1) := (blk_cell Lb1.out 1).trans rfl
      have tb2_1 : u1.cell? ⟨gb, 2, none⟩ = some (.int .u32 b2) := (blk_cell Lb1.out 2).trans rfl
      have tb3_1 : u1.cell? ⟨gb, 3, none⟩ = some (.int .u32 b3) := (blk_cell Lb1.out 3).trans rfl
      have tb4_1 : u1.cell? ⟨gb, 4, none⟩ = some (.int .u64 b4) := (blk_cell Lb1.out 4).trans rfl
      have tb5_1 : u1.cell? ⟨gb, 5, none⟩ = some (.bool b5) := (blk_cell Lb1.out 5).trans rfl
      have M0 : (decide (o4 = 1) && mayB q0 q1 q2 q3 o0 o1 o2 o3 o4) = true → (decide (o4 = 1) && mayB (k0) (k1) ((Go.bits .or .u32 q2 k2)) ((Go.bits .or .u32 q3 k3)) o0 o1 o2 o3 o4) = true := fun h => by rw [Bool.and_eq_true] at h ⊢; exact ⟨h.1, Mmq.out h.2⟩
      generalize (decide (o4 = 1) && mayB q0 q1 q2 q3 o0 o1 o2 o3 o4) = r0 at M0 ⊢
      cases r0 with
      | false =>
        clear M0
        go_wp2_with fail
        refine (my.out q0 q1 q2 q3 _).mono ?_
        rintro e u2 ⟨rfl, hbc⟩
        have BB2 := Lib.hid (below_then BB1.out (BB1.out).size hbc)
        have Lw2 := Lib.hid ((hbc.block _ (blk_lt Lw1.out)).trans Lw1.out)
        have Lq2 := Lib.hid ((hbc.block _ (blk_lt Lq1.out)).trans Lq1.out)
        have Lk2 := Lib.hid ((hbc.block _ (blk_lt Lk1.out)).trans Lk1.out)
        have Le2 := Lib.hid ((hbc.block _ (blk_lt Le1.out)).trans Le1.out)
        have Lb2 := Lib.hid ((hbc.block _ (blk_lt Lb1.out)).trans Lb1.out)
        clear hbc
        have tw0_2 : u2.cell? ⟨v5.heap.size, 0, none⟩ = some (.int .i64 k0) := (blk_cell Lw2.out 0).trans rfl
        have tw1_2 : u2.cell? ⟨v5.heap.size, 1, none⟩ = some (.int .i64 k1) := (blk_cell Lw2.out 1).trans rfl
        have tw2_2 : u2.cell? ⟨v5.heap.size, 2, none⟩ = some (.int .u32 (Go.bits .or .u32 q2 k2)) := (blk_cell Lw2.out 2).trans rfl
        have tw3_2 : u2.cell? ⟨v5.heap.size, 3, none⟩ = some (.int .u32 (Go.bits .or .u32 q3 k3)) := (blk_cell Lw2.out 3).trans rfl
        have tq0_2 : u2.cell? ⟨gq, 0, none⟩ = some (.int .i64 q0) := (blk_cell Lq2.out 0).trans rfl
        have tq1_2 : u2.cell? ⟨gq, 1, none⟩ = some (.int .i64 q1) := (blk_cell Lq2.out 1).trans rfl
        have tq2_2 : u2.cell? ⟨gq, 2, none⟩ = some (.int .u32 q2) := (blk_cell Lq2.out 2).trans rfl
        have tq3_2 : u2.cell? ⟨gq, 3, none⟩ = some (.int .u32 q3) := (blk_cell Lq2.out 3).trans rfl
        have tk0_2 : u2.cell? ⟨gk, 0, none⟩ = some (.int .i64 k0) := (blk_cell Lk2.out 0).trans rfl
        have tk1_2 : u2.cell? ⟨gk, 1, none⟩ = some (.int .i64 k1) := (blk_cell Lk2.out 1).trans rfl
        have tk2_2 : u2.cell? ⟨gk, 2, none⟩ = some (.int .u32 k2) := (blk_cell Lk2.out 2).trans rfl
        have tk3_2 : u2.cell? ⟨gk, 3, none⟩ = some (.int .u32 k3) := (blk_cell Lk2.out 3).trans rfl
        have te0_2 : u2.cell? ⟨ge, 0, none⟩ = some (.int .i64 e0) := (blk_cell Le2.out 0).trans rfl
        have te1_2 : u2.cell? ⟨ge, 1, none⟩ = some (.int .i64 e1) := (blk_cell Le2.out 1).trans rfl
        have te2_2 : u2.cell? ⟨ge, 2, none⟩ = some (.bool e2) := (blk_cell Le2.out 2).trans rfl
        have te3_2 : u2.cell? ⟨ge, 3, none⟩ = some (.int .i64 e3) := (blk_cell Le2.out 3).trans rfl
        have te4_2 : u2.cell? ⟨ge, 4, none⟩ = some (.string e4) := (blk_cell Le2.out 4).trans rfl
        have te5_2 : u2.cell? ⟨ge, 5, none⟩ = some (.string e5) := (blk_cell Le2.out 5).trans rfl
        have te6_2 : u2.cell? ⟨ge, 6, none⟩ = some (.string e6) := (blk_cell Le2.out 6).trans rfl
        have te7_2 : u2.cell? ⟨ge, 7, none⟩ = some (.string e7) := (blk_cell Le2.out 7).trans rfl
        have te8_2 : u2.cell? ⟨ge, 8, none⟩ = some (.slice A e8.length c) := (blk_cell Le2.out 8).trans rfl
        have te9_2 : u2.cell? ⟨ge, 9, none⟩ = some (.string e9) := (blk_cell Le2.out 9).trans rfl
        have tb0_2 : u2.cell? ⟨gb, 0, none⟩ = some (.int .i64 b0) := (blk_cell Lb2.out 0).trans rfl
        have tb1_2 : u2.cell? ⟨gb, 1, none⟩ = some (.int .i64 b1) := (blk_cell Lb2.out 1).trans rfl
        have tb2_2 : u2.cell? ⟨gb, 2, none⟩ = some (.int .u32 b2) := (blk_cell Lb2.out 2).trans rfl
        have tb3_2 : u2.cell? ⟨gb, 3, none⟩ = some (.int .u32 b3) := (blk_cell Lb2.out 3).trans rfl
        have tb4_2 : u2.cell? ⟨gb, 4, none⟩ = some (.int .u64 b4) := (blk_cell Lb2.out 4).trans rfl
        have tb5_2 : u2.cell? ⟨gb, 5, none⟩ = some (.bool b5) := (blk_cell Lb2.out 5).trans rfl
        have M0 := Mbq.out
        generalize mayB q0 q1 q2 q3 b0 b1 b2 b3 b4 = r1 at M0 ⊢
        cases r1 with
        | false =>
          clear M0
          go_wp2_with fail
          refine (my.out k0 k1 k2 k3 _).mono ?_
          rintro e u3 ⟨rfl, hbc⟩
          have BB3 := Lib.hid (below_then BB2.out (BB2.out).size hbc)
          have Lw3 := Lib.hid ((hbc.block _ (blk_lt Lw2.out)).trans Lw2.out)
          have Lq3 := Lib.hid ((hbc.block _ (blk_lt Lq2.out)).trans Lq2.out)
          have Lk3 := Lib.hid ((hbc.block _ (blk_lt Lk2.out)).trans Lk2.out)
          have Le3 := Lib.hid ((hbc.block _ (blk_lt Le2.out)).trans Le2.out)
          have Lb3 := Lib.hid ((hbc.block _ (blk_lt Lb2.out)).trans Lb2.out)
          clear hbc
          have tw0_3 : u3.cell? ⟨v5.heap.size, 0, none⟩ = some (.int .i64 k0) := (blk_cell Lw3.out 0).trans rfl
          have tw1_3 : u3.cell? ⟨v5.heap.size, 1, none⟩ = some (.int .i64 k1) := (blk_cell Lw3.out 1).trans rfl
          have tw2_3 : u3.cell? ⟨v5.heap.size, 2, none⟩ = some (.int .u32 (Go.bits .or .u32 q2 k2)) := (blk_cell Lw3.out 2).trans rfl
          have tw3_3 : u3.cell? ⟨v5.heap.size, 3, none⟩ = some (.int .u32 (Go.bits .or .u32 q3 k3)) := (blk_cell Lw3.out 3).trans rfl
          have tq0_3 : u3.cell? ⟨gq, 0, none⟩ = some (.int .i64 q0) := (blk_cell Lq3.out 0).trans rfl
          have tq1_3 : u3.cell? ⟨gq, 1, none⟩ = some (.int .i64 q1) := (blk_cell Lq3.out 1).trans rfl
          have tq2_3 : u3.cell? ⟨gq, 2, none⟩ = some (.int .u32 q2) := (blk_cell Lq3.out 2).trans rfl
          have tq3_3 : u3.cell? ⟨gq, 3, none⟩ = some (.int .u32 q3) := (blk_cell Lq3.out 3).trans rfl
          have tk0_3 : u3.cell? ⟨gk, 0, none⟩ = some (.int .i64 k0) := (blk_cell Lk3.out 0).trans rfl
          have tk1_3 : u3.cell? ⟨gk, 1, none⟩ = some (.int .i64 k1) := (blk_cell Lk3.out 1).trans rfl
          have tk2_3 : u3.cell? ⟨gk, 2, none⟩ = some (.int .u32 k2) := (blk_cell Lk3.out 2).trans rfl
          have tk3_3 : u3.cell? ⟨gk, 3, none⟩ = some (.int .u32 k3) := (blk_cell Lk3.out 3).trans rfl
          have te0_3 : u3.cell? ⟨ge, 0, none⟩ = some (.int .i64 e0) := (blk_cell Le3.out 0).trans rfl
          have te1_3 : u3.cell? ⟨ge, 1, none⟩ = some (.int .i64 e1) := (blk_cell Le3.out 1).trans rfl
          have te2_3 : u3.cell? ⟨ge, 2, none⟩ = some (.bool e2) := (blk_cell Le3.out 2).trans rfl
          have te3_3 : u3.cell? ⟨ge, 3, none⟩ = some (.int .i64 e3) := (blk_cell Le3.out 3).trans rfl
          have te4_3 : u3.cell? ⟨ge, 4, none⟩ = some (.string e4) := (blk_cell Le3.out 4).trans rfl
          have te5_3 : u3.cell? ⟨ge, 5, none⟩ = some (.string e5) := (blk_cell Le3.out 5).trans rfl
          have te6_3 : u3.cell? ⟨ge, 6, none⟩ = some (.string e6) := (blk_cell Le3.out 6).trans rfl
          have te7_3 : u3.cell? ⟨ge, 7, none⟩ = some (.string e7) := (blk_cell Le3.out 7).trans rfl
          have te8_3 : u3.cell? ⟨ge, 8, none⟩ = some (.slice A e8.length c) := (blk_cell Le3.out 8).trans rfl
          have te9_3 : u3.cell? ⟨ge, 9, none⟩ = some (.string e9) := (blk_cell Le3.out 9).trans rfl
          have tb0_3 : u3.cell? ⟨gb, 0, none⟩ = some (.int .i64 b0) := (blk_cell Lb3.out 0).trans rfl
          have tb1_3 : u3.cell? ⟨gb, 1, none⟩ = some (.int .i64 b1) := (blk_cell Lb3.out 1).trans rfl
          have tb2_3 : u3.cell? ⟨gb, 2, none⟩ = some (.int .u32 b2) := (blk_cell Lb3.out 2).trans rfl
          have tb3_3 : u3.cell? ⟨gb, 3, none⟩ = some (.int .u32 b3) := (blk_cell Lb3.out 3).trans rfl
          have tb4_3 : u3.cell? ⟨gb, 4, none⟩ = some (.int .u64 b4) := (blk_cell Lb3.out 4).trans rfl
          have tb5_3 : u3.cell? ⟨gb, 5, none⟩ = some (.bool b5) := (blk_cell Lb3.out 5).trans rfl
          have M0 := Mbk.out
          generalize mayB k0 k1 k2 k3 b0 b1 b2 b3 b4 = r2 at M0 ⊢
          cases r2 with
          | false =>
            clear M0
            go_wp2_with fail
            go_ret
            exact ⟨rfl, BB3.out⟩
          | true =>
            have M1 := Lib.hid (M0 rfl)
            clear M0
            go_wp2_with fail
            refine (my.out (k0) (k1) ((Go.bits .or .u32 q2 k2)) ((Go.bits .or .u32 q3 k3)) _).mono ?_
            rintro e u4 ⟨rfl, hbc⟩
            have BB4 := Lib.hid (below_then BB3.out (BB3.out).size hbc)
            have Lw4 := Lib.hid ((hbc.block _ (blk_lt Lw3.out)).trans Lw3.out)
            have Lq4 := Lib.hid ((hbc.block _ (blk_lt Lq3.out)).trans Lq3.out)
            have Lk4 := Lib.hid ((hbc.block _ (blk_lt Lk3.out)).trans Lk3.out)
            have Le4 := Lib.hid ((hbc.block _ (blk_lt Le3.out)).trans Le3.out)
            have Lb4 := Lib.hid ((hbc.block _ (blk_lt Lb3.out)).trans Lb3.out)
            clear hbc
            have tw0_4 : u4.cell? ⟨v5.heap.size, 0, none⟩ = some (.int .i64 k0) := (blk_cell Lw4.out 0).trans rfl
            have tw1_4 : u4.cell? ⟨v5.heap.size, 1, none⟩ = some (.int .i64 k1) := (blk_cell Lw4.out 1).trans rfl
            have tw2_4 : u4.cell? ⟨v5.heap.size, 2, none⟩ = some (.int .u32 (Go.bits .or .u32 q2 k2)) := (blk_cell Lw4.out 2).trans rfl
            have tw3_4 : u4.cell? ⟨v5.heap.size, 3, none⟩ = some (.int .u32 (Go.bits .or .u32 q3 k3)) := (blk_cell Lw4.out 3).trans rfl
            have tq0_4 : u4.cell? ⟨gq, 0, none⟩ = some (.int .i64 q0) := (blk_cell Lq4.out 0).trans rfl
            have tq1_4 : u4.cell? ⟨gq, 1, none⟩ = some (.int .i64 q1) := (blk_cell Lq4.out 1).trans rfl
            have tq2_4 : u4.cell? ⟨gq, 2, none⟩ = some (.int .u32 q2) := (blk_cell Lq4.out 2).trans rfl
            have tq3_4 : u4.cell? ⟨gq, 3, none⟩ = some (.int .u32 q3) := (blk_cell Lq4.out 3).trans rfl
            have tk0_4 : u4.cell? ⟨gk, 0, none⟩ = some (.int .i64 k0) := (blk_cell Lk4.out 0).trans rfl
            have tk1_4 : u4.cell? ⟨gk, 1, none⟩ = some (.int .i64 k1) := (blk_cell Lk4.out 1).trans rfl
            have tk2_4 : u4.cell? ⟨gk, 2, none⟩ = some (.int .u32 k2) := (blk_cell Lk4.out 2).trans rfl
            have tk3_4 : u4.cell? ⟨gk, 3, none⟩ = some (.int .u32 k3) := (blk_cell Lk4.out 3).trans rfl
            have te0_4 : u4.cell? ⟨ge, 0, none⟩ = some (.int .i64 e0) := (blk_cell Le4.out 0).trans rfl
            have te1_4 : u4.cell? ⟨ge, 1, none⟩ = some (.int .i64 e1) := (blk_cell Le4.out 1).trans rfl
            have te2_4 : u4.cell? ⟨ge, 2, none⟩ = some (.bool e2) := (blk_cell Le4.out 2).trans rfl
            have te3_4 : u4.cell? ⟨ge, 3, none⟩ = some (.int .i64 e3) := (blk_cell Le4.out 3).trans rfl
            have te4_4 : u4.cell? ⟨ge, 4, none⟩ = some (.string e4) := (blk_cell Le4.out 4).trans rfl
            have te5_4 : u4.cell? ⟨ge, 5, none⟩ = some (.string e5) := (blk_cell Le4.out 5).trans rfl
            have te6_4 : u4.cell? ⟨ge, 6, none⟩ = some (.string e6) := (blk_cell Le4.out 6).trans rfl
            have te7_4 : u4.cell? ⟨ge, 7, none⟩ = some (.string e7) := (blk_cell Le4.out 7).trans rfl
            have te8_4 : u4.cell? ⟨ge, 8, none⟩ = some (.slice A e8.length c) := (blk_cell Le4.out 8).trans rfl
            have te9_4 : u4.cell? ⟨ge, 9, none⟩ = some (.string e9) := (blk_cell Le4.out 9).trans rfl
            have tb0_4 : u4.cell? ⟨gb, 0, none⟩ = some (.int .i64 b0) := (blk_cell Lb4.out 0).trans rfl
            have tb1_4 : u4.cell? ⟨gb, 1, none⟩ = some (.int .i64 b1) := (blk_cell Lb4.out 1).trans rfl
            have tb2_4 : u4.cell? ⟨gb, 2, none⟩ = some (.int .u32 b2) := (blk_cell Lb4.out 2).trans rfl
            have tb3_4 : u4.cell? ⟨gb, 3, none⟩ = some (.int .u32 b3) := (blk_cell Lb4.out 3).trans rfl
            have tb4_4 : u4.cell? ⟨gb, 4, none⟩ = some (.int .u64 b4) := (blk_cell Lb4.out 4).trans rfl
            have tb5_4 : u4.cell? ⟨gb, 5, none⟩ = some (.bool b5) := (blk_cell Lb4.out 5).trans rfl
            rw [M1.out]
            clear M1
            go_wp2_with fail
            go_ret
            exact ⟨rfl, BB4.out⟩
        | true =>
          have M1 := Lib.hid (M0 rfl)
          clear M0
          go_wp2_with fail
          refine (my.out (k0) (k1) ((Go.bits .or .u32 q2 k2)) ((Go.bits .or .u32 q3 k3)) _).mono ?_
          rintro e u5 ⟨rfl, hbc⟩
          have BB5 := Lib.hid (below_then BB2.out (BB2.out).size hbc)
          have Lw5 := Lib.hid ((hbc.block _ (blk_lt Lw2.out)).trans Lw2.out)
          have Lq5 := Lib.hid ((hbc.block _ (blk_lt Lq2.out)).trans Lq2.out)
          have Lk5 := Lib.hid ((hbc.block _ (blk_lt Lk2.out)).trans Lk2.out)
          have Le5 := Lib.hid ((hbc.block _ (blk_lt Le2.out)).trans Le2.out)
          have Lb5 := Lib.hid ((hbc.block _ (blk_lt Lb2.out)).trans Lb2.out)
          clear hbc
          have tw0_5 : u5.cell? ⟨v5.heap.size, 0, none⟩ = some (.int .i64 k0) := (blk_cell Lw5.out 0).trans rfl
          have tw1_5 : u5.cell? ⟨v5.heap.size, 1, none⟩ = some (.int .i64 k1) := (blk_cell Lw5.out 1).trans rfl
          have tw2_5 : u5.cell? ⟨v5.heap.size, 2, none⟩ = some (.int .u32 (Go.bits .or .u32 q2 k2)) := (blk_cell Lw5.out 2).trans rfl
          have tw3_5 : u5.cell? ⟨v5.heap.size, 3, none⟩ = some (.int .u32 (Go.bits .or .u32 q3 k3)) := (blk_cell Lw5.out 3).trans rfl
          have tq0_5 : u5.cell? ⟨gq, 0, none⟩ = some (.int .i64 q0) := (blk_cell Lq5.out 0).trans rfl
          have tq1_5 : u5.cell? ⟨gq, 1, none⟩ = some (.int .i64 q1) := (blk_cell Lq5.out 1).trans rfl
          have tq2_5 : u5.cell? ⟨gq, 2, none⟩ = some (.int .u32 q2) := (blk_cell Lq5.out 2).trans rfl
          have tq3_5 : u5.cell? ⟨gq, 3, none⟩ = some (.int .u32 q3) := (blk_cell Lq5.out 3).trans rfl
          have tk0_5 : u5.cell? ⟨gk, 0, none⟩ = some (.int .i64 k0) := (blk_cell Lk5.out 0).trans rfl
          have tk1_5 : u5.cell? ⟨gk, 1, none⟩ = some (.int .i64 k1) := (blk_cell Lk5.out 1).trans rfl
          have tk2_5 : u5.cell? ⟨gk, 2, none⟩ = some (.int .u32 k2) := (blk_cell Lk5.out 2).trans rfl
          have tk3_5 : u5.cell? ⟨gk, 3, none⟩ = some (.int .u32 k3) := (blk_cell Lk5.out 3).trans rfl
          have te0_5 : u5.cell? ⟨ge, 0, none⟩ = some (.int .i64 e0) := (blk_cell Le5.out 0).trans rfl
          have te1_5 : u5.cell? ⟨ge, 1, none⟩ = some (.int .i64 e1) := (blk_cell Le5.out 1).trans rfl
          have te2_5 : u5.cell? ⟨ge, 2, none⟩ = some (.bool e2) := (blk_cell Le5.out 2).trans rfl
          have te3_5 : u5.cell? ⟨ge, 3, none⟩ = some (.int .i64 e3) := (blk_cell Le5.out 3).trans rfl
          have te4_5 : u5.cell? ⟨ge, 4, none⟩ = some (.string e4) := (blk_cell Le5.out 4).trans rfl
          have te5_5 : u5.cell? ⟨ge, 5, none⟩ = some (.string e5) := (blk_cell Le5.out 5).trans rfl
          have te6_5 : u5.cell? ⟨ge, 6, none⟩ = some (.string e6) := (blk_cell Le5.out 6).trans rfl
          have te7_5 : u5.cell? ⟨ge, 7, none⟩ = some (.string e7) := (blk_cell Le5.out 7).trans rfl
          have te8_5 : u5.cell? ⟨ge, 8, none⟩ = some (.slice A e8.length c) := (blk_cell Le5.out 8).trans rfl
          have te9_5 : u5.cell? ⟨ge, 9, none⟩ = some (.string e9) := (blk_cell Le5.out 9).trans rfl
          have tb0_5 : u5.cell? ⟨gb, 0, none⟩ = some (.int .i64 b0) := (blk_cell Lb5.out 0).trans rfl
          have tb1_5 : u5.cell? ⟨gb, 1, none⟩ = some (.int .i64 b1) := (blk_cell Lb5.out 1).trans rfl
          have tb2_5 : u5.cell? ⟨gb, 2, none⟩ = some (.int .u32 b2) := (blk_cell Lb5.out 2).trans rfl
          have tb3_5 : u5.cell? ⟨gb, 3, none⟩ = some (.int .u32 b3) := (blk_cell Lb5.out 3).trans rfl
          have tb4_5 : u5.cell? ⟨gb, 4, none⟩ = some (.int .u64 b4) := (blk_cell Lb5.out 4).trans rfl
          have tb5_5 : u5.cell? ⟨gb, 5, none⟩ = some (.bool b5) := (blk_cell Lb5.out 5).trans rfl
          rw [M1.out]
          clear M1
          go_wp2_with fail
          refine (my.out k0 k1 k2 k3 _).mono ?_
          rintro e u6 ⟨rfl, hbc⟩
          have BB6 := Lib.hid (below_then BB5.out (BB5.out).size hbc)
          have Lw6 := Lib.hid ((hbc.block _ (blk_lt Lw5.out)).trans Lw5.out)
          have Lq6 := Lib.hid ((hbc.block _ (blk_lt Lq5.out)).trans Lq5.out)
          have Lk6 := Lib.hid ((hbc.block _ (blk_lt Lk5.out)).trans Lk5.out)
          have Le6 := Lib.hid ((hbc.block _ (blk_lt Le5.out)).trans Le5.out)
          have Lb6 := Lib.hid ((hbc.block _ (blk_lt Lb5.out)).trans Lb5.out)
          clear hbc
          have tw0_6 : u6.cell? ⟨v5.heap.size, 0, none⟩ = some (.int .i64 k0) := (blk_cell Lw6.out 0).trans rfl
          have tw1_6 : u6.cell? ⟨v5.heap.size, 1, none⟩ = some (.int .i64 k1) := (blk_cell Lw6.out 1).trans rfl
          have tw2_6 : u6.cell? ⟨v5.heap.size, 2, none⟩ = some (.int .u32 (Go.bits .or .u32 q2 k2)) := (blk_cell Lw6.out 2).trans rfl
          have tw3_6 : u6.cell? ⟨v5.heap.size, 3, none⟩ = some (.int .u32 (Go.bits .or .u32 q3 k3)) := (blk_cell Lw6.out 3).trans rfl
          have tq0_6 : u6.cell? ⟨gq, 0, none⟩ = some (.int .i64 q0) := (blk_cell Lq6.out 0).trans rfl
          have tq1_6 : u6.cell? ⟨gq, 1, none⟩ = some (.int .i64 q1) := (blk_cell Lq6.out 1).trans rfl
          have tq2_6 : u6.cell? ⟨gq, 2, none⟩ = some (.int .u32 q2) := (blk_cell Lq6.out 2).trans rfl
          have tq3_6 : u6.cell? ⟨gq, 3, none⟩ = some (.int .u32 q3) := (blk_cell Lq6.out 3).trans rfl
          have tk0_6 : u6.cell? ⟨gk, 0, none⟩ = some (.int .i64 k0) := (blk_cell Lk6.out 0).trans rfl
          have tk1_6 : u6.cell? ⟨gk, 1, none⟩ = some (.int .i64 k1) := (blk_cell Lk6.out 1).trans rfl
          have tk2_6 : u6.cell? ⟨gk, 2, none⟩ = some (.int .u32 k2) := (blk_cell Lk6.out 2).trans rfl
          have tk3_6 : u6.cell? ⟨gk, 3, none⟩ = some (.int .u32 k3) := (blk_cell Lk6.out 3).trans rfl
          have te0_6 : u6.cell? ⟨ge, 0, none⟩ = some (.int .i64 e0) := (blk_cell Le6.out 0).trans rfl
          have te1_6 : u6.cell? ⟨ge, 1, none⟩ = some (.int .i64 e1) := (blk_cell Le6.out 1).trans rfl
          have te2_6 : u6.cell? ⟨ge, 2, none⟩ = some (.bool e2) := (blk_cell Le6.out 2).trans rfl
          have te3_6 : u6.cell? ⟨ge, 3, none⟩ = some (.int .i64 e3) := (blk_cell Le6.out 3).trans rfl
          have te4_6 : u6.cell? ⟨ge, 4, none⟩ = some (.string e4) := (blk_cell Le6.out 4).trans rfl
          have te5_6 : u6.cell? ⟨ge, 5, none⟩ = some (.string e5) := (blk_cell Le6.out 5).trans rfl
          have te6_6 : u6.cell? ⟨ge, 6, none⟩ = some (.string e6) := (blk_cell Le6.out 6).trans rfl
          have te7_6 : u6.cell? ⟨ge, 7, none⟩ = some (.string e7) := (blk_cell Le6.out 7).trans rfl
          have te8_6 : u6.cell? ⟨ge, 8, none⟩ = some (.slice A e8.length c) := (blk_cell Le6.out 8).trans rfl
          have te9_6 : u6.cell? ⟨ge, 9, none⟩ = some (.string e9) := (blk_cell Le6.out 9).trans rfl
          have tb0_6 : u6.cell? ⟨gb, 0, none⟩ = some (.int .i64 b0) := (blk_cell Lb6.out 0).trans rfl
          have tb1_6 : u6.cell? ⟨gb, 1, none⟩ = some (.int .i64 b1) := (blk_cell Lb6.out 1).trans rfl
          have tb2_6 : u6.cell? ⟨gb, 2, none⟩ = some (.int .u32 b2) := (blk_cell Lb6.out 2).trans rfl
          have tb3_6 : u6.cell? ⟨gb, 3, none⟩ = some (.int .u32 b3) := (blk_cell Lb6.out 3).trans rfl
          have tb4_6 : u6.cell? ⟨gb, 4, none⟩ = some (.int .u64 b4) := (blk_cell Lb6.out 4).trans rfl
          have tb5_6 : u6.cell? ⟨gb, 5, none⟩ = some (.bool b5) := (blk_cell Lb6.out 5).trans rfl
          have M0 := Mbk.out
          generalize mayB k0 k1 k2 k3 b0 b1 b2 b3 b4 = r2 at M0 ⊢
          cases r2 with
          | false =>
            clear M0
            go_wp2_with fail
            go_ret
            exact ⟨rfl, BB6.out⟩
          | true =>
            have M1 := Lib.hid (M0 rfl)
            clear M0
            go_wp2_with fail
            refine (my.out (k0) (k1) ((Go.bits .or .u32 q2 k2)) ((Go.bits .or .u32 q3 k3)) _).mono ?_
            rintro e u7 ⟨rfl, hbc⟩
            have BB7 := Lib.hid (below_then BB6.out (BB6.out).size hbc)
            have Lw7 := Lib.hid ((hbc.block _ (blk_lt Lw6.out)).trans Lw6.out)
            have Lq7 := Lib.hid ((hbc.block _ (blk_lt Lq6.out)).trans Lq6.out)
            have Lk7 := Lib.hid ((hbc.block _ (blk_lt Lk6.out)).trans Lk6.out)
            have Le7 := Lib.hid ((hbc.block _ (blk_lt Le6.out)).trans Le6.out)
            have Lb7 := Lib.hid ((hbc.block _ (blk_lt Lb6.out)).trans Lb6.out)
            clear hbc
            have tw0_7 : u7.cell? ⟨v5.heap.size, 0, none⟩ = some (.int .i64 k0) := (blk_cell Lw7.out 0).trans rfl
            have tw1_7 : u7.cell? ⟨v5.heap.size, 1, none⟩ = some (.int .i64 k1) := (blk_cell Lw7.out 1).trans rfl
            have tw2_7 : u7.cell? ⟨v5.heap.size, 2, none⟩ = some (.int .u32 (Go.bits .or .u32 q2 k2)) := (blk_cell Lw7.out 2).trans rfl
            have tw3_7 : u7.cell? ⟨v5.heap.size, 3, none⟩ = some (.int .u32 (Go.bits .or .u32 q3 k3)) := (blk_cell Lw7.out 3).trans rfl
            have tq0_7 : u7.cell? ⟨gq, 0, none⟩ = some (.int .i64 q0) := (blk_cell Lq7.out 0).trans rfl
            have tq1_7 : u7.cell? ⟨gq, 1, none⟩ = some (.int .i64 q1) := (blk_cell Lq7.out 1).trans rfl
            have tq2_7 : u7.cell? ⟨gq, 2, none⟩ = some (.int .u32 q2) := (blk_cell Lq7.out 2).trans rfl
            have tq3_7 : u7.cell? ⟨gq, 3, none⟩ = some (.int .u32 q3) := (blk_cell Lq7.out 3).trans rfl
            have tk0_7 : u7.cell? ⟨gk, 0, none⟩ = some (.int .i64 k0) := (blk_cell Lk7.out 0).trans rfl
            have tk1_7 : u7.cell? ⟨gk, 1, none⟩ = some (.int .i64 k1) := (blk_cell Lk7.out 1).trans rfl
            have tk2_7 : u7.cell? ⟨gk, 2, none⟩ = some (.int .u32 k2) := (blk_cell Lk7.out 2).trans rfl
            have tk3_7 : u7.cell? ⟨gk, 3, none⟩ = some (.int .u32 k3) := (blk_cell Lk7.out 3).trans rfl
            have te0_7 : u7.cell? ⟨ge, 0, none⟩ = some (.int .i64 e0) := (blk_cell Le7.out 0).trans rfl
            have te1_7 : u7.cell? ⟨ge, 1, none⟩ = some (.int .i64 e1) := (blk_cell Le7.out 1).trans rfl
            have te2_7 : u7.cell? ⟨ge, 2, none⟩ = some (.bool e2) := (blk_cell Le7.out 2).trans rfl
            have te3_7 : u7.cell? ⟨ge, 3, none⟩ = some (.int .i64 e3) := (blk_cell Le7.out 3).trans rfl
            have te4_7 : u7.cell? ⟨ge, 4, none⟩ = some (.string e4) := (blk_cell Le7.out 4).trans rfl
            have te5_7 : u7.cell? ⟨ge, 5, none⟩ = some (.string e5) := (blk_cell Le7.out 5).trans rfl
            have te6_7 : u7.cell? ⟨ge, 6, none⟩ = some (.string e6) := (blk_cell Le7.out 6).trans rfl
            have te7_7 : u7.cell? ⟨ge, 7, none⟩ = some (.string e7) := (blk_cell Le7.out 7).trans rfl
            have te8_7 : u7.cell? ⟨ge, 8, none⟩ = some (.slice A e8.length c) := (blk_cell Le7.out 8).trans rfl
            have te9_7 : u7.cell? ⟨ge, 9, none⟩ = some (.string e9) := (blk_cell Le7.out 9).trans rfl
            have tb0_7 : u7.cell? ⟨gb, 0, none⟩ = some (.int .i64 b0) := (blk_cell Lb7.out 0).trans rfl
            have tb1_7 : u7.cell? ⟨gb, 1, none⟩ = some (.int .i64 b1) := (blk_cell Lb7.out 1).trans rfl
            have tb2_7 : u7.cell? ⟨gb, 2, none⟩ = some (.int .u32 b2) := (blk_cell Lb7.out 2).trans rfl
            have tb3_7 : u7.cell? ⟨gb, 3, none⟩ = some (.int .u32 b3) := (blk_cell Lb7.out 3).trans rfl
            have tb4_7 : u7.cell? ⟨gb, 4, none⟩ = some (.int .u64 b4) := (blk_cell Lb7.out 4).trans rfl
            have tb5_7 : u7.cell? ⟨gb, 5, none⟩ = some (.bool b5) := (blk_cell Lb7.out 5).trans rfl
            rw [M1.out]
            clear M1
            go_wp2_with fail
            go_ret
            exact ⟨rfl, BB7.out⟩
      | true =>
        have M1 := Lib.hid (M0 rfl)
        clear M0
        go_wp2_with fail
        refine (mt.out (k0) (k1) ((Go.bits .or .u32 q2 k2)) ((Go.bits .or .u32 q3 k3)) _ BB1.out).mono ?_
        rintro e u8 ⟨rfl, hbc⟩
        have BB8 := Lib.hid (below_then BB1.out (BB1.out).size hbc)
        have Lw8 := Lib.hid ((hbc.block _ (blk_lt Lw1.out)).trans Lw1.out)
        have Lq8 := Lib.hid ((hbc.block _ (blk_lt Lq1.out)).trans Lq1.out)
        have Lk8 := Lib.hid ((hbc.block _ (blk_lt Lk1.out)).trans Lk1.out)
        have Le8 := Lib.hid ((hbc.block _ (blk_lt Le1.out)).trans Le1.out)
        have Lb8 := Lib.hid ((hbc.block _ (blk_lt Lb1.out)).trans Lb1.out)
        clear hbc
        have tw0_8 : u8.cell? ⟨v5.heap.size, 0, none⟩ = some (.int .i64 k0) := (blk_cell Lw8.out 0).trans rfl
        have tw1_8 : u8.cell? ⟨v5.heap.size, 1, none⟩ = some (.int .i64 k1) := (blk_cell Lw8.out 1).trans rfl
        have tw2_8 : u8.cell? ⟨v5.heap.size, 2, none⟩ = some (.int .u32 (Go.bits .or .u32 q2 k2)) := (blk_cell Lw8.out 2).trans rfl
        have tw3_8 : u8.cell? ⟨v5.heap.size, 3, none⟩ = some (.int .u32 (Go.bits .or .u32 q3 k3)) := (blk_cell Lw8.out 3).trans rfl
        have tq0_8 : u8.cell? ⟨gq, 0, none⟩ = some (.int .i64 q0) := (blk_cell Lq8.out 0).trans rfl
        have tq1_8 : u8.cell? ⟨gq, 1, none⟩ = some (.int .i64 q1) := (blk_cell Lq8.out 1).trans rfl
        have tq2_8 : u8.cell? ⟨gq, 2, none⟩ = some (.int .u32 q2) := (blk_cell Lq8.out 2).trans rfl
        have tq3_8 : u8.cell? ⟨gq, 3, none⟩ = some (.int .u32 q3) := (blk_cell Lq8.out 3).trans rfl
        have tk0_8 : u8.cell? ⟨gk, 0, none⟩ = some (.int .i64 k0) := (blk_cell Lk8.out 0).trans rfl
        have tk1_8 : u8.cell? ⟨gk, 1, none⟩ = some (.int .i64 k1) := (blk_cell Lk8.out 1).trans rfl
        have tk2_8 : u8.cell? ⟨gk, 2, none⟩ = some (.int .u32 k2) := (blk_cell Lk8.out 2).trans rfl
        have tk3_8 : u8.cell? ⟨gk, 3, none⟩ = some (.int .u32 k3) := (blk_cell Lk8.out 3).trans rfl
        have te0_8 : u8.cell? ⟨ge, 0, none⟩ = some (.int .i64 e0) := (blk_cell Le8.out 0).trans rfl
        have te1_8 : u8.cell? ⟨ge, 1, none⟩ = some (.int .i64 e1) := (blk_cell Le8.out 1).trans rfl
        have te2_8 : u8.cell? ⟨ge, 2, none⟩ = some (.bool e2) := (blk_cell Le8.out 2).trans rfl
        have te3_8 : u8.cell? ⟨ge, 3, none⟩ = some (.int .i64 e3) := (blk_cell Le8.out 3).trans rfl
        have te4_8 : u8.cell? ⟨ge, 4, none⟩ = some (.string e4) := (blk_cell Le8.out 4).trans rfl
        have te5_8 : u8.cell? ⟨ge, 5, none⟩ = some (.string e5) := (blk_cell Le8.out 5).trans rfl
        have te6_8 : u8.cell? ⟨ge, 6, none⟩ = some (.string e6) := (blk_cell Le8.out 6).trans rfl
        have te7_8 : u8.cell? ⟨ge, 7, none⟩ = some (.string e7) := (blk_cell Le8.out 7).trans rfl
        have te8_8 : u8.cell? ⟨ge, 8, none⟩ = some (.slice A e8.length c) := (blk_cell Le8.out 8).trans rfl
        have te9_8 : u8.cell? ⟨ge, 9, none⟩ = some (.string e9) := (blk_cell Le8.out 9).trans rfl
        have tb0_8 : u8.cell? ⟨gb, 0, none⟩ = some (.int .i64 b0) := (blk_cell Lb8.out 0).trans rfl
        have tb1_8 : u8.cell? ⟨gb, 1, none⟩ = some (.int .i64 b1) := (blk_cell Lb8.out 1).trans rfl
        have tb2_8 : u8.cell? ⟨gb, 2, none⟩ = some (.int .u32 b2) := (blk_cell Lb8.out 2).trans rfl
        have tb3_8 : u8.cell? ⟨gb, 3, none⟩ = some (.int .u32 b3) := (blk_cell Lb8.out 3).trans rfl
        have tb4_8 : u8.cell? ⟨gb, 4, none⟩ = some (.int .u64 b4) := (blk_cell Lb8.out 4).trans rfl
        have tb5_8 : u8.cell? ⟨gb, 5, none⟩ = some (.bool b5) := (blk_cell Lb8.out 5).trans rfl
        rw [M1.out]
        clear M1
        go_wp2_with fail
        refine (my.out q0 q1 q2 q3 _).mono ?_
        rintro e u9 ⟨rfl, hbc⟩
        have BB9 := Lib.hid (below_then BB8.out (BB8.out).size hbc)
        have Lw9 := Lib.hid ((hbc.block _ (blk_lt Lw8.out)).trans Lw8.out)
        have Lq9 := Lib.hid ((hbc.block _ (blk_lt Lq8.out)).trans Lq8.out)
        have Lk9 := Lib.hid ((hbc.block _ (blk_lt Lk8.out)).trans Lk8.out)
        have Le9 := Lib.hid ((hbc.block _ (blk_lt Le8.out)).trans Le8.out)
        have Lb9 := Lib.hid ((hbc.block _ (blk_lt Lb8.out)).trans Lb8.out)
        clear hbc
        have tw0_9 : u9.cell? ⟨v5.heap.size, 0, none⟩ = some (.int .i64 k0) := (blk_cell Lw9.out 0).trans rfl
        have tw1_9 : u9.cell? ⟨v5.heap.size, 1, none⟩ = some (.int .i64 k1) := (blk_cell Lw9.out 1).trans rfl
        have tw2_9 : u9.cell? ⟨v5.heap.size, 2, none⟩ = some (.int .u32 (Go.bits .or .u32 q2 k2)) := (blk_cell Lw9.out 2).trans rfl
        have tw3_9 : u9.cell? ⟨v5.heap.size, 3, none⟩ = some (.int .u32 (Go.bits .or .u32 q3 k3)) := (blk_cell Lw9.out 3).trans rfl
        have tq0_9 : u9.cell? ⟨gq, 0, none⟩ = some (.int .i64 q0) := (blk_cell Lq9.out 0).trans rfl
        have tq1_9 : u9.cell? ⟨gq, 1, none⟩ = some (.int .i64 q1) := (blk_cell Lq9.out 1).trans rfl
        have tq2_9 : u9.cell? ⟨gq, 2, none⟩ = some (.int .u32 q2) := (blk_cell Lq9.out 2).trans rfl
        have tq3_9 : u9.cell? ⟨gq, 3, none⟩ = some (.int .u32 q3) := (blk_cell Lq9.out 3).trans rfl
        have tk0_9 : u9.cell? ⟨gk, 0, none⟩ = some (.int .i64 k0) := (blk_cell Lk9.out 0).trans rfl
        have tk1_9 : u9.cell? ⟨gk, 1, none⟩ = some (.int .i64 k1) := (blk_cell Lk9.out 1).trans rfl
        have tk2_9 : u9.cell? ⟨gk, 2, none⟩ = some (.int .u32 k2) := (blk_cell Lk9.out 2).trans rfl
        have tk3_9 : u9.cell? ⟨gk, 3, none⟩ = some (.int .u32 k3) := (blk_cell Lk9.out 3).trans rfl
        have te0_9 : u9.cell? ⟨ge, 0, none⟩ = some (.int .i64 e0) := (blk_cell Le9.out 0).trans rfl
        have te1_9 : u9.cell? ⟨ge, 1, none⟩ = some (.int .i64 e1) := (blk_cell Le9.out 1).trans rfl
        have te2_9 : u9.cell? ⟨ge, 2, none⟩ = some (.bool e2) := (blk_cell Le9.out 2).trans rfl
        have te3_9 : u9.cell? ⟨ge, 3, none⟩ = some (.int .i64 e3) := (blk_cell Le9.out 3).trans rfl
        have te4_9 : u9.cell? ⟨ge, 4, none⟩ = some (.string e4) := (blk_cell Le9.out 4).trans rfl
        have te5_9 : u9.cell? ⟨ge, 5, none⟩ = some (.string e5) := (blk_cell Le9.out 5).trans rfl
        have te6_9 : u9.cell? ⟨ge, 6, none⟩ = some (.string e6) := (blk_cell Le9.out 6).trans rfl
        have te7_9 : u9.cell? ⟨ge, 7, none⟩ = some (.string e7) := (blk_cell Le9.out 7).trans rfl
        have te8_9 : u9.cell? ⟨ge, 8, none⟩ = some (.slice A e8.length c) := (blk_cell Le9.out 8).trans rfl
        have te9_9 : u9.cell? ⟨ge, 9, none⟩ = some (.string e9) := (blk_cell Le9.out 9).trans rfl
        have tb0_9 : u9.cell? ⟨gb, 0, none⟩ = some (.int .i64 b0) := (blk_cell Lb9.out 0).trans rfl
        have tb1_9 : u9.cell? ⟨gb, 1, none⟩ = some (.int .i64 b1) := (blk_cell Lb9.out 1).trans rfl
        have tb2_9 : u9.cell? ⟨gb, 2, none⟩ = some (.int .u32 b2) := (blk_cell Lb9.out 2).trans rfl
        have tb3_9 : u9.cell? ⟨gb, 3, none⟩ = some (.int .u32 b3) := (blk_cell Lb9.out 3).trans rfl
        have tb4_9 : u9.cell? ⟨gb, 4, none⟩ = some (.int .u64 b4) := (blk_cell Lb9.out 4).trans rfl
        have tb5_9 : u9.cell? ⟨gb, 5, none⟩ = some (.bool b5) := (blk_cell Lb9.out 5).trans rfl
        have M0 := Mbq.out
        generalize mayB q0 q1 q2 q3 b0 b1 b2 b3 b4 = r1 at M0 ⊢
        cases r1 with
        | false =>
          clear M0
          go_wp2_with fail
          refine (my.out k0 k1 k2 k3 _).mono ?_
          rintro e u10 ⟨rfl, hbc⟩
          have BB10 := Lib.hid (below_then BB9.out (BB9.out).size hbc)
          have Lw10 := Lib.hid ((hbc.block _ (blk_lt Lw9.out)).trans Lw9.out)
          have Lq10 := Lib.hid ((hbc.block _ (blk_lt Lq9.out)).trans Lq9.out)
          have Lk10 := Lib.hid ((hbc.block _ (blk_lt Lk9.out)).trans Lk9.out)
          have Le10 := Lib.hid ((hbc.block _ (blk_lt Le9.out)).trans Le9.out)
          have Lb10 := Lib.hid ((hbc.block _ (blk_lt Lb9.out)).trans Lb9.out)
          clear hbc
          have tw0_10 : u10.cell? ⟨v5.heap.size, 0, none⟩ = some (.int .i64 k0) := (blk_cell Lw10.out 0).trans rfl
          have tw1_10 : u10.cell? ⟨v5.heap.size, 1, none⟩ = some (.int .i64 k1) := (blk_cell Lw10.out 1).trans rfl
          have tw2_10 : u10.cell? ⟨v5.heap.size, 2, none⟩ = some (.int .u32 (Go.bits .or .u32 q2 k2)) := (blk_cell Lw10.out 2).trans rfl
          have tw3_10 : u10.cell? ⟨v5.heap.size, 3, none⟩ = some (.int .u32 (Go.bits .or .u32 q3 k3)) := (blk_cell Lw10.out 3).trans rfl
          have tq0_10 : u10.cell? ⟨gq, 0, none⟩ = some (.int .i64 q0) := (blk_cell Lq10.out 0).trans rfl
          have tq1_10 : u10.cell? ⟨gq, 1, none⟩ = some (.int .i64 q1) := (blk_cell Lq10.out 1).trans rfl
          have tq2_10 : u10.cell? ⟨gq, 2, none⟩ = some (.int .u32 q2) := (blk_cell Lq10.out 2).trans rfl
          have tq3_10 : u10.cell? ⟨gq, 3, none⟩ = some (.int .u32 q3) := (blk_cell Lq10.out 3).trans rfl
          have tk0_10 : u10.cell? ⟨gk, 0, none⟩ = some (.int .i64 k0) := (blk_cell Lk10.out 0).trans rfl
          have tk1_10 : u10.cell? ⟨gk, 1, none⟩ = some (.int .i64 k1) := (blk_cell Lk10.out 1).trans rfl
          have tk2_10 : u10.cell? ⟨gk, 2, none⟩ = some (.int .u32 k2) := (blk_cell Lk10.out 2).trans rfl
          have tk3_10 : u10.cell? ⟨gk, 3, none⟩ = some (.int .u32 k3) := (blk_cell Lk10.out 3).trans rfl
          have te0_10 : u10.cell? ⟨ge, 0, none⟩ = some (.int .i64 e0) := (blk_cell Le10.out 0).trans rfl
          have te1_10 : u10.cell? ⟨ge, 1, none⟩ = some (.int .i64 e1) := (blk_cell Le10.out 1).trans rfl
          have te2_10 : u10.cell? ⟨ge, 2, none⟩ = some (.bool e2) := (blk_cell Le10.out 2).trans rfl
          have te3_10 : u10.cell? ⟨ge, 3, none⟩ = some (.int .i64 e3) := (blk_cell Le10.out 3).trans rfl
          have te4_10 : u10.cell? ⟨ge, 4, none⟩ = some (.string e4) := (blk_cell Le10.out 4).trans rfl
          have te5_10 : u10.cell? ⟨ge, 5, none⟩ = some (.string e5) := (blk_cell Le10.out 5).trans rfl
          have te6_10 : u10.cell? ⟨ge, 6, none⟩ = some (.string e6) := (blk_cell Le10.out 6).trans rfl
          have te7_10 : u10.cell? ⟨ge, 7, none⟩ = some (.string e7) := (blk_cell Le10.out 7).trans rfl
          have te8_10 : u10.cell? ⟨ge, 8, none⟩ = some (.slice A e8.length c) := (blk_cell Le10.out 8).trans rfl
          have te9_10 : u10.cell? ⟨ge, 9, none⟩ = some (.string e9) := (blk_cell Le10.out 9).trans rfl
          have tb0_10 : u10.cell? ⟨gb, 0, none⟩ = some (.int .i64 b0) := (blk_cell Lb10.out 0).trans rfl
          have tb1_10 : u10.cell? ⟨gb, 1, none⟩ = some (.int .i64 b1) := (blk_cell Lb10.out 1).trans rfl
          have tb2_10 : u10.cell? ⟨gb, 2, none⟩ = some (.int .u32 b2) := (blk_cell Lb10.out 2).trans rfl
          have tb3_10 : u10.cell? ⟨gb, 3, none⟩ = some (.int .u32 b3) := (blk_cell Lb10.out 3).trans rfl
          have tb4_10 : u10.cell? ⟨gb, 4, none⟩ = some (.int .u64 b4) := (blk_cell Lb10.out 4).trans rfl
          have tb5_10 : u10.cell? ⟨gb, 5, none⟩ = some (.bool b5) := (blk_cell Lb10.out 5).trans rfl
          have M0 := Mbk.out
          generalize mayB k0 k1 k2 k3 b0 b1 b2 b3 b4 = r2 at M0 ⊢
          cases r2 with
          | false =>
            clear M0
            go_wp2_with fail
            go_ret
            exact ⟨rfl, BB10.out⟩
          | true =>
            have M1 := Lib.hid (M0 rfl)
            clear M0
            go_wp2_with fail
            refine (my.out (k0) (k1) ((Go.bits .or .u32 q2 k2)) ((Go.bits .or .u32 q3 k3)) _).mono ?_
            rintro e u11 ⟨rfl, hbc⟩
            have BB11 := Lib.hid (below_then BB10.out (BB10.out).size hbc)
            have Lw11 := Lib.hid ((hbc.block _ (blk_lt Lw10.out)).trans Lw10.out)
            have Lq11 := Lib.hid ((hbc.block _ (blk_lt Lq10.out)).trans Lq10.out)
            have Lk11 := Lib.hid ((hbc.block _ (blk_lt Lk10.out)).trans Lk10.out)
            have Le11 := Lib.hid ((hbc.block _ (blk_lt Le10.out)).trans Le10.out)
            have Lb11 := Lib.hid ((hbc.block _ (blk_lt Lb10.out)).trans Lb10.out)
            clear hbc
            have tw0_11 : u11.cell? ⟨v5.heap.size, 0, none⟩ = some (.int .i64 k0) := (blk_cell Lw11.out 0).trans rfl
            have tw1_11 : u11.cell? ⟨v5.heap.size, 1, none⟩ = some (.int .i64 k1) := (blk_cell Lw11.out 1).trans rfl
            have tw2_11 : u11.cell? ⟨v5.heap.size, 2, none⟩ = some (.int .u32 (Go.bits .or .u32 q2 k2)) := (blk_cell Lw11.out 2).trans rfl
            have tw3_11 : u11.cell? ⟨v5.heap.size, 3, none⟩ = some (.int .u32 (Go.bits .or .u32 q3 k3)) := (blk_cell Lw11.out 3).trans rfl
            have tq0_11 : u11.cell? ⟨gq, 0, none⟩ = some (.int .i64 q0) := (blk_cell Lq11.out 0).trans rfl
            have tq1_11 : u11.cell? ⟨gq, 1, none⟩ = some (.int .i64 q1) := (blk_cell Lq11.out 1).trans rfl
            have tq2_11 : u11.cell? ⟨gq, 2, none⟩ = some (.int .u32 q2) := (blk_cell Lq11.out 2).trans rfl
            have tq3_11 : u11.cell? ⟨gq, 3, none⟩ = some (.int .u32 q3) := (blk_cell Lq11.out 3).trans rfl
            have tk0_11 : u11.cell? ⟨gk, 0, none⟩ = some (.int .i64 k0) := (blk_cell Lk11.out 0).trans rfl
            have tk1_11 : u11.cell? ⟨gk, 1, none⟩ = some (.int .i64 k1) := (blk_cell Lk11.out 1).trans rfl
            have tk2_11 : u11.cell? ⟨gk, 2, none⟩ = some (.int .u32 k2) := (blk_cell Lk11.out 2).trans rfl
            have tk3_11 : u11.cell? ⟨gk, 3, none⟩ = some (.int .u32 k3) := (blk_cell Lk11.out 3).trans rfl
            have te0_11 : u11.cell? ⟨ge, 0, none⟩ = some (.int .i64 e0) := (blk_cell Le11.out 0).trans rfl
            have te1_11 : u11.cell? ⟨ge, 1, none⟩ = some (.int .i64 e1) := (blk_cell Le11.out 1).trans rfl
            have te2_11 : u11.cell? ⟨ge, 2, none⟩ = some (.bool e2) := (blk_cell Le11.out 2).trans rfl
            have te3_11 : u11.cell? ⟨ge, 3, none⟩ = some (.int .i64 e3) := (blk_cell Le11.out 3).trans rfl
            have te4_11 : u11.cell? ⟨ge, 4, none⟩ = some (.string e4) := (blk_cell Le11.out 4).trans rfl
            have te5_11 : u11.cell? ⟨ge, 5, none⟩ = some (.string e5) := (blk_cell Le11.out 5).trans rfl
            have te6_11 : u11.cell? ⟨ge, 6, none⟩ = some (.string e6) := (blk_cell Le11.out 6).trans rfl
            have te7_11 : u11.cell? ⟨ge, 7, none⟩ = some (.string e7) := (blk_cell Le11.out 7).trans rfl
            have te8_11 : u11.cell? ⟨ge, 8, none⟩ = some (.slice A e8.length c) := (blk_cell Le11.out 8).trans rfl
            have te9_11 : u11.cell? ⟨ge, 9, none⟩ = some (.string e9) := (blk_cell Le11.out 9).trans rfl
            have tb0_11 : u11.cell? ⟨gb, 0, none⟩ = some (.int .i64 b0) := (blk_cell Lb11.out 0).trans rfl
            have tb1_11 : u11.cell? ⟨gb, 1, none⟩ = some (.int .i64 b1) := (blk_cell Lb11.out 1).trans rfl
            have tb2_11 : u11.cell? ⟨gb, 2, none⟩ = some (.int .u32 b2) := (blk_cell Lb11.out 2).trans rfl
            have tb3_11 : u11.cell? ⟨gb, 3, none⟩ = some (.int .u32 b3) := (blk_cell Lb11.out 3).trans rfl
            have tb4_11 : u11.cell? ⟨gb, 4, none⟩ = some (.int .u64 b4) := (blk_cell Lb11.out 4).trans rfl
            have tb5_11 : u11.cell? ⟨gb, 5, none⟩ = some (.bool b5) := (blk_cell Lb11.out 5).trans rfl
            rw [M1.out]
            clear M1
            go_wp2_with fail
            go_ret
            exact ⟨rfl, BB11.out⟩
        | true =>
          have M1 := Lib.hid (M0 rfl)
          clear M0
          go_wp2_with fail
          refine (my.out (k0) (k1) ((Go.bits .or .u32 q2 k2)) ((Go.bits .or .u32 q3 k3)) _).mono ?_
          rintro e u12 ⟨rfl, hbc⟩
          have BB12 := Lib.hid (below_then BB9.out (BB9.out).size hbc)
          have Lw12 := Lib.hid ((hbc.block _ (blk_lt Lw9.out)).trans Lw9.out)
          have Lq12 := Lib.hid ((hbc.block _ (blk_lt Lq9.out)).trans Lq9.out)
          have Lk12 := Lib.hid ((hbc.block _ (blk_lt Lk9.out)).trans Lk9.out)
          have Le12 := Lib.hid ((hbc.block _ (blk_lt Le9.out)).trans Le9.out)
          have Lb12 := Lib.hid ((hbc.block _ (blk_lt Lb9.out)).trans Lb9.out)
          clear hbc
          have tw0_12 : u12.cell? ⟨v5.heap.size, 0, none⟩ = some (.int .i64 k0) := (blk_cell Lw12.out 0).trans rfl
          have tw1_12 : u12.cell? ⟨v5.heap.size, 1, none⟩ = some (.int .i64 k1) := (blk_cell Lw12.out 1).trans rfl
          have tw2_12 : u12.cell? ⟨v5.heap.size, 2, none⟩ = some (.int .u32 (Go.bits .or .u32 q2 k2)) := (blk_cell Lw12.out 2).trans rfl
          have tw3_12 : u12.cell? ⟨v5.heap.size, 3, none⟩ = some (.int .u32 (Go.bits .or .u32 q3 k3)) := (blk_cell Lw12.out 3).trans rfl
          have tq0_12 : u12.cell? ⟨gq, 0, none⟩ = some (.int .i64 q0) := (blk_cell Lq12.out 0).trans rfl
          have tq1_12 : u12.cell? ⟨gq, 1, none⟩ = some (.int .i64 q1) := (blk_cell Lq12.out 1).trans rfl
          have tq2_12 : u12.cell? ⟨gq, 2, none⟩ = some (.int .u32 q2) := (blk_cell Lq12.out 2).trans rfl
          have tq3_12 : u12.cell? ⟨gq, 3, none⟩ = some (.int .u32 q3) := (blk_cell Lq12.out 3).trans rfl
          have tk0_12 : u12.cell? ⟨gk, 0, none⟩ = some (.int .i64 k0) := (blk_cell Lk12.out 0).trans rfl
          have tk1_12 : u12.cell? ⟨gk, 1, none⟩ = some (.int .i64 k1) := (blk_cell Lk12.out 1).trans rfl
          have tk2_12 : u12.cell? ⟨gk, 2, none⟩ = some (.int .u32 k2) := (blk_cell Lk12.out 2).trans rfl
          have tk3_12 : u12.cell? ⟨gk, 3, none⟩ = some (.int .u32 k3) := (blk_cell Lk12.out 3).trans rfl
          have te0_12 : u12.cell? ⟨ge, 0, none⟩ = some (.int .i64 e0) := (blk_cell Le12.out 0).trans rfl
          have te1_12 : u12.cell? ⟨ge, 1, none⟩ = some (.int .i64 e1) := (blk_cell Le12.out 1).trans rfl
          have te2_12 : u12.cell? ⟨ge, 2, none⟩ = some (.bool e2) := (blk_cell Le12.out 2).trans rfl
          have te3_12 : u12.cell? ⟨ge, 3, none⟩ = some (.int .i64 e3) := (blk_cell Le12.out 3).trans rfl
          have te4_12 : u12.cell? ⟨ge, 4, none⟩ = some (.string e4) := (blk_cell Le12.out 4).trans rfl
          have te5_12 : u12.cell? ⟨ge, 5, none⟩ = some (.string e5) := (blk_cell Le12.out 5).trans rfl
          have te6_12 : u12.cell? ⟨ge, 6, none⟩ = some (.string e6) := (blk_cell Le12.out 6).trans rfl
          have te7_12 : u12.cell? ⟨ge, 7, none⟩ = some (.string e7) := (blk_cell Le12.out 7).trans rfl
          have te8_12 : u12.cell? ⟨ge, 8, none⟩ = some (.slice A e8.length c) := (blk_cell Le12.out 8).trans rfl
          have te9_12 : u12.cell? ⟨ge, 9, none⟩ = some (.string e9) := (blk_cell Le12.out 9).trans rfl
          have tb0_12 : u12.cell? ⟨gb, 0, none⟩ = some (.int .i64 b0) := (blk_cell Lb12.out 0).trans rfl
          have tb1_12 : u12.cell? ⟨gb, 1, none⟩ = some (.int .i64 b1) := (blk_cell Lb12.out 1).trans rfl
          have tb2_12 : u12.cell? ⟨gb, 2, none⟩ = some (.int .u32 b2) := (blk_cell Lb12.out 2).trans rfl
          have tb3_12 : u12.cell? ⟨gb, 3, none⟩ = some (.int .u32 b3) := (blk_cell Lb12.out 3).trans rfl
          have tb4_12 : u12.cell? ⟨gb, 4, none⟩ = some (.int .u64 b4) := (blk_cell Lb12.out 4).trans rfl
          have tb5_12 : u12.cell? ⟨gb, 5, none⟩ = some (.bool b5) := (blk_cell Lb12.out 5).trans rfl
          rw [M1.out]
          clear M1
          go_wp2_with fail
          refine (my.out k0 k1 k2 k3 _).mono ?_
          rintro e u13 ⟨rfl, hbc⟩
          have BB13 := Lib.hid (below_then BB12.out (BB12.out).size hbc)
          have Lw13 := Lib.hid ((hbc.block _ (blk_lt Lw12.out)).trans Lw12.out)
          have Lq13 := Lib.hid ((hbc.block _ (blk_lt Lq12.out)).trans Lq12.out)
          have Lk13 := Lib.hid ((hbc.block _ (blk_lt Lk12.out)).trans Lk12.out)
          have Le13 := Lib.hid ((hbc.block _ (blk_lt Le12.out)).trans Le12.out)
          have Lb13 := Lib.hid ((hbc.block _ (blk_lt Lb12.out)).trans Lb12.out)
          clear hbc
          have tw0_13 : u13.cell? ⟨v5.heap.size, 0, none⟩ = some (.int .i64 k0) := (blk_cell Lw13.out 0).trans rfl
          have tw1_13 : u13.cell? ⟨v5.heap.size, 1, none⟩ = some (.int .i64 k1) := (blk_cell Lw13.out 1).trans rfl
          have tw2_13 : u13.cell? ⟨v5.heap.size, 2, none⟩ = some (.int .u32 (Go.bits .or .u32 q2 k2)) := (blk_cell Lw13.out 2).trans rfl
          have tw3_13 : u13.cell? ⟨v5.heap.size, 3, none⟩ = some (.int .u32 (Go.bits .or .u32 q3 k3)) := (blk_cell Lw13.out 3).trans rfl
          have tq0_13 : u13.cell? ⟨gq, 0, none⟩ = some (.int .i64 q0) := (blk_cell Lq13.out 0).trans rfl
          have tq1_13 : u13.cell? ⟨gq, 1, none⟩ = some (.int .i64 q1) := (blk_cell Lq13.out 1).trans rfl
          have tq2_13 : u13.cell? ⟨gq, 2, none⟩ = some (.int .u32 q2) := (blk_cell Lq13.out 2).trans rfl
          have tq3_13 : u13.cell? ⟨gq, 3, none⟩ = some (.int .u32 q3) := (blk_cell Lq13.out 3).trans rfl
          have tk0_13 : u13.cell? ⟨gk, 0, none⟩ = some (.int .i64 k0) := (blk_cell Lk13.out 0).trans rfl
          have tk1_13 : u13.cell? ⟨gk, 1, none⟩ = some (.int .i64 k1) := (blk_cell Lk13.out 1).trans rfl
          have tk2_13 : u13.cell? ⟨gk, 2, none⟩ = some (.int .u32 k2) := (blk_cell Lk13.out 2).trans rfl
          have tk3_13 : u13.cell? ⟨gk, 3, none⟩ = some (.int .u32 k3) := (blk_cell Lk13.out 3).trans rfl
          have te0_13 : u13.cell? ⟨ge, 0, none⟩ = some (.int .i64 e0) := (blk_cell Le13.out 0).trans rfl
          have te1_13 : u13.cell? ⟨ge, 1, none⟩ = some (.int .i64 e1) := (blk_cell Le13.out 1).trans rfl
          have te2_13 : u13.cell? ⟨ge, 2, none⟩ = some (.bool e2) := (blk_cell Le13.out 2).trans rfl
          have te3_13 : u13.cell? ⟨ge, 3, none⟩ = some (.int .i64 e3) := (blk_cell Le13.out 3).trans rfl
          have te4_13 : u13.cell? ⟨ge, 4, none⟩ = some (.string e4) := (blk_cell Le13.out 4).trans rfl
          have te5_13 : u13.cell? ⟨ge, 5, none⟩ = some (.string e5) := (blk_cell Le13.out 5).trans rfl
          have te6_13 : u13.cell? ⟨ge, 6, none⟩ = some (.string e6) := (blk_cell Le13.out 6).trans rfl
          have te7_13 : u13.cell? ⟨ge, 7, none⟩ = some (.string e7) := (blk_cell Le13.out 7).trans rfl
          have te8_13 : u13.cell? ⟨ge, 8, none⟩ = some (.slice A e8.length c) := (blk_cell Le13.out 8).trans rfl
          have te9_13 : u13.cell? ⟨ge, 9, none⟩ = some (.string e9) := (blk_cell Le13.out 9).trans rfl
          have tb0_13 : u13.cell? ⟨gb, 0, none⟩ = some (.int .i64 b0) := (blk_cell Lb13.out 0).trans rfl
          have tb1_13 : u13.cell? ⟨gb, 1, none⟩ = some (.int .i64 b1) := (blk_cell Lb13.out 1).trans rfl
          have tb2_13 : u13.cell? ⟨gb, 2, none⟩ = some (.int .u32 b2) := (blk_cell Lb13.out 2).trans rfl
          have tb3_13 : u13.cell? ⟨gb, 3, none⟩ = some (.int .u32 b3) := (blk_cell Lb13.out 3).trans rfl
          have tb4_13 : u13.cell? ⟨gb, 4, none⟩ = some (.int .u64 b4) := (blk_cell Lb13.out 4).trans rfl
          have tb5_13 : u13.cell? ⟨gb, 5, none⟩ = some (.bool b5) := (blk_cell Lb13.out 5).trans rfl
          have M0 := Mbk.out
          generalize mayB k0 k1 k2 k3 b0 b1 b2 b3 b4 = r2 at M0 ⊢
          cases r2 with
          | false =>
            clear M0
            go_wp2_with fail
            go_ret
            exact ⟨rfl, BB13.out⟩
          | true =>
            have M1 := Lib.hid (M0 rfl)
            clear M0
            go_wp2_with fail
            refine (my.out (k0) (k1) ((Go.bits .or .u32 q2 k2)) ((Go.bits .or .u32 q3 k3)) _).mono ?_
            rintro e u14 ⟨rfl, hbc⟩
            have BB14 := Lib.hid (below_then BB13.out (BB13.out).size hbc)
            have Lw14 := Lib.hid ((hbc.block _ (blk_lt Lw13.out)).trans Lw13.out)
            have Lq14 := Lib.hid ((hbc.block _ (blk_lt Lq13.out)).trans Lq13.out)
            have Lk14 := Lib.hid ((hbc.block _ (blk_lt Lk13.out)).trans Lk13.out)
            have Le14 := Lib.hid ((hbc.block _ (blk_lt Le13.out)).trans Le13.out)
            have Lb14 := Lib.hid ((hbc.block _ (blk_lt Lb13.out)).trans Lb13.out)
            clear hbc
            have tw0_14 : u14.cell? ⟨v5.heap.size, 0, none⟩ = some (.int .i64 k0) := (blk_cell Lw14.out 0).trans rfl
            have tw1_14 : u14.cell? ⟨v5.heap.size, 1, none⟩ = some (.int .i64 k1) := (blk_cell Lw14.out 1).trans rfl
            have tw2_14 : u14.cell? ⟨v5.heap.size, 2, none⟩ = some (.int .u32 (Go.bits .or .u32 q2 k2)) := (blk_cell Lw14.out 2).trans rfl
            have tw3_14 : u14.cell? ⟨v5.heap.size, 3, none⟩ = some (.int .u32 (Go.bits .or .u32 q3 k3)) := (blk_cell Lw14.out 3).trans rfl
            have tq0_14 : u14.cell? ⟨gq, 0, none⟩ = some (.int .i64 q0) := (blk_cell Lq14.out 0).trans rfl
            have tq1_14 : u14.cell? ⟨gq, 1, none⟩ = some (.int .i64 q1) := (blk_cell Lq14.out 1).trans rfl
            have tq2_14 : u14.cell? ⟨gq, 2, none⟩ = some (.int .u32 q2) := (blk_cell Lq14.out 2).trans rfl
            have tq3_14 : u14.cell? ⟨gq, 3, none⟩ = some (.int .u32 q3) := (blk_cell Lq14.out 3).trans rfl
            have tk0_14 : u14.cell? ⟨gk, 0, none⟩ = some (.int .i64 k0) := (blk_cell Lk14.out 0).trans rfl
            have tk1_14 : u14.cell? ⟨gk, 1, none⟩ = some (.int .i64 k1) := (blk_cell Lk14.out 1).trans rfl
            have tk2_14 : u14.cell? ⟨gk, 2, none⟩ = some (.int .u32 k2) := (blk_cell Lk14.out 2).trans rfl
            have tk3_14 : u14.cell? ⟨gk, 3, none⟩ = some (.int .u32 k3) := (blk_cell Lk14.out 3).trans rfl
            have te0_14 : u14.cell? ⟨ge, 0, none⟩ = some (.int .i64 e0) := (blk_cell Le14.out 0).trans rfl
            have te1_14 : u14.cell? ⟨ge, 1, none⟩ = some (.int .i64 e1) := (blk_cell Le14.out 1).trans rfl
            have te2_14 : u14.cell? ⟨ge, 2, none⟩ = some (.bool e2) := (blk_cell Le14.out 2).trans rfl
            have te3_14 : u14.cell? ⟨ge, 3, none⟩ = some (.int .i64 e3) := (blk_cell Le14.out 3).trans rfl
            have te4_14 : u14.cell? ⟨ge, 4, none⟩ = some (.string e4) := (blk_cell Le14.out 4).trans rfl
            have te5_14 : u14.cell? ⟨ge, 5, none⟩ = some (.string e5) := (blk_cell Le14.out 5).trans rfl
            have te6_14 : u14.cell? ⟨ge, 6, none⟩ = some (.string e6) := (blk_cell Le14.out 6).trans rfl
            have te7_14 : u14.cell? ⟨ge, 7, none⟩ = some (.string e7) := (blk_cell Le14.out 7).trans rfl
            have te8_14 : u14.cell? ⟨ge, 8, none⟩ = some (.slice A e8.length c) := (blk_cell Le14.out 8).trans rfl
            have te9_14 : u14.cell? ⟨ge, 9, none⟩ = some (.string e9) := (blk_cell Le14.out 9).trans rfl
            have tb0_14 : u14.cell? ⟨gb, 0, none⟩ = some (.int .i64 b0) := (blk_cell Lb14.out 0).trans rfl
            have tb1_14 : u14.cell? ⟨gb, 1, none⟩ = some (.int .i64 b1) := (blk_cell Lb14.out 1).trans rfl
            have tb2_14 : u14.cell? ⟨gb, 2, none⟩ = some (.int .u32 b2) := (blk_cell Lb14.out 2).trans rfl
            have tb3_14 : u14.cell? ⟨gb, 3, none⟩ = some (.int .u32 b3) := (blk_cell Lb14.out 3).trans rfl
            have tb4_14 : u14.cell? ⟨gb, 4, none⟩ = some (.int .u64 b4) := (blk_cell Lb14.out 4).trans rfl
            have tb5_14 : u14.cell? ⟨gb, 5, none⟩ = some (.bool b5) := (blk_cell Lb14.out 5).trans rfl
            rw [M1.out]
            clear M1
            go_wp2_with fail
            go_ret
            exact ⟨rfl, BB14.out⟩
    · skip
      have d2 : decide (k1 > q1) = false := decide_eq_false h2
      have sq0 : (v5.alloc (.cells #[.int .i64 k0, .int .i64 q1, .int .u32 (Go.bits .or .u32 q2 k2), .int .u32 (Go.bits .or .u32 q3 k3)] 30 (0, 0))).cell? ⟨gq, 0, none⟩ = some (.int .i64 q0) := (blk_cell (blk_alloc Hq (.cells #[.int .i64 k0, .int .i64 q1, .int .u32 (Go.bits .or .u32 q2 k2), .int .u32 (Go.bits .or .u32 q3 k3)] 30 (0, 0))) 0).trans rfl
      have sq1 : (v5.alloc (.cells #[.int .i64 k0, .int .i64 q1, .int .u32 (Go.bits .or .u32 q2 k2), .int .u32 (Go.bits .or .u32 q3 k3)] 30 (0, 0))).cell? ⟨gq, 1, none⟩ = some (.int .i64 q1) := (blk_cell (blk_alloc Hq (.cells #[.int .i64 k0, .int .i64 q1, .int .u32 (Go.bits .or .u32 q2 k2), .int .u32 (Go.bits .or .u32 q3 k3)] 30 (0, 0))) 1).trans rfl
      have sq2 : (v5.alloc (.cells #[.int .i64 k0, .int .i64 q1, .int .u32 (Go.bits .or .u32 q2 k2), .int .u32 (Go.bits .or .u32 q3 k3)] 30 (0, 0))).cell? ⟨gq, 2, none⟩ = some (.int .u32 q2) := (blk_cell (blk_alloc Hq (.cells #[.int .i64 k0, .int .i64 q1, .int .u32 (Go.bits .or .u32 q2 k2), .int .u32 (Go.bits .or .u32 q3 k3)] 30 (0, 0))) 2).trans rfl
      have sq3 : (v5.alloc (.cells #[.int .i64 k0, .int .i64 q1, .int .u32 (Go.bits .or .u32 q2 k2), .int .u32 (Go.bits .or .u32 q3 k3)] 30 (0, 0))).cell? ⟨gq, 3, none⟩ = some (.int .u32 q3) := (blk_cell (blk_alloc Hq (.cells #[.int .i64 k0, .int .i64 q1, .int .u32 (Go.bits .or .u32 q2 k2), .int .u32 (Go.bits .or .u32 q3 k3)] 30 (0, 0))) 3).trans rfl
      have sk0 : (v5.alloc (.cells #[.int .i64 k0, .int .i64 q1, .int .u32 (Go.bits .or .u32 q2 k2), .int .u32 (Go.bits .or .u32 q3 k3)] 30 (0, 0))).cell? ⟨gk, 0, none⟩ = some (.int .i64 k0) := (blk_cell (blk_alloc Hk (.cells #[.int .i64 k0, .int .i64 q1, .int .u32 (Go.bits .or .u32 q2 k2), .int .u32 (Go.bits .or .u32 q3 k3)] 30 (0, 0))) 0).trans rfl
      have sk1 : (v5.alloc (.cells #[.int .i64 k0, .int .i64 q1, .int .u32 (Go.bits .or .u32 q2 k2), .int .u32 (Go.bits .or .u32 q3 k3)] 30 (0, 0))).cell? ⟨gk, 1, none⟩ = some (.int .i64 k1) := (blk_cell (blk_alloc Hk (.cells #[.int .i64 k0, .int .i64 q1, .int .u32 (Go.bits .or .u32 q2 k2), .int .u32 (Go.bits .or .u32 q3 k3)] 30 (0, 0))) 1).trans rfl
      have sk2 : (v5.alloc (.cells #[.int .i64 k0, .int .i64 q1, .int .u32 (Go.bits .or .u32 q2 k2), .int .u32 (Go.bits .or .u32 q3 k3)] 30 (0, 0))).cell? ⟨gk, 2, none⟩ = some (.int .u32 k2) := (blk_cell (blk_alloc Hk (.cells #[.int .i64 k0, .int .i64 q1, .int .u32 (Go.bits .or .u32 q2 k2), .int .u32 (Go.bits .or .u32 q3 k3)] 30 (0, 0))) 2).trans rfl
      have sk3 : (v5.alloc (.cells #[.int .i64 k0, .int .i64 q1, .int .u32 (Go.bits .or .u32 q2 k2), .int .u32 (Go.bits .or .u32 q3 k3)] 30 (0, 0))).cell? ⟨gk, 3, none⟩ = some (.int .u32 k3) := (blk_cell (blk_alloc Hk (.cells #[.int .i64 k0, .int .i64 q1, .int .u32 (Go.bits .or .u32 q2 k2), .int .u32 (Go.bits .or .u32 q3 k3)] 30 (0, 0))) 3).trans rfl
      have se0 : (v5.alloc (.cells #[.int .i64 k0, .int .i64 q1, .int .u32 (Go.bits .or .u32 q2 k2), .int .u32 (Go.bits .or .u32 q3 k3)] 30 (0, 0))).cell? ⟨ge, 0, none⟩ = some (.int .i64 e0) := (blk_cell (blk_alloc He (.cells #[.int .i64 k0, .int .i64 q1, .int .u32 (Go.bits .or .u32 q2 k2), .int .u32 (Go.bits .or .u32 q3 k3)] 30 (0, 0))) 0).trans rfl
      have se1 : (v5.alloc (.cells #[.int .i64 k0, .int .i64 q1, .int .u32 (Go.bits .or .u32 q2 k2), .int .u32 (Go.bits .or .u32 q3 k3)] 30 (0, 0))).cell? ⟨ge, 1, none⟩ = some (.int .i64 e1) := (blk_cell (blk_alloc He (.cells #[.int .i64 k0, .int .i64 q1, .int .u32 (Go.bits .or .u32 q2 k2), .int .u32 (Go.bits .or .u32 q3 k3)] 30 (0, 0))) 1).trans rfl
      have se2 : (v5.alloc (.cells #[.int .i64 k0, .int .i64 q1, .int .u32 (Go.bits .or .u32 q2 k2), .int .u32 (Go.bits .or .u32 q3 k3)] 30 (0, 0))).cell? ⟨ge, 2, none⟩ = some (.bool e2) := (blk_cell (blk_alloc He (.cells #[.int .i64 k0, .int .i64 q1, .int .u32 (Go.bits .or .u32 q2 k2), .int .u32 (Go.bits .or .u32 q3 k3)] 30 (0, 0))) 2).trans rfl
      have se3 : (v5.alloc (.cells #[.int .i64 k0, .int .i64 q1, .int .u32 (Go.bits .or .u32 q2 k2), .int .u32 (Go.bits .or .u32 q3 k3)] 30 (0, 0))).cell? ⟨ge, 3, none⟩ = some (.int .i64 e3) := (blk_cell (blk_alloc He (.cells #[.int .i64 k0, .int .i64 q1, .int .u32 (Go.bits .or .u32 q2 k2), .int .u32 (Go.bits .or .u32 q3 k3)] 30 (0, 0))) 3).trans rfl
      have se4 : (v5.alloc (.cells #[.int .i64 k0, .int .i64 q1, .int .u32 (Go.bits .or .u32 q2 k2), .int .u32 (Go.bits .or .u32 q3 k3)] 30 (0, 0))).cell? ⟨ge, 4, none⟩ = some (.string e4) := (blk_cell (blk_alloc He (.cells #[.int .i64 k0, .int .i64 q1, .int .u32 (Go.bits .or .u32 q2 k2), .int .u32 (Go.bits .or .u32 q3 k3)] 30 (0, 0))) 4).trans rfl
      have se5 : (v5.alloc (.cells #[.int .i64 k0, .int .i64 q1, .int .u32 (Go.bits .or .u32 q2 k2), .int .u32 (Go.bits .or .u32 q3 k3)] 30 (0, 0))).cell? ⟨ge, 5, none⟩ = some (.string e5) := (blk_cell (blk_alloc He (.cells #[.int .i64 k0, .int .i64 q1, .int .u32 (Go.bits .or .u32 q2 k2), .int .u32 (Go.bits .or .u32 q3 k3)] 30 (0, 0))) 5).trans rfl
      have se6 : (v5.alloc (.cells #[.int .i64 k0, .int .i64 q1, .int .u32 (Go.bits .or .u32 q2 k2), .int .u32 (Go.bits .or .u32 q3 k3)] 30 (0, 0))).cell? ⟨ge, 6, none⟩ = some (.string e6) := (blk_cell (blk_alloc He (.cells #[.int .i64 k0, .int .i64 q1, .int .u32 (Go.bits .or .u32 q2 k2), .int .u32 (Go.bits .or .u32 q3 k3)] 30 (0, 0))) 6).trans rfl
      have se7 : (v5.alloc (.cells #[.int .i64 k0, .int .i64 q1, .int .u32 (Go.bits .or .u32 q2 k2), .int .u32 (Go.bits .or .u32 q3 k3)] 30 (0, 0))).cell? ⟨ge, 7, none⟩ = some (.string e7) := (blk_cell (blk_alloc He (.cells #[.int .i64 k0, .int .i64 q1, .int .u32 (Go.bits .or .u32 q2 k2), .int .u32 (Go.bits .or .u32 q3 k3)] 30 (0, 0))) 7).trans rfl
      have se8 : (v5.alloc (.cells #[.int .i64 k0, .int .i64 q1, .int .u32 (Go.bits .or .u32 q2 k2), .int .u32 (Go.bits .or .u32 q3 k3)] 30 (0, 0))).cell? ⟨ge, 8, none⟩ = some (.slice A e8.length c) := (blk_cell (blk_alloc He (.cells #[.int .i64 k0, .int .i64 q1, .int .u32 (Go.bits .or .u32 q2 k2), .int .u32 (Go.bits .or .u32 q3 k3)] 30 (0, 0))) 8).trans rfl
      have se9 : (v5.alloc (.cells #[.int .i64 k0, .int .i64 q1, .int .u32 (Go.bits .or .u32 q2 k2), .int .u32 (Go.bits .or .u32 q3 k3)] 30 (0, 0))).cell? ⟨ge, 9, none⟩ = some (.string e9) := (blk_cell (blk_alloc He (.cells #[.int .i64 k0, .int .i64 q1, .int .u32 (Go.bits .or .u32 q2 k2), .int .u32 (Go.bits .or .u32 q3 k3)] 30 (0, 0))) 9).trans rfl
      have sb0 : (v5.alloc (.cells #[.int .i64 k0, .int .i64 q1, .int .u32 (Go.bits .or .u32 q2 k2), .int .u32 (Go.bits .or .u32 q3 k3)] 30 (0, 0))).cell? ⟨gb, 0, none⟩ = some (.int .i64 b0) := (blk_cell (blk_alloc Hb (.cells #[.int .i64 k0, .int .i64 q1, .int .u32 (Go.bits .or .u32 q2 k2), .int .u32 (Go.bits .or .u32 q3 k3)] 30 (0, 0))) 0).trans rfl
      have sb1 : (v5.alloc (.cells #[.int .i64 k0, .int .i64 q1, .int .u32 (Go.bits .or .u32 q2 k2), .int .u32 (Go.bits .or .u32 q3 k3)] 30 (0, 0))).cell? ⟨gb, 1, none⟩ = some (.int .i64 b1) := (blk_cell (blk_alloc Hb (.cells #[.int .i64 k0, .int .i64 q1, .int .u32 (Go.bits .or .u32 q2 k2), .int .u32 (Go.bits .or .u32 q3 k3)] 30 (0, 0))) 1).trans rfl
      have sb2 : (v5.alloc (.cells #[.int .i64 k0, .int .i64 q1, .int .u32 (Go.bits .or .u32 q2 k2), .int .u32 (Go.bits .or .u32 q3 k3)] 30 (0, 0))).cell? ⟨gb, 2, none⟩ = some (.int .u32 b2) := (blk_cell (blk_alloc Hb (.cells #[.int .i64 k0, .int .i64 q1, .int .u32 (Go.bits .or .u32 q2 k2), .int .u32 (Go.bits .or .u32 q3 k3)] 30 (0, 0))) 2).trans rfl
      have sb3 : (v5.alloc (.cells #[.int .i64 k0, .int .i64 q1, .int .u32 (Go.bits .or .u32 q2 k2), .int .u32 (Go.bits .or .u32 q3 k3)] 30 (0, 0))).cell? ⟨gb, 3, none⟩ = some (.int .u32 b3) := (blk_cell (blk_alloc Hb (.cells #[.int .i64 k0, .int .i64 q1, .int .u32 (Go.bits .or .u32 q2 k2), .int .u32 (Go.bits .or .u32 q3 k3)] 30 (0, 0))) 3).trans rfl
      have sb4 : (v5.alloc (.cells #[.int .i64 k0, .int .i64 q1, .int .u32 (Go.bits .or .u32 q2 k2), .int .u32 (Go.bits .or .u32 q3 k3)] 30 (0, 0))).cell? ⟨gb, 4, none⟩ = some (.int .u64 b4) := (blk_cell (blk_alloc Hb (.cells #[.int .i64 k0, .int .i64 q1, .int .u32 (Go.bits .or .u32 q2 k2), .int .u32 (Go.bits .or .u32 q3 k3)] 30 (0, 0))) 4).trans rfl
      have sb5 : (v5.alloc (.cells #[.int .i64 k0, .int .i64 q1, .int .u32 (Go.bits .or .u32 q2 k2), .int .u32 (Go.bits .or .u32 q3 k3)] 30 (0, 0))).cell? ⟨gb, 5, none⟩ = some (.bool b5) := (blk_cell (blk_alloc Hb (.cells #[.int .i64 k0, .int .i64 q1, .int .u32 (Go.bits .or .u32 q2 k2), .int .u32 (Go.bits .or .u32 q3 k3)] 30 (0, 0))) 5).trans rfl
      have sw0 : (v5.alloc (.cells #[.int .i64 k0, .int .i64 q1, .int .u32 (Go.bits .or .u32 q2 k2), .int .u32 (Go.bits .or .u32 q3 k3)] 30 (0, 0))).cell? ⟨v5.heap.size, 0, none⟩ = some (.int .i64 k0) := (blk_cell (blk_new v5 (.cells #[.int .i64 k0, .int .i64 q1, .int .u32 (Go.bits .or .u32 q2 k2), .int .u32 (Go.bits .or .u32 q3 k3)] 30 (0, 0))) 0).trans rfl
      have Fsw0 := blk_frozen (blk_new v5 (.cells #[.int .i64 k0, .int .i64 q1, .int .u32 (Go.bits .or .u32 q2 k2), .int .u32 (Go.bits .or .u32 q3 k3)] 30 (0, 0))) 0
      have sw1 : (v5.alloc (.cells #[.int .i64 k0, .int .i64 q1, .int .u32 (Go.bits .or .u32 q2 k2), .int .u32 (Go.bits .or .u32 q3 k3)] 30 (0, 0))).cell? ⟨v5.heap.size, 1, none⟩ = some (.int .i64 q1) := (blk_cell (blk_new v5 (.cells #[.int .i64 k0, .int .i64 q1, .int .u32 (Go.bits .or .u32 q2 k2), .int .u32 (Go.bits .or .u32 q3 k3)] 30 (0, 0))) 1).trans rfl
      have Fsw1 := blk_frozen (blk_new v5 (.cells #[.int .i64 k0, .int .i64 q1, .int .u32 (Go.bits .or .u32 q2 k2), .int .u32 (Go.bits .or .u32 q3 k3)] 30 (0, 0))) 1
      have sw2 : (v5.alloc (.cells #[.int .i64 k0, .int .i64 q1, .int .u32 (Go.bits .or .u32 q2 k2), .int .u32 (Go.bits .or .u32 q3 k3)] 30 (0, 0))).cell? ⟨v5.heap.size, 2, none⟩ = some (.int .u32 (Go.bits .or .u32 q2 k2)) := (blk_cell (blk_new v5 (.cells #[.int .i64 k0, .int .i64 q1, .int .u32 (Go.bits .or .u32 q2 k2), .int .u32 (Go.bits .or .u32 q3 k3)] 30 (0, 0))) 2).trans rfl
      have Fsw2 := blk_frozen (blk_new v5 (.cells #[.int .i64 k0, .int .i64 q1, .int .u32 (Go.bits .or .u32 q2 k2), .int .u32 (Go.bits .or .u32 q3 k3)] 30 (0, 0))) 2
      have sw3 : (v5.alloc (.cells #[.int .i64 k0, .int .i64 q1, .int .u32 (Go.bits .or .u32 q2 k2), .int .u32 (Go.bits .or .u32 q3 k3)] 30 (0, 0))).cell? ⟨v5.heap.size, 3, none⟩ = some (.int .u32 (Go.bits .or .u32 q3 k3)) := (blk_cell (blk_new v5 (.cells #[.int .i64 k0, .int .i64 q1, .int .u32 (Go.bits .or .u32 q2 k2), .int .u32 (Go.bits .or .u32 q3 k3)] 30 (0, 0))) 3).trans rfl
      have Fsw3 := blk_frozen (blk_new v5 (.cells #[.int .i64 k0, .int .i64 q1, .int .u32 (Go.bits .or .u32 q2 k2), .int .u32 (Go.bits .or .u32 q3 k3)] 30 (0, 0))) 3
      have Mmq := Lib.hid (mayB_mono q0 q1 q2 q3 (k0) (q1) ((Go.bits .or .u32 q2 k2)) ((Go.bits .or .u32 q3 k3)) o0 o1 o2 o3 o4 (by omega) (by omega) (Mono.or_left _ _ _) (Mono.or_left _ _ _))
      have Mbq := Lib.hid (mayB_mono q0 q1 q2 q3 (k0) (q1) ((Go.bits .or .u32 q2 k2)) ((Go.bits .or .u32 q3 k3)) b0 b1 b2 b3 b4 (by omega) (by omega) (Mono.or_left _ _ _) (Mono.or_left _ _ _))
      have Mbk := Lib.hid (mayB_mono k0 k1 k2 k3 (k0) (q1) ((Go.bits .or .u32 q2 k2)) ((Go.bits .or .u32 q3 k3)) b0 b1 b2 b3 b4 (by omega) (by omega) (Mono.or_right _ _ _) (Mono.or_right _ _ _))
      have LW := Lib.hid (And.intro (blk_new v5 (.cells #[.int .i64 k0, .int .i64 q1, .int .u32 (Go.bits .or .u32 q2 k2), .int .u32 (Go.bits .or .u32 q3 k3)] 30 (0, 0))) (below_alloc HB (.cells #[.int .i64 k0, .int .i64 q1, .int .u32 (Go.bits .or .u32 q2 k2), .int .u32 (Go.bits .or .u32 q3 k3)] 30 (0, 0))))
      have Lq := Lib.hid (blk_alloc Hq (.cells #[.int .i64 k0, .int .i64 q1, .int .u32 (Go.bits .or .u32 q2 k2), .int .u32 (Go.bits .or .u32 q3 k3)] 30 (0, 0)))
      have Lk := Lib.hid (blk_alloc Hk (.cells #[.int .i64 k0, .int .i64 q1, .int .u32 (Go.bits .or .u32 q2 k2), .int .u32 (Go.bits .or .u32 q3 k3)] 30 (0, 0)))
      have Le := Lib.hid (blk_alloc He (.cells #[.int .i64 k0, .int .i64 q1, .int .u32 (Go.bits .or .u32 q2 k2), .int .u32 (Go.bits .or .u32 q3 k3)] 30 (0, 0)))
      have Lb := Lib.hid (blk_alloc Hb (.cells #[.int .i64 k0, .int .i64 q1, .int .u32 (Go.bits .or .u32 q2 k2), .int .u32 (Go.bits .or .u32 q3 k3)] 30 (0, 0)))
      go_wp2_with fail
      refine (mt.out q0 q1 q2 q3 _ LW.out.2).mono ?_
      rintro e u1 ⟨rfl, hbc⟩
      have BB1 := Lib.hid (below_then LW.out.2 (LW.out.2).size hbc)
      have Lw1 := Lib.hid ((hbc.block _ (blk_lt LW.out.1)).trans LW.out.1)
      have Lq1 := Lib.hid ((hbc.block _ (blk_lt Lq.out)).trans Lq.out)
      have Lk1 := Lib.hid ((hbc.block _ (blk_lt Lk.out)).trans Lk.out)
      have Le1 := Lib.hid ((hbc.block _ (blk_lt Le.out)).trans Le.out)
      have Lb1 := Lib.hid ((hbc.block _ (blk_lt Lb.out)).trans Lb.out)
      clear hbc
      have tw0_1 : u1.cell? ⟨v5.heap.size, 0, none⟩ = some (.int .i64 k0) := (blk_cell Lw1.out 0).trans rfl
      have tw1_1 : u1.cell? ⟨v5.heap.size, 1, none⟩ = some (.int .i64 q1) := (blk_cell Lw1.out 1).trans rfl
      have tw2_1 : u1.cell? ⟨v5.heap.size, 2, none⟩ = some (.int .u32 (Go.bits .or .u32 q2 k2)) := (blk_cell Lw1.out 2).trans rfl
      have tw3_1 : u1.cell? ⟨v5.heap.size, 3, none⟩ = some (.int .u32 (Go.bits .or .u32 q3 k3)) := (blk_cell Lw1.out 3).trans rfl
      have tq0_1 : u1.cell? ⟨gq, 0, none⟩ = some (.int .i64 q0) := (blk_cell Lq1.out 0).trans rfl
      have tq1_1 : u1.cell? ⟨gq, 1, none⟩ = some (.int .i64 q1) := (blk_cell Lq1.out 1).trans rfl
      have tq2_1 : u1.cell? ⟨gq, 2, none⟩ = some (.int .u32 q2) := (blk_cell Lq1.out 2).trans rfl
      have tq3_1 : u1.cell? ⟨gq, 3, none⟩ = some (.int .u32 q3) := (blk_cell Lq1.out 3).trans rfl
      have tk0_1 : u1.cell? ⟨gk, 0, none⟩ = some (.int .i64 k0) := (blk_cell Lk1.out 0).trans rfl
      have tk1_1 : u1.cell? ⟨gk, 1, none⟩ = some (.int .i64 k1) := (blk_cell Lk1.out 1).trans rfl
      have tk2_1 : u1.cell? ⟨gk, 2, none⟩ = some (.int .u32 k2) := (blk_cell Lk1.out 2).trans rfl
      have tk3_1 : u1.cell? ⟨gk, 3, none⟩ = some (.int .u32 k3) := (blk_cell Lk1.out 3).trans rfl
      have te0_1 : u1.cell? ⟨ge, 0, none⟩ = some (.int .i64 e0) := (blk_cell Le1.out 0).trans rfl
      have te1_1 : u1.cell? ⟨ge, 1, none⟩ = some (.int .i64 e1) := (blk_cell Le1.out 1).trans rfl
      have te2_1 : u1.cell? ⟨ge, 2, none⟩ = some (.bool e2) := (blk_cell Le1.out 2).trans rfl
      have te3_1 : u1.cell? ⟨ge, 3, none⟩ = some (.int .i64 e3) := (blk_cell Le1.out 3).trans rfl
      have te4_1 : u1.cell? ⟨ge, 4, none⟩ = some (.string e4) := (blk_cell Le1.out 4).trans rfl
      have te5_1 : u1.cell? ⟨ge, 5, none⟩ = some (.string e5) := (blk_cell Le1.out 5).trans rfl
      have te6_1 : u1.cell? ⟨ge, 6, none⟩ = some (.string e6) := (blk_cell Le1.out 6).trans rfl
      have te7_1 : u1.cell? ⟨ge, 7, none⟩ = some (.string e7) := (blk_cell Le1.out 7).trans rfl
      have te8_1 : u1.cell? ⟨ge, 8, none⟩ = some (.slice A e8.length c) := (blk_cell Le1.out 8).trans rfl
      have te9_1 : u1.cell? ⟨ge, 9, none⟩ = some (.string e9) := (blk_cell Le1.out 9).trans rfl
      have tb0_1 : u1.cell? ⟨gb, 0, none⟩ = some (.int .i64 b0) := (blk_cell Lb1.out 0).trans rfl
      have tb1_1 : u1.cell? ⟨gb, 1, none⟩ = some (.int .i64 b1) := (blk_cell Lb1.out 1).trans rfl
      have tb2_1 : u1.cell? ⟨gb, 2, none⟩ = some (.int .u32 b2) := (blk_cell Lb1.out 2).trans rfl
      have tb3_1 : u1.cell? ⟨gb, 3, none⟩ = some (.int .u32 b3) := (blk_cell Lb1.out 3).trans rfl
      have tb4_1 : u1.cell? ⟨gb, 4, none⟩ = some (.int .u64 b4) := (blk_cell Lb1.out 4).trans rfl
      have tb5_1 : u1.cell? ⟨gb, 5, none⟩ = some (.bool b5) := (blk_cell Lb1.out 5).trans rfl
      have M0 : (decide (o4 = 1) && mayB q0 q1 q2 q3 o0 o1 o2 o3 o4) = true → (decide (o4 = 1) && mayB (k0) (q1) ((Go.bits .or .u32 q2 k2)) ((Go.bits .or .u32 q3 k3)) o0 o1 o2 o3 o4) = true := fun h => by rw [Bool.and_eq_true] at h ⊢; exact ⟨h.1, Mmq.out h.2⟩
      generalize (decide (o4 = 1) && mayB q0 q1 q2 q3 o0 o1 o2 o3 o4) = r0 at M0 ⊢
      cases r0 with
      | false =>
        clear M0
        go_wp2_with fail
        refine (my.out q0 q1 q2 q3 _).mono ?_
        rintro e u2 ⟨rfl, hbc⟩
        have BB2 := Lib.hid (below_then BB1.out (BB1.out).size hbc)
        have Lw2 := Lib.hid ((hbc.block _ (blk_lt Lw1.out)).trans Lw1.out)
        have Lq2 := Lib.hid ((hbc.block _ (blk_lt Lq1.out)).trans Lq1.out)
        have Lk2 := Lib.hid ((hbc.block _ (blk_lt Lk1.out)).trans Lk1.out)
        have Le2 := Lib.hid ((hbc.block _ (blk_lt Le1.out)).trans Le1.out)
        have Lb2 := Lib.hid ((hbc.block _ (blk_lt Lb1.out)).trans Lb1.out)
        clear hbc
        have tw0_2 : u2.cell? ⟨v5.heap.size, 0, none⟩ = some (.int .i64 k0) := (blk_cell Lw2.out 0).trans rfl
        have tw1_2 : u2.cell? ⟨v5.heap.size, 1, none⟩ = some (.int .i64 q1) := (blk_cell Lw2.out 1).trans rfl
        have tw2_2 : u2.cell? ⟨v5.heap.size, 2, none⟩ = some (.int .u32 (Go.bits .or .u32 q2 k2)) := (blk_cell Lw2.out 2).trans rfl
        have tw3_2 : u2.cell? ⟨v5.heap.size, 3, none⟩ = some (.int .u32 (Go.bits .or .u32 q3 k3)) := (blk_cell Lw2.out 3).trans rfl
        have tq0_2 : u2.cell? ⟨gq, 0, none⟩ = some (.int .i64 q0) := (blk_cell Lq2.out 0).trans rfl
        have tq1_2 : u2.cell? ⟨gq, 1, none⟩ = some (.int .i64 q1) := (blk_cell Lq2.out 1).trans rfl
        have tq2_2 : u2.cell? ⟨gq, 2, none⟩ = some (.int .u32 q2) := (blk_cell Lq2.out 2).trans rfl
        have tq3_2 : u2.cell? ⟨gq, 3, none⟩ = some (.int .u32 q3) := (blk_cell Lq2.out 3).trans rfl
        have tk0_2 : u2.cell? ⟨gk, 0, none⟩ = some (.int .i64 k0) := (blk_cell Lk2.out 0).trans rfl
        have tk1_2 : u2.cell? ⟨gk, 1, none⟩ = some (.int .i64 k1) := (blk_cell Lk2.out 1).trans rfl
        have tk2_2 : u2.cell? ⟨gk, 2, none⟩ = some (.int .u32 k2) := (blk_cell Lk2.out 2).trans rfl
        have tk3_2 : u2.cell? ⟨gk, 3, none⟩ = some (.int .u32 k3) := (blk_cell Lk2.out 3).trans rfl
        have te0_2 : u2.cell? ⟨ge, 0, none⟩ = some (.int .i64 e0) := (blk_cell Le2.out 0).trans rfl
        have te1_2 : u2.cell? ⟨ge, 1, none⟩ = some (.int .i64 e1) := (blk_cell Le2.out 1).trans rfl
        have te2_2 : u2.cell? ⟨ge, 2, none⟩ = some (.bool e2) := (blk_cell Le2.out 2).trans rfl
        have te3_2 : u2.cell? ⟨ge, 3, none⟩ = some (.int .i64 e3) := (blk_cell Le2.out 3).trans rfl
        have te4_2 : u2.cell? ⟨ge, 4, none⟩ = some (.string e4) := (blk_cell Le2.out 4).trans rfl
        have te5_2 : u2.cell? ⟨ge, 5, none⟩ = some (.string e5) := (blk_cell Le2.out 5).trans rfl
        have te6_2 : u2.cell? ⟨ge, 6, none⟩ = some (.string e6) := (blk_cell Le2.out 6).trans rfl
        have te7_2 : u2.cell? ⟨ge, 7, none⟩ = some (.string e7) := (blk_cell Le2.out 7).trans rfl
        have te8_2 : u2.cell? ⟨ge, 8, none⟩ = some (.slice A e8.length c) := (blk_cell Le2.out 8).trans rfl
        have te9_2 : u2.cell? ⟨ge, 9, none⟩ = some (.string e9) := (blk_cell Le2.out 9).trans rfl
        have tb0_2 : u2.cell? ⟨gb, 0, none⟩ = some (.int .i64 b0) := (blk_cell Lb2.out 0).trans rfl
        have tb1_2 : u2.cell? ⟨gb, 1, none⟩ = some (.int .i64 b1) := (blk_cell Lb2.out 1).trans rfl
        have tb2_2 : u2.cell? ⟨gb, 2, none⟩ = some (.int .u32 b2) := (blk_cell Lb2.out 2).trans rfl
        have tb3_2 : u2.cell? ⟨gb, 3, none⟩ = some (.int .u32 b3) := (blk_cell Lb2.out 3).trans rfl
        have tb4_2 : u2.cell? ⟨gb, 4, none⟩ = some (.int .u64 b4) := (blk_cell Lb2.out 4).trans rfl
        have tb5_2 : u2.cell? ⟨gb, 5, none⟩ = some (.bool b5) := (blk_cell Lb2.out 5).trans rfl
        have M0 := Mbq.out
        generalize mayB q0 q1 q2 q3 b0 b1 b2 b3 b4 = r1 at M0 ⊢
        cases r1 with
        | false =>
          clear M0
          go_wp2_with fail
          refine (my.out k0 k1 k2 k3 _).mono ?_
          rintro e u3 ⟨rfl, hbc⟩
          have BB3 := Lib.hid (below_then BB2.out (BB2.out).size hbc)
          have Lw3 := Lib.hid ((hbc.block _ (blk_lt Lw2.out)).trans Lw2.out)
          have Lq3 := Lib.hid ((hbc.block _ (blk_lt Lq2.out)).trans Lq2.out)
          have Lk3 := Lib.hid ((hbc.block _ (blk_lt Lk2.out)).trans Lk2.out)
          have Le3 := Lib.hid ((hbc.block _ (blk_lt Le2.out)).trans Le2.out)
          have Lb3 := Lib.hid ((hbc.block _ (blk_lt Lb2.out)).trans Lb2.out)
          clear hbc
          have tw0_3 : u3.cell? ⟨v5.heap.size, 0, none⟩ = some (.int .i64 k0) := (blk_cell Lw3.out 0).trans rfl
          have tw1_3 : u3.cell? ⟨v5.heap.size, 1, none⟩ = some (.int .i64 q1) := (blk_cell Lw3.out 1).trans rfl
          have tw2_3 : u3.cell? ⟨v5.heap.size, 2, none⟩ = some (.int .u32 (Go.bits .or .u32 q2 k2)) := (blk_cell Lw3.out 2).trans rfl
          have tw3_3 : u3.cell? ⟨v5.heap.size, 3, none⟩ = some (.int .u32 (Go.bits .or .u32 q3 k3)) := (blk_cell Lw3.out 3).trans rfl
          have tq0_3 : u3.cell? ⟨gq, 0, none⟩ = some (.int .i64 q0) := (blk_cell Lq3.out 0).trans rfl
          have tq1_3 : u3.cell? ⟨gq, 1, none⟩ = some (.int .i64 q1) := (blk_cell Lq3.out 1).trans rfl
          have tq2_3 : u3.cell? ⟨gq, 2, none⟩ = some (.int .u32 q2) := (blk_cell Lq3.out 2).trans rfl
          have tq3_3 : u3.cell? ⟨gq, 3, none⟩ = some (.int .u32 q3) := (blk_cell Lq3.out 3).trans rfl
          have tk0_3 : u3.cell? ⟨gk, 0, none⟩ = some (.int .i64 k0) := (blk_cell Lk3.out 0).trans rfl
          have tk1_3 : u3.cell? ⟨gk, 1, none⟩ = some (.int .i64 k1) := (blk_cell Lk3.out 1).trans rfl
          have tk2_3 : u3.cell? ⟨gk, 2, none⟩ = some (.int .u32 k2) := (blk_cell Lk3.out 2).trans rfl
          have tk3_3 : u3.cell? ⟨gk, 3, none⟩ = some (.int .u32 k3) := (blk_cell Lk3.out 3).trans rfl
          have te0_3 : u3.cell? ⟨ge, 0, none⟩ = some (.int .i64 e0) := (blk_cell Le3.out 0).trans rfl
          have te1_3 : u3.cell? ⟨ge, 1, none⟩ = some (.int .i64 e1) := (blk_cell Le3.out 1).trans rfl
          have te2_3 : u3.cell? ⟨ge, 2, none⟩ = some (.bool e2) := (blk_cell Le3.out 2).trans rfl
          have te3_3 : u3.cell? ⟨ge, 3, none⟩ = some (.int .i64 e3) := (blk_cell Le3.out 3).trans rfl
          have te4_3 : u3.cell? ⟨ge, 4, none⟩ = some (.string e4) := (blk_cell Le3.out 4).trans rfl
          have te5_3 : u3.cell? ⟨ge, 5, none⟩ = some (.string e5) := (blk_cell Le3.out 5).trans rfl
          have te6_3 : u3.cell? ⟨ge, 6, none⟩ = some (.string e6) := (blk_cell Le3.out 6).trans rfl
          have te7_3 : u3.cell? ⟨ge, 7, none⟩ = some (.string e7) := (blk_cell Le3.out 7).trans rfl
          have te8_3 : u3.cell? ⟨ge, 8, none⟩ = some (.slice A e8.length c) := (blk_cell Le3.out 8).trans rfl
          have te9_3 : u3.cell? ⟨ge, 9, none⟩ = some (.string e9) := (blk_cell Le3.out 9).trans rfl
          have tb0_3 : u3.cell? ⟨gb, 0, none⟩ = some (.int .i64 b0) := (blk_cell Lb3.out 0).trans rfl
          have tb1_3 : u3.cell? ⟨gb, 1, none⟩ = some (.int .i64 b1) := (blk_cell Lb3.out 1).trans rfl
          have tb2_3 : u3.cell? ⟨gb, 2, none⟩ = some (.int .u32 b2) := (blk_cell Lb3.out 2).trans rfl
          have tb3_3 : u3.cell? ⟨gb, 3, none⟩ = some (.int .u32 b3) := (blk_cell Lb3.out 3).trans rfl
          have tb4_3 : u3.cell? ⟨gb, 4, none⟩ = some (.int .u64 b4) := (blk_cell Lb3.out 4).trans rfl
          have tb5_3 : u3.cell? ⟨gb, 5, none⟩ = some (.bool b5) := (blk_cell Lb3.out 5).trans rfl
          have M0 := Mbk.out
          generalize mayB k0 k1 k2 k3 b0 b1 b2 b3 b4 = r2 at M0 ⊢
          cases r2 with
          | false =>
            clear M0
            go_wp2_with fail
            go_ret
            exact ⟨rfl, BB3.out⟩
          | true =>
            have M1 := Lib.hid (M0 rfl)
            clear M0
            go_wp2_with fail
            refine (my.out (k0) (q1) ((Go.bits .or .u32 q2 k2)) ((Go.bits .or .u32 q3 k3)) _).mono ?_
            rintro e u4 ⟨rfl, hbc⟩
            have BB4 := Lib.hid (below_then BB3.out (BB3.out).size hbc)
            have Lw4 := Lib.hid ((hbc.block _ (blk_lt Lw3.out)).trans Lw3.out)
            have Lq4 := Lib.hid ((hbc.block _ (blk_lt Lq3.out)).trans Lq3.out)
            have Lk4 := Lib.hid ((hbc.block _ (blk_lt Lk3.out)).trans Lk3.out)
            have Le4 := Lib.hid ((hbc.block _ (blk_lt Le3.out)).trans Le3.out)
            have Lb4 := Lib.hid ((hbc.block _ (blk_lt Lb3.out)).trans Lb3.out)
            clear hbc
            have tw0_4 : u4.cell? ⟨v5.heap.size, 0, none⟩ = some (.int .i64 k0) := (blk_cell Lw4.out 0).trans rfl
            have tw1_4 : u4.cell? ⟨v5.heap.size, 1, none⟩ = some (.int .i64 q1) := (blk_cell Lw4.out 1).trans rfl
            have tw2_4 : u4.cell? ⟨v5.heap.size, 2, none⟩ = some (.int .u32 (Go.bits .or .u32 q2 k2)) := (blk_cell Lw4.out 2).trans rfl
            have tw3_4 : u4.cell? ⟨v5.heap.size, 3, none⟩ = some (.int .u32 (Go.bits .or .u32 q3 k3)) := (blk_cell Lw4.out 3).trans rfl
            have tq0_4 : u4.cell? ⟨gq, 0, none⟩ = some (.int .i64 q0) := (blk_cell Lq4.out 0).trans rfl
            have tq1_4 : u4.cell? ⟨gq, 1, none⟩ = some (.int .i64 q1) := (blk_cell Lq4.out 1).trans rfl
            have tq2_4 : u4.cell? ⟨gq, 2, none⟩ = some (.int .u32 q2) := (blk_cell Lq4.out 2).trans rfl
            have tq3_4 : u4.cell? ⟨gq, 3, none⟩ = some (.int .u32 q3) := (blk_cell Lq4.out 3).trans rfl
            have tk0_4 : u4.cell? ⟨gk, 0, none⟩ = some (.int .i64 k0) := (blk_cell Lk4.out 0).trans rfl
            have tk1_4 : u4.cell? ⟨gk, 1, none⟩ = some (.int .i64 k1) := (blk_cell Lk4.out 1).trans rfl
            have tk2_4 : u4.cell? ⟨gk, 2, none⟩ = some (.int .u32 k2) := (blk_cell Lk4.out 2).trans rfl
            have tk3_4 : u4.cell? ⟨gk, 3, none⟩ = some (.int .u32 k3) := (blk_cell Lk4.out 3).trans rfl
            have te0_4 : u4.cell? ⟨ge, 0, none⟩ = some (.int .i64 e0) := (blk_cell Le4.out 0).trans rfl
            have te1_4 : u4.cell? ⟨ge, 1, none⟩ = some (.int .i64 e1) := (blk_cell Le4.out 1).trans rfl
            have te2_4 : u4.cell? ⟨ge, 2, none⟩ = some (.bool e2) := (blk_cell Le4.out 2).trans rfl
            have te3_4 : u4.cell? ⟨ge, 3, none⟩ = some (.int .i64 e3) := (blk_cell Le4.out 3).trans rfl
            have te4_4 : u4.cell? ⟨ge, 4, none⟩ = some (.string e4) := (blk_cell Le4.out 4).trans rfl
            have te5_4 : u4.cell? ⟨ge, 5, none⟩ = some (.string e5) := (blk_cell Le4.out 5).trans rfl
            have te6_4 : u4.cell? ⟨ge, 6, none⟩ = some (.string e6) := (blk_cell Le4.out 6).trans rfl
            have te7_4 : u4.cell? ⟨ge, 7, none⟩ = some (.string e7) := (blk_cell Le4.out 7).trans rfl
            have te8_4 : u4.cell? ⟨ge, 8, none⟩ = some (.slice A e8.length c) := (blk_cell Le4.out 8).trans rfl
            have te9_4 : u4.cell? ⟨ge, 9, none⟩ = some (.string e9) := (blk_cell Le4.out 9).trans rfl
            have tb0_4 : u4.cell? ⟨gb, 0, none⟩ = some (.int .i64 b0) := (blk_cell Lb4.out 0).trans rfl
            have tb1_4 : u4.cell? ⟨gb, 1, none⟩ = some (.int .i64 b1) := (blk_cell Lb4.out 1).trans rfl
            have tb2_4 : u4.cell? ⟨gb, 2, none⟩ = some (.int .u32 b2) := (blk_cell Lb4.out 2).trans rfl
            have tb3_4 : u4.cell? ⟨gb, 3, none⟩ = some (.int .u32 b3) := (blk_cell Lb4.out 3).trans rfl
            have tb4_4 : u4.cell? ⟨gb, 4, none⟩ = some (.int .u64 b4) := (blk_cell Lb4.out 4).trans rfl
            have tb5_4 : u4.cell? ⟨gb, 5, none⟩ = some (.bool b5) := (blk_cell Lb4.out 5).trans rfl
            rw [M1.out]
            clear M1
            go_wp2_with fail
            go_ret
            exact ⟨rfl, BB4.out⟩
        | true =>
          have M1 := Lib.hid (M0 rfl)
          clear M0
          go_wp2_with fail
          refine (my.out (k0) (q1) ((Go.bits .or .u32 q2 k2)) ((Go.bits .or .u32 q3 k3)) _).mono ?_
          rintro e u5 ⟨rfl, hbc⟩
          have BB5 := Lib.hid (below_then BB2.out (BB2.out).size hbc)
          have Lw5 := Lib.hid ((hbc.block _ (blk_lt Lw2.out)).trans Lw2.out)
          have Lq5 := Lib.hid ((hbc.block _ (blk_lt Lq2.out)).trans Lq2.out)
          have Lk5 := Lib.hid ((hbc.block _ (blk_lt Lk2.out)).trans Lk2.out)
          have Le5 := Lib.hid ((hbc.block _ (blk_lt Le2.out)).trans Le2.out)
          have Lb5 := Lib.hid ((hbc.block _ (blk_lt Lb2.out)).trans Lb2.out)
          clear hbc
          have tw0_5 : u5.cell? ⟨v5.heap.size, 0, none⟩ = some (.int .i64 k0) := (blk_cell Lw5.out 0).trans rfl
          have tw1_5 : u5.cell? ⟨v5.heap.size, 1, none⟩ = some (.int .i64 q1) := (blk_cell Lw5.out 1).trans rfl
          have tw2_5 : u5.cell? ⟨v5.heap.size, 2, none⟩ = some (.int .u32 (Go.bits .or .u32 q2 k2)) := (blk_cell Lw5.out 2).trans rfl
          have tw3_5 : u5.cell? ⟨v5.heap.size, 3, none⟩ = some (.int .u32 (Go.bits .or .u32 q3 k3)) := (blk_cell Lw5.out 3).trans rfl
          have tq0_5 : u5.cell? ⟨gq, 0, none⟩ = some (.int .i64 q0) := (blk_cell Lq5.out 0).trans rfl
          have tq1_5 : u5.cell? ⟨gq, 1, none⟩ = some (.int .i64 q1) := (blk_cell Lq5.out 1).trans rfl
          have tq2_5 : u5.cell? ⟨gq, 2, none⟩ = some (.int .u32 q2) := (blk_cell Lq5.out 2).trans rfl
          have tq3_5 : u5.cell? ⟨gq, 3, none⟩ = some (.int .u32 q3) := (blk_cell Lq5.out 3).trans rfl
          have tk0_5 : u5.cell? ⟨gk, 0, none⟩ = some (.int .i64 k0) := (blk_cell Lk5.out 0).trans rfl
          have tk1_5 : u5.cell? ⟨gk, 1, none⟩ = some (.int .i64 k1) := (blk_cell Lk5.out 1).trans rfl
          have tk2_5 : u5.cell? ⟨gk, 2, none⟩ = some (.int .u32 k2) := (blk_cell Lk5.out 2).trans rfl
          have tk3_5 : u5.cell? ⟨gk, 3, none⟩ = some (.int .u32 k3) := (blk_cell Lk5.out 3).trans rfl
          have te0_5 : u5.cell? ⟨ge, 0, none⟩ = some (.int .i64 e0) := (blk_cell Le5.out 0).trans rfl
          have te1_5 : u5.cell? ⟨ge, 1, none⟩ = some (.int .i64 e1) := (blk_cell Le5.out 1).trans rfl
          have te2_5 : u5.cell? ⟨ge, 2, none⟩ = some (.bool e2) := (blk_cell Le5.out 2).trans rfl
          have te3_5 : u5.cell? ⟨ge, 3, none⟩ = some (.int .i64 e3) := (blk_cell Le5.out 3).trans rfl
          have te4_5 : u5.cell? ⟨ge, 4, none⟩ = some (.string e4) := (blk_cell Le5.out 4).trans rfl
          have te5_5 : u5.cell? ⟨ge, 5, none⟩ = some (.string e5) := (blk_cell Le5.out 5).trans rfl
          have te6_5 : u5.cell? ⟨ge, 6, none⟩ = some (.string e6) := (blk_cell Le5.out 6).trans rfl
          have te7_5 : u5.cell? ⟨ge, 7, none⟩ = some (.string e7) := (blk_cell Le5.out 7).trans rfl
          have te8_5 : u5.cell? ⟨ge, 8, none⟩ = some (.slice A e8.length c) := (blk_cell Le5.out 8).trans rfl
          have te9_5 : u5.cell? ⟨ge, 9, none⟩ = some (.string e9) := (blk_cell Le5.out 9).trans rfl
          have tb0_5 : u5.cell? ⟨gb, 0, none⟩ = some (.int .i64 b0) := (blk_cell Lb5.out 0).trans rfl
          have tb1_5 : u5.cell? ⟨gb, 1, none⟩ = some (.int .i64 b1) := (blk_cell Lb5.out 1).trans rfl
          have tb2_5 : u5.cell? ⟨gb, 2, none⟩ = some (.int .u32 b2) := (blk_cell Lb5.out 2).trans rfl
          have tb3_5 : u5.cell? ⟨gb, 3, none⟩ = some (.int .u32 b3) := (blk_cell Lb5.out 3).trans rfl
          have tb4_5 : u5.cell? ⟨gb, 4, none⟩ = some (.int .u64 b4) := (blk_cell Lb5.out 4).trans rfl
          have tb5_5 : u5.cell? ⟨gb, 5, none⟩ = some (.bool b5) := (blk_cell Lb5.out 5).trans rfl
          rw [M1.out]
          clear M1
          go_wp2_with fail
          refine (my.out k0 k1 k2 k3 _).mono ?_
          rintro e u6 ⟨rfl, hbc⟩
          have BB6 := Lib.hid (below_then BB5.out (BB5.out).size hbc)
          have Lw6 := Lib.hid ((hbc.block _ (blk_lt Lw5.out)).trans Lw5.out)
          have Lq6 := Lib.hid ((hbc.block _ (blk_lt Lq5.out)).trans Lq5.out)
          have Lk6 := Lib.hid ((hbc.block _ (blk_lt Lk5.out)).trans Lk5.out)
          have Le6 := Lib.hid ((hbc.block _ (blk_lt Le5.out)).trans Le5.out)
          have Lb6 := Lib.hid ((hbc.block _ (blk_lt Lb5.out)).trans Lb5.out)
          clear hbc
          have tw0_6 : u6.cell? ⟨v5.heap.size, 0, none⟩ = some (.int .i64 k0) := (blk_cell Lw6.out 0).trans rfl
          have tw1_6 : u6.cell? ⟨v5.heap.size, 1, none⟩ = some (.int .i64 q1) := (blk_cell Lw6.out 1).trans rfl
          have tw2_6 : u6.cell? ⟨v5.heap.size, 2, none⟩ = some (.int .u32 (Go.bits .or .u32 q2 k2)) := (blk_cell Lw6.out 2).trans rfl
          have tw3_6 : u6.cell? ⟨v5.heap.size, 3, none⟩ = some (.int .u32 (Go.bits .or .u32 q3 k3)) := (blk_cell Lw6.out 3).trans rfl
          have tq0_6 : u6.cell? ⟨gq, 0, none⟩ = some (.int .i64 q0) := (blk_cell Lq6.out 0).trans rfl
          have tq1_6 : u6.cell? ⟨gq, 1, none⟩ = some (.int .i64 q1) := (blk_cell Lq6.out 1).trans rfl
          have tq2_6 : u6.cell? ⟨gq, 2, none⟩ = some (.int .u32 q2) := (blk_cell Lq6.out 2).trans rfl
          have tq3_6 : u6.cell? ⟨gq, 3, none⟩ = some (.int .u32 q3) := (blk_cell Lq6.out 3).trans rfl
          have tk0_6 : u6.cell? ⟨gk, 0, none⟩ = some (.int .i64 k0) := (blk_cell Lk6.out 0).trans rfl
          have tk1_6 : u6.cell? ⟨gk, 1, none⟩ = some (.int .i64 k1) := (blk_cell Lk6.out 1).trans rfl
          have tk2_6 : u6.cell? ⟨gk, 2, none⟩ = some (.int .u32 k2) := (blk_cell Lk6.out 2).trans rfl
          have tk3_6 : u6.cell? ⟨gk, 3, none⟩ = some (.int .u32 k3) := (blk_cell Lk6.out 3).trans rfl
          have te0_6 : u6.cell? ⟨ge, 0, none⟩ = some (.int .i64 e0) := (blk_cell Le6.out 0).trans rfl
          have te1_6 : u6.cell? ⟨ge, 1, none⟩ = some (.int .i64 e1) := (blk_cell Le6.out 1).trans rfl
          have te2_6 : u6.cell? ⟨ge, 2, none⟩ = some (.bool e2) := (blk_cell Le6.out 2).trans rfl
          have te3_6 : u6.cell? ⟨ge, 3, none⟩ = some (.int .i64 e3) := (blk_cell Le6.out 3).trans rfl
          have te4_6 : u6.cell? ⟨ge, 4, none⟩ = some (.string e4) := (blk_cell Le6.out 4).trans rfl
          have te5_6 : u6.cell? ⟨ge, 5, none⟩ = some (.string e5) := (blk_cell Le6.out 5).trans rfl
          have te6_6 : u6.cell? ⟨ge, 6, none⟩ = some (.string e6) := (blk_cell Le6.out 6).trans rfl
          have te7_6 : u6.cell? ⟨ge, 7, none⟩ = some (.string e7) := (blk_cell Le6.out 7).trans rfl
          have te8_6 : u6.cell? ⟨ge, 8, none⟩ = some (.slice A e8.length c) := (blk_cell Le6.out 8).trans rfl
          have te9_6 : u6.cell? ⟨ge, 9, none⟩ = some (.string e9) := (blk_cell Le6.out 9).trans rfl
          have tb0_6 : u6.cell? ⟨gb, 0, none⟩ = some (.int .i64 b0) := (blk_cell Lb6.out 0).trans rfl
          have tb1_6 : u6.cell? ⟨gb, 1, none⟩ = some (.int .i64 b1) := (blk_cell Lb6.out 1).trans rfl
          have tb2_6 : u6.cell? ⟨gb, 2, none⟩ = some (.int .u32 b2) := (blk_cell Lb6.out 2).trans rfl
          have tb3_6 : u6.cell? ⟨gb, 3, none⟩ = some (.int .u32 b3) := (blk_cell Lb6.out 3).trans rfl
          have tb4_6 : u6.cell? ⟨gb, 4, none⟩ = some (.int .u64 b4) := (blk_cell Lb6.out 4).trans rfl
          have tb5_6 : u6.cell? ⟨gb, 5, none⟩ = some (.bool b5) := (blk_cell Lb6.out 5).trans rfl
          have M0 := Mbk.out
          generalize mayB k0 k1 k2 k3 b0 b1 b2 b3 b4 = r2 at M0 ⊢
          cases r2 with
          | false =>
            clear M0
            go_wp2_with fail
            go_ret
            exact ⟨rfl, BB6.out⟩
          | true =>
            have M1 := Lib.hid (M0 rfl)
            clear M0
            go_wp2_with fail
            refine (my.out (k0) (q1) ((Go.bits .or .u32 q2 k2)) ((Go.bits .or .u32 q3 k3)) _).mono ?_
            rintro e u7 ⟨rfl, hbc⟩
            have BB7 := Lib.hid (below_then BB6.out (BB6.out).size hbc)
            have Lw7 := Lib.hid ((hbc.block _ (blk_lt Lw6.out)).trans Lw6.out)
            have Lq7 := Lib.hid ((hbc.block _ (blk_lt Lq6.out)).trans Lq6.out)
            have Lk7 := Lib.hid ((hbc.block _ (blk_lt Lk6.out)).trans Lk6.out)
            have Le7 := Lib.hid ((hbc.block _ (blk_lt Le6.out)).trans Le6.out)
            have Lb7 := Lib.hid ((hbc.block _ (blk_lt Lb6.out)).trans Lb6.out)
            clear hbc
            have tw0_7 : u7.cell? ⟨v5.heap.size, 0, none⟩ = some (.int .i64 k0) := (blk_cell Lw7.out 0).trans rfl
            have tw1_7 : u7.cell? ⟨v5.heap.size, 1, none⟩ = some (.int .i64 q1) := (blk_cell Lw7.out 1).trans rfl
            have tw2_7 : u7.cell? ⟨v5.heap.size, 2, none⟩ = some (.int .u32 (Go.bits .or .u32 q2 k2)) := (blk_cell Lw7.out 2).trans rfl
            have tw3_7 : u7.cell? ⟨v5.heap.size, 3, none⟩ = some (.int .u32 (Go.bits .or .u32 q3 k3)) := (blk_cell Lw7.out 3).trans rfl
            have tq0_7 : u7.cell? ⟨gq, 0, none⟩ = some (.int .i64 q0) := (blk_cell Lq7.out 0).trans rfl
            have tq1_7 : u7.cell? ⟨gq, 1, none⟩ = some (.int .i64 q1) := (blk_cell Lq7.out 1).trans rfl
            have tq2_7 : u7.cell? ⟨gq, 2, none⟩ = some (.int .u32 q2) := (blk_cell Lq7.out 2).trans rfl
            have tq3_7 : u7.cell? ⟨gq, 3, none⟩ = some (.int .u32 q3) := (blk_cell Lq7.out 3).trans rfl
            have tk0_7 : u7.cell? ⟨gk, 0, none⟩ = some (.int .i64 k0) := (blk_cell Lk7.out 0).trans rfl
            have tk1_7 : u7.cell? ⟨gk, 1, none⟩ = some (.int .i64 k1) := (blk_cell Lk7.out 1).trans rfl
            have tk2_7 : u7.cell? ⟨gk, 2, none⟩ = some (.int .u32 k2) := (blk_cell Lk7.out 2).trans rfl
            have tk3_7 : u7.cell? ⟨gk, 3, none⟩ = some (.int .u32 k3) := (blk_cell Lk7.out 3).trans rfl
            have te0_7 : u7.cell? ⟨ge, 0, none⟩ = some (.int .i64 e0) := (blk_cell Le7.out 0).trans rfl
            have te1_7 : u7.cell? ⟨ge, 1, none⟩ = some (.int .i64 e1) := (blk_cell Le7.out 1).trans rfl
            have te2_7 : u7.cell? ⟨ge, 2, none⟩ = some (.bool e2) := (blk_cell Le7.out 2).trans rfl
            have te3_7 : u7.cell? ⟨ge, 3, none⟩ = some (.int .i64 e3) := (blk_cell Le7.out 3).trans rfl
            have te4_7 : u7.cell? ⟨ge, 4, none⟩ = some (.string e4) := (blk_cell Le7.out 4).trans rfl
            have te5_7 : u7.cell? ⟨ge, 5, none⟩ = some (.string e5) := (blk_cell Le7.out 5).trans rfl
            have te6_7 : u7.cell? ⟨ge, 6, none⟩ = some (.string e6) := (blk_cell Le7.out 6).trans rfl
            have te7_7 : u7.cell? ⟨ge, 7, none⟩ = some (.string e7) := (blk_cell Le7.out 7).trans rfl
            have te8_7 : u7.cell? ⟨ge, 8, none⟩ = some (.slice A e8.length c) := (blk_cell Le7.out 8).trans rfl
            have te9_7 : u7.cell? ⟨ge, 9, none⟩ = some (.string e9) := (blk_cell Le7.out 9).trans rfl
            have tb0_7 : u7.cell? ⟨gb, 0, none⟩ = some (.int .i64 b0) := (blk_cell Lb7.out 0).trans rfl
            have tb1_7 : u7.cell? ⟨gb, 1, none⟩ = some (.int .i64 b1) := (blk_cell Lb7.out 1).trans rfl
            have tb2_7 : u7.cell? ⟨gb, 2, none⟩ = some (.int .u32 b2) := (blk_cell Lb7.out 2).trans rfl
            have tb3_7 : u7.cell? ⟨gb, 3, none⟩ = some (.int .u32 b3) := (blk_cell Lb7.out 3).trans rfl
            have tb4_7 : u7.cell? ⟨gb, 4, none⟩ = some (.int .u64 b4) := (blk_cell Lb7.out 4).trans rfl
            have tb5_7 : u7.cell? ⟨gb, 5, none⟩ = some (.bool b5) := (blk_cell Lb7.out 5).trans rfl
            rw [M1.out]
            clear M1
            go_wp2_with fail
            go_ret
            exact ⟨rfl, BB7.out⟩
      | true =>
        have M1 := Lib.hid (M0 rfl)
        clear M0
        go_wp2_with fail
        refine (mt.out (k0) (q1) ((Go.bits .or .u32 q2 k2)) ((Go.bits .or .u32 q3 k3)) _ BB1.out).mono ?_
        rintro e u8 ⟨rfl, hbc⟩
        have BB8 := Lib.hid (below_then BB1.out (BB1.out).size hbc)
        have Lw8 := Lib.hid ((hbc.block _ (blk_lt Lw1.out)).trans Lw1.out)
        have Lq8 := Lib.hid ((hbc.block _ (blk_lt Lq1.out)).trans Lq1.out)
        have Lk8 := Lib.hid ((hbc.block _ (blk_lt Lk1.out)).trans Lk1.out)
        have Le8 := Lib.hid ((hbc.block _ (blk_lt Le1.out)).trans Le1.out)
        have Lb8 := Lib.hid ((hbc.block _ (blk_lt Lb1.out)).trans Lb1.out)
        clear hbc
        have tw0_8 : u8.cell? ⟨v5.heap.size, 0, none⟩ = some (.int .i64 k0) := (blk_cell Lw8.out 0).trans rfl
        have tw1_8 : u8.cell? ⟨v5.heap.size, 1, none⟩ = some (.int .i64 q1) := (blk_cell Lw8.out 1).trans rfl
        have tw2_8 : u8.cell? ⟨v5.heap.size, 2, none⟩ = some (.int .u32 (Go.bits .or .u32 q2 k2)) := (blk_cell Lw8.out 2).trans rfl
        have tw3_8 : u8.cell? ⟨v5.heap.size, 3, none⟩ = some (.int .u32 (Go.bits .or .u32 q3 k3)) := (blk_cell Lw8.out 3).trans rfl
        have tq0_8 : u8.cell? ⟨gq, 0, none⟩ = some (.int .i64 q0) := (blk_cell Lq8.out 0).trans rfl
        have tq1_8 : u8.cell? ⟨gq, 1, none⟩ = some (.int .i64 q1) := (blk_cell Lq8.out 1).trans rfl
        have tq2_8 : u8.cell? ⟨gq, 2, none⟩ = some (.int .u32 q2) := (blk_cell Lq8.out 2).trans rfl
        have tq3_8 : u8.cell? ⟨gq, 3, none⟩ = some (.int .u32 q3) := (blk_cell Lq8.out 3).trans rfl
        have tk0_8 : u8.cell? ⟨gk, 0, none⟩ = some (.int .i64 k0) := (blk_cell Lk8.out 0).trans rfl
        have tk1_8 : u8.cell? ⟨gk, 1, none⟩ = some (.int .i64 k1) := (blk_cell Lk8.out 1).trans rfl
        have tk2_8 : u8.cell? ⟨gk, 2, none⟩ = some (.int .u32 k2) := (blk_cell Lk8.out 2).trans rfl
        have tk3_8 : u8.cell? ⟨gk, 3, none⟩ = some (.int .u32 k3) := (blk_cell Lk8.out 3).trans rfl
        have te0_8 : u8.cell? ⟨ge, 0, none⟩ = some (.int .i64 e0) := (blk_cell Le8.out 0).trans rfl
        have te1_8 : u8.cell? ⟨ge, 1, none⟩ = some (.int .i64 e1) := (blk_cell Le8.out 1).trans rfl
        have te2_8 : u8.cell? ⟨ge, 2, none⟩ = some (.bool e2) := (blk_cell Le8.out 2).trans rfl
        have te3_8 : u8.cell? ⟨ge, 3, none⟩ = some (.int .i64 e3) := (blk_cell Le8.out 3).trans rfl
        have te4_8 : u8.cell? ⟨ge, 4, none⟩ = some (.string e4) := (blk_cell Le8.out 4).trans rfl
        have te5_8 : u8.cell? ⟨ge, 5, none⟩ = some (.string e5) := (blk_cell Le8.out 5).trans rfl
        have te6_8 : u8.cell? ⟨ge, 6, none⟩ = some (.string e6) := (blk_cell Le8.out 6).trans rfl
        have te7_8 : u8.cell? ⟨ge, 7, none⟩ = some (.string e7) := (blk_cell Le8.out 7).trans rfl
        have te8_8 : u8.cell? ⟨ge, 8, none⟩ = some (.slice A e8.length c) := (blk_cell Le8.out 8).trans rfl
        have te9_8 : u8.cell? ⟨ge, 9, none⟩ = some (.string e9) := (blk_cell Le8.out 9).trans rfl
        have tb0_8 : u8.cell? ⟨gb, 0, none⟩ = some (.int .i64 b0) := (blk_cell Lb8.out 0).trans rfl
        have tb1_8 : u8.cell? ⟨gb, 1, none⟩ = some (.int .i64 b1) := (blk_cell Lb8.out 1).trans rfl
        have tb2_8 : u8.cell? ⟨gb, 2, none⟩ = some (.int .u32 b2) := (blk_cell Lb8.out 2).trans rfl
        have tb3_8 : u8.cell? ⟨gb, 3, none⟩ = some (.int .u32 b3) := (blk_cell Lb8.out 3).trans rfl
        have tb4_8 : u8.cell? ⟨gb, 4, none⟩ = some (.int .u64 b4) := (blk_cell Lb8.out 4).trans rfl
        have tb5_8 : u8.cell? ⟨gb, 5, none⟩ = some (.bool b5) := (blk_cell Lb8.out 5).trans rfl
        rw [M1.out]
        clear M1
        go_wp2_with fail
        refine (my.out q0 q1 q2 q3 _).mono ?_
        rintro e u9 ⟨rfl, hbc⟩
        have BB9 := Lib.hid (below_then BB8.out (BB8.out).size hbc)
        have Lw9 := Lib.hid ((hbc.block _ (blk_lt Lw8.out)).trans Lw8.out)
        have Lq9 := Lib.hid ((hbc.block _ (blk_lt Lq8.out)).trans Lq8.out)
        have Lk9 := Lib.hid ((hbc.block _ (blk_lt Lk8.out)).trans Lk8.out)
        have Le9 := Lib.hid ((hbc.block _ (blk_lt Le8.out)).trans Le8.out)
        have Lb9 := Lib.hid ((hbc.block _ (blk_lt Lb8.out)).trans Lb8.out)
        clear hbc
        have tw0_9 : u9.cell? ⟨v5.heap.size, 0, none⟩ = some (.int .i64 k0) := (blk_cell Lw9.out 0).trans rfl
        have tw1_9 : u9.cell? ⟨v5.heap.size, 1, none⟩ = some (.int .i64 q1) := (blk_cell Lw9.out 1).trans rfl
        have tw2_9 : u9.cell? ⟨v5.heap.size, 2, none⟩ = some (.int .u32 (Go.bits .or .u32 q2 k2)) := (blk_cell Lw9.out 2).trans rfl
        have tw3_9 : u9.cell? ⟨v5.heap.size, 3, none⟩ = some (.int .u32 (Go.bits .or .u32 q3 k3)) := (blk_cell Lw9.out 3).trans rfl
        have tq0_9 : u9.cell? ⟨gq, 0, none⟩ = some (.int .i64 q0) := (blk_cell Lq9.out 0).trans rfl
        have tq1_9 : u9.cell? ⟨gq, 1, none⟩ = some (.int .i64 q1) := (blk_cell Lq9.out 1).trans rfl
        have tq2_9 : u9.cell? ⟨gq, 2, none⟩ = some (.int .u32 q2) := (blk_cell Lq9.out 2).trans rfl
        have tq3_9 : u9.cell? ⟨gq, 3, none⟩ = some (.int .u32 q3) := (blk_cell Lq9.out 3).trans rfl
        have tk0_9 : u9.cell? ⟨gk, 0, none⟩ = some (.int .i64 k0) := (blk_cell Lk9.out 0).trans rfl
        have tk1_9 : u9.cell? ⟨gk, 1, none⟩ = some (.int .i64 k1) := (blk_cell Lk9.out 1).trans rfl
        have tk2_9 : u9.cell? ⟨gk, 2, none⟩ = some (.int .u32 k2) := (blk_cell Lk9.out 2).trans rfl
        have tk3_9 : u9.cell? ⟨gk, 3, none⟩ = some (.int .u32 k3) := (blk_cell Lk9.out 3).trans rfl
        have te0_9 : u9.cell? ⟨ge, 0, none⟩ = some (.int .i64 e0) := (blk_cell Le9.out 0).trans rfl
        have te1_9 : u9.cell? ⟨ge, 1, none⟩ = some (.int .i64 e1) := (blk_cell Le9.out 1).trans rfl
        have te2_9 : u9.cell? ⟨ge, 2, none⟩ = some (.bool e2) := (blk_cell Le9.out 2).trans rfl
        have te3_9 : u9.cell? ⟨ge, 3, none⟩ = some (.int .i64 e3) := (blk_cell Le9.out 3).trans rfl
        have te4_9 : u9.cell? ⟨ge, 4, none⟩ = some (.string e4) := (blk_cell Le9.out 4).trans rfl
        have te5_9 : u9.cell? ⟨ge, 5, none⟩ = some (.string e5) := (blk_cell Le9.out 5).trans rfl
        have te6_9 : u9.cell? ⟨ge, 6, none⟩ = some (.string e6) := (blk_cell Le9.out 6).trans rfl
        have te7_9 : u9.cell? ⟨ge, 7, none⟩ = some (.string e7) := (blk_cell Le9.out 7).trans rfl
        have te8_9 : u9.cell? ⟨ge, 8, none⟩ = some (.slice A e8.length c) := (blk_cell Le9.out 8).trans rfl
        have te9_9 : u9.cell? ⟨ge, 9, none⟩ = some (.string e9) := (blk_cell Le9.out 9).trans rfl
        have tb0_9 : u9.cell? ⟨gb, 0, none⟩ = some (.int .i64 b0) := (blk_cell Lb9.out 0).trans rfl
        have tb1_9 : u9.cell? ⟨gb, 1, none⟩ = some (.int .i64 b1) := (blk_cell Lb9.out 1).trans rfl
        have tb2_9 : u9.cell? ⟨gb, 2, none⟩ = some (.int .u32 b2) := (blk_cell Lb9.out 2).trans rfl
        have tb3_9 : u9.cell? ⟨gb, 3, none⟩ = some (.int .u32 b3) := (blk_cell Lb9.out 3).trans rfl
        have tb4_9 : u9.cell? ⟨gb, 4, none⟩ = some (.int .u64 b4) := (blk_cell Lb9.out 4).trans rfl
        have tb5_9 : u9.cell? ⟨gb, 5, none⟩ = some (.bool b5) := (blk_cell Lb9.out 5).trans rfl
        have M0 := Mbq.out
        generalize mayB q0 q1 q2 q3 b0 b1 b2 b3 b4 = r1 at M0 ⊢
        cases r1 with
        | false =>
          clear M0
          go_wp2_with fail
          refine (my.out k0 k1 k2 k3 _).mono ?_
          rintro e u10 ⟨rfl, hbc⟩
          have BB10 := Lib.hid (below_then BB9.out (BB9.out).size hbc)
          have Lw10 := Lib.hid ((hbc.block _ (blk_lt Lw9.out)).trans Lw9.out)
          have Lq10 := Lib.hid ((hbc.block _ (blk_lt Lq9.out)).trans Lq9.out)
          have Lk10 := Lib.hid ((hbc.block _ (blk_lt Lk9.out)).trans Lk9.out)
          have Le10 := Lib.hid ((hbc.block _ (blk_lt Le9.out)).trans Le9.out)
          have Lb10 := Lib.hid ((hbc.block _ (blk_lt Lb9.out)).trans Lb9.out)
          clear hbc
          have tw0_10 : u10.cell? ⟨v5.heap.size, 0, none⟩ = some (.int .i64 k0) := (blk_cell Lw10.out 0).trans rfl
          have tw1_10 : u10.cell? ⟨v5.heap.size, 1, none⟩ = some (.int .i64 q1) := (blk_cell Lw10.out 1).trans rfl
          have tw2_10 : u10.cell? ⟨v5.heap.size, 2, none⟩ = some (.int .u32 (Go.bits .or .u32 q2 k2)) := (blk_cell Lw10.out 2).trans rfl
          have tw3_10 : u10.cell? ⟨v5.heap.size, 3, none⟩ = some (.int .u32 (Go.bits .or .u32 q3 k3)) := (blk_cell Lw10.out 3).trans rfl
          have tq0_10 : u10.cell? ⟨gq, 0, none⟩ = some (.int .i64 q0) := (blk_cell Lq10.out 0).trans rfl
          have tq1_10 : u10.cell? ⟨gq, 1, none⟩ = some (.int .i64 q1) := (blk_cell Lq10.out 1).trans rfl
          have tq2_10 : u10.cell? ⟨gq, 2, none⟩ = some (.int .u32 q2) := (blk_cell Lq10.out 2).trans rfl
          have tq3_10 : u10.cell? ⟨gq, 3, none⟩ = some (.int .u32 q3) := (blk_cell Lq10.out 3).trans rfl
          have tk0_10 : u10.cell? ⟨gk, 0, none⟩ = some (.int .i64 k0) := (blk_cell Lk10.out 0).trans rfl
          have tk1_10 : u10.cell? ⟨gk, 1, none⟩ = some (.int .i64 k1) := (blk_cell Lk10.out 1).trans rfl
          have tk2_10 : u10.cell? ⟨gk, 2, none⟩ = some (.int .u32 k2) := (blk_cell Lk10.out 2).trans rfl
          have tk3_10 : u10.cell? ⟨gk, 3, none⟩ = some (.int .u32 k3) := (blk_cell Lk10.out 3).trans rfl
          have te0_10 : u10.cell? ⟨ge, 0, none⟩ = some (.int .i64 e0) := (blk_cell Le10.out 0).trans rfl
          have te1_10 : u10.cell? ⟨ge, 1, none⟩ = some (.int .i64 e1) := (blk_cell Le10.out 1).trans rfl
          have te2_10 : u10.cell? ⟨ge, 2, none⟩ = some (.bool e2) := (blk_cell Le10.out 2).trans rfl
          have te3_10 : u10.cell? ⟨ge, 3, none⟩ = some (.int .i64 e3) := (blk_cell Le10.out 3).trans rfl
          have te4_10 : u10.cell? ⟨ge, 4, none⟩ = some (.string e4) := (blk_cell Le10.out 4).trans rfl
          have te5_10 : u10.cell? ⟨ge, 5, none⟩ = some (.string e5) := (blk_cell Le10.out 5).trans rfl
          have te6_10 : u10.cell? ⟨ge, 6, none⟩ = some (.string e6) := (blk_cell Le10.out 6).trans rfl
          have te7_10 : u10.cell? ⟨ge, 7, none⟩ = some (.string e7) := (blk_cell Le10.out 7).trans rfl
          have te8_10 : u10.cell? ⟨ge, 8, none⟩ = some (.slice A e8.length c) := (blk_cell Le10.out 8).trans rfl
          have te9_10 : u10.cell? ⟨ge, 9, none⟩ = some (.string e9) := (blk_cell Le10.out 9).trans rfl
          have tb0_10 : u10.cell? ⟨gb, 0, none⟩ = some (.int .i64 b0) := (blk_cell Lb10.out 0).trans rfl
          have tb1_10 : u10.cell? ⟨gb, 1, none⟩ = some (.int .i64 b1) := (blk_cell Lb10.out 1).trans rfl
          have tb2_10 : u10.cell? ⟨gb, 2, none⟩ = some (.int .u32 b2) := (blk_cell Lb10.out 2).trans rfl
          have tb3_10 : u10.cell? ⟨gb, 3, none⟩ = some (.int .u32 b3) := (blk_cell Lb10.out 3).trans rfl
          have tb4_10 : u10.cell? ⟨gb, 4, none⟩ = some (.int .u64 b4) := (blk_cell Lb10.out 4).trans rfl
          have tb5_10 : u10.cell? ⟨gb, 5, none⟩ = some (.bool b5) := (blk_cell Lb10.out 5).trans rfl
          have M0 := Mbk.out
          generalize mayB k0 k1 k2 k3 b0 b1 b2 b3 b4 = r2 at M0 ⊢
          cases r2 with
          | false =>
            clear M0
            go_wp2_with fail
            go_ret
            exact ⟨rfl, BB10.out⟩
          | true =>
            have M1 := Lib.hid (M0 rfl)
            clear M0
            go_wp2_with fail
            refine (my.out (k0) (q1) ((Go.bits .or .u32 q2 k2)) ((Go.bits .or .u32 q3 k3)) _).mono ?_
            rintro e u11 ⟨rfl, hbc⟩
            have BB11 := Lib.hid (below_then BB10.out (BB10.out).size hbc)
            have Lw11 := Lib.hid ((hbc.block _ (blk_lt Lw10.out)).trans Lw10.out)
            have Lq11 := Lib.hid ((hbc.block _ (blk_lt Lq10.out)).trans Lq10.out)
            have Lk11 := Lib.hid ((hbc.block _ (blk_lt Lk10.out)).trans Lk10.out)
            have Le11 := Lib.hid ((hbc.block _ (blk_lt Le10.out)).trans Le10.out)
            have Lb11 := Lib.hid ((hbc.block _ (blk_lt Lb10.out)).trans Lb10.out)
            clear hbc
            have tw0_11 : u11.cell? ⟨v5.heap.size, 0, none⟩ = some (.int .i64 k0) := (blk_cell Lw11.out 0).trans rfl
            have tw1_11 : u11.cell? ⟨v5.heap.size, 1, none⟩ = some (.int .i64 q1) := (blk_cell Lw11.out 1).trans rfl
            have tw2_11 : u11.cell? ⟨v5.heap.size, 2, none⟩ = some (.int .u32 (Go.bits .or .u32 q2 k2)) := (blk_cell Lw11.out 2).trans rfl
            have tw3_11 : u11.cell? ⟨v5.heap.size, 3, none⟩ = some (.int .u32 (Go.bits .or .u32 q3 k3)) := (blk_cell Lw11.out 3).trans rfl
            have tq0_11 : u11.cell? ⟨gq, 0, none⟩ = some (.int .i64 q0) := (blk_cell Lq11.out 0).trans rfl
            have tq1_11 : u11.cell? ⟨gq, 1, none⟩ = some (.int .i64 q1) := (blk_cell Lq11.out 1).trans rfl
            have tq2_11 : u11.cell? ⟨gq, 2, none⟩ = some (.int .u32 q2) := (blk_cell Lq11.out 2).trans rfl
            have tq3_11 : u11.cell? ⟨gq, 3, none⟩ = some (.int .u32 q3) := (blk_cell Lq11.out 3).trans rfl
            have tk0_11 : u11.cell? ⟨gk, 0, none⟩ = some (.int .i64 k0) := (blk_cell Lk11.out 0).trans rfl
            have tk1_11 : u11.cell? ⟨gk, 1, none⟩ = some (.int .i64 k1) := (blk_cell Lk11.out 1).trans rfl
            have tk2_11 : u11.cell? ⟨gk, 2, none⟩ = some (.int .u32 k2) := (blk_cell Lk11.out 2).trans rfl
            have tk3_11 : u11.cell? ⟨gk, 3, none⟩ = some (.int .u32 k3) := (blk_cell Lk11.out 3).trans rfl
            have te0_11 : u11.cell? ⟨ge, 0, none⟩ = some (.int .i64 e0) := (blk_cell Le11.out 0).trans rfl
            have te1_11 : u11.cell? ⟨ge, 1, none⟩ = some (.int .i64 e1) := (blk_cell Le11.out 1).trans rfl
            have te2_11 : u11.cell? ⟨ge, 2, none⟩ = some (.bool e2) := (blk_cell Le11.out 2).trans rfl
            have te3_11 : u11.cell? ⟨ge, 3, none⟩ = some (.int .i64 e3) := (blk_cell Le11.out 3).trans rfl
            have te4_11 : u11.cell? ⟨ge, 4, none⟩ = some (.string e4) := (blk_cell Le11.out 4).trans rfl
            have te5_11 : u11.cell? ⟨ge, 5, none⟩ = some (.string e5) := (blk_cell Le11.out 5).trans rfl
            have te6_11 : u11.cell? ⟨ge, 6, none⟩ = some (.string e6) := (blk_cell Le11.out 6).trans rfl
            have te7_11 : u11.cell? ⟨ge, 7, none⟩ = some (.string e7) := (blk_cell Le11.out 7).trans rfl
            have te8_11 : u11.cell? ⟨ge, 8, none⟩ = some (.slice A e8.length c) := (blk_cell Le11.out 8).trans rfl
            have te9_11 : u11.cell? ⟨ge, 9, none⟩ = some (.string e9) := (blk_cell Le11.out 9).trans rfl
            have tb0_11 : u11.cell? ⟨gb, 0, none⟩ = some (.int .i64 b0) := (blk_cell Lb11.out 0).trans rfl
            have tb1_11 : u11.cell? ⟨gb, 1, none⟩ = some (.int .i64 b1) := (blk_cell Lb11.out 1).trans rfl
            have tb2_11 : u11.cell? ⟨gb, 2, none⟩ = some (.int .u32 b2) := (blk_cell Lb11.out 2).trans rfl
            have tb3_11 : u11.cell? ⟨gb, 3, none⟩ = some (.int .u32 b3) := (blk_cell Lb11.out 3).trans rfl
            have tb4_11 : u11.cell? ⟨gb, 4, none⟩ = some (.int .u64 b4) := (blk_cell Lb11.out 4).trans rfl
            have tb5_11 : u11.cell? ⟨gb, 5, none⟩ = some (.bool b5) := (blk_cell Lb11.out 5).trans rfl
            rw [M1.out]
            clear M1
            go_wp2_with fail
            go_ret
            exact ⟨rfl, BB11.out⟩
        | true =>
          have M1 := Lib.hid (M0 rfl)
          clear M0
          go_wp2_with fail
          refine (my.out (k0) (q1) ((Go.bits .or .u32 q2 k2)) ((Go.bits .or .u32 q3 k3)) _).mono ?_
          rintro e u12 ⟨rfl, hbc⟩
          have BB12 := Lib.hid (below_then BB9.out (BB9.out).size hbc)
          have Lw12 := Lib.hid ((hbc.block _ (blk_lt Lw9.out)).trans Lw9.out)
          have Lq12 := Lib.hid ((hbc.block _ (blk_lt Lq9.out)).trans Lq9.out)
          have Lk12 := Lib.hid ((hbc.block _ (blk_lt Lk9.out)).trans Lk9.out)
          have Le12 := Lib.hid ((hbc.block _ (blk_lt Le9.out)).trans Le9.out)
          have Lb12 := Lib.hid ((hbc.block _ (blk_lt Lb9.out)).trans Lb9.out)
          clear hbc
          have tw0_12 : u12.cell? ⟨v5.heap.size, 0, none⟩ = some (.int .i64 k0) := (blk_cell Lw12.out 0).trans rfl
          have tw1_12 : u12.cell? ⟨v5.heap.size, 1, none⟩ = some (.int .i64 q1) := (blk_cell Lw12.out 1).trans rfl
          have tw2_12 : u12.cell? ⟨v5.heap.size, 2, none⟩ = some (.int .u32 (Go.bits .or .u32 q2 k2)) := (blk_cell Lw12.out 2).trans rfl
          have tw3_12 : u12.cell? ⟨v5.heap.size, 3, none⟩ = some (.int .u32 (Go.bits .or .u32 q3 k3)) := (blk_cell Lw12.out 3).trans rfl
          have tq0_12 : u12.cell? ⟨gq, 0, none⟩ = some (.int .i64 q0) := (blk_cell Lq12.out 0).trans rfl
          have tq1_12 : u12.cell? ⟨gq, 1, none⟩ = some (.int .i64 q1) := (blk_cell Lq12.out 1).trans rfl
          have tq2_12 : u12.cell? ⟨gq, 2, none⟩ = some (.int .u32 q2) := (blk_cell Lq12.out 2).trans rfl
          have tq3_12 : u12.cell? ⟨gq, 3, none⟩ = some (.int .u32 q3) := (blk_cell Lq12.out 3).trans rfl
          have tk0_12 : u12.cell? ⟨gk, 0, none⟩ = some (.int .i64 k0) := (blk_cell Lk12.out 0).trans rfl
          have tk1_12 : u12.cell? ⟨gk, 1, none⟩ = some (.int .i64 k1) := (blk_cell Lk12.out 1).trans rfl
          have tk2_12 : u12.cell? ⟨gk, 2, none⟩ = some (.int .u32 k2) := (blk_cell Lk12.out 2).trans rfl
          have tk3_12 : u12.cell? ⟨gk, 3, none⟩ = some (.int .u32 k3) := (blk_cell Lk12.out 3).trans rfl
          have te0_12 : u12.cell? ⟨ge, 0, none⟩ = some (.int .i64 e0) := (blk_cell Le12.out 0).trans rfl
          have te1_12 : u12.cell? ⟨ge, 1, none⟩ = some (.int .i64 e1) := (blk_cell Le12.out 1).trans rfl
          have te2_12 : u12.cell? ⟨ge, 2, none⟩ = some (.bool e2) := (blk_cell Le12.out 2).trans rfl
          have te3_12 : u12.cell? ⟨ge, 3, none⟩ = some (.int .i64 e3) := (blk_cell Le12.out 3).trans rfl
          have te4_12 : u12.cell? ⟨ge, 4, none⟩ = some (.string e4) := (blk_cell Le12.out 4).trans rfl
          have te5_12 : u12.cell? ⟨ge, 5, none⟩ = some (.string e5) := (blk_cell Le12.out 5).trans rfl
          have te6_12 : u12.cell? ⟨ge, 6, none⟩ = some (.string e6) := (blk_cell Le12.out 6).trans rfl
          have te7_12 : u12.cell? ⟨ge, 7, none⟩ = some (.string e7) := (blk_cell Le12.out 7).trans rfl
          have te8_12 : u12.cell? ⟨ge, 8, none⟩ = some (.slice A e8.length c) := (blk_cell Le12.out 8).trans rfl
          have te9_12 : u12.cell? ⟨ge, 9, none⟩ = some (.string e9) := (blk_cell Le12.out 9).trans rfl
          have tb0_12 : u12.cell? ⟨gb, 0, none⟩ = some (.int .i64 b0) := (blk_cell Lb12.out 0).trans rfl
          have tb1_12 : u12.cell? ⟨gb, 1, none⟩ = some (.int .i64 b1) := (blk_cell Lb12.out 1).trans rfl
          have tb2_12 : u12.cell? ⟨gb, 2, none⟩ = some (.int .u32 b2) := (blk_cell Lb12.out 2).trans rfl
          have tb3_12 : u12.cell? ⟨gb, 3, none⟩ = some (.int .u32 b3) := (blk_cell Lb12.out 3).trans rfl
          have tb4_12 : u12.cell? ⟨gb, 4, none⟩ = some (.int .u64 b4) := (blk_cell Lb12.out 4).trans rfl
          have tb5_12 : u12.cell? ⟨gb, 5, none⟩ = some (.bool b5) := (blk_cell Lb12.out 5).trans rfl
          rw [M1.out]
          clear M1
          go_wp2_with fail
          refine (my.out k0 k1 k2 k3 _).mono ?_
          rintro e u13 ⟨rfl, hbc⟩
          have BB13 := Lib.hid (below_then BB12.out (BB12.out).size hbc)
          have Lw13 := Lib.hid ((hbc.block _ (blk_lt Lw12.out)).trans Lw12.out)
          have Lq13 := Lib.hid ((hbc.block _ (blk_lt Lq12.out)).trans Lq12.out)
          have Lk13 := Lib.hid ((hbc.block _ (blk_lt Lk12.out)).trans Lk12.out)
          have Le13 := Lib.hid ((hbc.block _ (blk_lt Le12.out)).trans Le12.out)
          have Lb13 := Lib.hid ((hbc.block _ (blk_lt Lb12.out)).trans Lb12.out)
          clear hbc
          have tw0_13 : u13.cell? ⟨v5.heap.size, 0, none⟩ = some (.int .i64 k0) := (blk_cell Lw13.out 0).trans rfl
          have tw1_13 : u13.cell? ⟨v5.heap.size, 1, none⟩ = some (.int .i64 q1) := (blk_cell Lw13.out 1).trans rfl
          have tw2_13 : u13.cell? ⟨v5.heap.size, 2, none⟩ = some (.int .u32 (Go.bits .or .u32 q2 k2)) := (blk_cell Lw13.out 2).trans rfl
          have tw3_13 : u13.cell? ⟨v5.heap.size, 3, none⟩ = some (.int .u32 (Go.bits .or .u32 q3 k3)) := (blk_cell Lw13.out 3).trans rfl
          have tq0_13 : u13.cell? ⟨gq, 0, none⟩ = some (.int .i64 q0) := (blk_cell Lq13.out 0).trans rfl
          have tq1_13 : u13.cell? ⟨gq, 1, none⟩ = some (.int .i64 q1) := (blk_cell Lq13.out 1).trans rfl
          have tq2_13 : u13.cell? ⟨gq, 2, none⟩ = some (.int .u32 q2) := (blk_cell Lq13.out 2).trans rfl
          have tq3_13 : u13.cell? ⟨gq, 3, none⟩ = some (.int .u32 q3) := (blk_cell Lq13.out 3).trans rfl
          have tk0_13 : u13.cell? ⟨gk, 0, none⟩ = some (.int .i64 k0) := (blk_cell Lk13.out 0).trans rfl
          have tk1_13 : u13.cell? ⟨gk, 1, none⟩ = some (.int .i64 k1) := (blk_cell Lk13.out 1).trans rfl
          have tk2_13 : u13.cell? ⟨gk, 2, none⟩ = some (.int .u32 k2) := (blk_cell Lk13.out 2).trans rfl
          have tk3_13 : u13.cell? ⟨gk, 3, none⟩ = some (.int .u32 k3) := (blk_cell Lk13.out 3).trans rfl
          have te0_13 : u13.cell? ⟨ge, 0, none⟩ = some (.int .i64 e0) := (blk_cell Le13.out 0).trans rfl
          have te1_13 : u13.cell? ⟨ge, 1, none⟩ = some (.int .i64 e1) := (blk_cell Le13.out 1).trans rfl
          have te2_13 : u13.cell? ⟨ge, 2, none⟩ = some (.bool e2) := (blk_cell Le13.out 2).trans rfl
          have te3_13 : u13.cell? ⟨ge, 3, none⟩ = some (.int .i64 e3) := (blk_cell Le13.out 3).trans rfl
          have te4_13 : u13.cell? ⟨ge, 4, none⟩ = some (.string e4) := (blk_cell Le13.out 4).trans rfl
          have te5_13 : u13.cell? ⟨ge, 5, none⟩ = some (.string e5) := (blk_cell Le13.out 5).trans rfl
          have te6_13 : u13.cell? ⟨ge, 6, none⟩ = some (.string e6) := (blk_cell Le13.out 6).trans rfl
          have te7_13 : u13.cell? ⟨ge, 7, none⟩ = some (.string e7) := (blk_cell Le13.out 7).trans rfl
          have te8_13 : u13.cell? ⟨ge, 8, none⟩ = some (.slice A e8.length c) := (blk_cell Le13.out 8).trans rfl
          have te9_13 : u13.cell? ⟨ge, 9, none⟩ = some (.string e9) := (blk_cell Le13.out 9).trans rfl
          have tb0_13 : u13.cell? ⟨gb, 0, none⟩ = some (.int .i64 b0) := (blk_cell Lb13.out 0).trans rfl
          have tb1_13 : u13.cell? ⟨gb, 1, none⟩ = some (.int .i64 b1) := (blk_cell Lb13.out 1).trans rfl
          have tb2_13 : u13.cell? ⟨gb, 2, none⟩ = some (.int .u32 b2) := (blk_cell Lb13.out 2).trans rfl
          have tb3_13 : u13.cell? ⟨gb, 3, none⟩ = some (.int .u32 b3) := (blk_cell Lb13.out 3).trans rfl
          have tb4_13 : u13.cell? ⟨gb, 4, none⟩ = some (.int .u64 b4) := (blk_cell Lb13.out 4).trans rfl
          have tb5_13 : u13.cell? ⟨gb, 5, none⟩ = some (.bool b5) := (blk_cell Lb13.out 5).trans rfl
          have M0 := Mbk.out
          generalize mayB k0 k1 k2 k3 b0 b1 b2 b3 b4 = r2 at M0 ⊢
          cases r2 with
          | false =>
            clear M0
            go_wp2_with fail
            go_ret
            exact ⟨rfl, BB13.out⟩
          | true =>
            have M1 := Lib.hid (M0 rfl)
            clear M0
            go_wp2_with fail
            refine (my.out (k0) (q1) ((Go.bits .or .u32 q2 k2)) ((Go.bits .or .u32 q3 k3)) _).mono ?_
            rintro e u14 ⟨rfl, hbc⟩
            have BB14 := Lib.hid (below_then BB13.out (BB13.out).size hbc)
            have Lw14 := Lib.hid ((hbc.block _ (blk_lt Lw13.out)).trans Lw13.out)
            have Lq14 := Lib.hid ((hbc.block _ (blk_lt Lq13.out)).trans Lq13.out)
            have Lk14 := Lib.hid ((hbc.block _ (blk_lt Lk13.out)).trans Lk13.out)
            have Le14 := Lib.hid ((hbc.block _ (blk_lt Le13.out)).trans Le13.out)
            have Lb14 := Lib.hid ((hbc.block _ (blk_lt Lb13.out)).trans Lb13.out)
            clear hbc
            have tw0_14 : u14.cell? ⟨v5.heap.size, 0, none⟩ = some (.int .i64 k0) := (blk_cell Lw14.out 0).trans rfl
            have tw1_14 : u14.cell? ⟨v5.heap.size, 1, none⟩ = some (.int .i64 q1) := (blk_cell Lw14.out 1).trans rfl
            have tw2_14 : u14.cell? ⟨v5.heap.size, 2, none⟩ = some (.int .u32 (Go.bits .or .u32 q2 k2)) := (blk_cell Lw14.out 2).trans rfl
            have tw3_14 : u14.cell? ⟨v5.heap.size, 3, none⟩ = some (.int .u32 (Go.bits .or .u32 q3 k3)) := (blk_cell Lw14.out 3).trans rfl
            have tq0_14 : u14.cell? ⟨gq, 0, none⟩ = some (.int .i64 q0) := (blk_cell Lq14.out 0).trans rfl
            have tq1_14 : u14.cell? ⟨gq, 1, none⟩ = some (.int .i64 q1) := (blk_cell Lq14.out 1).trans rfl
            have tq2_14 : u14.cell? ⟨gq, 2, none⟩ = some (.int .u32 q2) := (blk_cell Lq14.out 2).trans rfl
            have tq3_14 : u14.cell? ⟨gq, 3, none⟩ = some (.int .u32 q3) := (blk_cell Lq14.out 3).trans rfl
            have tk0_14 : u14.cell? ⟨gk, 0, none⟩ = some (.int .i64 k0) := (blk_cell Lk14.out 0).trans rfl
            have tk1_14 : u14.cell? ⟨gk, 1, none⟩ = some (.int .i64 k1) := (blk_cell Lk14.out 1).trans rfl
            have tk2_14 : u14.cell? ⟨gk, 2, none⟩ = some (.int .u32 k2) := (blk_cell Lk14.out 2).trans rfl
            have tk3_14 : u14.cell? ⟨gk, 3, none⟩ = some (.int .u32 k3) := (blk_cell Lk14.out 3).trans rfl
            have te0_14 : u14.cell? ⟨ge, 0, none⟩ = some (.int .i64 e0) := (blk_cell Le14.out 0).trans rfl
            have te1_14 : u14.cell? ⟨ge, 1, none⟩ = some (.int .i64 e1) := (blk_cell Le14.out 1).trans rfl
            have te2_14 : u14.cell? ⟨ge, 2, none⟩ = some (.bool e2) := (blk_cell Le14.out 2).trans rfl
            have te3_14 : u14.cell? ⟨ge, 3, none⟩ = some (.int .i64 e3) := (blk_cell Le14.out 3).trans rfl
            have te4_14 : u14.cell? ⟨ge, 4, none⟩ = some (.string e4) := (blk_cell Le14.out 4).trans rfl
            have te5_14 : u14.cell? ⟨ge, 5, none⟩ = some (.string e5) := (blk_cell Le14.out 5).trans rfl
            have te6_14 : u14.cell? ⟨ge, 6, none⟩ = some (.string e6) := (blk_cell Le14.out 6).trans rfl
            have te7_14 : u14.cell? ⟨ge, 7, none⟩ = some (.string e7) := (blk_cell Le14.out 7).trans rfl
            have te8_14 : u14.cell? ⟨ge, 8, none⟩ = some (.slice A e8.length c) := (blk_cell Le14.out 8).trans rfl
            have te9_14 : u14.cell? ⟨ge, 9, none⟩ = some (.string e9) := (blk_cell Le14.out 9).trans rfl
            have tb0_14 : u14.cell? ⟨gb, 0, none⟩ = some (.int .i64 b0) := (blk_cell Lb14.out 0).trans rfl
            have tb1_14 : u14.cell? ⟨gb, 1, none⟩ = some (.int .i64 b1) := (blk_cell Lb14.out 1).trans rfl
            have tb2_14 : u14.cell? ⟨gb, 2, none⟩ = some (.int .u32 b2) := (blk_cell Lb14.out 2).trans rfl
            have tb3_14 : u14.cell? ⟨gb, 3, none⟩ = some (.int .u32 b3) := (blk_cell Lb14.out 3).trans rfl
            have tb4_14 : u14.cell? ⟨gb, 4, none⟩ = some (.int .u64 b4) := (blk_cell Lb14.out 4).trans rfl
            have tb5_14 : u14.cell? ⟨gb, 5, none⟩ = some (.bool b5) := (blk_cell Lb14.out 5).trans rfl
            rw [M1.out]
            clear M1
            go_wp2_with fail
            go_ret
            exact ⟨rfl, BB14.out⟩
  · skip
    have d1 : decide (k0 < q0) = false := decide_eq_false h1
    by_cases h2 : k1 > q1
    · skip
      have d2 : decide (k1 > q1) = true := decide_eq_true h2
      have sq0 : (v5.alloc (.cells #[.int .i64 q0, .int .i64 k1, .int .u32 (Go.bits .or .u32 q2 k2), .int .u32 (Go.bits .or .u32 q3 k3)] 30 (0, 0))).cell? ⟨gq, 0, none⟩ = some (.int .i64 q0) := (blk_cell (blk_alloc Hq (.cells #[.int .i64 q0, .int .i64 k1, .int .u32 (Go.bits .or .u32 q2 k2), .int .u32 (Go.bits .or .u32 q3 k3)] 30 (0, 0))) 0).trans rfl
      have sq1 : (v5.alloc (.cells #[.int .i64 q0, .int .i64 k1, .int .u32 (Go.bits .or .u32 q2 k2), .int .u32 (Go.bits .or .u32 q3 k3)] 30 (0, 0))).cell? ⟨gq, 1, none⟩ = some (.int .i64 q1) := (blk_cell (blk_alloc Hq (.cells #[.int .i64 q0, .int .i64 k1, .int .u32 (Go.bits .or .u32 q2 k2), .int .u32 (Go.bits .or .u32 q3 k3)] 30 (0, 0))) 1).trans rfl
      have sq2 : (v5.alloc (.cells #[.int .i64 q0, .int .i64 k1, .int .u32 (Go.bits .or .u32 q2 k2), .int .u32 (Go.bits .or .u32 q3 k3)] 30 (0, 0))).cell? ⟨gq, 2, none⟩ = some (.int .u32 q2) := (blk_cell (blk_alloc Hq (.cells #[.int .i64 q0, .int .i64 k1, .int .u32 (Go.bits .or .u32 q2 k2), .int .u32 (Go.bits .or .u32 q3 k3)] 30 (0, 0))) 2).trans rfl
      have sq3 : (v5.alloc (.cells #[.int .i64 q0, .int .i64 k1, .int .u32 (Go.bits .or .u32 q2 k2), .int .u32 (Go.bits .or .u32 q3 k3)] 30 (0, 0))).cell? ⟨gq, 3, none⟩ = some (.int .u32 q3) := (blk_cell (blk_alloc Hq (.cells #[.int .i64 q0, .int .i64 k1, .int .u32 (Go.bits .or .u32 q2 k2), .int .u32 (Go.bits .or .u32 q3 k3)] 30 (0, 0))) 3).trans rfl
      have sk0 : (v5.alloc (.cells #[.int .i64 q0, .int .i64 k1, .int .u32 (Go.bits .or .u32 q2 k2), .int .u32 (Go.bits .or .u32 q3 k3)] 30 (0, 0))).cell? ⟨gk, 0, none⟩ = some (.int .i64 k0) := (blk_cell (blk_alloc Hk (.cells #[.int .i64 q0, .int .i64 k1, .int .u32 (Go.bits .or .u32 q2 k2), .int .u32 (Go.bits .or .u32 q3 k3)] 30 (0, 0))) 0).trans rfl
      have sk1 : (v5.alloc (.cells #[.int .i64 q0, .int .i64 k1, .int .u32 (Go.bits .or .u32 q2 k2), .int .u32 (Go.bits .or .u32 q3 k3)] 30 (0, 0))).cell? ⟨gk, 1, none⟩ = some (.int .i64 k1) := (blk_cell (blk_alloc Hk (.cells #[.int .i64 q0, .int .i64 k1, .int .u32 (Go.bits .or .u32 q2 k2), .int .u32 (Go.bits .or .u32 q3 k3)] 30 (0, 0))) 1).trans rfl
      have sk2 : (v5.alloc (.cells #[.int .i64 q0, .int .i64 k1, .int .u32 (Go.bits .or .u32 q2 k2), .int .u32 (Go.bits .or .u32 q3 k3)] 30 (0, 0))).cell? ⟨gk, 2, none⟩ = some (.int .u32 k2) := (blk_cell (blk_alloc Hk (.cells #[.int .i64 q0, .int .i64 k1, .int .u32 (Go.bits .or .u32 q2 k2), .int .u32 (Go.bits .or .u32 q3 k3)] 30 (0, 0))) 2).trans rfl
      have sk3 : (v5.alloc (.cells #[.int .i64 q0, .int .i64 k1, .int .u32 (Go.bits .or .u32 q2 k2), .int .u32 (Go.bits .or .u32 q3 k3)] 30 (0, 0))).cell? ⟨gk, 3, none⟩ = some (.int .u32 k3) := (blk_cell (blk_alloc Hk (.cells #[.int .i64 q0, .int .i64 k1, .int .u32 (Go.bits .or .u32 q2 k2), .int .u32 (Go.bits .or .u32 q3 k3)] 30 (0, 0))) 3).trans rfl
      have se0 : (v5.alloc (.cells #[.int .i64 q0, .int .i64 k1, .int .u32 (Go.bits .or .u32 q2 k2), .int .u32 (Go.bits .or .u32 q3 k3)] 30 (0, 0))).cell? ⟨ge, 0, none⟩ = some (.int .i64 e0) := (blk_cell (blk_alloc He (.cells #[.int .i64 q0, .int .i64 k1, .int .u32 (Go.bits .or .u32 q2 k2), .int .u32 (Go.bits .or .u32 q3 k3)] 30 (0, 0))) 0).trans rfl
      have se1 : (v5.alloc (.cells #[.int .i64 q0, .int .i64 k1, .int .u32 (Go.bits .or .u32 q2 k2), .int .u32 (Go.bits .or .u32 q3 k3)] 30 (0, 0))).cell? ⟨ge, 1, none⟩ = some (.int .i64 e1) := (blk_cell (blk_alloc He (.cells #[.int .i64 q0, .int .i64 k1, .int .u32 (Go.bits .or .u32 q2 k2), .int .u32 (Go.bits .or .u32 q3 k3)] 30 (0, 0))) 1).trans rfl
      have se2 : (v5.alloc (.cells #[.int .i64 q0, .int .i64 k1, .int .u32 (Go.bits .or .u32 q2 k2), .int .u32 (Go.bits .or .u32 q3 k3)] 30 (0, 0))).cell? ⟨ge, 2, none⟩ = some (.bool e2) := (blk_cell (blk_alloc He (.cells #[.int .i64 q0, .int .i64 k1, .int .u32 (Go.bits .or .u32 q2 k2), .int .u32 (Go.bits .or .u32 q3 k3)] 30 (0, 0))) 2).trans rfl
      have se3 : (v5.alloc (.cells #[.int .i64 q0, .int .i64 k1, .int .u32 (Go.bits .or .u32 q2 k2), .int .u32 (Go.bits .or .u32 q3 k3)] 30 (0, 0))).cell? ⟨ge, 3, none⟩ = some (.int .i64 e3) := (blk_cell (blk_alloc He (.cells #[.int .i64 q0, .int .i64 k1, .int .u32 (Go.bits .or .u32 q2 k2), .int .u32 (Go.bits .or .u32 q3 k3)] 30 (0, 0))) 3).trans rfl
      have se4 : (v5.alloc (.cells #[.int .i64 q0, .int .i64 k1, .int .u32 (Go.bits .or .u32 q2 k2), .int .u32 (Go.bits .or .u32 q3 k3)] 30 (0, 0))).cell? ⟨ge, 4, none⟩ = some (.string e4) := (blk_cell (blk_alloc He (.cells #[.int .i64 q0, .int .i64 k1, .int .u32 (Go.bits .or .u32 q2 k2), .int .u32 (Go.bits .or .u32 q3 k3)] 30 (0, 0))) 4).trans rfl
      have se5 : (v5.alloc (.cells #[.int .i64 q0, .int .i64 k1, .int .u32 (Go.bits .or .u32 q2 k2), .int .u32 (Go.bits .or .u32 q3 k3)] 30 (0, 0))).cell? ⟨ge, 5, none⟩ = some (.string e5) := (blk_cell (blk_alloc He (.cells #[.int .i64 q0, .int .i64 k1, .int .u32 (Go.bits .or .u32 q2 k2), .int .u32 (Go.bits .or .u32 q3 k3)] 30 (0, 0))) 5).trans rfl
      have se6 : (v5.alloc (.cells #[.int .i64 q0, .int .i64 k1, .int .u32 (Go.bits .or .u32 q2 k2), .int .u32 (Go.bits .or .u32 q3 k3)] 30 (0, 0))).cell? ⟨ge, 6, none⟩ = some (.string e6) := (blk_cell (blk_alloc He (.cells #[.int .i64 q0, .int .i64 k1, .int .u32 (Go.bits .or .u32 q2 k2), .int .u32 (Go.bits .or .u32 q3 k3)] 30 (0, 0))) 6).trans rfl
      have se7 : (v5.alloc (.cells #[.int .i64 q0, .int .i64 k1, .int .u32 (Go.bits .or .u32 q2 k2), .int .u32 (Go.bits .or .u32 q3 k3)] 30 (0, 0))).cell? ⟨ge, 7, none⟩ = some (.string e7) := (blk_cell (blk_alloc He (.cells #[.int .i64 q0, .int .i64 k1, .int .u32 (Go.bits .or .u32 q2 k2), .int .u32 (Go.bits .or .u32 q3 k3)] 30 (0, 0))) 7).trans rfl
      have se8 : (v5.alloc (.cells #[.int .i64 q0, .int .i64 k1, .int .u32 (Go.bits .or .u32 q2 k2), .int .u32 (Go.bits .or .u32 q3 k3)] 30 (0, 0))).cell? ⟨ge, 8, none⟩ = some (.slice A e8.length c) := (blk_cell (blk_alloc He (.cells #[.int .i64 q0, .int .i64 k1, .int .u32 (Go.bits .or .u32 q2 k2), .int .u32 (Go.bits .or .u32 q3 k3)] 30 (0, 0))) 8).trans rfl
      have se9 : (v5.alloc (.cells #[.int .i64 q0, .int .i64 k1, .int .u32 (Go.bits .or .u32 q2 k2), .int .u32 (Go.bits .or .u32 q3 k3)] 30 (0, 0))).cell? ⟨ge, 9, none⟩ = some (.string e9) := (blk_cell (blk_alloc He (.cells #[.int .i64 q0, .int .i64 k1, .int .u32 (Go.bits .or .u32 q2 k2), .int .u32 (Go.bits .or .u32 q3 k3)] 30 (0, 0))) 9).trans rfl
      have sb0 : (v5.alloc (.cells #[.int .i64 q0, .int .i64 k1, .int .u32 (Go.bits .or .u32 q2 k2), .int .u32 (Go.bits .or .u32 q3 k3)] 30 (0, 0))).cell? ⟨gb, 0, none⟩ = some (.int .i64 b0) := (blk_cell (blk_alloc Hb (.cells #[.int .i64 q0, .int .i64 k1, .int .u32 (Go.bits .or .u32 q2 k2), .int .u32 (Go.bits .or .u32 q3 k3)] 30 (0, 0))) 0).trans rfl
      have sb1 : (v5.alloc (.cells #[.int .i64 q0, .int .i64 k1, .int .u32 (Go.bits .or .u32 q2 k2), .int .u32 (Go.bits .or .u32 q3 k3)] 30 (0, 0))).cell? ⟨gb, 1, none⟩ = some (.int .i64 b1) := (blk_cell (blk_alloc Hb (.cells #[.int .i64 q0, .int .i64 k1, .int .u32 (Go.bits .or .u32 q2 k2), .int .u32 (Go.bits .or .u32 q3 k3)] 30 (0, 0))) 1).trans rfl
      have sb2 : (v5.alloc (.cells #[.int .i64 q0, .int .i64 k1, .int .u32 (Go.bits .or .u32 q2 k2), .int .u32 (Go.bits .or .u32 q3 k3)] 30 (0, 0))).cell? ⟨gb, 2, none⟩ = some (.int .u32 b2) := (blk_cell (blk_alloc Hb (.cells #[.int .i64 q0, .int .i64 k1, .int .u32 (Go.bits .or .u32 q2 k2), .int .u32 (Go.bits .or .u32 q3 k3)] 30 (0, 0))) 2).trans rfl
      have sb3 : (v5.alloc (.cells #[.int .i64 q0, .int .i64 k1, .int .u32 (Go.bits .or .u32 q2 k2), .int .u32 (Go.bits .or .u32 q3 k3)] 30 (0, 0))).cell? ⟨gb, 3, none⟩ = some (.int .u32 b3) := (blk_cell (blk_alloc Hb (.cells #[.int .i64 q0, .int .i64 k1, .int .u32 (Go.bits .or .u32 q2 k2), .int .u32 (Go.bits .or .u32 q3 k3)] 30 (0, 0))) 3).trans rfl
      have sb4 : (v5.alloc (.cells #[.int .i64 q0, .int .i64 k1, .int .u32 (Go.bits .or .u32 q2 k2), .int .u32 (Go.bits .or .u32 q3 k3)] 30 (0, 0))).cell? ⟨gb, 4, none⟩ = some (.int .u64 b4) := (blk_cell (blk_alloc Hb (.cells #[.int .i64 q0, .int .i64 k1, .int .u32 (Go.bits .or .u32 q2 k2), .int .u32 (Go.bits .or .u32 q3 k3)] 30 (0, 0))) 4).trans rfl
      have sb5 : (v5.alloc (.cells #[.int .i64 q0, .int .i64 k1, .int .u32 (Go.bits .or .u32 q2 k2), .int .u32 (Go.bits .or .u32 q3 k3)] 30 (0, 0))).cell? ⟨gb, 5, none⟩ = some (.bool b5) := (blk_cell (blk_alloc Hb (.cells #[.int .i64 q0, .int .i64 k1, .int .u32 (Go.bits .or .u32 q2 k2), .int .u32 (Go.bits .or .u32 q3 k3)] 30 (0, 0))) 5).trans rfl
      have sw0 : (v5.alloc (.cells #[.int .i64 q0, .int .i64 k1, .int .u32 (Go.bits .or .u32 q2 k2), .int .u32 (Go.bits .or .u32 q3 k3)] 30 (0, 0))).cell? ⟨v5.heap.size, 0, none⟩ = some (.int .i64 q0) := (blk_cell (blk_new v5 (.cells #[.int .i64 q0, .int .i64 k1, .int .u32 (Go.bits .or .u32 q2 k2), .int .u32 (Go.bits .or .u32 q3 k3)] 30 (0, 0))) 0).trans rfl
      have Fsw0 := blk_frozen (blk_new v5 (.cells #[.int .i64 q0, .int .i64 k1, .int .u32 (Go.bits .or .u32 q2 k2), .int .u32 (Go.bits .or .u32 q3 k3)] 30 (0, 0))) 0
      have sw1 : (v5.alloc (.cells #[.int .i64 q0, .int .i64 k1, .int .u32 (Go.bits .or .u32 q2 k2), .int .u32 (Go.bits .or .u32 q3 k3)] 30 (0, 0))).cell? ⟨v5.heap.size, 1, none⟩ = some (.int .i64 k1) := (blk_cell (blk_new v5 (.cells #[.int .i64 q0, .int .i64 k1, .int .u32 (Go.bits .or .u32 q2 k2), .int .u32 (Go.bits .or .u32 q3 k3)] 30 (0, 0))) 1).trans rfl
      have Fsw1 := blk_frozen (blk_new v5 (.cells #[.int .i64 q0, .int .i64 k1, .int .u32 (Go.bits .or .u32 q2 k2), .int .u32 (Go.bits .or .u32 q3 k3)] 30 (0, 0))) 1
      have sw2 : (v5.alloc (.cells #[.int .i64 q0, .int .i64 k1, .int .u32 (Go.bits .or .u32 q2 k2), .int .u32 (Go.bits .or .u32 q3 k3)] 30 (0, 0))).cell? ⟨v5.heap.size, 2, none⟩ = some (.int .u32 (Go.bits .or .u32 q2 k2)) := (blk_cell (blk_new v5 (.cells #[.int .i64 q0, .int .i64 k1, .int .u32 (Go.bits .or .u32 q2 k2), .int .u32 (Go.bits .or .u32 q3 k3)] 30 (0, 0))) 2).trans rfl
      have Fsw2 := blk_frozen (blk_new v5 (.cells #[.int .i64 q0, .int .i64 k1, .int .u32 (Go.bits .or .u32 q2 k2), .int .u32 (Go.bits .or .u32 q3 k3)] 30 (0, 0))) 2
      have sw3 : (v5.alloc (.cells #[.int .i64 q0, .int .i64 k1, .int .u32 (Go.bits .or .u32 q2 k2), .int .u32 (Go.bits .or .u32 q3 k3)] 30 (0, 0))).cell? ⟨v5.heap.size, 3, none⟩ = some (.int .u32 (Go.bits .or .u32 q3 k3)) := (blk_cell (blk_new v5 (.cells #[.int .i64 q0, .int .i64 k1, .int .u32 (Go.bits .or .u32 q2 k2), .int .u32 (Go.bits .or .u32 q3 k3)] 30 (0, 0))) 3).trans rfl
      have Fsw3 := blk_frozen (blk_new v5 (.cells #[.int .i64 q0, .int .i64 k1, .int .u32 (Go.bits .or .u32 q2 k2), .int .u32 (Go.bits .or .u32 q3 k3)] 30 (0, 0))) 3
      have Mmq := Lib.hid (mayB_mono q0 q1 q2 q3 (q0) (k1) ((Go.bits .or .u32 q2 k2)) ((Go.bits .or .u32 q3 k3)) o0 o1 o2 o3 o4 (by omega) (by omega) (Mono.or_left _ _ _) (Mono.or_left _ _ _))
      have Mbq := Lib.hid (mayB_mono q0 q1 q2 q3 (q0) (k1) ((Go.bits .or .u32 q2 k2)) ((Go.bits .or .u32 q3 k3)) b0 b1 b2 b3 b4 (by omega) (by omega) (Mono.or_left _ _ _) (Mono.or_left _ _ _))
      have Mbk := Lib.hid (mayB_mono k0 k1 k2 k3 (q0) (k1) ((Go.bits .or .u32 q2 k2)) ((Go.bits .or .u32 q3 k3)) b0 b1 b2 b3 b4 (by omega) (by omega) (Mono.or_right _ _ _) (Mono.or_right _ _ _))
      have LW := Lib.hid (And.intro (blk_new v5 (.cells #[.int .i64 q0, .int .i64 k1, .int .u32 (Go.bits .or .u32 q2 k2), .int .u32 (Go.bits .or .u32 q3 k3)] 30 (0, 0))) (below_alloc HB (.cells #[.int .i64 q0, .int .i64 k1, .int .u32 (Go.bits .or .u32 q2 k2), .int .u32 (Go.bits .or .u32 q3 k3)] 30 (0, 0))))
      have Lq := Lib.hid (blk_alloc Hq (.cells #[.int .i64 q0, .int .i64 k1, .int .u32 (Go.bits .or .u32 q2 k2), .int .u32 (Go.bits .or .u32 q3 k3)] 30 (0, 0)))
      have Lk := Lib.hid (blk_alloc Hk (.cells #[.int .i64 q0, .int .i64 k1, .int .u32 (Go.bits .or .u32 q2 k2), .int .u32 (Go.bits .or .u32 q3 k3)] 30 (0, 0)))
      have Le := Lib.hid (blk_alloc He (.cells #[.int .i64 q0, .int .i64 k1, .int .u32 (Go.bits .or .u32 q2 k2), .int .u32 (Go.bits .or .u32 q3 k3)] 30 (0, 0)))
      have Lb := Lib.hid (blk_alloc Hb (.cells #[.int .i64 q0, .int .i64 k1, .int .u32 (Go.bits .or .u32 q2 k2), .int .u32 (Go.bits .or .u32 q3 k3)] 30 (0, 0)))
      go_wp2_with fail
      refine (mt.out q0 q1 q2 q3 _ LW.out.2).mono ?_
      rintro e u1 ⟨rfl, hbc⟩
      have BB1 := Lib.hid (below_then LW.out.2 (LW.out.2).size hbc)
      have Lw1 := Lib.hid ((hbc.block _ (blk_lt LW.out.1)).trans LW.out.1)
      have Lq1 := Lib.hid ((hbc.block _ (blk_lt Lq.out)).trans Lq.out)
      have Lk1 := Lib.hid ((hbc.block _ (blk_lt Lk.out)).trans Lk.out)
      have Le1 := Lib.hid ((hbc.block _ (blk_lt Le.out)).trans Le.out)
      have Lb1 := Lib.hid ((hbc.block _ (blk_lt Lb.out)).trans Lb.out)
      clear hbc
      have tw0_1 : u1.cell? ⟨v5.heap.size, 0, none⟩ = some (.int .i64 q0) := (blk_cell Lw1.out 0).trans rfl
      have tw1_1 : u1.cell? ⟨v5.heap.size, 1, none⟩ = some (.int .i64 k1) := (blk_cell Lw1.out 1).trans rfl
      have tw2_1 : u1.cell? ⟨v5.heap.size, 2, none⟩ = some (.int .u32 (Go.bits .or .u32 q2 k2)) := (blk_cell Lw1.out 2).trans rfl
      have tw3_1 : u1.cell? ⟨v5.heap.size, 3, none⟩ = some (.int .u32 (Go.bits .or .u32 q3 k3)) := (blk_cell Lw1.out 3).trans rfl
      have tq0_1 : u1.cell? ⟨gq, 0, none⟩ = some (.int .i64 q0) := (blk_cell Lq1.out 0).trans rfl
      have tq1_1 : u1.cell? ⟨gq, 1, none⟩ = some (.int .i64 q1) := (blk_cell Lq1.out 1).trans rfl
      have tq2_1 : u1.cell? ⟨gq, 2, none⟩ = some (.int .u32 q2) := (blk_cell Lq1.out 2).trans rfl
      have tq3_1 : u1.cell? ⟨gq, 3, none⟩ = some (.int .u32 q3) := (blk_cell Lq1.out 3).trans rfl
      have tk0_1 : u1.cell? ⟨gk, 0, none⟩ = some (.int .i64 k0) := (blk_cell Lk1.out 0).trans rfl
      have tk1_1 : u1.cell? ⟨gk, 1, none⟩ = some (.int .i64 k1) := (blk_cell Lk1.out 1).trans rfl
      have tk2_1 : u1.cell? ⟨gk, 2, none⟩ = some (.int .u32 k2) := (blk_cell Lk1.out 2).trans rfl
      have tk3_1 : u1.cell? ⟨gk, 3, none⟩ = some (.int .u32 k3) := (blk_cell Lk1.out 3).trans rfl
      have te0_1 : u1.cell? ⟨ge, 0, none⟩ = some (.int .i64 e0) := (blk_cell Le1.out 0).trans rfl
      have te1_1 : u1.cell? ⟨ge, 1, none⟩ = some (.int .i64 e1) := (blk_cell Le1.out 1).trans rfl
      have te2_1 : u1.cell? ⟨ge, 2, none⟩ = some (.bool e2) := (blk_cell Le1.out 2).trans rfl
      have te3_1 : u1.cell? ⟨ge, 3, none⟩ = some (.int .i64 e3) := (blk_cell Le1.out 3).trans rfl
      have te4_1 : u1.cell? ⟨ge, 4, none⟩ = some (.string e4) := (blk_cell Le1.out 4).trans rfl
      have te5_1 : u1.cell? ⟨ge, 5, none⟩ = some (.string e5) := (blk_cell Le1.out 5).trans rfl
      have te6_1 : u1.cell? ⟨ge, 6, none⟩ = some (.string e6) := (blk_cell Le1.out 6).trans rfl
      have te7_1 : u1.cell? ⟨ge, 7, none⟩ = some (.string e7) := (blk_cell Le1.out 7).trans rfl
      have te8_1 : u1.cell? ⟨ge, 8, none⟩ = some (.slice A e8.length c) := (blk_cell Le1.out 8).trans rfl
      have te9_1 : u1.cell? ⟨ge, 9, none⟩ = some (.string e9) := (blk_cell Le1.out 9).trans rfl
      have tb0_1 : u1.cell? ⟨gb, 0, none⟩ = some (.int .i64 b0) := (blk_cell Lb1.out 0).trans rfl
      have tb1_1 : u1.cell? ⟨gb, 1, none⟩ = some (.int .i64 b1) := (blk_cell Lb1.out 1).trans rfl
      have tb2_1 : u1.cell? ⟨gb, 2, none⟩ = some (.int .u32 b2) := (blk_cell Lb1.out 2).trans rfl
      have tb3_1 : u1.cell? ⟨gb, 3, none⟩ = some (.int .u32 b3) := (blk_cell Lb1.out 3).trans rfl
      have tb4_1 : u1.cell? ⟨gb, 4, none⟩ = some (.int .u64 b4) := (blk_cell Lb1.out 4).trans rfl
      have tb5_1 : u1.cell? ⟨gb, 5, none⟩ = some (.bool b5) := (blk_cell Lb1.out 5).trans rfl
      have M0 : (decide (o4 = 1) && mayB q0 q1 q2 q3 o0 o1 o2 o3 o4) = true → (decide (o4 = 1) && mayB (q0) (k1) ((Go.bits .or .u32 q2 k2)) ((Go.bits .or .u32 q3 k3)) o0 o1 o2 o3 o4) = true := fun h => by rw [Bool.and_eq_true] at h ⊢; exact ⟨h.1, Mmq.out h.2⟩
      generalize (decide (o4 = 1) && mayB q0 q1 q2 q3 o0 o1 o2 o3 o4) = r0 at M0 ⊢
      cases r0 with
      | false =>
        clear M0
        go_wp2_with fail
        refine (my.out q0 q1 q2 q3 _).mono ?_
        rintro e u2 ⟨rfl, hbc⟩
        have BB2 := Lib.hid (below_then BB1.out (BB1.out).size hbc)
        have Lw2 := Lib.hid ((hbc.block _ (blk_lt Lw1.out)).trans Lw1.out)
        have Lq2 := Lib.hid ((hbc.block _ (blk_lt Lq1.out)).trans Lq1.out)
        have Lk2 := Lib.hid ((hbc.block _ (blk_lt Lk1.out)).trans Lk1.out)
        have Le2 := Lib.hid ((hbc.block _ (blk_lt Le1.out)).trans Le1.out)
        have Lb2 := Lib.hid ((hbc.block _ (blk_lt Lb1.out)).trans Lb1.out)
        clear hbc
        have tw0_2 : u2.cell? ⟨v5.heap.size, 0, none⟩ = some (.int .i64 q0) := (blk_cell Lw2.out 0).trans rfl
        have tw1_2 : u2.cell? ⟨v5.heap.size, 1, none⟩ = some (.int .i64 k1) := (blk_cell Lw2.out 1).trans rfl
        have tw2_2 : u2.cell? ⟨v5.heap.size, 2, none⟩ = some (.int .u32 (Go.bits .or .u32 q2 k2)) := (blk_cell Lw2.out 2).trans rfl
        have tw3_2 : u2.cell? ⟨v5.heap.size, 3, none⟩ = some (.int .u32 (Go.bits .or .u32 q3 k3)) := (blk_cell Lw2.out 3).trans rfl
        have tq0_2 : u2.cell? ⟨gq, 0, none⟩ = some (.int .i64 q0) := (blk_cell Lq2.out 0).trans rfl
        have tq1_2 : u2.cell? ⟨gq, 1, none⟩ = some (.int .i64 q1) := (blk_cell Lq2.out 1).trans rfl
        have tq2_2 : u2.cell? ⟨gq, 2, none⟩ = some (.int .u32 q2) := (blk_cell Lq2.out 2).trans rfl
        have tq3_2 : u2.cell? ⟨gq, 3, none⟩ = some (.int .u32 q3) := (blk_cell Lq2.out 3).trans rfl
        have tk0_2 : u2.cell? ⟨gk, 0, none⟩ = some (.int .i64 k0) := (blk_cell Lk2.out 0).trans rfl
        have tk1_2 : u2.cell? ⟨gk, 1, none⟩ = some (.int .i64 k1) := (blk_cell Lk2.out 1).trans rfl
        have tk2_2 : u2.cell? ⟨gk, 2, none⟩ = some (.int .u32 k2) := (blk_cell Lk2.out 2).trans rfl
        have tk3_2 : u2.cell? ⟨gk, 3, none⟩ = some (.int .u32 k3) := (blk_cell Lk2.out 3).trans rfl
        have te0_2 : u2.cell? ⟨ge, 0, none⟩ = some (.int .i64 e0) := (blk_cell Le2.out 0).trans rfl
        have te1_2 : u2.cell? ⟨ge, 1, none⟩ = some (.int .i64 e1) := (blk_cell Le2.out 1).trans rfl
        have te2_2 : u2.cell? ⟨ge, 2, none⟩ = some (.bool e2) := (blk_cell Le2.out 2).trans rfl
        have te3_2 : u2.cell? ⟨ge, 3, none⟩ = some (.int .i64 e3) := (blk_cell Le2.out 3).trans rfl
        have te4_2 : u2.cell? ⟨ge, 4, none⟩ = some (.string e4) := (blk_cell Le2.out 4).trans rfl
        have te5_2 : u2.cell? ⟨ge, 5, none⟩ = some (.string e5) := (blk_cell Le2.out 5).trans rfl
        have te6_2 : u2.cell? ⟨ge, 6, none⟩ = some (.string e6) := (blk_cell Le2.out 6).trans rfl
        have te7_2 : u2.cell? ⟨ge, 7, none⟩ = some (.string e7) := (blk_cell Le2.out 7).trans rfl
        have te8_2 : u2.cell? ⟨ge, 8, none⟩ = some (.slice A e8.length c) := (blk_cell Le2.out 8).trans rfl
        have te9_2 : u2.cell? ⟨ge, 9, none⟩ = some (.string e9) := (blk_cell Le2.out 9).trans rfl
        have tb0_2 : u2.cell? ⟨gb, 0, none⟩ = some (.int .i64 b0) := (blk_cell Lb2.out 0).trans rfl
        have tb1_2 : u2.cell? ⟨gb, 1, none⟩ = some (.int .i64 b1) := (blk_cell Lb2.out 1).trans rfl
        have tb2_2 : u2.cell? ⟨gb, 2, none⟩ = some (.int .u32 b2) := (blk_cell Lb2.out 2).trans rfl
        have tb3_2 : u2.cell? ⟨gb, 3, none⟩ = some (.int .u32 b3) := (blk_cell Lb2.out 3).trans rfl
        have tb4_2 : u2.cell? ⟨gb, 4, none⟩ = some (.int .u64 b4) := (blk_cell Lb2.out 4).trans rfl
        have tb5_2 : u2.cell? ⟨gb, 5, none⟩ = some (.bool b5) := (blk_cell Lb2.out 5).trans rfl
        have M0 := Mbq.out
        generalize mayB q0 q1 q2 q3 b0 b1 b2 b3 b4 = r1 at M0 ⊢
        cases r1 with
        | false =>
          clear M0
          go_wp2_with fail
          refine (my.out k0 k1 k2 k3 _).mono ?_
          rintro e u3 ⟨rfl, hbc⟩
          have BB3 := Lib.hid (below_then BB2.out (BB2.out).size hbc)
          have Lw3 := Lib.hid ((hbc.block _ (blk_lt Lw2.out)).trans Lw2.out)
          have Lq3 := Lib.hid ((hbc.block _ (blk_lt Lq2.out)).trans Lq2.out)
          have Lk3 := Lib.hid ((hbc.block _ (blk_lt Lk2.out)).trans Lk2.out)
          have Le3 := Lib.hid ((hbc.block _ (blk_lt Le2.out)).trans Le2.out)
          have Lb3 := Lib.hid ((hbc.block _ (blk_lt Lb2.out)).trans Lb2.out)
          clear hbc
          have tw0_3 : u3.cell? ⟨v5.heap.size, 0, none⟩ = some (.int .i64 q0) := (blk_cell Lw3.out 0).trans rfl
          have tw1_3 : u3.cell? ⟨v5.heap.size, 1, none⟩ = some (.int .i64 k1) := (blk_cell Lw3.out 1).trans rfl
          have tw2_3 : u3.cell? ⟨v5.heap.size, 2, none⟩ = some (.int .u32 (Go.bits .or .u32 q2 k2)) := (blk_cell Lw3.out 2).trans rfl
          have tw3_3 : u3.cell? ⟨v5.heap.size, 3, none⟩ = some (.int .u32 (Go.bits .or .u32 q3 k3)) := (blk_cell Lw3.out 3).trans rfl
          have tq0_3 : u3.cell? ⟨gq, 0, none⟩ = some (.int .i64 q0) := (blk_cell Lq3.out 0).trans rfl
          have tq1_3 : u3.cell? ⟨gq, 1, none⟩ = some (.int .i64 q1) := (blk_cell Lq3.out 1).trans rfl
          have tq2_3 : u3.cell? ⟨gq, 2, none⟩ = some (.int .u32 q2) := (blk_cell Lq3.out 2).trans rfl
          have tq3_3 : u3.cell? ⟨gq, 3, none⟩ = some (.int .u32 q3) := (blk_cell Lq3.out 3).trans rfl
          have tk0_3 : u3.cell? ⟨gk, 0, none⟩ = some (.int .i64 k0) := (blk_cell Lk3.out 0).trans rfl
          have tk1_3 : u3.cell? ⟨gk, 1, none⟩ = some (.int .i64 k1) := (blk_cell Lk3.out 1).trans rfl
          have tk2_3 : u3.cell? ⟨gk, 2, none⟩ = some (.int .u32 k2) := (blk_cell Lk3.out 2).trans rfl
          have tk3_3 : u3.cell? ⟨gk, 3, none⟩ = some (.int .u32 k3) := (blk_cell Lk3.out 3).trans rfl
          have te0_3 : u3.cell? ⟨ge, 0, none⟩ = some (.int .i64 e0) := (blk_cell Le3.out 0).trans rfl
          have te1_3 : u3.cell? ⟨ge, 1, none⟩ = some (.int .i64 e1) := (blk_cell Le3.out 1).trans rfl
          have te2_3 : u3.cell? ⟨ge, 2, none⟩ = some (.bool e2) := (blk_cell Le3.out 2).trans rfl
          have te3_3 : u3.cell? ⟨ge, 3, none⟩ = some (.int .i64 e3) := (blk_cell Le3.out 3).trans rfl
          have te4_3 : u3.cell? ⟨ge, 4, none⟩ = some (.string e4) := (blk_cell Le3.out 4).trans rfl
          have te5_3 : u3.cell? ⟨ge, 5, none⟩ = some (.string e5) := (blk_cell Le3.out 5).trans rfl
          have te6_3 : u3.cell? ⟨ge, 6, none⟩ = some (.string e6) := (blk_cell Le3.out 6).trans rfl
          have te7_3 : u3.cell? ⟨ge, 7, none⟩ = some (.string e7) := (blk_cell Le3.out 7).trans rfl
          have te8_3 : u3.cell? ⟨ge, 8, none⟩ = some (.slice A e8.length c) := (blk_cell Le3.out 8).trans rfl
          have te9_3 : u3.cell? ⟨ge, 9, none⟩ = some (.string e9) := (blk_cell Le3.out 9).trans rfl
          have tb0_3 : u3.cell? ⟨gb, 0, none⟩ = some (.int .i64 b0) := (blk_cell Lb3.out 0).trans rfl
          have tb1_3 : u3.cell? ⟨gb, 1, none⟩ = some (.int .i64 b1) := (blk_cell Lb3.out 1).trans rfl
          have tb2_3 : u3.cell? ⟨gb, 2, none⟩ = some (.int .u32 b2) := (blk_cell Lb3.out 2).trans rfl
          have tb3_3 : u3.cell? ⟨gb, 3, none⟩ = some (.int .u32 b3) := (blk_cell Lb3.out 3).trans rfl
          have tb4_3 : u3.cell? ⟨gb, 4, none⟩ = some (.int .u64 b4) := (blk_cell Lb3.out 4).trans rfl
          have tb5_3 : u3.cell? ⟨gb, 5, none⟩ = some (.bool b5) := (blk_cell Lb3.out 5).trans rfl
          have M0 := Mbk.out
          generalize mayB k0 k1 k2 k3 b0 b1 b2 b3 b4 = r2 at M0 ⊢
          cases r2 with
          | false =>
            clear M0
            go_wp2_with fail
            go_ret
            exact ⟨rfl, BB3.out⟩
          | true =>
            have M1 := Lib.hid (M0 rfl)
            clear M0
            go_wp2_with fail
            refine (my.out (q0) (k1) ((Go.bits .or .u32 q2 k2)) ((Go.bits .or .u32 q3 k3)) _).mono ?_
            rintro e u4 ⟨rfl, hbc⟩
            have BB4 := Lib.hid (below_then BB3.out (BB3.out).size hbc)
            have Lw4 := Lib.hid ((hbc.block _ (blk_lt Lw3.out)).trans Lw3.out)
            have Lq4 := Lib.hid ((hbc.block _ (blk_lt Lq3.out)).trans Lq3.out)
            have Lk4 := Lib.hid ((hbc.block _ (blk_lt Lk3.out)).trans Lk3.out)
            have Le4 := Lib.hid ((hbc.block _ (blk_lt Le3.out)).trans Le3.out)
            have Lb4 := Lib.hid ((hbc.block _ (blk_lt Lb3.out)).trans Lb3.out)
            clear hbc
            have tw0_4 : u4.cell? ⟨v5.heap.size, 0, none⟩ = some (.int .i64 q0) := (blk_cell Lw4.out 0).trans rfl
            have tw1_4 : u4.cell? ⟨v5.heap.size, 1, none⟩ = some (.int .i64 k1) := (blk_cell Lw4.out 1).trans rfl
            have tw2_4 : u4.cell? ⟨v5.heap.size, 2, none⟩ = some (.int .u32 (Go.bits .or .u32 q2 k2)) := (blk_cell Lw4.out 2).trans rfl
            have tw3_4 : u4.cell? ⟨v5.heap.size, 3, none⟩ = some (.int .u32 (Go.bits .or .u32 q3 k3)) := (blk_cell Lw4.out 3).trans rfl
            have tq0_4 : u4.cell? ⟨gq, 0, none⟩ = some (.int .i64 q0) := (blk_cell Lq4.out 0).trans rfl
            have tq1_4 : u4.cell? ⟨gq, 1, none⟩ = some (.int .i64 q1) := (blk_cell Lq4.out 1).trans rfl
            have tq2_4 : u4.cell? ⟨gq, 2, none⟩ = some (.int .u32 q2) := (blk_cell Lq4.out 2).trans rfl
            have tq3_4 : u4.cell? ⟨gq, 3, none⟩ = some (.int .u32 q3) := (blk_cell Lq4.out 3).trans rfl
            have tk0_4 : u4.cell? ⟨gk, 0, none⟩ = some (.int .i64 k0) := (blk_cell Lk4.out 0).trans rfl
            have tk1_4 : u4.cell? ⟨gk, 1, none⟩ = some (.int .i64 k1) := (blk_cell Lk4.out 1).trans rfl
            have tk2_4 : u4.cell? ⟨gk, 2, none⟩ = some (.int .u32 k2) := (blk_cell Lk4.out 2).trans rfl
            have tk3_4 : u4.cell? ⟨gk, 3, none⟩ = some (.int .u32 k3) := (blk_cell Lk4.out 3).trans rfl
            have te0_4 : u4.cell? ⟨ge, 0, none⟩ = some (.int .i64 e0) := (blk_cell Le4.out 0).trans rfl
            have te1_4 : u4.cell? ⟨ge, 1, none⟩ = some (.int .i64 e1) := (blk_cell Le4.out 1).trans rfl
            have te2_4 : u4.cell? ⟨ge, 2, none⟩ = some (.bool e2) := (blk_cell Le4.out 2).trans rfl
            have te3_4 : u4.cell? ⟨ge, 3, none⟩ = some (.int .i64 e3) := (blk_cell Le4.out 3).trans rfl
            have te4_4 : u4.cell? ⟨ge, 4, none⟩ = some (.string e4) := (blk_cell Le4.out 4).trans rfl
            have te5_4 : u4.cell? ⟨ge, 5, none⟩ = some (.string e5) := (blk_cell Le4.out 5).trans rfl
            have te6_4 : u4.cell? ⟨ge, 6, none⟩ = some (.string e6) := (blk_cell Le4.out 6).trans rfl
            have te7_4 : u4.cell? ⟨ge, 7, none⟩ = some (.string e7) := (blk_cell Le4.out 7).trans rfl
            have te8_4 : u4.cell? ⟨ge, 8, none⟩ = some (.slice A e8.length c) := (blk_cell Le4.out 8).trans rfl
            have te9_4 : u4.cell? ⟨ge, 9, none⟩ = some (.string e9) := (blk_cell Le4.out 9).trans rfl
            have tb0_4 : u4.cell? ⟨gb, 0, none⟩ = some (.int .i64 b0) := (blk_cell Lb4.out 0).trans rfl
            have tb1_4 : u4.cell? ⟨gb, 1, none⟩ = some (.int .i64 b1) := (blk_cell Lb4.out 1).trans rfl
            have tb2_4 : u4.cell? ⟨gb, 2, none⟩ = some (.int .u32 b2) := (blk_cell Lb4.out 2).trans rfl
            have tb3_4 : u4.cell? ⟨gb, 3, none⟩ = some (.int .u32 b3) := (blk_cell Lb4.out 3).trans rfl
            have tb4_4 : u4.cell? ⟨gb, 4, none⟩ = some (.int .u64 b4) := (blk_cell Lb4.out 4).trans rfl
            have tb5_4 : u4.cell? ⟨gb, 5, none⟩ = some (.bool b5) := (blk_cell Lb4.out 5).trans rfl
            rw [M1.out]
            clear M1
            go_wp2_with fail
            go_ret
            exact ⟨rfl, BB4.out⟩
        | true =>
          have M1 := Lib.hid (M0 rfl)
          clear M0
          go_wp2_with fail
          refine (my.out (q0) (k1) ((Go.bits .or .u32 q2 k2)) ((Go.bits .or .u32 q3 k3)) _).mono ?_
          rintro e u5 ⟨rfl, hbc⟩
          have BB5 := Lib.hid (below_then BB2.out (BB2.out).size hbc)
          have Lw5 := Lib.hid ((hbc.block _ (blk_lt Lw2.out)).trans Lw2.out)
          have Lq5 := Lib.hid ((hbc.block _ (blk_lt Lq2.out)).trans Lq2.out)
          have Lk5 := Lib.hid ((hbc.block _ (blk_lt Lk2.out)).trans Lk2.out)
          have Le5 := Lib.hid ((hbc.block _ (blk_lt Le2.out)).trans Le2.out)
          have Lb5 := Lib.hid ((hbc.block _ (blk_lt Lb2.out)).trans Lb2.out)
          clear hbc
          have tw0_5 : u5.cell? ⟨v5.heap.size, 0, none⟩ = some (.int .i64 q0) := (blk_cell Lw5.out 0).trans rfl
          have tw1_5 : u5.cell? ⟨v5.heap.size, 1, none⟩ = some (.int .i64 k1) := (blk_cell Lw5.out 1).trans rfl
          have tw2_5 : u5.cell? ⟨v5.heap.size, 2, none⟩ = some (.int .u32 (Go.bits .or .u32 q2 k2)) := (blk_cell Lw5.out 2).trans rfl
          have tw3_5 : u5.cell? ⟨v5.heap.size, 3, none⟩ = some (.int .u32 (Go.bits .or .u32 q3 k3)) := (blk_cell Lw5.out 3).trans rfl
          have tq0_5 : u5.cell? ⟨gq, 0, none⟩ = some (.int .i64 q0) := (blk_cell Lq5.out 0).trans rfl
          have tq1_5 : u5.cell? ⟨gq, 1, none⟩ = some (.int .i64 q1) := (blk_cell Lq5.out 1).trans rfl
          have tq2_5 : u5.cell? ⟨gq, 2, none⟩ = some (.int .u32 q2) := (blk_cell Lq5.out 2).trans rfl
          have tq3_5 : u5.cell? ⟨gq, 3, none⟩ = some (.int .u32 q3) := (blk_cell Lq5.out 3).trans rfl
          have tk0_5 : u5.cell? ⟨gk, 0, none⟩ = some (.int .i64 k0) := (blk_cell Lk5.out 0).trans rfl
          have tk1_5 : u5.cell? ⟨gk, 1, none⟩ = some (.int .i64 k1) := (blk_cell Lk5.out 1).trans rfl
          have tk2_5 : u5.cell? ⟨gk, 2, none⟩ = some (.int .u32 k2) := (blk_cell Lk5.out 2).trans rfl
          have tk3_5 : u5.cell? ⟨gk, 3, none⟩ = some (.int .u32 k3) := (blk_cell Lk5.out 3).trans rfl
          have te0_5 : u5.cell? ⟨ge, 0, none⟩ = some (.int .i64 e0) := (blk_cell Le5.out 0).trans rfl
          have te1_5 : u5.cell? ⟨ge, 1, none⟩ = some (.int .i64 e1) := (blk_cell Le5.out 1).trans rfl
          have te2_5 : u5.cell? ⟨ge, 2, none⟩ = some (.bool e2) := (blk_cell Le5.out 2).trans rfl
          have te3_5 : u5.cell? ⟨ge, 3, none⟩ = some (.int .i64 e3) := (blk_cell Le5.out 3).trans rfl
          have te4_5 : u5.cell? ⟨ge, 4, none⟩ = some (.string e4) := (blk_cell Le5.out 4).trans rfl
          have te5_5 : u5.cell? ⟨ge, 5, none⟩ = some (.string e5) := (blk_cell Le5.out 5).trans rfl
          have te6_5 : u5.cell? ⟨ge, 6, none⟩ = some (.string e6) := (blk_cell Le5.out 6).trans rfl
          have te7_5 : u5.cell? ⟨ge, 7, none⟩ = some (.string e7) := (blk_cell Le5.out 7).trans rfl
          have te8_5 : u5.cell? ⟨ge, 8, none⟩ = some (.slice A e8.length c) := (blk_cell Le5.out 8).trans rfl
          have te9_5 : u5.cell? ⟨ge, 9, none⟩ = some (.string e9) := (blk_cell Le5.out 9).trans rfl
          have tb0_5 : u5.cell? ⟨gb, 0, none⟩ = some (.int .i64 b0) := (blk_cell Lb5.out 0).trans rfl
          have tb1_5 : u5.cell? ⟨gb, 1, none⟩ = some (.int .i64 b1) := (blk_cell Lb5.out 1).trans rfl
          have tb2_5 : u5.cell? ⟨gb, 2, none⟩ = some (.int .u32 b2) := (blk_cell Lb5.out 2).trans rfl
          have tb3_5 : u5.cell? ⟨gb, 3, none⟩ = some (.int .u32 b3) := (blk_cell Lb5.out 3).trans rfl
          have tb4_5 : u5.cell? ⟨gb, 4, none⟩ = some (.int .u64 b4) := (blk_cell Lb5.out 4).trans rfl
          have tb5_5 : u5.cell? ⟨gb, 5, none⟩ = some (.bool b5) := (blk_cell Lb5.out 5).trans rfl
          rw [M1.out]
          clear M1
          go_wp2_with fail
          refine (my.out k0 k1 k2 k3 _).mono ?_
          rintro e u6 ⟨rfl, hbc⟩
          have BB6 := Lib.hid (below_then BB5.out (BB5.out).size hbc)
          have Lw6 := Lib.hid ((hbc.block _ (blk_lt Lw5.out)).trans Lw5.out)
          have Lq6 := Lib.hid ((hbc.block _ (blk_lt Lq5.out)).trans Lq5.out)
          have Lk6 := Lib.hid ((hbc.block _ (blk_lt Lk5.out)).trans Lk5.out)
          have Le6 := Lib.hid ((hbc.block _ (blk_lt Le5.out)).trans Le5.out)
          have Lb6 := Lib.hid ((hbc.block _ (blk_lt Lb5.out)).trans Lb5.out)
          clear hbc
          have tw0_6 : u6.cell? ⟨v5.heap.size, 0, none⟩ = some (.int .i64 q0) := (blk_cell Lw6.out 0).trans rfl
          have tw1_6 : u6.cell? ⟨v5.heap.size, 1, none⟩ = some (.int .i64 k1) := (blk_cell Lw6.out 1).trans rfl
          have tw2_6 : u6.cell? ⟨v5.heap.size, 2, none⟩ = some (.int .u32 (Go.bits .or .u32 q2 k2)) := (blk_cell Lw6.out 2).trans rfl
          have tw3_6 : u6.cell? ⟨v5.heap.size, 3, none⟩ = some (.int .u32 (Go.bits .or .u32 q3 k3)) := (blk_cell Lw6.out 3).trans rfl
          have tq0_6 : u6.cell? ⟨gq, 0, none⟩ = some (.int .i64 q0) := (blk_cell Lq6.out 0).trans rfl
          have tq1_6 : u6.cell? ⟨gq, 1, none⟩ = some (.int .i64 q1) := (blk_cell Lq6.out 1).trans rfl
          have tq2_6 : u6.cell? ⟨gq, 2, none⟩ = some (.int .u32 q2) := (blk_cell Lq6.out 2).trans rfl
          have tq3_6 : u6.cell? ⟨gq, 3, none⟩ = some (.int .u32 q3) := (blk_cell Lq6.out 3).trans rfl
          have tk0_6 : u6.cell? ⟨gk, 0, none⟩ = some (.int .i64 k0) := (blk_cell Lk6.out 0).trans rfl
          have tk1_6 : u6.cell? ⟨gk, 1, none⟩ = some (.int .i64 k1) := (blk_cell Lk6.out 1).trans rfl
          have tk2_6 : u6.cell? ⟨gk, 2, none⟩ = some (.int .u32 k2) := (blk_cell Lk6.out 2).trans rfl
          have tk3_6 : u6.cell? ⟨gk, 3, none⟩ = some (.int .u32 k3) := (blk_cell Lk6.out 3).trans rfl
          have te0_6 : u6.cell? ⟨ge, 0, none⟩ = some (.int .i64 e0) := (blk_cell Le6.out 0).trans rfl
          have te1_6 : u6.cell? ⟨ge, 1, none⟩ = some (.int .i64 e1) := (blk_cell Le6.out 1).trans rfl
          have te2_6 : u6.cell? ⟨ge, 2, none⟩ = some (.bool e2) := (blk_cell Le6.out 2).trans rfl
          have te3_6 : u6.cell? ⟨ge, 3, none⟩ = some (.int .i64 e3) := (blk_cell Le6.out 3).trans rfl
          have te4_6 : u6.cell? ⟨ge, 4, none⟩ = some (.string e4) := (blk_cell Le6.out 4).trans rfl
          have te5_6 : u6.cell? ⟨ge, 5, none⟩ = some (.string e5) := (blk_cell Le6.out 5).trans rfl
          have te6_6 : u6.cell? ⟨ge, 6, none⟩ = some (.string e6) := (blk_cell Le6.out 6).trans rfl
          have te7_6 : u6.cell? ⟨ge, 7, none⟩ = some (.string e7) := (blk_cell Le6.out 7).trans rfl
          have te8_6 : u6.cell? ⟨ge, 8, none⟩ = some (.slice A e8.length c) := (blk_cell Le6.out 8).trans rfl
          have te9_6 : u6.cell? ⟨ge, 9, none⟩ = some (.string e9) := (blk_cell Le6.out 9).trans rfl
          have tb0_6 : u6.cell? ⟨gb, 0, none⟩ = some (.int .i64 b0) := (blk_cell Lb6.out 0).trans rfl
          have tb1_6 : u6.cell? ⟨gb, 1, none⟩ = some (.int .i64 b1) := (blk_cell Lb6.out 1).trans rfl
          have tb2_6 : u6.cell? ⟨gb, 2, none⟩ = some (.int .u32 b2) := (blk_cell Lb6.out 2).trans rfl
          have tb3_6 : u6.cell? ⟨gb, 3, none⟩ = some (.int .u32 b3) := (blk_cell Lb6.out 3).trans rfl
          have tb4_6 : u6.cell? ⟨gb, 4, none⟩ = some (.int .u64 b4) := (blk_cell Lb6.out 4).trans rfl
          have tb5_6 : u6.cell? ⟨gb, 5, none⟩ = some (.bool b5) := (blk_cell Lb6.out 5).trans rfl
          have M0 := Mbk.out
          generalize mayB k0 k1 k2 k3 b0 b1 b2 b3 b4 = r2 at M0 ⊢
          cases r2 with
          | false =>
            clear M0
            go_wp2_with fail
            go_ret
            exact ⟨rfl, BB6.out⟩
          | true =>
            have M1 := Lib.hid (M0 rfl)
            clear M0
            go_wp2_with fail
            refine (my.out (q0) (k1) ((Go.bits .or .u32 q2 k2)) ((Go.bits .or .u32 q3 k3)) _).mono ?_
            rintro e u7 ⟨rfl, hbc⟩
            have BB7 := Lib.hid (below_then BB6.out (BB6.out).size hbc)
            have Lw7 := Lib.hid ((hbc.block _ (blk_lt Lw6.out)).trans Lw6.out)
            have Lq7 := Lib.hid ((hbc.block _ (blk_lt Lq6.out)).trans Lq6.out)
            have Lk7 := Lib.hid ((hbc.block _ (blk_lt Lk6.out)).trans Lk6.out)
            have Le7 := Lib.hid ((hbc.block _ (blk_lt Le6.out)).trans Le6.out)
            have Lb7 := Lib.hid ((hbc.block _ (blk_lt Lb6.out)).trans Lb6.out)
            clear hbc
            have tw0_7 : u7.cell? ⟨v5.heap.size, 0, none⟩ = some (.int .i64 q0) := (blk_cell Lw7.out 0).trans rfl
            have tw1_7 : u7.cell? ⟨v5.heap.size, 1, none⟩ = some (.int .i64 k1) := (blk_cell Lw7.out 1).trans rfl
            have tw2_7 : u7.cell? ⟨v5.heap.size, 2, none⟩ = some (.int .u32 (Go.bits .or .u32 q2 k2)) := (blk_cell Lw7.out 2).trans rfl
            have tw3_7 : u7.cell? ⟨v5.heap.size, 3, none⟩ = some (.int .u32 (Go.bits .or .u32 q3 k3)) := (blk_cell Lw7.out 3).trans rfl
            have tq0_7 : u7.cell? ⟨gq, 0, none⟩ = some (.int .i64 q0) := (blk_cell Lq7.out 0).trans rfl
            have tq1_7 : u7.cell? ⟨gq, 1, none⟩ = some (.int .i64 q1) := (blk_cell Lq7.out 1).trans rfl
            have tq2_7 : u7.cell? ⟨gq, 2, none⟩ = some (.int .u32 q2) := (blk_cell Lq7.out 2).trans rfl
            have tq3_7 : u7.cell? ⟨gq, 3, none⟩ = some (.int .u32 q3) := (blk_cell Lq7.out 3).trans rfl
            have tk0_7 : u7.cell? ⟨gk, 0, none⟩ = some (.int .i64 k0) := (blk_cell Lk7.out 0).trans rfl
            have tk1_7 : u7.cell? ⟨gk, 1, none⟩ = some (.int .i64 k1) := (blk_cell Lk7.out 1).trans rfl
            have tk2_7 : u7.cell? ⟨gk, 2, none⟩ = some (.int .u32 k2) := (blk_cell Lk7.out 2).trans rfl
            have tk3_7 : u7.cell? ⟨gk, 3, none⟩ = some (.int .u32 k3) := (blk_cell Lk7.out 3).trans rfl
            have te0_7 : u7.cell? ⟨ge, 0, none⟩ = some (.int .i64 e0) := (blk_cell Le7.out 0).trans rfl
            have te1_7 : u7.cell? ⟨ge, 1, none⟩ = some (.int .i64 e1) := (blk_cell Le7.out 1).trans rfl
            have te2_7 : u7.cell? ⟨ge, 2, none⟩ = some (.bool e2) := (blk_cell Le7.out 2).trans rfl
            have te3_7 : u7.cell? ⟨ge, 3, none⟩ = some (.int .i64 e3) := (blk_cell Le7.out 3).trans rfl
            have te4_7 : u7.cell? ⟨ge, 4, none⟩ = some (.string e4) := (blk_cell Le7.out 4).trans rfl
            have te5_7 : u7.cell? ⟨ge, 5, none⟩ = some (.string e5) := (blk_cell Le7.out 5).trans rfl
            have te6_7 : u7.cell? ⟨ge, 6, none⟩ = some (.string e6) := (blk_cell Le7.out 6).trans rfl
            have te7_7 : u7.cell? ⟨ge, 7, none⟩ = some (.string e7) := (blk_cell Le7.out 7).trans rfl
            have te8_7 : u7.cell? ⟨ge, 8, none⟩ = some (.slice A e8.length c) := (blk_cell Le7.out 8).trans rfl
            have te9_7 : u7.cell? ⟨ge, 9, none⟩ = some (.string e9) := (blk_cell Le7.out 9).trans rfl
            have tb0_7 : u7.cell? ⟨gb, 0, none⟩ = some (.int .i64 b0) := (blk_cell Lb7.out 0).trans rfl
            have tb1_7 : u7.cell? ⟨gb, 1, none⟩ = some (.int .i64 b1) := (blk_cell Lb7.out 1).trans rfl
            have tb2_7 : u7.cell? ⟨gb, 2, none⟩ = some (.int .u32 b2) := (blk_cell Lb7.out 2).trans rfl
            have tb3_7 : u7.cell? ⟨gb, 3, none⟩ = some (.int .u32 b3) := (blk_cell Lb7.out 3).trans rfl
            have tb4_7 : u7.cell? ⟨gb, 4, none⟩ = some (.int .u64 b4) := (blk_cell Lb7.out 4).trans rfl
            have tb5_7 : u7.cell? ⟨gb, 5, none⟩ = some (.bool b5) := (blk_cell Lb7.out 5).trans rfl
            rw [M1.out]
            clear M1
            go_wp2_with fail
            go_ret
            exact ⟨rfl, BB7.out⟩
      | true =>
        have M1 := Lib.hid (M0 rfl)
        clear M0
        go_wp2_with fail
        refine (mt.out (q0) (k1) ((Go.bits .or .u32 q2 k2)) ((Go.bits .or .u32 q3 k3)) _ BB1.out).mono ?_
        rintro e u8 ⟨rfl, hbc⟩
        have BB8 := Lib.hid (below_then BB1.out (BB1.out).size hbc)
        have Lw8 := Lib.hid ((hbc.block _ (blk_lt Lw1.out)).trans Lw1.out)
        have Lq8 := Lib.hid ((hbc.block _ (blk_lt Lq1.out)).trans Lq1.out)
        have Lk8 := Lib.hid ((hbc.block _ (blk_lt Lk1.out)).trans Lk1.out)
        have Le8 := Lib.hid ((hbc.block _ (blk_lt Le1.out)).trans Le1.out)
        have Lb8 := Lib.hid ((hbc.block _ (blk_lt Lb1.out)).trans Lb1.out)
        clear hbc
        have tw0_8 : u8.cell? ⟨v5.heap.size, 0, none⟩ = some (.int .i64 q0) := (blk_cell Lw8.out 0).trans rfl
        have tw1_8 : u8.cell? ⟨v5.heap.size, 1, none⟩ = some (.int .i64 k1) := (blk_cell Lw8.out 1).trans rfl
        have tw2_8 : u8.cell? ⟨v5.heap.size, 2, none⟩ = some (.int .u32 (Go.bits .or .u32 q2 k2)) := (blk_cell Lw8.out 2).trans rfl
        have tw3_8 : u8.cell? ⟨v5.heap.size, 3, none⟩ = some (.int .u32 (Go.bits .or .u32 q3 k3)) := (blk_cell Lw8.out 3).trans rfl
        have tq0_8 : u8.cell? ⟨gq, 0, none⟩ = some (.int .i64 q0) := (blk_cell Lq8.out 0).trans rfl
        have tq1_8 : u8.cell? ⟨gq, 1, none⟩ = some (.int .i64 q1) := (blk_cell Lq8.out 1).trans rfl
        have tq2_8 : u8.cell? ⟨gq, 2, none⟩ = some (.int .u32 q2) := (blk_cell Lq8.out 2).trans rfl
        have tq3_8 : u8.cell? ⟨gq, 3, none⟩ = some (.int .u32 q3) := (blk_cell Lq8.out 3).trans rfl
        have tk0_8 : u8.cell? ⟨gk, 0, none⟩ = some (.int .i64 k0) := (blk_cell Lk8.out 0).trans rfl
        have tk1_8 : u8.cell? ⟨gk, 1, none⟩ = some (.int .i64 k1) := (blk_cell Lk8.out 1).trans rfl
        have tk2_8 : u8.cell? ⟨gk, 2, none⟩ = some (.int .u32 k2) := (blk_cell Lk8.out 2).trans rfl
        have tk3_8 : u8.cell? ⟨gk, 3, none⟩ = some (.int .u32 k3) := (blk_cell Lk8.out 3).trans rfl
        have te0_8 : u8.cell? ⟨ge, 0, none⟩ = some (.int .i64 e0) := (blk_cell Le8.out 0).trans rfl
        have te1_8 : u8.cell? ⟨ge, 1, none⟩ = some (.int .i64 e1) := (blk_cell Le8.out 1).trans rfl
        have te2_8 : u8.cell? ⟨ge, 2, none⟩ = some (.bool e2) := (blk_cell Le8.out 2).trans rfl
        have te3_8 : u8.cell? ⟨ge, 3, none⟩ = some (.int .i64 e3) := (blk_cell Le8.out 3).trans rfl
        have te4_8 : u8.cell? ⟨ge, 4, none⟩ = some (.string e4) := (blk_cell Le8.out 4).trans rfl
        have te5_8 : u8.cell? ⟨ge, 5, none⟩ = some (.string e5) := (blk_cell Le8.out 5).trans rfl
        have te6_8 : u8.cell? ⟨ge, 6, none⟩ = some (.string e6) := (blk_cell Le8.out 6).trans rfl
        have te7_8 : u8.cell? ⟨ge, 7, none⟩ = some (.string e7) := (blk_cell Le8.out 7).trans rfl
        have te8_8 : u8.cell? ⟨ge, 8, none⟩ = some (.slice A e8.length c) := (blk_cell Le8.out 8).trans rfl
        have te9_8 : u8.cell? ⟨ge, 9, none⟩ = some (.string e9) := (blk_cell Le8.out 9).trans rfl
        have tb0_8 : u8.cell? ⟨gb, 0, none⟩ = some (.int .i64 b0) := (blk_cell Lb8.out 0).trans rfl
        have tb1_8 : u8.cell? ⟨gb, 1, none⟩ = some (.int .i64 b1) := (blk_cell Lb8.out 1).trans rfl
        have tb2_8 : u8.cell? ⟨gb, 2, none⟩ = some (.int .u32 b2) := (blk_cell Lb8.out 2).trans rfl
        have tb3_8 : u8.cell? ⟨gb, 3, none⟩ = some (.int .u32 b3) := (blk_cell Lb8.out 3).trans rfl
        have tb4_8 : u8.cell? ⟨gb, 4, none⟩ = some (.int .u64 b4) := (blk_cell Lb8.out 4).trans rfl
        have tb5_8 : u8.cell? ⟨gb, 5, none⟩ = some (.bool b5) := (blk_cell Lb8.out 5).trans rfl
        rw [M1.out]
        clear M1
        go_wp2_with fail
        refine (my.out q0 q1 q2 q3 _).mono ?_
        rintro e u9 ⟨rfl, hbc⟩
        have BB9 := Lib.hid (below_then BB8.out (BB8.out).size hbc)
        have Lw9 := Lib.hid ((hbc.block _ (blk_lt Lw8.out)).trans Lw8.out)
        have Lq9 := Lib.hid ((hbc.block _ (blk_lt Lq8.out)).trans Lq8.out)
        have Lk9 := Lib.hid ((hbc.block _ (blk_lt Lk8.out)).trans Lk8.out)
        have Le9 := Lib.hid ((hbc.block _ (blk_lt Le8.out)).trans Le8.out)
        have Lb9 := Lib.hid ((hbc.block _ (blk_lt Lb8.out)).trans Lb8.out)
        clear hbc
        have tw0_9 : u9.cell? ⟨v5.heap.size, 0, none⟩ = some (.int .i64 q0) := (blk_cell Lw9.out 0).trans rfl
        have tw1_9 : u9.cell? ⟨v5.heap.size, 1, none⟩ = some (.int .i64 k1) := (blk_cell Lw9.out 1).trans rfl
        have tw2_9 : u9.cell? ⟨v5.heap.size, 2, none⟩ = some (.int .u32 (Go.bits .or .u32 q2 k2)) := (blk_cell Lw9.out 2).trans rfl
        have tw3_9 : u9.cell? ⟨v5.heap.size, 3, none⟩ = some (.int .u32 (Go.bits .or .u32 q3 k3)) := (blk_cell Lw9.out 3).trans rfl
        have tq0_9 : u9.cell? ⟨gq, 0, none⟩ = some (.int .i64 q0) := (blk_cell Lq9.out 0).trans rfl
        have tq1_9 : u9.cell? ⟨gq, 1, none⟩ = some (.int .i64 q1) := (blk_cell Lq9.out 1).trans rfl
        have tq2_9 : u9.cell? ⟨gq, 2, none⟩ = some (.int .u32 q2) := (blk_cell Lq9.out 2).trans rfl
        have tq3_9 : u9.cell? ⟨gq, 3, none⟩ = some (.int .u32 q3) := (blk_cell Lq9.out 3).trans rfl
        have tk0_9 : u9.cell? ⟨gk, 0, none⟩ = some (.int .i64 k0) := (blk_cell Lk9.out 0).trans rfl
        have tk1_9 : u9.cell? ⟨gk, 1, none⟩ = some (.int .i64 k1) := (blk_cell Lk9.out 1).trans rfl
        have tk2_9 : u9.cell? ⟨gk, 2, none⟩ = some (.int .u32 k2) := (blk_cell Lk9.out 2).trans rfl
        have tk3_9 : u9.cell? ⟨gk, 3, none⟩ = some (.int .u32 k3) := (blk_cell Lk9.out 3).trans rfl
        have te0_9 : u9.cell? ⟨ge, 0, none⟩ = some (.int .i64 e0) := (blk_cell Le9.out 0).trans rfl
        have te1_9 : u9.cell? ⟨ge, 1, none⟩ = some (.int .i64 e1) := (blk_cell Le9.out 1).trans rfl
        have te2_9 : u9.cell? ⟨ge, 2, none⟩ = some (.bool e2) := (blk_cell Le9.out 2).trans rfl
        have te3_9 : u9.cell? ⟨ge, 3, none⟩ = some (.int .i64 e3) := (blk_cell Le9.out 3).trans rfl
        have te4_9 : u9.cell? ⟨ge, 4, none⟩ = some (.string e4) := (blk_cell Le9.out 4).trans rfl
        have te5_9 : u9.cell? ⟨ge, 5, none⟩ = some (.string e5) := (blk_cell Le9.out 5).trans rfl
        have te6_9 : u9.cell? ⟨ge, 6, none⟩ = some (.string e6) := (blk_cell Le9.out 6).trans rfl
        have te7_9 : u9.cell? ⟨ge, 7, none⟩ = some (.string e7) := (blk_cell Le9.out 7).trans rfl
        have te8_9 : u9.cell? ⟨ge, 8, none⟩ = some (.slice A e8.length c) := (blk_cell Le9.out 8).trans rfl
        have te9_9 : u9.cell? ⟨ge, 9, none⟩ = some (.string e9) := (blk_cell Le9.out 9).trans rfl
        have tb0_9 : u9.cell? ⟨gb, 0, none⟩ = some (.int .i64 b0) := (blk_cell Lb9.out 0).trans rfl
        have tb1_9 : u9.cell? ⟨gb, 1, none⟩ = some (.int .i64 b1) := (blk_cell Lb9.out 1).trans rfl
        have tb2_9 : u9.cell? ⟨gb, 2, none⟩ = some (.int .u32 b2) := (blk_cell Lb9.out 2).trans rfl
        have tb3_9 : u9.cell? ⟨gb, 3, none⟩ = some (.int .u32 b3) := (blk_cell Lb9.out 3).trans rfl
        have tb4_9 : u9.cell? ⟨gb, 4, none⟩ = some (.int .u64 b4) := (blk_cell Lb9.out 4).trans rfl
        have tb5_9 : u9.cell? ⟨gb, 5, none⟩ = some (.bool b5) := (blk_cell Lb9.out 5).trans rfl
        have M0 := Mbq.out
        generalize mayB q0 q1 q2 q3 b0 b1 b2 b3 b4 = r1 at M0 ⊢
        cases r1 with
        | false =>
          clear M0
          go_wp2_with fail
          refine (my.out k0 k1 k2 k3 _).mono ?_
          rintro e u10 ⟨rfl, hbc⟩
          have BB10 := Lib.hid (below_then BB9.out (BB9.out).size hbc)
          have Lw10 := Lib.hid ((hbc.block _ (blk_lt Lw9.out)).trans Lw9.out)
          have Lq10 := Lib.hid ((hbc.block _ (blk_lt Lq9.out)).trans Lq9.out)
          have Lk10 := Lib.hid ((hbc.block _ (blk_lt Lk9.out)).trans Lk9.out)
          have Le10 := Lib.hid ((hbc.block _ (blk_lt Le9.out)).trans Le9.out)
          have Lb10 := Lib.hid ((hbc.block _ (blk_lt Lb9.out)).trans Lb9.out)
          clear hbc
          have tw0_10 : u10.cell? ⟨v5.heap.size, 0, none⟩ = some (.int .i64 q0) := (blk_cell Lw10.out 0).trans rfl
          have tw1_10 : u10.cell? ⟨v5.heap.size, 1, none⟩ = some (.int .i64 k1) := (blk_cell Lw10.out 1).trans rfl
          have tw2_10 : u10.cell? ⟨v5.heap.size, 2, none⟩ = some (.int .u32 (Go.bits .or .u32 q2 k2)) := (blk_cell Lw10.out 2).trans rfl
          have tw3_10 : u10.cell? ⟨v5.heap.size, 3, none⟩ = some (.int .u32 (Go.bits .or .u32 q3 k3)) := (blk_cell Lw10.out 3).trans rfl
          have tq0_10 : u10.cell? ⟨gq, 0, none⟩ = some (.int .i64 q0) := (blk_cell Lq10.out 0).trans rfl
          have tq1_10 : u10.cell? ⟨gq, 1, none⟩ = some (.int .i64 q1) := (blk_cell Lq10.out 1).trans rfl
          have tq2_10 : u10.cell? ⟨gq, 2, none⟩ = some (.int .u32 q2) := (blk_cell Lq10.out 2).trans rfl
          have tq3_10 : u10.cell? ⟨gq, 3, none⟩ = some (.int .u32 q3) := (blk_cell Lq10.out 3).trans rfl
          have tk0_10 : u10.cell? ⟨gk, 0, none⟩ = some (.int .i64 k0) := (blk_cell Lk10.out 0).trans rfl
          have tk1_10 : u10.cell? ⟨gk, 1, none⟩ = some (.int .i64 k1) := (blk_cell Lk10.out 1).trans rfl
          have tk2_10 : u10.cell? ⟨gk, 2, none⟩ = some (.int .u32 k2) := (blk_cell Lk10.out 2).trans rfl
          have tk3_10 : u10.cell? ⟨gk, 3, none⟩ = some (.int .u32 k3) := (blk_cell Lk10.out 3).trans rfl
          have te0_10 : u10.cell? ⟨ge, 0, none⟩ = some (.int .i64 e0) := (blk_cell Le10.out 0).trans rfl
          have te1_10 : u10.cell? ⟨ge, 1, none⟩ = some (.int .i64 e1) := (blk_cell Le10.out 1).trans rfl
          have te2_10 : u10.cell? ⟨ge, 2, none⟩ = some (.bool e2) := (blk_cell Le10.out 2).trans rfl
          have te3_10 : u10.cell? ⟨ge, 3, none⟩ = some (.int .i64 e3) := (blk_cell Le10.out 3).trans rfl
          have te4_10 : u10.cell? ⟨ge, 4, none⟩ = some (.string e4) := (blk_cell Le10.out 4).trans rfl
          have te5_10 : u10.cell? ⟨ge, 5, none⟩ = some (.string e5) := (blk_cell Le10.out 5).trans rfl
          have te6_10 : u10.cell? ⟨ge, 6, none⟩ = some (.string e6) := (blk_cell Le10.out 6).trans rfl
          have te7_10 : u10.cell? ⟨ge, 7, none⟩ = some (.string e7) := (blk_cell Le10.out 7).trans rfl
          have te8_10 : u10.cell? ⟨ge, 8, none⟩ = some (.slice A e8.length c) := (blk_cell Le10.out 8).trans rfl
          have te9_10 : u10.cell? ⟨ge, 9, none⟩ = some (.string e9) := (blk_cell Le10.out 9).trans rfl
          have tb0_10 : u10.cell? ⟨gb, 0, none⟩ = some (.int .i64 b0) := (blk_cell Lb10.out 0).trans rfl
          have tb1_10 : u10.cell? ⟨gb, 1, none⟩ = some (.int .i64 b1) := (blk_cell Lb10.out 1).trans rfl
          have tb2_10 : u10.cell? ⟨gb, 2, none⟩ = some (.int .u32 b2) := (blk_cell Lb10.out 2).trans rfl
          have tb3_10 : u10.cell? ⟨gb, 3, none⟩ = some (.int .u32 b3) := (blk_cell Lb10.out 3).trans rfl
          have tb4_10 : u10.cell? ⟨gb, 4, none⟩ = some (.int .u64 b4) := (blk_cell Lb10.out 4).trans rfl
          have tb5_10 : u10.cell? ⟨gb, 5, none⟩ = some (.bool b5) := (blk_cell Lb10.out 5).trans rfl
          have M0 := Mbk.out
          generalize mayB k0 k1 k2 k3 b0 b1 b2 b3 b4 = r2 at M0 ⊢
          cases r2 with
          | false =>
            clear M0
            go_wp2_with fail
            go_ret
            exact ⟨rfl, BB10.out⟩
          | true =>
            have M1 := Lib.hid (M0 rfl)
            clear M0
            go_wp2_with fail
            refine (my.out (q0) (k1) ((Go.bits .or .u32 q2 k2)) ((Go.bits .or .u32 q3 k3)) _).mono ?_
            rintro e u11 ⟨rfl, hbc⟩
            have BB11 := Lib.hid (below_then BB10.out (BB10.out).size hbc)
            have Lw11 := Lib.hid ((hbc.block _ (blk_lt Lw10.out)).trans Lw10.out)
            have Lq11 := Lib.hid ((hbc.block _ (blk_lt Lq10.out)).trans Lq10.out)
            have Lk11 := Lib.hid ((hbc.block _ (blk_lt Lk10.out)).trans Lk10.out)
            have Le11 := Lib.hid ((hbc.block _ (blk_lt Le10.out)).trans Le10.out)
            have Lb11 := Lib.hid ((hbc.block _ (blk_lt Lb10.out)).trans Lb10.out)
            clear hbc
            have tw0_11 : u11.cell? ⟨v5.heap.size, 0, none⟩ = some (.int .i64 q0) := (blk_cell Lw11.out 0).trans rfl
            have tw1_11 : u11.cell? ⟨v5.heap.size, 1, none⟩ = some (.int .i64 k1) := (blk_cell Lw11.out 1).trans rfl
            have tw2_11 : u11.cell? ⟨v5.heap.size, 2, none⟩ = some (.int .u32 (Go.bits .or .u32 q2 k2)) := (blk_cell Lw11.out 2).trans rfl
            have tw3_11 : u11.cell? ⟨v5.heap.size, 3, none⟩ = some (.int .u32 (Go.bits .or .u32 q3 k3)) := (blk_cell Lw11.out 3).trans rfl
            have tq0_11 : u11.cell? ⟨gq, 0, none⟩ = some (.int .i64 q0) := (blk_cell Lq11.out 0).trans rfl
            have tq1_11 : u11.cell? ⟨gq, 1, none⟩ = some (.int .i64 q1) := (blk_cell Lq11.out 1).trans rfl
            have tq2_11 : u11.cell? ⟨gq, 2, none⟩ = some (.int .u32 q2) := (blk_cell Lq11.out 2).trans rfl
            have tq3_11 : u11.cell? ⟨gq, 3, none⟩ = some (.int .u32 q3) := (blk_cell Lq11.out 3).trans rfl
            have tk0_11 : u11.cell? ⟨gk, 0, none⟩ = some (.int .i64 k0) := (blk_cell Lk11.out 0).trans rfl
            have tk1_11 : u11.cell? ⟨gk, 1, none⟩ = some (.int .i64 k1) := (blk_cell Lk11.out 1).trans rfl
            have tk2_11 : u11.cell? ⟨gk, 2, none⟩ = some (.int .u32 k2) := (blk_cell Lk11.out 2).trans rfl
            have tk3_11 : u11.cell? ⟨gk, 3, none⟩ = some (.int .u32 k3) := (blk_cell Lk11.out 3).trans rfl
            have te0_11 : u11.cell? ⟨ge, 0, none⟩ = some (.int .i64 e0) := (blk_cell Le11.out 0).trans rfl
            have te1_11 : u11.cell? ⟨ge, 1, none⟩ = some (.int .i64 e1) := (blk_cell Le11.out 1).trans rfl
            have te2_11 : u11.cell? ⟨ge, 2, none⟩ = some (.bool e2) := (blk_cell Le11.out 2).trans rfl
            have te3_11 : u11.cell? ⟨ge, 3, none⟩ = some (.int .i64 e3) := (blk_cell Le11.out 3).trans rfl
            have te4_11 : u11.cell? ⟨ge, 4, none⟩ = some (.string e4) := (blk_cell Le11.out 4).trans rfl
            have te5_11 : u11.cell? ⟨ge, 5, none⟩ = some (.string e5) := (blk_cell Le11.out 5).trans rfl
            have te6_11 : u11.cell? ⟨ge, 6, none⟩ = some (.string e6) := (blk_cell Le11.out 6).trans rfl
            have te7_11 : u11.cell? ⟨ge, 7, none⟩ = some (.string e7) := (blk_cell Le11.out 7).trans rfl
            have te8_11 : u11.cell? ⟨ge, 8, none⟩ = some (.slice A e8.length c) := (blk_cell Le11.out 8).trans rfl
            have te9_11 : u11.cell? ⟨ge, 9, none⟩ = some (.string e9) := (blk_cell Le11.out 9).trans rfl
            have tb0_11 : u11.cell? ⟨gb, 0, none⟩ = some (.int .i64 b0) := (blk_cell Lb11.out 0).trans rfl
            have tb1_11 : u11.cell? ⟨gb, 1, none⟩ = some (.int .i64 b1) := (blk_cell Lb11.out 1).trans rfl
            have tb2_11 : u11.cell? ⟨gb, 2, none⟩ = some (.int .u32 b2) := (blk_cell Lb11.out 2).trans rfl
            have tb3_11 : u11.cell? ⟨gb, 3, none⟩ = some (.int .u32 b3) := (blk_cell Lb11.out 3).trans rfl
            have tb4_11 : u11.cell? ⟨gb, 4, none⟩ = some (.int .u64 b4) := (blk_cell Lb11.out 4).trans rfl
            have tb5_11 : u11.cell? ⟨gb, 5, none⟩ = some (.bool b5) := (blk_cell Lb11.out 5).trans rfl
            rw [M1.out]
            clear M1
            go_wp2_with fail
            go_ret
            exact ⟨rfl, BB11.out⟩
        | true =>
          have M1 := Lib.hid (M0 rfl)
          clear M0
          go_wp2_with fail
          refine (my.out (q0) (k1) ((Go.bits .or .u32 q2 k2)) ((Go.bits .or .u32 q3 k3)) _).mono ?_
          rintro e u12 ⟨rfl, hbc⟩
          have BB12 := Lib.hid (below_then BB9.out (BB9.out).size hbc)
          have Lw12 := Lib.hid ((hbc.block _ (blk_lt Lw9.out)).trans Lw9.out)
          have Lq12 := Lib.hid ((hbc.block _ (blk_lt Lq9.out)).trans Lq9.out)
          have Lk12 := Lib.hid ((hbc.block _ (blk_lt Lk9.out)).trans Lk9.out)
          have Le12 := Lib.hid ((hbc.block _ (blk_lt Le9.out)).trans Le9.out)
          have Lb12 := Lib.hid ((hbc.block _ (blk_lt Lb9.out)).trans Lb9.out)
          clear hbc
          have tw0_12 : u12.cell? ⟨v5.heap.size, 0, none⟩ = some (.int .i64 q0) := (blk_cell Lw12.out 0).trans rfl
          have tw1_12 : u12.cell? ⟨v5.heap.size, 1, none⟩ = some (.int .i64 k1) := (blk_cell Lw12.out 1).trans rfl
          have tw2_12 : u12.cell? ⟨v5.heap.size, 2, none⟩ = some (.int .u32 (Go.bits .or .u32 q2 k2)) := (blk_cell Lw12.out 2).trans rfl
          have tw3_12 : u12.cell? ⟨v5.heap.size, 3, none⟩ = some (.int .u32 (Go.bits .or .u32 q3 k3)) := (blk_cell Lw12.out 3).trans rfl
          have tq0_12 : u12.cell? ⟨gq, 0, none⟩ = some (.int .i64 q0) := (blk_cell Lq12.out 0).trans rfl
          have tq1_12 : u12.cell? ⟨gq, 1, none⟩ = some (.int .i64 q1) := (blk_cell Lq12.out 1).trans rfl
          have tq2_12 : u12.cell? ⟨gq, 2, none⟩ = some (.int .u32 q2) := (blk_cell Lq12.out 2).trans rfl
          have tq3_12 : u12.cell? ⟨gq, 3, none⟩ = some (.int .u32 q3) := (blk_cell Lq12.out 3).trans rfl
          have tk0_12 : u12.cell? ⟨gk, 0, none⟩ = some (.int .i64 k0) := (blk_cell Lk12.out 0).trans rfl
          have tk1_12 : u12.cell? ⟨gk, 1, none⟩ = some (.int .i64 k1) := (blk_cell Lk12.out 1).trans rfl
          have tk2_12 : u12.cell? ⟨gk, 2, none⟩ = some (.int .u32 k2) := (blk_cell Lk12.out 2).trans rfl
          have tk3_12 : u12.cell? ⟨gk, 3, none⟩ = some (.int .u32 k3) := (blk_cell Lk12.out 3).trans rfl
          have te0_12 : u12.cell? ⟨ge, 0, none⟩ = some (.int .i64 e0) := (blk_cell Le12.out 0).trans rfl
          have te1_12 : u12.cell? ⟨ge, 1, none⟩ = some (.int .i64 e1) := (blk_cell Le12.out 1).trans rfl
          have te2_12 : u12.cell? ⟨ge, 2, none⟩ = some (.bool e2) := (blk_cell Le12.out 2).trans rfl
          have te3_12 : u12.cell? ⟨ge, 3, none⟩ = some (.int .i64 e3) := (blk_cell Le12.out 3).trans rfl
          have te4_12 : u12.cell? ⟨ge, 4, none⟩ = some (.string e4) := (blk_cell Le12.out 4).trans rfl
          have te5_12 : u12.cell? ⟨ge, 5, none⟩ = some (.string e5) := (blk_cell Le12.out 5).trans rfl
          have te6_12 : u12.cell? ⟨ge, 6, none⟩ = some (.string e6) := (blk_cell Le12.out 6).trans rfl
          have te7_12 : u12.cell? ⟨ge, 7, none⟩ = some (.string e7) := (blk_cell Le12.out 7).trans rfl
          have te8_12 : u12.cell? ⟨ge, 8, none⟩ = some (.slice A e8.length c) := (blk_cell Le12.out 8).trans rfl
          have te9_12 : u12.cell? ⟨ge, 9, none⟩ = some (.string e9) := (blk_cell Le12.out 9).trans rfl
          have tb0_12 : u12.cell? ⟨gb, 0, none⟩ = some (.int .i64 b0) := (blk_cell Lb12.out 0).trans rfl
          have tb1_12 : u12.cell? ⟨gb, 1, none⟩ = some (.int .i64 b1) := (blk_cell Lb12.out 1).trans rfl
          have tb2_12 : u12.cell? ⟨gb, 2, none⟩ = some (.int .u32 b2) := (blk_cell Lb12.out 2).trans rfl
          have tb3_12 : u12.cell? ⟨gb, 3, none⟩ = some (.int .u32 b3) := (blk_cell Lb12.out 3).trans rfl
          have tb4_12 : u12.cell? ⟨gb, 4, none⟩ = some (.int .u64 b4) := (blk_cell Lb12.out 4).trans rfl
          have tb5_12 : u12.cell? ⟨gb, 5, none⟩ = some (.bool b5) := (blk_cell Lb12.out 5).trans rfl
          rw [M1.out]
          clear M1
          go_wp2_with fail
          refine (my.out k0 k1 k2 k3 _).mono ?_
          rintro e u13 ⟨rfl, hbc⟩
          have BB13 := Lib.hid (below_then BB12.out (BB12.out).size hbc)
          have Lw13 := Lib.hid ((hbc.block _ (blk_lt Lw12.out)).trans Lw12.out)
          have Lq13 := Lib.hid ((hbc.block _ (blk_lt Lq12.out)).trans Lq12.out)
          have Lk13 := Lib.hid ((hbc.block _ (blk_lt Lk12.out)).trans Lk12.out)
          have Le13 := Lib.hid ((hbc.block _ (blk_lt Le12.out)).trans Le12.out)
          have Lb13 := Lib.hid ((hbc.block _ (blk_lt Lb12.out)).trans Lb12.out)
          clear hbc
          have tw0_13 : u13.cell? ⟨v5.heap.size, 0, none⟩ = some (.int .i64 q0) := (blk_cell Lw13.out 0).trans rfl
          have tw1_13 : u13.cell? ⟨v5.heap.size, 1, none⟩ = some (.int .i64 k1) := (blk_cell Lw13.out 1).trans rfl
          have tw2_13 : u13.cell? ⟨v5.heap.size, 2, none⟩ = some (.int .u32 (Go.bits .or .u32 q2 k2)) := (blk_cell Lw13.out 2).trans rfl
          have tw3_13 : u13.cell? ⟨v5.heap.size, 3, none⟩ = some (.int .u32 (Go.bits .or .u32 q3 k3)) := (blk_cell Lw13.out 3).trans rfl
          have tq0_13 : u13.cell? ⟨gq, 0, none⟩ = some (.int .i64 q0) := (blk_cell Lq13.out 0).trans rfl
          have tq1_13 : u13.cell? ⟨gq, 1, none⟩ = some (.int .i64 q1) := (blk_cell Lq13.out 1).trans rfl
          have tq2_13 : u13.cell? ⟨gq, 2, none⟩ = some (.int .u32 q2) := (blk_cell Lq13.out 2).trans rfl
          have tq3_13 : u13.cell? ⟨gq, 3, none⟩ = some (.int .u32 q3) := (blk_cell Lq13.out 3).trans rfl
          have tk0_13 : u13.cell? ⟨gk, 0, none⟩ = some (.int .i64 k0) := (blk_cell Lk13.out 0).trans rfl
          have tk1_13 : u13.cell? ⟨gk, 1, none⟩ = some (.int .i64 k1) := (blk_cell Lk13.out 1).trans rfl
          have tk2_13 : u13.cell? ⟨gk, 2, none⟩ = some (.int .u32 k2) := (blk_cell Lk13.out 2).trans rfl
          have tk3_13 : u13.cell? ⟨gk, 3, none⟩ = some (.int .u32 k3) := (blk_cell Lk13.out 3).trans rfl
          have te0_13 : u13.cell? ⟨ge, 0, none⟩ = some (.int .i64 e0) := (blk_cell Le13.out 0).trans rfl
          have te1_13 : u13.cell? ⟨ge, 1, none⟩ = some (.int .i64 e1) := (blk_cell Le13.out 1).trans rfl
          have te2_13 : u13.cell? ⟨ge, 2, none⟩ = some (.bool e2) := (blk_cell Le13.out 2).trans rfl
          have te3_13 : u13.cell? ⟨ge, 3, none⟩ = some (.int .i64 e3) := (blk_cell Le13.out 3).trans rfl
          have te4_13 : u13.cell? ⟨ge, 4, none⟩ = some (.string e4) := (blk_cell Le13.out 4).trans rfl
          have te5_13 : u13.cell? ⟨ge, 5, none⟩ = some (.string e5) := (blk_cell Le13.out 5).trans rfl
          have te6_13 : u13.cell? ⟨ge, 6, none⟩ = some (.string e6) := (blk_cell Le13.out 6).trans rfl
          have te7_13 : u13.cell? ⟨ge, 7, none⟩ = some (.string e7) := (blk_cell Le13.out 7).trans rfl
          have te8_13 : u13.cell? ⟨ge, 8, none⟩ = some (.slice A e8.length c) := (blk_cell Le13.out 8).trans rfl
          have te9_13 : u13.cell? ⟨ge, 9, none⟩ = some (.string e9) := (blk_cell Le13.out 9).trans rfl
          have tb0_13 : u13.cell? ⟨gb, 0, none⟩ = some (.int .i64 b0) := (blk_cell Lb13.out 0).trans rfl
          have tb1_13 : u13.cell? ⟨gb, 1, none⟩ = some (.int .i64 b1) := (blk_cell Lb13.out 1).trans rfl
          have tb2_13 : u13.cell? ⟨gb, 2, none⟩ = some (.int .u32 b2) := (blk_cell Lb13.out 2).trans rfl
          have tb3_13 : u13.cell? ⟨gb, 3, none⟩ = some (.int .u32 b3) := (blk_cell Lb13.out 3).trans rfl
          have tb4_13 : u13.cell? ⟨gb, 4, none⟩ = some (.int .u64 b4) := (blk_cell Lb13.out 4).trans rfl
          have tb5_13 : u13.cell? ⟨gb, 5, none⟩ = some (.bool b5) := (blk_cell Lb13.out 5).trans rfl
          have M0 := Mbk.out
          generalize mayB k0 k1 k2 k3 b0 b1 b2 b3 b4 = r2 at M0 ⊢
          cases r2 with
          | false =>
            clear M0
            go_wp2_with fail
            go_ret
            exact ⟨rfl, BB13.out⟩
          | true =>
            have M1 := Lib.hid (M0 rfl)
            clear M0
            go_wp2_with fail
            refine (my.out (q0) (k1) ((Go.bits .or .u32 q2 k2)) ((Go.bits .or .u32 q3 k3)) _).mono ?_
            rintro e u14 ⟨rfl, hbc⟩
            have BB14 := Lib.hid (below_then BB13.out (BB13.out).size hbc)
            have Lw14 := Lib.hid ((hbc.block _ (blk_lt Lw13.out)).trans Lw13.out)
            have Lq14 := Lib.hid ((hbc.block _ (blk_lt Lq13.out)).trans Lq13.out)
            have Lk14 := Lib.hid ((hbc.block _ (blk_lt Lk13.out)).trans Lk13.out)
            have Le14 := Lib.hid ((hbc.block _ (blk_lt Le13.out)).trans Le13.out)
            have Lb14 := Lib.hid ((hbc.block _ (blk_lt Lb13.out)).trans Lb13.out)
            clear hbc
            have tw0_14 : u14.cell? ⟨v5.heap.size, 0, none⟩ = some (.int .i64 q0) := (blk_cell Lw14.out 0).trans rfl
            have tw1_14 : u14.cell? ⟨v5.heap.size, 1, none⟩ = some (.int .i64 k1) := (blk_cell Lw14.out 1).trans rfl
            have tw2_14 : u14.cell? ⟨v5.heap.size, 2, none⟩ = some (.int .u32 (Go.bits .or .u32 q2 k2)) := (blk_cell Lw14.out 2).trans rfl
            have tw3_14 : u14.cell? ⟨v5.heap.size, 3, none⟩ = some (.int .u32 (Go.bits .or .u32 q3 k3)) := (blk_cell Lw14.out 3).trans rfl
            have tq0_14 : u14.cell? ⟨gq, 0, none⟩ = some (.int .i64 q0) := (blk_cell Lq14.out 0).trans rfl
            have tq1_14 : u14.cell? ⟨gq, 1, none⟩ = some (.int .i64 q1) := (blk_cell Lq14.out 1).trans rfl
            have tq2_14 : u14.cell? ⟨gq, 2, none⟩ = some (.int .u32 q2) := (blk_cell Lq14.out 2).trans rfl
            have tq3_14 : u14.cell? ⟨gq, 3, none⟩ = some (.int .u32 q3) := (blk_cell Lq14.out 3).trans rfl
            have tk0_14 : u14.cell? ⟨gk, 0, none⟩ = some (.int .i64 k0) := (blk_cell Lk14.out 0).trans rfl
            have tk1_14 : u14.cell? ⟨gk, 1, none⟩ = some (.int .i64 k1) := (blk_cell Lk14.out 1).trans rfl
            have tk2_14 : u14.cell? ⟨gk, 2, none⟩ = some (.int .u32 k2) := (blk_cell Lk14.out 2).trans rfl
            have tk3_14 : u14.cell? ⟨gk, 3, none⟩ = some (.int .u32 k3) := (blk_cell Lk14.out 3).trans rfl
            have te0_14 : u14.cell? ⟨ge, 0, none⟩ = some (.int .i64 e0) := (blk_cell Le14.out 0).trans rfl
            have te1_14 : u14.cell? ⟨ge, 1, none⟩ = some (.int .i64 e1) := (blk_cell Le14.out 1).trans rfl
            have te2_14 : u14.cell? ⟨ge, 2, none⟩ = some (.bool e2) := (blk_cell Le14.out 2).trans rfl
            have te3_14 : u14.cell? ⟨ge, 3, none⟩ = some (.int .i64 e3) := (blk_cell Le14.out 3).trans rfl
            have te4_14 : u14.cell? ⟨ge, 4, none⟩ = some (.string e4) := (blk_cell Le14.out 4).trans rfl
            have te5_14 : u14.cell? ⟨ge, 5, none⟩ = some (.string e5) := (blk_cell Le14.out 5).trans rfl
            have te6_14 : u14.cell? ⟨ge, 6, none⟩ = some (.string e6) := (blk_cell Le14.out 6).trans rfl
            have te7_14 : u14.cell? ⟨ge, 7, none⟩ = some (.string e7) := (blk_cell Le14.out 7).trans rfl
            have te8_14 : u14.cell? ⟨ge, 8, none⟩ = some (.slice A e8.length c) := (blk_cell Le14.out 8).trans rfl
            have te9_14 : u14.cell? ⟨ge, 9, none⟩ = some (.string e9) := (blk_cell Le14.out 9).trans rfl
            have tb0_14 : u14.cell? ⟨gb, 0, none⟩ = some (.int .i64 b0) := (blk_cell Lb14.out 0).trans rfl
            have tb1_14 : u14.cell? ⟨gb, 1, none⟩ = some (.int .i64 b1) := (blk_cell Lb14.out 1).trans rfl
            have tb2_14 : u14.cell? ⟨gb, 2, none⟩ = some (.int .u32 b2) := (blk_cell Lb14.out 2).trans rfl
            have tb3_14 : u14.cell? ⟨gb, 3, none⟩ = some (.int .u32 b3) := (blk_cell Lb14.out 3).trans rfl
            have tb4_14 : u14.cell? ⟨gb, 4, none⟩ = some (.int .u64 b4) := (blk_cell Lb14.out 4).trans rfl
            have tb5_14 : u14.cell? ⟨gb, 5, none⟩ = some (.bool b5) := (blk_cell Lb14.out 5).trans rfl
            rw [M1.out]
            clear M1
            go_wp2_with fail
            go_ret
            exact ⟨rfl, BB14.out⟩
    · skip
      have d2 : decide (k1 > q1) = false := decide_eq_false h2
      have sq0 : (v5.alloc (.cells #[.int .i64 q0, .int .i64 q1, .int .u32 (Go.bits .or .u32 q2 k2), .int .u32 (Go.bits .or .u32 q3 k3)] 30 (0, 0))).cell? ⟨gq, 0, none⟩ = some (.int .i64 q0) := (blk_cell (blk_alloc Hq (.cells #[.int .i64 q0, .int .i64 q1, .int .u32 (Go.bits .or .u32 q2 k2), .int .u32 (Go.bits .or .u32 q3 k3)] 30 (0, 0))) 0).trans rfl
      have sq1 : (v5.alloc (.cells #[.int .i64 q0, .int .i64 q1, .int .u32 (Go.bits .or .u32 q2 k2), .int .u32 (Go.bits .or .u32 q3 k3)] 30 (0, 0))).cell? ⟨gq, 1, none⟩ = some (.int .i64 q1) := (blk_cell (blk_alloc Hq (.cells #[.int .i64 q0, .int .i64 q1, .int .u32 (Go.bits .or .u32 q2 k2), .int .u32 (Go.bits .or .u32 q3 k3)] 30 (0, 0))) 1).trans rfl
      have sq2 : (v5.alloc (.cells #[.int .i64 q0, .int .i64 q1, .int .u32 (Go.bits .or .u32 q2 k2), .int .u32 (Go.bits .or .u32 q3 k3)] 30 (0, 0))).cell? ⟨gq, 2, none⟩ = some (.int .u32 q2) := (blk_cell (blk_alloc Hq (.cells #[.int .i64 q0, .int .i64 q1, .int .u32 (Go.bits .or .u32 q2 k2), .int .u32 (Go.bits .or .u32 q3 k3)] 30 (0, 0))) 2).trans rfl
      have sq3 : (v5.alloc (.cells #[.int .i64 q0, .int .i64 q1, .int .u32 (Go.bits .or .u32 q2 k2), .int .u32 (Go.bits .or .u32 q3 k3)] 30 (0, 0))).cell? ⟨gq, 3, none⟩ = some (.int .u32 q3) := (blk_cell (blk_alloc Hq (.cells #[.int .i64 q0, .int .i64 q1, .int .u32 (Go.bits .or .u32 q2 k2), .int .u32 (Go.bits .or .u32 q3 k3)] 30 (0, 0))) 3).trans rfl
      have sk0 : (v5.alloc (.cells #[.int .i64 q0, .int .i64 q1, .int .u32 (Go.bits .or .u32 q2 k2), .int .u32 (Go.bits .or .u32 q3 k3)] 30 (0, 0))).cell? ⟨gk, 0, none⟩ = some (.int .i64 k0) := (blk_cell (blk_alloc Hk (.cells #[.int .i64 q0, .int .i64 q1, .int .u32 (Go.bits .or .u32 q2 k2), .int .u32 (Go.bits .or .u32 q3 k3)] 30 (0, 0))) 0).trans rfl
      have sk1 : (v5.alloc (.cells #[.int .i64 q0, .int .i64 q1, .int .u32 (Go.bits .or .u32 q2 k2), .int .u32 (Go.bits .or .u32 q3 k3)] 30 (0, 0))).cell? ⟨gk, 1, none⟩ = some (.int .i64 k1) := (blk_cell (blk_alloc Hk (.cells #[.int .i64 q0, .int .i64 q1, .int .u32 (Go.bits .or .u32 q2 k2), .int .u32 (Go.bits .or .u32 q3 k3)] 30 (0, 0))) 1).trans rfl
      have sk2 : (v5.alloc (.cells #[.int .i64 q0, .int .i64 q1, .int .u32 (Go.bits .or .u32 q2 k2), .int .u32 (Go.bits .or .u32 q3 k3)] 30 (0, 0))).cell? ⟨gk, 2, none⟩ = some (.int .u32 k2) := (blk_cell (blk_alloc Hk (.cells #[.int .i64 q0, .int .i64 q1, .int .u32 (Go.bits .or .u32 q2 k2), .int .u32 (Go.bits .or .u32 q3 k3)] 30 (0, 0))) 2).trans rfl
      have sk3 : (v5.alloc (.cells #[.int .i64 q0, .int .i64 q1, .int .u32 (Go.bits .or .u32 q2 k2), .int .u32 (Go.bits .or .u32 q3 k3)] 30 (0, 0))).cell? ⟨gk, 3, none⟩ = some (.int .u32 k3) := (blk_cell (blk_alloc Hk (.cells #[.int .i64 q0, .int .i64 q1, .int .u32 (Go.bits .or .u32 q2 k2), .int .u32 (Go.bits .or .u32 q3 k3)] 30 (0, 0))) 3).trans rfl
      have se0 : (v5.alloc (.cells #[.int .i64 q0, .int .i64 q1, .int .u32 (Go.bits .or .u32 q2 k2), .int .u32 (Go.bits .or .u32 q3 k3)] 30 (0, 0))).cell? ⟨ge, 0, none⟩ = some (.int .i64 e0) := (blk_cell (blk_alloc He (.cells #[.int .i64 q0, .int .i64 q1, .int .u32 (Go.bits .or .u32 q2 k2), .int .u32 (Go.bits .or .u32 q3 k3)] 30 (0, 0))) 0).trans rfl
      have se1 : (v5.alloc (.cells #[.int .i64 q0, .int .i64 q1, .int .u32 (Go.bits .or .u32 q2 k2), .int .u32 (Go.bits .or .u32 q3 k3)] 30 (0, 0))).cell? ⟨ge, 1, none⟩ = some (.int .i64 e1) := (blk_cell (blk_alloc He (.cells #[.int .i64 q0, .int .i64 q1, .int .u32 (Go.bits .or .u32 q2 k2), .int .u32 (Go.bits .or .u32 q3 k3)] 30 (0, 0))) 1).trans rfl
      have se2 : (v5.alloc (.cells #[.int .i64 q0, .int .i64 q1, .int .u32 (Go.bits .or .u32 q2 k2), .int .u32 (Go.bits .or .u32 q3 k3)] 30 (0, 0))).cell? ⟨ge, 2, none⟩ = some (.bool e2) := (blk_cell (blk_alloc He (.cells #[.int .i64 q0, .int .i64 q1, .int .u32 (Go.bits .or .u32 q2 k2), .int .u32 (Go.bits .or .u32 q3 k3)] 30 (0, 0))) 2).trans rfl
      have se3 : (v5.alloc (.cells #[.int .i64 q0, .int .i64 q1, .int .u32 (Go.bits .or .u32 q2 k2), .int .u32 (Go.bits .or .u32 q3 k3)] 30 (0, 0))).cell? ⟨ge, 3, none⟩ = some (.int .i64 e3) := (blk_cell (blk_alloc He (.cells #[.int .i64 q0, .int .i64 q1, .int .u32 (Go.bits .or .u32 q2 k2), .int .u32 (Go.bits .or .u32 q3 k3)] 30 (0, 0))) 3).trans rfl
      have se4 : (v5.alloc (.cells #[.int .i64 q0, .int .i64 q1, .int .u32 (Go.bits .or .u32 q2 k2), .int .u32 (Go.bits .or .u32 q3 k3)] 30 (0, 0))).cell? ⟨ge, 4, none⟩ = some (.string e4) := (blk_cell (blk_alloc He (.cells #[.int .i64 q0, .int .i64 q1, .int .u32 (Go.bits .or .u32 q2 k2), .int .u32 (Go.bits .or .u32 q3 k3)] 30 (0, 0))) 4).trans rfl
      have se5 : (v5.alloc (.cells #[.int .i64 q0, .int .i64 q1, .int .u32 (Go.bits .or .u32 q2 k2), .int .u32 (Go.bits .or .u32 q3 k3)] 30 (0, 0))).cell? ⟨ge, 5, none⟩ = some (.string e5) := (blk_cell (blk_alloc He (.cells #[.int .i64 q0, .int .i64 q1, .int .u32 (Go.bits .or .u32 q2 k2), .int .u32 (Go.bits .or .u32 q3 k3)] 30 (0, 0))) 5).trans rfl
      have se6 : (v5.alloc (.cells #[.int .i64 q0, .int .i64 q1, .int .u32 (Go.bits .or .u32 q2 k2), .int .u32 (Go.bits .or .u32 q3 k3)] 30 (0, 0))).cell? ⟨ge, 6, none⟩ = some (.string e6) := (blk_cell (blk_alloc He (.cells #[.int .i64 q0, .int .i64 q1, .int .u32 (Go.bits .or .u32 q2 k2), .int .u32 (Go.bits .or .u32 q3 k3)] 30 (0, 0))) 6).trans rfl
      have se7 : (v5.alloc (.cells #[.int .i64 q0, .int .i64 q1, .int .u32 (Go.bits .or .u32 q2 k2), .int .u32 (Go.bits .or .u32 q3 k3)] 30 (0, 0))).cell? ⟨ge, 7, none⟩ = some (.string e7) := (blk_cell (blk_alloc He (.cells #[.int .i64 q0, .int .i64 q1, .int .u32 (Go.bits .or .u32 q2 k2), .int .u32 (Go.bits .or .u32 q3 k3)] 30 (0, 0))) 7).trans rfl
      have se8 : (v5.alloc (.cells #[.int .i64 q0, .int .i64 q1, .int .u32 (Go.bits .or .u32 q2 k2), .int .u32 (Go.bits .or .u32 q3 k3)] 30 (0, 0))).cell? ⟨ge, 8, none⟩ = some (.slice A e8.length c) := (blk_cell (blk_alloc He (.cells #[.int .i64 q0, .int .i64 q1, .int .u32 (Go.bits .or .u32 q2 k2), .int .u32 (Go.bits .or .u32 q3 k3)] 30 (0, 0))) 8).trans rfl
      have se9 : (v5.alloc (.cells #[.int .i64 q0, .int .i64 q1, .int .u32 (Go.bits .or .u32 q2 k2), .int .u32 (Go.bits .or .u32 q3 k3)] 30 (0, 0))).cell? ⟨ge, 9, none⟩ = some (.string e9) := (blk_cell (blk_alloc He (.cells #[.int .i64 q0, .int .i64 q1, .int .u32 (Go.bits .or .u32 q2 k2), .int .u32 (Go.bits .or .u32 q3 k3)] 30 (0, 0))) 9).trans rfl
      have sb0 : (v5.alloc (.cells #[.int .i64 q0, .int .i64 q1, .int .u32 (Go.bits .or .u32 q2 k2), .int .u32 (Go.bits .or .u32 q3 k3)] 30 (0, 0))).cell? ⟨gb, 0, none⟩ = some (.int .i64 b0) := (blk_cell (blk_alloc Hb (.cells #[.int .i64 q0, .int .i64 q1, .int .u32 (Go.bits .or .u32 q2 k2), .int .u32 (Go.bits .or .u32 q3 k3)] 30 (0, 0))) 0).trans rfl
      have sb1 : (v5.alloc (.cells #[.int .i64 q0, .int .i64 q1, .int .u32 (Go.bits .or .u32 q2 k2), .int .u32 (Go.bits .or .u32 q3 k3)] 30 (0, 0))).cell? ⟨gb, 1, none⟩ = some (.int .i64 b1) := (blk_cell (blk_alloc Hb (.cells #[.int .i64 q0, .int .i64 q1, .int .u32 (Go.bits .or .u32 q2 k2), .int .u32 (Go.bits .or .u32 q3 k3)] 30 (0, 0))) 1).trans rfl
      have sb2 : (v5.alloc (.cells #[.int .i64 q0, .int .i64 q1, .int .u32 (Go.bits .or .u32 q2 k2), .int .u32 (Go.bits .or .u32 q3 k3)] 30 (0, 0))).cell? ⟨gb, 2, none⟩ = some (.int .u32 b2) := (blk_cell (blk_alloc Hb (.cells #[.int .i64 q0, .int .i64 q1, .int .u32 (Go.bits .or .u32 q2 k2), .int .u32 (Go.bits .or .u32 q3 k3)] 30 (0, 0))) 2).trans rfl
      have sb3 : (v5.alloc (.cells #[.int .i64 q0, .int .i64 q1, .int .u32 (Go.bits .or .u32 q2 k2), .int .u32 (Go.bits .or .u32 q3 k3)] 30 (0, 0))).cell? ⟨gb, 3, none⟩ = some (.int .u32 b3) := (blk_cell (blk_alloc Hb (.cells #[.int .i64 q0, .int .i64 q1, .int .u32 (Go.bits .or .u32 q2 k2), .int .u32 (Go.bits .or .u32 q3 k3)] 30 (0, 0))) 3).trans rfl
      have sb4 : (v5.alloc (.cells #[.int .i64 q0, .int .i64 q1, .int .u32 (Go.bits .or .u32 q2 k2), .int .u32 (Go.bits .or .u32 q3 k3)] 30 (0, 0))).cell? ⟨gb, 4, none⟩ = some (.int .u64 b4) := (blk_cell (blk_alloc Hb (.cells #[.int .i64 q0, .int .i64 q1, .int .u32 (Go.bits .or .u32 q2 k2), .int .u32 (Go.bits .or .u32 q3 k3)] 30 (0, 0))) 4).trans rfl
      have sb5 : (v5.alloc (.cells #[.int .i64 q0, .int .i64 q1, .int .u32 (Go.bits .or .u32 q2 k2), .int .u32 (Go.bits .or .u32 q3 k3)] 30 (0, 0))).cell? ⟨gb, 5, none⟩ = some (.bool b5) := (blk_cell (blk_alloc Hb (.cells #[.int .i64 q0, .int .i64 q1, .int .u32 (Go.bits .or .u32 q2 k2), .int .u32 (Go.bits .or .u32 q3 k3)] 30 (0, 0))) 5).trans rfl
      have sw0 : (v5.alloc (.cells #[.int .i64 q0, .int .i64 q1, .int .u32 (Go.bits .or .u32 q2 k2), .int .u32 (Go.bits .or .u32 q3 k3)] 30 (0, 0))).cell? ⟨v5.heap.size, 0, none⟩ = some (.int .i64 q0) := (blk_cell (blk_new v5 (.cells #[.int .i64 q0, .int .i64 q1, .int .u32 (Go.bits .or .u32 q2 k2), .int .u32 (Go.bits .or .u32 q3 k3)] 30 (0, 0))) 0).trans rfl
      have Fsw0 := blk_frozen (blk_new v5 (.cells #[.int .i64 q0, .int .i64 q1, .int .u32 (Go.bits .or .u32 q2 k2), .int .u32 (Go.bits .or .u32 q3 k3)] 30 (0, 0))) 0
      have sw1 : (v5.alloc (.cells #[.int .i64 q0, .int .i64 q1, .int .u32 (Go.bits .or .u32 q2 k2), .int .u32 (Go.bits .or .u32 q3 k3)] 30 (0, 0))).cell? ⟨v5.heap.size, 1, none⟩ = some (.int .i64 q1) := (blk_cell (blk_new v5 (.cells #[.int .i64 q0, .int .i64 q1, .int .u32 (Go.bits .or .u32 q2 k2), .int .u32 (Go.bits .or .u32 q3 k3)] 30 (0, 0))) 1).trans rfl
      have Fsw1 := blk_frozen (blk_new v5 (.cells #[.int .i64 q0, .int .i64 q1, .int .u32 (Go.bits .or .u32 q2 k2), .int .u32 (Go.bits .or .u32 q3 k3)] 30 (0, 0))) 1
      have sw2 : (v5.alloc (.cells #[.int .i64 q0, .int .i64 q1, .int .u32 (Go.bits .or .u32 q2 k2), .int .u32 (Go.bits .or .u32 q3 k3)] 30 (0, 0))).cell? ⟨v5.heap.size, 2, none⟩ = some (.int .u32 (Go.bits .or .u32 q2 k2)) := (blk_cell (blk_new v5 (.cells #[.int .i64 q0, .int .i64 q1, .int .u32 (Go.bits .or .u32 q2 k2), .int .u32 (Go.bits .or .u32 q3 k3)] 30 (0, 0))) 2).trans rfl
      have Fsw2 := blk_frozen (blk_new v5 (.cells #[.int .i64 q0, .int .i64 q1, .int .u32 (Go.bits .or .u32 q2 k2), .int .u32 (Go.bits .or .u32 q3 k3)] 30 (0, 0))) 2
      have sw3 : (v5.alloc (.cells #[.int .i64 q0, .int .i64 q1, .int .u32 (Go.bits .or .u32 q2 k2), .int .u32 (Go.bits .or .u32 q3 k3)] 30 (0, 0))).cell? ⟨v5.heap.size, 3, none⟩ = some (.int .u32 (Go.bits .or .u32 q3 k3)) := (blk_cell (blk_new v5 (.cells #[.int .i64 q0, .int .i64 q1, .int .u32 (Go.bits .or .u32 q2 k2), .int .u32 (Go.bits .or .u32 q3 k3)] 30 (0, 0))) 3).trans rfl
      have Fsw3 := blk_frozen (blk_new v5 (.cells #[.int .i64 q0, .int .i64 q1, .int .u32 (Go.bits .or .u32 q2 k2), .int .u32 (Go.bits .or .u32 q3 k3)] 30 (0, 0))) 3
      have Mmq := Lib.hid (mayB_mono q0 q1 q2 q3 (q0) (q1) ((Go.bits .or .u32 q2 k2)) ((Go.bits .or .u32 q3 k3)) o0 o1 o2 o3 o4 (by omega) (by omega) (Mono.or_left _ _ _) (Mono.or_left _ _ _))
      have Mbq := Lib.hid (mayB_mono q0 q1 q2 q3 (q0) (q1) ((Go.bits .or .u32 q2 k2)) ((Go.bits .or .u32 q3 k3)) b0 b1 b2 b3 b4 (by omega) (by omega) (Mono.or_left _ _ _) (Mono.or_left _ _ _))
      have Mbk := Lib.hid (mayB_mono k0 k1 k2 k3 (q0) (q1) ((Go.bits .or .u32 q2 k2)) ((Go.bits .or .u32 q3 k3)) b0 b1 b2 b3 b4 (by omega) (by omega) (Mono.or_right _ _ _) (Mono.or_right _ _ _))
      have LW := Lib.hid (And.intro (blk_new v5 (.cells #[.int .i64 q0, .int .i64 q1, .int .u32 (Go.bits .or .u32 q2 k2), .int .u32 (Go.bits .or .u32 q3 k3)] 30 (0, 0))) (below_alloc HB (.cells #[.int .i64 q0, .int .i64 q1, .int .u32 (Go.bits .or .u32 q2 k2), .int .u32 (Go.bits .or .u32 q3 k3)] 30 (0, 0))))
      have Lq := Lib.hid (blk_alloc Hq (.cells #[.int .i64 q0, .int .i64 q1, .int .u32 (Go.bits .or .u32 q2 k2), .int .u32 (Go.bits .or .u32 q3 k3)] 30 (0, 0)))
      have Lk := Lib.hid (blk_alloc Hk (.cells #[.int .i64 q0, .int .i64 q1, .int .u32 (Go.bits .or .u32 q2 k2), .int .u32 (Go.bits .or .u32 q3 k3)] 30 (0, 0)))
      have Le := Lib.hid (blk_alloc He (.cells #[.int .i64 q0, .int .i64 q1, .int .u32 (Go.bits .or .u32 q2 k2), .int .u32 (Go.bits .or .u32 q3 k3)] 30 (0, 0)))
      have Lb := Lib.hid (blk_alloc Hb (.cells #[.int .i64 q0, .int .i64 q1, .int .u32 (Go.bits .or .u32 q2 k2), .int .u32 (Go.bits .or .u32 q3 k3)] 30 (0, 0)))
      go_wp2_with fail
      refine (mt.out q0 q1 q2 q3 _ LW.out.2).mono ?_
      rintro e u1 ⟨rfl, hbc⟩
      have BB1 := Lib.hid (below_then LW.out.2 (LW.out.2).size hbc)
      have Lw1 := Lib.hid ((hbc.block _ (blk_lt LW.out.1)).trans LW.out.1)
      have Lq1 := Lib.hid ((hbc.block _ (blk_lt Lq.out)).trans Lq.out)
      have Lk1 := Lib.hid ((hbc.block _ (blk_lt Lk.out)).trans Lk.out)
      have Le1 := Lib.hid ((hbc.block _ (blk_lt Le.out)).trans Le.out)
      have Lb1 := Lib.hid ((hbc.block _ (blk_lt Lb.out)).trans Lb.out)
      clear hbc
      have tw0_1 : u1.cell? ⟨v5.heap.size, 0, none⟩ = some (.int .i64 q0) := (blk_cell Lw1.out 0).trans rfl
      have tw1_1 : u1.cell? ⟨v5.heap.size, 1, none⟩ = some (.int .i64 q1) := (blk_cell Lw1.out 1).trans rfl
      have tw2_1 : u1.cell? ⟨v5.heap.size, 2, none⟩ = some (.int .u32 (Go.bits .or .u32 q2 k2)) := (blk_cell Lw1.out 2).trans rfl
      have tw3_1 : u1.cell? ⟨v5.heap.size, 3, none⟩ = some (.int .u32 (Go.bits .or .u32 q3 k3)) := (blk_cell Lw1.out 3).trans rfl
      have tq0_1 : u1.cell? ⟨gq, 0, none⟩ = some (.int .i64 q0) := (blk_cell Lq1.out 0).trans rfl
      have tq1_1 : u1.cell? ⟨gq, 1, none⟩ = some (.int .i64 q1) := (blk_cell Lq1.out 1).trans rfl
      have tq2_1 : u1.cell? ⟨gq, 2, none⟩ = some (.int .u32 q2) := (blk_cell Lq1.out 2).trans rfl
      have tq3_1 : u1.cell? ⟨gq, 3, none⟩ = some (.int .u32 q3) := (blk_cell Lq1.out 3).trans rfl
      have tk0_1 : u1.cell? ⟨gk, 0, none⟩ = some (.int .i64 k0) := (blk_cell Lk1.out 0).trans rfl
      have tk1_1 : u1.cell? ⟨gk, 1, none⟩ = some (.int .i64 k1) := (blk_cell Lk1.out 1).trans rfl
      have tk2_1 : u1.cell? ⟨gk, 2, none⟩ = some (.int .u32 k2) := (blk_cell Lk1.out 2).trans rfl
      have tk3_1 : u1.cell? ⟨gk, 3, none⟩ = some (.int .u32 k3) := (blk_cell Lk1.out 3).trans rfl
      have te0_1 : u1.cell? ⟨ge, 0, none⟩ = some (.int .i64 e0) := (blk_cell Le1.out 0).trans rfl
      have te1_1 : u1.cell? ⟨ge, 1, none⟩ = some (.int .i64 e1) := (blk_cell Le1.out 1).trans rfl
      have te2_1 : u1.cell? ⟨ge, 2, none⟩ = some (.bool e2) := (blk_cell Le1.out 2).trans rfl
      have te3_1 : u1.cell? ⟨ge, 3, none⟩ = some (.int .i64 e3) := (blk_cell Le1.out 3).trans rfl
      have te4_1 : u1.cell? ⟨ge, 4, none⟩ = some (.string e4) := (blk_cell Le1.out 4).trans rfl
      have te5_1 : u1.cell? ⟨ge, 5, none⟩ = some (.string e5) := (blk_cell Le1.out 5).trans rfl
      have te6_1 : u1.cell? ⟨ge, 6, none⟩ = some (.string e6) := (blk_cell Le1.out 6).trans rfl
      have te7_1 : u1.cell? ⟨ge, 7, none⟩ = some (.string e7) := (blk_cell Le1.out 7).trans rfl
      have te8_1 : u1.cell? ⟨ge, 8, none⟩ = some (.slice A e8.length c) := (blk_cell Le1.out 8).trans rfl
      have te9_1 : u1.cell? ⟨ge, 9, none⟩ = some (.string e9) := (blk_cell Le1.out 9).trans rfl
      have tb0_1 : u1.cell? ⟨gb, 0, none⟩ = some (.int .i64 b0) := (blk_cell Lb1.out 0).trans rfl
      have tb1_1 : u1.cell? ⟨gb, 1, none⟩ = some (.int .i64 b1) := (blk_cell Lb1.out 1).trans rfl
      have tb2_1 : u1.cell? ⟨gb, 2, none⟩ = some (.int .u32 b2) := (blk_cell Lb1.out 2).trans rfl
      have tb3_1 : u1.cell? ⟨gb, 3, none⟩ = some (.int .u32 b3) := (blk_cell Lb1.out 3).trans rfl
      have tb4_1 : u1.cell? ⟨gb, 4, none⟩ = some (.int .u64 b4) := (blk_cell Lb1.out 4).trans rfl
      have tb5_1 : u1.cell? ⟨gb, 5, none⟩ = some (.bool b5) := (blk_cell Lb1.out 5).trans rfl
      have M0 : (decide (o4 = 1) && mayB q0 q1 q2 q3 o0 o1 o2 o3 o4) = true → (decide (o4 = 1) && mayB (q0) (q1) ((Go.bits .or .u32 q2 k2)) ((Go.bits .or .u32 q3 k3)) o0 o1 o2 o3 o4) = true := fun h => by rw [Bool.and_eq_true] at h ⊢; exact ⟨h.1, Mmq.out h.2⟩
      generalize (decide (o4 = 1) && mayB q0 q1 q2 q3 o0 o1 o2 o3 o4) = r0 at M0 ⊢
      cases r0 with
      | false =>
        clear M0
        go_wp2_with fail
        refine (my.out q0 q1 q2 q3 _).mono ?_
        rintro e u2 ⟨rfl, hbc⟩
        have BB2 := Lib.hid (below_then BB1.out (BB1.out).size hbc)
        have Lw2 := Lib.hid ((hbc.block _ (blk_lt Lw1.out)).trans Lw1.out)
        have Lq2 := Lib.hid ((hbc.block _ (blk_lt Lq1.out)).trans Lq1.out)
        have Lk2 := Lib.hid ((hbc.block _ (blk_lt Lk1.out)).trans Lk1.out)
        have Le2 := Lib.hid ((hbc.block _ (blk_lt Le1.out)).trans Le1.out)
        have Lb2 := Lib.hid ((hbc.block _ (blk_lt Lb1.out)).trans Lb1.out)
        clear hbc
        have tw0_2 : u2.cell? ⟨v5.heap.size, 0, none⟩ = some (.int .i64 q0) := (blk_cell Lw2.out 0).trans rfl
        have tw1_2 : u2.cell? ⟨v5.heap.size, 1, none⟩ = some (.int .i64 q1) := (blk_cell Lw2.out 1).trans rfl
        have tw2_2 : u2.cell? ⟨v5.heap.size, 2, none⟩ = some (.int .u32 (Go.bits .or .u32 q2 k2)) := (blk_cell Lw2.out 2).trans rfl
        have tw3_2 : u2.cell? ⟨v5.heap.size, 3, none⟩ = some (.int .u32 (Go.bits .or .u32 q3 k3)) := (blk_cell Lw2.out 3).trans rfl
        have tq0_2 : u2.cell? ⟨gq, 0, none⟩ = some (.int .i64 q0) := (blk_cell Lq2.out 0).trans rfl
        have tq1_2 : u2.cell? ⟨gq, 1, none⟩ = some (.int .i64 q1) := (blk_cell Lq2.out 1).trans rfl
        have tq2_2 : u2.cell? ⟨gq, 2, none⟩ = some (.int .u32 q2) := (blk_cell Lq2.out 2).trans rfl
        have tq3_2 : u2.cell? ⟨gq, 3, none⟩ = some (.int .u32 q3) := (blk_cell Lq2.out 3).trans rfl
        have tk0_2 : u2.cell? ⟨gk, 0, none⟩ = some (.int .i64 k0) := (blk_cell Lk2.out 0).trans rfl
        have tk1_2 : u2.cell? ⟨gk, 1, none⟩ = some (.int .i64 k1) := (blk_cell Lk2.out 1).trans rfl
        have tk2_2 : u2.cell? ⟨gk, 2, none⟩ = some (.int .u32 k2) := (blk_cell Lk2.out 2).trans rfl
        have tk3_2 : u2.cell? ⟨gk, 3, none⟩ = some (.int .u32 k3) := (blk_cell Lk2.out 3).trans rfl
        have te0_2 : u2.cell? ⟨ge, 0, none⟩ = some (.int .i64 e0) := (blk_cell Le2.out 0).trans rfl
        have te1_2 : u2.cell? ⟨ge, 1, none⟩ = some (.int .i64 e1) := (blk_cell Le2.out 1).trans rfl
        have te2_2 : u2.cell? ⟨ge, 2, none⟩ = some (.bool e2) := (blk_cell Le2.out 2).trans rfl
        have te3_2 : u2.cell? ⟨ge, 3, none⟩ = some (.int .i64 e3) := (blk_cell Le2.out 3).trans rfl
        have te4_2 : u2.cell? ⟨ge, 4, none⟩ = some (.string e4) := (blk_cell Le2.out 4).trans rfl
        have te5_2 : u2.cell? ⟨ge, 5, none⟩ = some (.string e5) := (blk_cell Le2.out 5).trans rfl
        have te6_2 : u2.cell? ⟨ge, 6, none⟩ = some (.string e6) := (blk_cell Le2.out 6).trans rfl
        have te7_2 : u2.cell? ⟨ge, 7, none⟩ = some (.string e7) := (blk_cell Le2.out 7).trans rfl
        have te8_2 : u2.cell? ⟨ge, 8, none⟩ = some (.slice A e8.length c) := (blk_cell Le2.out 8).trans rfl
        have te9_2 : u2.cell? ⟨ge, 9, none⟩ = some (.string e9) := (blk_cell Le2.out 9).trans rfl
        have tb0_2 : u2.cell? ⟨gb, 0, none⟩ = some (.int .i64 b0) := (blk_cell Lb2.out 0).trans rfl
        have tb1_2 : u2.cell? ⟨gb, 1, none⟩ = some (.int .i64 b1) := (blk_cell Lb2.out 1).trans rfl
        have tb2_2 : u2.cell? ⟨gb, 2, none⟩ = some (.int .u32 b2) := (blk_cell Lb2.out 2).trans rfl
        have tb3_2 : u2.cell? ⟨gb, 3, none⟩ = some (.int .u32 b3) := (blk_cell Lb2.out 3).trans rfl
        have tb4_2 : u2.cell? ⟨gb, 4, none⟩ = some (.int .u64 b4) := (blk_cell Lb2.out 4).trans rfl
        have tb5_2 : u2.cell? ⟨gb, 5, none⟩ = some (.bool b5) := (blk_cell Lb2.out 5).trans rfl
        have M0 := Mbq.out
        generalize mayB q0 q1 q2 q3 b0 b1 b2 b3 b4 = r1 at M0 ⊢
        cases r1 with
        | false =>
          clear M0
          go_wp2_with fail
          refine (my.out k0 k1 k2 k3 _).mono ?_
          rintro e u3 ⟨rfl, hbc⟩
          have BB3 := Lib.hid (below_then BB2.out (BB2.out).size hbc)
          have Lw3 := Lib.hid ((hbc.block _ (blk_lt Lw2.out)).trans Lw2.out)
          have Lq3 := Lib.hid ((hbc.block _ (blk_lt Lq2.out)).trans Lq2.out)
          have Lk3 := Lib.hid ((hbc.block _ (blk_lt Lk2.out)).trans Lk2.out)
          have Le3 := Lib.hid ((hbc.block _ (blk_lt Le2.out)).trans Le2.out)
          have Lb3 := Lib.hid ((hbc.block _ (blk_lt Lb2.out)).trans Lb2.out)
          clear hbc
          have tw0_3 : u3.cell? ⟨v5.heap.size, 0, none⟩ = some (.int .i64 q0) := (blk_cell Lw3.out 0).trans rfl
          have tw1_3 : u3.cell? ⟨v5.heap.size, 1, none⟩ = some (.int .i64 q1) := (blk_cell Lw3.out 1).trans rfl
          have tw2_3 : u3.cell? ⟨v5.heap.size, 2, none⟩ = some (.int .u32 (Go.bits .or .u32 q2 k2)) := (blk_cell Lw3.out 2).trans rfl
          have tw3_3 : u3.cell? ⟨v5.heap.size, 3, none⟩ = some (.int .u32 (Go.bits .or .u32 q3 k3)) := (blk_cell Lw3.out 3).trans rfl
          have tq0_3 : u3.cell? ⟨gq, 0, none⟩ = some (.int .i64 q0) := (blk_cell Lq3.out 0).trans rfl
          have tq1_3 : u3.cell? ⟨gq, 1, none⟩ = some (.int .i64 q1) := (blk_cell Lq3.out 1).trans rfl
          have tq2_3 : u3.cell? ⟨gq, 2, none⟩ = some (.int .u32 q2) := (blk_cell Lq3.out 2).trans rfl
          have tq3_3 : u3.cell? ⟨gq, 3, none⟩ = some (.int .u32 q3) := (blk_cell Lq3.out 3).trans rfl
          have tk0_3 : u3.cell? ⟨gk, 0, none⟩ = some (.int .i64 k0) := (blk_cell Lk3.out 0).trans rfl
          have tk1_3 : u3.cell? ⟨gk, 1, none⟩ = some (.int .i64 k1) := (blk_cell Lk3.out 1).trans rfl
          have tk2_3 : u3.cell? ⟨gk, 2, none⟩ = some (.int .u32 k2) := (blk_cell Lk3.out 2).trans rfl
          have tk3_3 : u3.cell? ⟨gk, 3, none⟩ = some (.int .u32 k3) := (blk_cell Lk3.out 3).trans rfl
          have te0_3 : u3.cell? ⟨ge, 0, none⟩ = some (.int .i64 e0) := (blk_cell Le3.out 0).trans rfl
          have te1_3 : u3.cell? ⟨ge, 1, none⟩ = some (.int .i64 e1) := (blk_cell Le3.out 1).trans rfl
          have te2_3 : u3.cell? ⟨ge, 2, none⟩ = some (.bool e2) := (blk_cell Le3.out 2).trans rfl
          have te3_3 : u3.cell? ⟨ge, 3, none⟩ = some (.int .i64 e3) := (blk_cell Le3.out 3).trans rfl
          have te4_3 : u3.cell? ⟨ge, 4, none⟩ = some (.string e4) := (blk_cell Le3.out 4).trans rfl
          have te5_3 : u3.cell? ⟨ge, 5, none⟩ = some (.string e5) := (blk_cell Le3.out 5).trans rfl
          have te6_3 : u3.cell? ⟨ge, 6, none⟩ = some (.string e6) := (blk_cell Le3.out 6).trans rfl
          have te7_3 : u3.cell? ⟨ge, 7, none⟩ = some (.string e7) := (blk_cell Le3.out 7).trans rfl
          have te8_3 : u3.cell? ⟨ge, 8, none⟩ = some (.slice A e8.length c) := (blk_cell Le3.out 8).trans rfl
          have te9_3 : u3.cell? ⟨ge, 9, none⟩ = some (.string e9) := (blk_cell Le3.out 9).trans rfl
          have tb0_3 : u3.cell? ⟨gb, 0, none⟩ = some (.int .i64 b0) := (blk_cell Lb3.out 0).trans rfl
          have tb1_3 : u3.cell? ⟨gb, 1, none⟩ = some (.int .i64 b1) := (blk_cell Lb3.out 1).trans rfl
          have tb2_3 : u3.cell? ⟨gb, 2, none⟩ = some (.int .u32 b2) := (blk_cell Lb3.out 2).trans rfl
          have tb3_3 : u3.cell? ⟨gb, 3, none⟩ = some (.int .u32 b3) := (blk_cell Lb3.out 3).trans rfl
          have tb4_3 : u3.cell? ⟨gb, 4, none⟩ = some (.int .u64 b4) := (blk_cell Lb3.out 4).trans rfl
          have tb5_3 : u3.cell? ⟨gb, 5, none⟩ = some (.bool b5) := (blk_cell Lb3.out 5).trans rfl
          have M0 := Mbk.out
          generalize mayB k0 k1 k2 k3 b0 b1 b2 b3 b4 = r2 at M0 ⊢
          cases r2 with
          | false =>
            clear M0
            go_wp2_with fail
            go_ret
            exact ⟨rfl, BB3.out⟩
          | true =>
            have M1 := Lib.hid (M0 rfl)
            clear M0
            go_wp2_with fail
            refine (my.out (q0) (q1) ((Go.bits .or .u32 q2 k2)) ((Go.bits .or .u32 q3 k3)) _).mono ?_
            rintro e u4 ⟨rfl, hbc⟩
            have BB4 := Lib.hid (below_then BB3.out (BB3.out).size hbc)
            have Lw4 := Lib.hid ((hbc.block _ (blk_lt Lw3.out)).trans Lw3.out)
            have Lq4 := Lib.hid ((hbc.block _ (blk_lt Lq3.out)).trans Lq3.out)
            have Lk4 := Lib.hid ((hbc.block _ (blk_lt Lk3.out)).trans Lk3.out)
            have Le4 := Lib.hid ((hbc.block _ (blk_lt Le3.out)).trans Le3.out)
            have Lb4 := Lib.hid ((hbc.block _ (blk_lt Lb3.out)).trans Lb3.out)
            clear hbc
            have tw0_4 : u4.cell? ⟨v5.heap.size, 0, none⟩ = some (.int .i64 q0) := (blk_cell Lw4.out 0).trans rfl
            have tw1_4 : u4.cell? ⟨v5.heap.size, 1, none⟩ = some (.int .i64 q1) := (blk_cell Lw4.out 1).trans rfl
            have tw2_4 : u4.cell? ⟨v5.heap.size, 2, none⟩ = some (.int .u32 (Go.bits .or .u32 q2 k2)) := (blk_cell Lw4.out 2).trans rfl
            have tw3_4 : u4.cell? ⟨v5.heap.size, 3, none⟩ = some (.int .u32 (Go.bits .or .u32 q3 k3)) := (blk_cell Lw4.out 3).trans rfl
            have tq0_4 : u4.cell? ⟨gq, 0, none⟩ = some (.int .i64 q0) := (blk_cell Lq4.out 0).trans rfl
            have tq1_4 : u4.cell? ⟨gq, 1, none⟩ = some (.int .i64 q1) := (blk_cell Lq4.out 1).trans rfl
            have tq2_4 : u4.cell? ⟨gq, 2, none⟩ = some (.int .u32 q2) := (blk_cell Lq4.out 2).trans rfl
            have tq3_4 : u4.cell? ⟨gq, 3, none⟩ = some (.int .u32 q3) := (blk_cell Lq4.out 3).trans rfl
            have tk0_4 : u4.cell? ⟨gk, 0, none⟩ = some (.int .i64 k0) := (blk_cell Lk4.out 0).trans rfl
            have tk1_4 : u4.cell? ⟨gk, 1, none⟩ = some (.int .i64 k1) := (blk_cell Lk4.out 1).trans rfl
            have tk2_4 : u4.cell? ⟨gk, 2, none⟩ = some (.int .u32 k2) := (blk_cell Lk4.out 2).trans rfl
            have tk3_4 : u4.cell? ⟨gk, 3, none⟩ = some (.int .u32 k3) := (blk_cell Lk4.out 3).trans rfl
            have te0_4 : u4.cell? ⟨ge, 0, none⟩ = some (.int .i64 e0) := (blk_cell Le4.out 0).trans rfl
            have te1_4 : u4.cell? ⟨ge, 1, none⟩ = some (.int .i64 e1) := (blk_cell Le4.out 1).trans rfl
            have te2_4 : u4.cell? ⟨ge, 2, none⟩ = some (.bool e2) := (blk_cell Le4.out 2).trans rfl
            have te3_4 : u4.cell? ⟨ge, 3, none⟩ = some (.int .i64 e3) := (blk_cell Le4.out 3).trans rfl
            have te4_4 : u4.cell? ⟨ge, 4, none⟩ = some (.string e4) := (blk_cell Le4.out 4).trans rfl
            have te5_4 : u4.cell? ⟨ge, 5, none⟩ = some (.string e5) := (blk_cell Le4.out 5).trans rfl
            have te6_4 : u4.cell? ⟨ge, 6, none⟩ = some (.string e6) := (blk_cell Le4.out 6).trans rfl
            have te7_4 : u4.cell? ⟨ge, 7, none⟩ = some (.string e7) := (blk_cell Le4.out 7).trans rfl
            have te8_4 : u4.cell? ⟨ge, 8, none⟩ = some (.slice A e8.length c) := (blk_cell Le4.out 8).trans rfl
            have te9_4 : u4.cell? ⟨ge, 9, none⟩ = some (.string e9) := (blk_cell Le4.out 9).trans rfl
            have tb0_4 : u4.cell? ⟨gb, 0, none⟩ = some (.int .i64 b0) := (blk_cell Lb4.out 0).trans rfl
            have tb1_4 : u4.cell? ⟨gb, 1, none⟩ = some (.int .i64 b1) := (blk_cell Lb4.out 1).trans rfl
            have tb2_4 : u4.cell? ⟨gb, 2, none⟩ = some (.int .u32 b2) := (blk_cell Lb4.out 2).trans rfl
            have tb3_4 : u4.cell? ⟨gb, 3, none⟩ = some (.int .u32 b3) := (blk_cell Lb4.out 3).trans rfl
            have tb4_4 : u4.cell? ⟨gb, 4, none⟩ = some (.int .u64 b4) := (blk_cell Lb4.out 4).trans rfl
            have tb5_4 : u4.cell? ⟨gb, 5, none⟩ = some (.bool b5) := (blk_cell Lb4.out 5).trans rfl
            rw [M1.out]
            clear M1
            go_wp2_with fail
            go_ret
            exact ⟨rfl, BB4.out⟩
        | true =>
          have M1 := Lib.hid (M0 rfl)
          clear M0
          go_wp2_with fail
          refine (my.out (q0) (q1) ((Go.bits .or .u32 q2 k2)) ((Go.bits .or .u32 q3 k3)) _).mono ?_
          rintro e u5 ⟨rfl, hbc⟩
          have BB5 := Lib.hid (below_then BB2.out (BB2.out).size hbc)
          have Lw5 := Lib.hid ((hbc.block _ (blk_lt Lw2.out)).trans Lw2.out)
          have Lq5 := Lib.hid ((hbc.block _ (blk_lt Lq2.out)).trans Lq2.out)
          have Lk5 := Lib.hid ((hbc.block _ (blk_lt Lk2.out)).trans Lk2.out)
          have Le5 := Lib.hid ((hbc.block _ (blk_lt Le2.out)).trans Le2.out)
          have Lb5 := Lib.hid ((hbc.block _ (blk_lt Lb2.out)).trans Lb2.out)
          clear hbc
          have tw0_5 : u5.cell? ⟨v5.heap.size, 0, none⟩ = some (.int .i64 q0) := (blk_cell Lw5.out 0).trans rfl
          have tw1_5 : u5.cell? ⟨v5.heap.size, 1, none⟩ = some (.int .i64 q1) := (blk_cell Lw5.out 1).trans rfl
          have tw2_5 : u5.cell? ⟨v5.heap.size, 2, none⟩ = some (.int .u32 (Go.bits .or .u32 q2 k2)) := (blk_cell Lw5.out 2).trans rfl
          have tw3_5 : u5.cell? ⟨v5.heap.size, 3, none⟩ = some (.int .u32 (Go.bits .or .u32 q3 k3)) := (blk_cell Lw5.out 3).trans rfl
          have tq0_5 : u5.cell? ⟨gq, 0, none⟩ = some (.int .i64 q0) := (blk_cell Lq5.out 0).trans rfl
          have tq1_5 : u5.cell? ⟨gq, 1, none⟩ = some (.int .i64 q1) := (blk_cell Lq5.out 1).trans rfl
          have tq2_5 : u5.cell? ⟨gq, 2, none⟩ = some (.int .u32 q2) := (blk_cell Lq5.out 2).trans rfl
          have tq3_5 : u5.cell? ⟨gq, 3, none⟩ = some (.int .u32 q3) := (blk_cell Lq5.out 3).trans rfl
          have tk0_5 : u5.cell? ⟨gk, 0, none⟩ = some (.int .i64 k0) := (blk_cell Lk5.out 0).trans rfl
          have tk1_5 : u5.cell? ⟨gk, 1, none⟩ = some (.int .i64 k1) := (blk_cell Lk5.out 1).trans rfl
          have tk2_5 : u5.cell? ⟨gk, 2, none⟩ = some (.int .u32 k2) := (blk_cell Lk5.out 2).trans rfl
          have tk3_5 : u5.cell? ⟨gk, 3, none⟩ = some (.int .u32 k3) := (blk_cell Lk5.out 3).trans rfl
          have te0_5 : u5.cell? ⟨ge, 0, none⟩ = some (.int .i64 e0) := (blk_cell Le5.out 0).trans rfl
          have te1_5 : u5.cell? ⟨ge, 1, none⟩ = some (.int .i64 e1) := (blk_cell Le5.out 1).trans rfl
          have te2_5 : u5.cell? ⟨ge, 2, none⟩ = some (.bool e2) := (blk_cell Le5.out 2).trans rfl
          have te3_5 : u5.cell? ⟨ge, 3, none⟩ = some (.int .i64 e3) := (blk_cell Le5.out 3).trans rfl
          have te4_5 : u5.cell? ⟨ge, 4, none⟩ = some (.string e4) := (blk_cell Le5.out 4).trans rfl
          have te5_5 : u5.cell? ⟨ge, 5, none⟩ = some (.string e5) := (blk_cell Le5.out 5).trans rfl
          have te6_5 : u5.cell? ⟨ge, 6, none⟩ = some (.string e6) := (blk_cell Le5.out 6).trans rfl
          have te7_5 : u5.cell? ⟨ge, 7, none⟩ = some (.string e7) := (blk_cell Le5.out 7).trans rfl
          have te8_5 : u5.cell? ⟨ge, 8, none⟩ = some (.slice A e8.length c) := (blk_cell Le5.out 8).trans rfl
          have te9_5 : u5.cell? ⟨ge, 9, none⟩ = some (.string e9) := (blk_cell Le5.out 9).trans rfl
          have tb0_5 : u5.cell? ⟨gb, 0, none⟩ = some (.int .i64 b0) := (blk_cell Lb5.out 0).trans rfl
          have tb1_5 : u5.cell? ⟨gb, 1, none⟩ = some (.int .i64 b1) := (blk_cell Lb5.out 1).trans rfl
          have tb2_5 : u5.cell? ⟨gb, 2, none⟩ = some (.int .u32 b2) := (blk_cell Lb5.out 2).trans rfl
          have tb3_5 : u5.cell? ⟨gb, 3, none⟩ = some (.int .u32 b3) := (blk_cell Lb5.out 3).trans rfl
          have tb4_5 : u5.cell? ⟨gb, 4, none⟩ = some (.int .u64 b4) := (blk_cell Lb5.out 4).trans rfl
          have tb5_5 : u5.cell? ⟨gb, 5, none⟩ = some (.bool b5) := (blk_cell Lb5.out 5).trans rfl
          rw [M1.out]
          clear M1
          go_wp2_with fail
          refine (my.out k0 k1 k2 k3 _).mono ?_
          rintro e u6 ⟨rfl, hbc⟩
          have BB6 := Lib.hid (below_then BB5.out (BB5.out).size hbc)
          have Lw6 := Lib.hid ((hbc.block _ (blk_lt Lw5.out)).trans Lw5.out)
          have Lq6 := Lib.hid ((hbc.block _ (blk_lt Lq5.out)).trans Lq5.out)
          have Lk6 := Lib.hid ((hbc.block _ (blk_lt Lk5.out)).trans Lk5.out)
          have Le6 := Lib.hid ((hbc.block _ (blk_lt Le5.out)).trans Le5.out)
          have Lb6 := Lib.hid ((hbc.block _ (blk_lt Lb5.out)).trans Lb5.out)
          clear hbc
          have tw0_6 : u6.cell? ⟨v5.heap.size, 0, none⟩ = some (.int .i64 q0) := (blk_cell Lw6.out 0).trans rfl
          have tw1_6 : u6.cell? ⟨v5.heap.size, 1, none⟩ = some (.int .i64 q1) := (blk_cell Lw6.out 1).trans rfl
          have tw2_6 : u6.cell? ⟨v5.heap.size, 2, none⟩ = some (.int .u32 (Go.bits .or .u32 q2 k2)) := (blk_cell Lw6.out 2).trans rfl
          have tw3_6 : u6.cell? ⟨v5.heap.size, 3, none⟩ = some (.int .u32 (Go.bits .or .u32 q3 k3)) := (blk_cell Lw6.out 3).trans rfl
          have tq0_6 : u6.cell? ⟨gq, 0, none⟩ = some (.int .i64 q0) := (blk_cell Lq6.out 0).trans rfl
          have tq1_6 : u6.cell? ⟨gq, 1, none⟩ = some (.int .i64 q1) := (blk_cell Lq6.out 1).trans rfl
          have tq2_6 : u6.cell? ⟨gq, 2, none⟩ = some (.int .u32 q2) := (blk_cell Lq6.out 2).trans rfl
          have tq3_6 : u6.cell? ⟨gq, 3, none⟩ = some (.int .u32 q3) := (blk_cell Lq6.out 3).trans rfl
          have tk0_6 : u6.cell? ⟨gk, 0, none⟩ = some (.int .i64 k0) := (blk_cell Lk6.out 0).trans rfl
          have tk1_6 : u6.cell? ⟨gk, 1, none⟩ = some (.int .i64 k1) := (blk_cell Lk6.out 1).trans rfl
          have tk2_6 : u6.cell? ⟨gk, 2, none⟩ = some (.int .u32 k2) := (blk_cell Lk6.out 2).trans rfl
          have tk3_6 : u6.cell? ⟨gk, 3, none⟩ = some (.int .u32 k3) := (blk_cell Lk6.out 3).trans rfl
          have te0_6 : u6.cell? ⟨ge, 0, none⟩ = some (.int .i64 e0) := (blk_cell Le6.out 0).trans rfl
          have te1_6 : u6.cell? ⟨ge, 1, none⟩ = some (.int .i64 e1) := (blk_cell Le6.out 1).trans rfl
          have te2_6 : u6.cell? ⟨ge, 2, none⟩ = some (.bool e2) := (blk_cell Le6.out 2).trans rfl
          have te3_6 : u6.cell? ⟨ge, 3, none⟩ = some (.int .i64 e3) := (blk_cell Le6.out 3).trans rfl
          have te4_6 : u6.cell? ⟨ge, 4, none⟩ = some (.string e4) := (blk_cell Le6.out 4).trans rfl
          have te5_6 : u6.cell? ⟨ge, 5, none⟩ = some (.string e5) := (blk_cell Le6.out 5).trans rfl
          have te6_6 : u6.cell? ⟨ge, 6, none⟩ = some (.string e6) := (blk_cell Le6.out 6).trans rfl
          have te7_6 : u6.cell? ⟨ge, 7, none⟩ = some (.string e7) := (blk_cell Le6.out 7).trans rfl
          have te8_6 : u6.cell? ⟨ge, 8, none⟩ = some (.slice A e8.length c) := (blk_cell Le6.out 8).trans rfl
          have te9_6 : u6.cell? ⟨ge, 9, none⟩ = some (.string e9) := (blk_cell Le6.out 9).trans rfl
          have tb0_6 : u6.cell? ⟨gb, 0, none⟩ = some (.int .i64 b0) := (blk_cell Lb6.out 0).trans rfl
          have tb1_6 : u6.cell? ⟨gb, 1, none⟩ = some (.int .i64 b1) := (blk_cell Lb6.out 1).trans rfl
          have tb2_6 : u6.cell? ⟨gb, 2, none⟩ = some (.int .u32 b2) := (blk_cell Lb6.out 2).trans rfl
          have tb3_6 : u6.cell? ⟨gb, 3, none⟩ = some (.int .u32 b3) := (blk_cell Lb6.out 3).trans rfl
          have tb4_6 : u6.cell? ⟨gb, 4, none⟩ = some (.int .u64 b4) := (blk_cell Lb6.out 4).trans rfl
          have tb5_6 : u6.cell? ⟨gb, 5, none⟩ = some (.bool b5) := (blk_cell Lb6.out 5).trans rfl
          have M0 := Mbk.out
          generalize mayB k0 k1 k2 k3 b0 b1 b2 b3 b4 = r2 at M0 ⊢
          cases r2 with
          | false =>
            clear M0
            go_wp2_with fail
            go_ret
            exact ⟨rfl, BB6.out⟩
          | true =>
            have M1 := Lib.hid (M0 rfl)
            clear M0
            go_wp2_with fail
            refine (my.out (q0) (q1) ((Go.bits .or .u32 q2 k2)) ((Go.bits .or .u32 q3 k3)) _).mono ?_
            rintro e u7 ⟨rfl, hbc⟩
            have BB7 := Lib.hid (below_then BB6.out (BB6.out).size hbc)
            have Lw7 := Lib.hid ((hbc.block _ (blk_lt Lw6.out)).trans Lw6.out)
            have Lq7 := Lib.hid ((hbc.block _ (blk_lt Lq6.out)).trans Lq6.out)
            have Lk7 := Lib.hid ((hbc.block _ (blk_lt Lk6.out)).trans Lk6.out)
            have Le7 := Lib.hid ((hbc.block _ (blk_lt Le6.out)).trans Le6.out)
            have Lb7 := Lib.hid ((hbc.block _ (blk_lt Lb6.out)).trans Lb6.out)
            clear hbc
            have tw0_7 : u7.cell? ⟨v5.heap.size, 0, none⟩ = some (.int .i64 q0) := (blk_cell Lw7.out 0).trans rfl
            have tw1_7 : u7.cell? ⟨v5.heap.size, 1, none⟩ = some (.int .i64 q1) := (blk_cell Lw7.out 1).trans rfl
            have tw2_7 : u7.cell? ⟨v5.heap.size, 2, none⟩ = some (.int .u32 (Go.bits .or .u32 q2 k2)) := (blk_cell Lw7.out 2).trans rfl
            have tw3_7 : u7.cell? ⟨v5.heap.size, 3, none⟩ = some (.int .u32 (Go.bits .or .u32 q3 k3)) := (blk_cell Lw7.out 3).trans rfl
            have tq0_7 : u7.cell? ⟨gq, 0, none⟩ = some (.int .i64 q0) := (blk_cell Lq7.out 0).trans rfl
            have tq1_7 : u7.cell? ⟨gq, 1, none⟩ = some (.int .i64 q1) := (blk_cell Lq7.out 1).trans rfl
            have tq2_7 : u7.cell? ⟨gq, 2, none⟩ = some (.int .u32 q2) := (blk_cell Lq7.out 2).trans rfl
            have tq3_7 : u7.cell? ⟨gq, 3, none⟩ = some (.int .u32 q3) := (blk_cell Lq7.out 3).trans rfl
            have tk0_7 : u7.cell? ⟨gk, 0, none⟩ = some (.int .i64 k0) := (blk_cell Lk7.out 0).trans rfl
            have tk1_7 : u7.cell? ⟨gk, 1, none⟩ = some (.int .i64 k1) := (blk_cell Lk7.out 1).trans rfl
            have tk2_7 : u7.cell? ⟨gk, 2, none⟩ = some (.int .u32 k2) := (blk_cell Lk7.out 2).trans rfl
            have tk3_7 : u7.cell? ⟨gk, 3, none⟩ = some (.int .u32 k3) := (blk_cell Lk7.out 3).trans rfl
            have te0_7 : u7.cell? ⟨ge, 0, none⟩ = some (.int .i64 e0) := (blk_cell Le7.out 0).trans rfl
            have te1_7 : u7.cell? ⟨ge, 1, none⟩ = some (.int .i64 e1) := (blk_cell Le7.out 1).trans rfl
            have te2_7 : u7.cell? ⟨ge, 2, none⟩ = some (.bool e2) := (blk_cell Le7.out 2).trans rfl
            have te3_7 : u7.cell? ⟨ge, 3, none⟩ = some (.int .i64 e3) := (blk_cell Le7.out 3).trans rfl
            have te4_7 : u7.cell? ⟨ge, 4, none⟩ = some (.string e4) := (blk_cell Le7.out 4).trans rfl
            have te5_7 : u7.cell? ⟨ge, 5, none⟩ = some (.string e5) := (blk_cell Le7.out 5).trans rfl
            have te6_7 : u7.cell? ⟨ge, 6, none⟩ = some (.string e6) := (blk_cell Le7.out 6).trans rfl
            have te7_7 : u7.cell? ⟨ge, 7, none⟩ = some (.string e7) := (blk_cell Le7.out 7).trans rfl
            have te8_7 : u7.cell? ⟨ge, 8, none⟩ = some (.slice A e8.length c) := (blk_cell Le7.out 8).trans rfl
            have te9_7 : u7.cell? ⟨ge, 9, none⟩ = some (.string e9) := (blk_cell Le7.out 9).trans rfl
            have tb0_7 : u7.cell? ⟨gb, 0, none⟩ = some (.int .i64 b0) := (blk_cell Lb7.out 0).trans rfl
            have tb1_7 : u7.cell? ⟨gb, 1, none⟩ = some (.int .i64 b1) := (blk_cell Lb7.out 1).trans rfl
            have tb2_7 : u7.cell? ⟨gb, 2, none⟩ = some (.int .u32 b2) := (blk_cell Lb7.out 2).trans rfl
            have tb3_7 : u7.cell? ⟨gb, 3, none⟩ = some (.int .u32 b3) := (blk_cell Lb7.out 3).trans rfl
            have tb4_7 : u7.cell? ⟨gb, 4, none⟩ = some (.int .u64 b4) := (blk_cell Lb7.out 4).trans rfl
            have tb5_7 : u7.cell? ⟨gb, 5, none⟩ = some (.bool b5) := (blk_cell Lb7.out 5).trans rfl
            rw [M1.out]
            clear M1
            go_wp2_with fail
            go_ret
            exact ⟨rfl, BB7.out⟩
      | true =>
        have M1 := Lib.hid (M0 rfl)
        clear M0
        go_wp2_with fail
        refine (mt.out (q0) (q1) ((Go.bits .or .u32 q2 k2)) ((Go.bits .or .u32 q3 k3)) _ BB1.out).mono ?_
        rintro e u8 ⟨rfl, hbc⟩
        have BB8 := Lib.hid (below_then BB1.out (BB1.out).size hbc)
        have Lw8 := Lib.hid ((hbc.block _ (blk_lt Lw1.out)).trans Lw1.out)
        have Lq8 := Lib.hid ((hbc.block _ (blk_lt Lq1.out)).trans Lq1.out)
        have Lk8 := Lib.hid ((hbc.block _ (blk_lt Lk1.out)).trans Lk1.out)
        have Le8 := Lib.hid ((hbc.block _ (blk_lt Le1.out)).trans Le1.out)
        have Lb8 := Lib.hid ((hbc.block _ (blk_lt Lb1.out)).trans Lb1.out)
        clear hbc
        have tw0_8 : u8.cell? ⟨v5.heap.size, 0, none⟩ = some (.int .i64 q0) := (blk_cell Lw8.out 0).trans rfl
        have tw1_8 : u8.cell? ⟨v5.heap.size, 1, none⟩ = some (.int .i64 q1) := (blk_cell Lw8.out 1).trans rfl
        have tw2_8 : u8.cell? ⟨v5.heap.size, 2, none⟩ = some (.int .u32 (Go.bits .or .u32 q2 k2)) := (blk_cell Lw8.out 2).trans rfl
        have tw3_8 : u8.cell? ⟨v5.heap.size, 3, none⟩ = some (.int .u32 (Go.bits .or .u32 q3 k3)) := (blk_cell Lw8.out 3).trans rfl
        have tq0_8 : u8.cell? ⟨gq, 0, none⟩ = some (.int .i64 q0) := (blk_cell Lq8.out 0).trans rfl
        have tq1_8 : u8.cell? ⟨gq, 1, none⟩ = some (.int .i64 q1) := (blk_cell Lq8.out 1).trans rfl
        have tq2_8 : u8.cell? ⟨gq, 2, none⟩ = some (.int .u32 q2) := (blk_cell Lq8.out 2).trans rfl
        have tq3_8 : u8.cell? ⟨gq, 3, none⟩ = some (.int .u32 q3) := (blk_cell Lq8.out 3).trans rfl
        have tk0_8 : u8.cell? ⟨gk, 0, none⟩ = some (.int .i64 k0) := (blk_cell Lk8.out 0).trans rfl
        have tk1_8 : u8.cell? ⟨gk, 1, none⟩ = some (.int .i64 k1) := (blk_cell Lk8.out 1).trans rfl
        have tk2_8 : u8.cell? ⟨gk, 2, none⟩ = some (.int .u32 k2) := (blk_cell Lk8.out 2).trans rfl
        have tk3_8 : u8.cell? ⟨gk, 3, none⟩ = some (.int .u32 k3) := (blk_cell Lk8.out 3).trans rfl
        have te0_8 : u8.cell? ⟨ge, 0, none⟩ = some (.int .i64 e0) := (blk_cell Le8.out 0).trans rfl
        have te1_8 : u8.cell? ⟨ge, 1, none⟩ = some (.int .i64 e1) := (blk_cell Le8.out 1).trans rfl
        have te2_8 : u8.cell? ⟨ge, 2, none⟩ = some (.bool e2) := (blk_cell Le8.out 2).trans rfl
        have te3_8 : u8.cell? ⟨ge, 3, none⟩ = some (.int .i64 e3) := (blk_cell Le8.out 3).trans rfl
        have te4_8 : u8.cell? ⟨ge, 4, none⟩ = some (.string e4) := (blk_cell Le8.out 4).trans rfl
        have te5_8 : u8.cell? ⟨ge, 5, none⟩ = some (.string e5) := (blk_cell Le8.out 5).trans rfl
        have te6_8 : u8.cell? ⟨ge, 6, none⟩ = some (.string e6) := (blk_cell Le8.out 6).trans rfl
        have te7_8 : u8.cell? ⟨ge, 7, none⟩ = some (.string e7) := (blk_cell Le8.out 7).trans rfl
        have te8_8 : u8.cell? ⟨ge, 8, none⟩ = some (.slice A e8.length c) := (blk_cell Le8.out 8).trans rfl
        have te9_8 : u8.cell? ⟨ge, 9, none⟩ = some (.string e9) := (blk_cell Le8.out 9).trans rfl
        have tb0_8 : u8.cell? ⟨gb, 0, none⟩ = some (.int .i64 b0) := (blk_cell Lb8.out 0).trans rfl
        have tb1_8 : u8.cell? ⟨gb, 1, none⟩ = some (.int .i64 b1) := (blk_cell Lb8.out 1).trans rfl
        have tb2_8 : u8.cell? ⟨gb, 2, none⟩ = some (.int .u32 b2) := (blk_cell Lb8.out 2).trans rfl
        have tb3_8 : u8.cell? ⟨gb, 3, none⟩ = some (.int .u32 b3) := (blk_cell Lb8.out 3).trans rfl
        have tb4_8 : u8.cell? ⟨gb, 4, none⟩ = some (.int .u64 b4) := (blk_cell Lb8.out 4).trans rfl
        have tb5_8 : u8.cell? ⟨gb, 5, none⟩ = some (.bool b5) := (blk_cell Lb8.out 5).trans rfl
        rw [M1.out]
        clear M1
        go_wp2_with fail
        refine (my.out q0 q1 q2 q3 _).mono ?_
        rintro e u9 ⟨rfl, hbc⟩
        have BB9 := Lib.hid (below_then BB8.out (BB8.out).size hbc)
        have Lw9 := Lib.hid ((hbc.block _ (blk_lt Lw8.out)).trans Lw8.out)
        have Lq9 := Lib.hid ((hbc.block _ (blk_lt Lq8.out)).trans Lq8.out)
        have Lk9 := Lib.hid ((hbc.block _ (blk_lt Lk8.out)).trans Lk8.out)
        have Le9 := Lib.hid ((hbc.block _ (blk_lt Le8.out)).trans Le8.out)
        have Lb9 := Lib.hid ((hbc.block _ (blk_lt Lb8.out)).trans Lb8.out)
        clear hbc
        have tw0_9 : u9.cell? ⟨v5.heap.size, 0, none⟩ = some (.int .i64 q0) := (blk_cell Lw9.out 0).trans rfl
        have tw1_9 : u9.cell? ⟨v5.heap.size, 1, none⟩ = some (.int .i64 q1) := (blk_cell Lw9.out 1).trans rfl
        have tw2_9 : u9.cell? ⟨v5.heap.size, 2, none⟩ = some (.int .u32 (Go.bits .or .u32 q2 k2)) := (blk_cell Lw9.out 2).trans rfl
        have tw3_9 : u9.cell? ⟨v5.heap.size, 3, none⟩ = some (.int .u32 (Go.bits .or .u32 q3 k3)) := (blk_cell Lw9.out 3).trans rfl
        have tq0_9 : u9.cell? ⟨gq, 0, none⟩ = some (.int .i64 q0) := (blk_cell Lq9.out 0).trans rfl
        have tq1_9 : u9.cell? ⟨gq, 1, none⟩ = some (.int .i64 q1) := (blk_cell Lq9.out 1).trans rfl
        have tq2_9 : u9.cell? ⟨gq, 2, none⟩ = some (.int .u32 q2) := (blk_cell Lq9.out 2).trans rfl
        have tq3_9 : u9.cell? ⟨gq, 3, none⟩ = some (.int .u32 q3) := (blk_cell Lq9.out 3).trans rfl
        have tk0_9 : u9.cell? ⟨gk, 0, none⟩ = some (.int .i64 k0) := (blk_cell Lk9.out 0).trans rfl
        have tk1_9 : u9.cell? ⟨gk, 1, none⟩ = some (.int .i64 k1) := (blk_cell Lk9.out 1).trans rfl
        have tk2_9 : u9.cell? ⟨gk, 2, none⟩ = some (.int .u32 k2) := (blk_cell Lk9.out 2).trans rfl
        have tk3_9 : u9.cell? ⟨gk, 3, none⟩ = some (.int .u32 k3) := (blk_cell Lk9.out 3).trans rfl
        have te0_9 : u9.cell? ⟨ge, 0, none⟩ = some (.int .i64 e0) := (blk_cell Le9.out 0).trans rfl
        have te1_9 : u9.cell? ⟨ge, 1, none⟩ = some (.int .i64 e1) := (blk_cell Le9.out 1).trans rfl
        have te2_9 : u9.cell? ⟨ge, 2, none⟩ = some (.bool e2) := (blk_cell Le9.out 2).trans rfl
        have te3_9 : u9.cell? ⟨ge, 3, none⟩ = some (.int .i64 e3) := (blk_cell Le9.out 3).trans rfl
        have te4_9 : u9.cell? ⟨ge, 4, none⟩ = some (.string e4) := (blk_cell Le9.out 4).trans rfl
        have te5_9 : u9.cell? ⟨ge, 5, none⟩ = some (.string e5) := (blk_cell Le9.out 5).trans rfl
        have te6_9 : u9.cell? ⟨ge, 6, none⟩ = some (.string e6) := (blk_cell Le9.out 6).trans rfl
        have te7_9 : u9.cell? ⟨ge, 7, none⟩ = some (.string e7) := (blk_cell Le9.out 7).trans rfl
        have te8_9 : u9.cell? ⟨ge, 8, none⟩ = some (.slice A e8.length c) := (blk_cell Le9.out 8).trans rfl
        have te9_9 : u9.cell? ⟨ge, 9, none⟩ = some (.string e9) := (blk_cell Le9.out 9).trans rfl
        have tb0_9 : u9.cell? ⟨gb, 0, none⟩ = some (.int .i64 b0) := (blk_cell Lb9.out 0).trans rfl
        have tb1_9 : u9.cell? ⟨gb, 1, none⟩ = some (.int .i64 b1) := (blk_cell Lb9.out 1).trans rfl
        have tb2_9 : u9.cell? ⟨gb, 2, none⟩ = some (.int .u32 b2) := (blk_cell Lb9.out 2).trans rfl
        have tb3_9 : u9.cell? ⟨gb, 3, none⟩ = some (.int .u32 b3) := (blk_cell Lb9.out 3).trans rfl
        have tb4_9 : u9.cell? ⟨gb, 4, none⟩ = some (.int .u64 b4) := (blk_cell Lb9.out 4).trans rfl
        have tb5_9 : u9.cell? ⟨gb, 5, none⟩ = some (.bool b5) := (blk_cell Lb9.out 5).trans rfl
        have M0 := Mbq.out
        generalize mayB q0 q1 q2 q3 b0 b1 b2 b3 b4 = r1 at M0 ⊢
        cases r1 with
        | false =>
          clear M0
          go_wp2_with fail
          refine (my.out k0 k1 k2 k3 _).mono ?_
          rintro e u10 ⟨rfl, hbc⟩
          have BB10 := Lib.hid (below_then BB9.out (BB9.out).size hbc)
          have Lw10 := Lib.hid ((hbc.block _ (blk_lt Lw9.out)).trans Lw9.out)
          have Lq10 := Lib.hid ((hbc.block _ (blk_lt Lq9.out)).trans Lq9.out)
          have Lk10 := Lib.hid ((hbc.block _ (blk_lt Lk9.out)).trans Lk9.out)
          have Le10 := Lib.hid ((hbc.block _ (blk_lt Le9.out)).trans Le9.out)
          have Lb10 := Lib.hid ((hbc.block _ (blk_lt Lb9.out)).trans Lb9.out)
          clear hbc
          have tw0_10 : u10.cell? ⟨v5.heap.size, 0, none⟩ = some (.int .i64 q0) := (blk_cell Lw10.out 0).trans rfl
          have tw1_10 : u10.cell? ⟨v5.heap.size, 1, none⟩ = some (.int .i64 q1) := (blk_cell Lw10.out 1).trans rfl
          have tw2_10 : u10.cell? ⟨v5.heap.size, 2, none⟩ = some (.int .u32 (Go.bits .or .u32 q2 k2)) := (blk_cell Lw10.out 2).trans rfl
          have tw3_10 : u10.cell? ⟨v5.heap.size, 3, none⟩ = some (.int .u32 (Go.bits .or .u32 q3 k3)) := (blk_cell Lw10.out 3).trans rfl
          have tq0_10 : u10.cell? ⟨gq, 0, none⟩ = some (.int .i64 q0) := (blk_cell Lq10.out 0).trans rfl
          have tq1_10 : u10.cell? ⟨gq, 1, none⟩ = some (.int .i64 q1) := (blk_cell Lq10.out 1).trans rfl
          have tq2_10 : u10.cell? ⟨gq, 2, none⟩ = some (.int .u32 q2) := (blk_cell Lq10.out 2).trans rfl
          have tq3_10 : u10.cell? ⟨gq, 3, none⟩ = some (.int .u32 q3) := (blk_cell Lq10.out 3).trans rfl
          have tk0_10 : u10.cell? ⟨gk, 0, none⟩ = some (.int .i64 k0) := (blk_cell Lk10.out 0).trans rfl
          have tk1_10 : u10.cell? ⟨gk, 1, none⟩ = some (.int .i64 k1) := (blk_cell Lk10.out 1).trans rfl
          have tk2_10 : u10.cell? ⟨gk, 2, none⟩ = some (.int .u32 k2) := (blk_cell Lk10.out 2).trans rfl
          have tk3_10 : u10.cell? ⟨gk, 3, none⟩ = some (.int .u32 k3) := (blk_cell Lk10.out 3).trans rfl
          have te0_10 : u10.cell? ⟨ge, 0, none⟩ = some (.int .i64 e0) := (blk_cell Le10.out 0).trans rfl
          have te1_10 : u10.cell? ⟨ge, 1, none⟩ = some (.int .i64 e1) := (blk_cell Le10.out 1).trans rfl
          have te2_10 : u10.cell? ⟨ge, 2, none⟩ = some (.bool e2) := (blk_cell Le10.out 2).trans rfl
          have te3_10 : u10.cell? ⟨ge, 3, none⟩ = some (.int .i64 e3) := (blk_cell Le10.out 3).trans rfl
          have te4_10 : u10.cell? ⟨ge, 4, none⟩ = some (.string e4) := (blk_cell Le10.out 4).trans rfl
          have te5_10 : u10.cell? ⟨ge, 5, none⟩ = some (.string e5) := (blk_cell Le10.out 5).trans rfl
          have te6_10 : u10.cell? ⟨ge, 6, none⟩ = some (.string e6) := (blk_cell Le10.out 6).trans rfl
          have te7_10 : u10.cell? ⟨ge, 7, none⟩ = some (.string e7) := (blk_cell Le10.out 7).trans rfl
          have te8_10 : u10.cell? ⟨ge, 8, none⟩ = some (.slice A e8.length c) := (blk_cell Le10.out 8).trans rfl
          have te9_10 : u10.cell? ⟨ge, 9, none⟩ = some (.string e9) := (blk_cell Le10.out 9).trans rfl
          have tb0_10 : u10.cell? ⟨gb, 0, none⟩ = some (.int .i64 b0) := (blk_cell Lb10.out 0).trans rfl
          have tb1_10 : u10.cell? ⟨gb, 1, none⟩ = some (.int .i64 b1) := (blk_cell Lb10.out 1).trans rfl
          have tb2_10 : u10.cell? ⟨gb, 2, none⟩ = some (.int .u32 b2) := (blk_cell Lb10.out 2).trans rfl
          have tb3_10 : u10.cell? ⟨gb, 3, none⟩ = some (.int .u32 b3) := (blk_cell Lb10.out 3).trans rfl
          have tb4_10 : u10.cell? ⟨gb, 4, none⟩ = some (.int .u64 b4) := (blk_cell Lb10.out 4).trans rfl
          have tb5_10 : u10.cell? ⟨gb, 5, none⟩ = some (.bool b5) := (blk_cell Lb10.out 5).trans rfl
          have M0 := Mbk.out
          generalize mayB k0 k1 k2 k3 b0 b1 b2 b3 b4 = r2 at M0 ⊢
          cases r2 with
          | false =>
            clear M0
            go_wp2_with fail
            go_ret
            exact ⟨rfl, BB10.out⟩
          | true =>
            have M1 := Lib.hid (M0 rfl)
            clear M0
            go_wp2_with fail
            refine (my.out (q0) (q1) ((Go.bits .or .u32 q2 k2)) ((Go.bits .or .u32 q3 k3)) _).mono ?_
            rintro e u11 ⟨rfl, hbc⟩
            have BB11 := Lib.hid (below_then BB10.out (BB10.out).size hbc)
            have Lw11 := Lib.hid ((hbc.block _ (blk_lt Lw10.out)).trans Lw10.out)
            have Lq11 := Lib.hid ((hbc.block _ (blk_lt Lq10.out)).trans Lq10.out)
            have Lk11 := Lib.hid ((hbc.block _ (blk_lt Lk10.out)).trans Lk10.out)
            have Le11 := Lib.hid ((hbc.block _ (blk_lt Le10.out)).trans Le10.out)
            have Lb11 := Lib.hid ((hbc.block _ (blk_lt Lb10.out)).trans Lb10.out)
            clear hbc
            have tw0_11 : u11.cell? ⟨v5.heap.size, 0, none⟩ = some (.int .i64 q0) := (blk_cell Lw11.out 0).trans rfl
            have tw1_11 : u11.cell? ⟨v5.heap.size, 1, none⟩ = some (.int .i64 q1) := (blk_cell Lw11.out 1).trans rfl
            have tw2_11 : u11.cell? ⟨v5.heap.size, 2, none⟩ = some (.int .u32 (Go.bits .or .u32 q2 k2)) := (blk_cell Lw11.out 2).trans rfl
            have tw3_11 : u11.cell? ⟨v5.heap.size, 3, none⟩ = some (.int .u32 (Go.bits .or .u32 q3 k3)) := (blk_cell Lw11.out 3).trans rfl
            have tq0_11 : u11.cell? ⟨gq, 0, none⟩ = some (.int .i64 q0) := (blk_cell Lq11.out 0).trans rfl
            have tq1_11 : u11.cell? ⟨gq, 1, none⟩ = some (.int .i64 q1) := (blk_cell Lq11.out 1).trans rfl
            have tq2_11 : u11.cell? ⟨gq, 2, none⟩ = some (.int .u32 q2) := (blk_cell Lq11.out 2).trans rfl
            have tq3_11 : u11.cell? ⟨gq, 3, none⟩ = some (.int .u32 q3) := (blk_cell Lq11.out 3).trans rfl
            have tk0_11 : u11.cell? ⟨gk, 0, none⟩ = some (.int .i64 k0) := (blk_cell Lk11.out 0).trans rfl
            have tk1_11 : u11.cell? ⟨gk, 1, none⟩ = some (.int .i64 k1) := (blk_cell Lk11.out 1).trans rfl
            have tk2_11 : u11.cell? ⟨gk, 2, none⟩ = some (.int .u32 k2) := (blk_cell Lk11.out 2).trans rfl
            have tk3_11 : u11.cell? ⟨gk, 3, none⟩ = some (.int .u32 k3) := (blk_cell Lk11.out 3).trans rfl
            have te0_11 : u11.cell? ⟨ge, 0, none⟩ = some (.int .i64 e0) := (blk_cell Le11.out 0).trans rfl
            have te1_11 : u11.cell? ⟨ge, 1, none⟩ = some (.int .i64 e1) := (blk_cell Le11.out 1).trans rfl
            have te2_11 : u11.cell? ⟨ge, 2, none⟩ = some (.bool e2) := (blk_cell Le11.out 2).trans rfl
            have te3_11 : u11.cell? ⟨ge, 3, none⟩ = some (.int .i64 e3) := (blk_cell Le11.out 3).trans rfl
            have te4_11 : u11.cell? ⟨ge, 4, none⟩ = some (.string e4) := (blk_cell Le11.out 4).trans rfl
            have te5_11 : u11.cell? ⟨ge, 5, none⟩ = some (.string e5) := (blk_cell Le11.out 5).trans rfl
            have te6_11 : u11.cell? ⟨ge, 6, none⟩ = some (.string e6) := (blk_cell Le11.out 6).trans rfl
            have te7_11 : u11.cell? ⟨ge, 7, none⟩ = some (.string e7) := (blk_cell Le11.out 7).trans rfl
            have te8_11 : u11.cell? ⟨ge, 8, none⟩ = some (.slice A e8.length c) := (blk_cell Le11.out 8).trans rfl
            have te9_11 : u11.cell? ⟨ge, 9, none⟩ = some (.string e9) := (blk_cell Le11.out 9).trans rfl
            have tb0_11 : u11.cell? ⟨gb, 0, none⟩ = some (.int .i64 b0) := (blk_cell Lb11.out 0).trans rfl
            have tb1_11 : u11.cell? ⟨gb, 1, none⟩ = some (.int .i64 b1) := (blk_cell Lb11.out 1).trans rfl
            have tb2_11 : u11.cell? ⟨gb, 2, none⟩ = some (.int .u32 b2) := (blk_cell Lb11.out 2).trans rfl
            have tb3_11 : u11.cell? ⟨gb, 3, none⟩ = some (.int .u32 b3) := (blk_cell Lb11.out 3).trans rfl
            have tb4_11 : u11.cell? ⟨gb, 4, none⟩ = some (.int .u64 b4) := (blk_cell Lb11.out 4).trans rfl
            have tb5_11 : u11.cell? ⟨gb, 5, none⟩ = some (.bool b5) := (blk_cell Lb11.out 5).trans rfl
            rw [M1.out]
            clear M1
            go_wp2_with fail
            go_ret
            exact ⟨rfl, BB11.out⟩
        | true =>
          have M1 := Lib.hid (M0 rfl)
          clear M0
          go_wp2_with fail
          refine (my.out (q0) (q1) ((Go.bits .or .u32 q2 k2)) ((Go.bits .or .u32 q3 k3)) _).mono ?_
          rintro e u12 ⟨rfl, hbc⟩
          have BB12 := Lib.hid (below_then BB9.out (BB9.out).size hbc)
          have Lw12 := Lib.hid ((hbc.block _ (blk_lt Lw9.out)).trans Lw9.out)
          have Lq12 := Lib.hid ((hbc.block _ (blk_lt Lq9.out)).trans Lq9.out)
          have Lk12 := Lib.hid ((hbc.block _ (blk_lt Lk9.out)).trans Lk9.out)
          have Le12 := Lib.hid ((hbc.block _ (blk_lt Le9.out)).trans Le9.out)
          have Lb12 := Lib.hid ((hbc.block _ (blk_lt Lb9.out)).trans Lb9.out)
          clear hbc
          have tw0_12 : u12.cell? ⟨v5.heap.size, 0, none⟩ = some (.int .i64 q0) := (blk_cell Lw12.out 0).trans rfl
          have tw1_12 : u12.cell? ⟨v5.heap.size, 1, none⟩ = some (.int .i64 q1) := (blk_cell Lw12.out 1).trans rfl
          have tw2_12 : u12.cell? ⟨v5.heap.size, 2, none⟩ = some (.int .u32 (Go.bits .or .u32 q2 k2)) := (blk_cell Lw12.out 2).trans rfl
          have tw3_12 : u12.cell? ⟨v5.heap.size, 3, none⟩ = some (.int .u32 (Go.bits .or .u32 q3 k3)) := (blk_cell Lw12.out 3).trans rfl
          have tq0_12 : u12.cell? ⟨gq, 0, none⟩ = some (.int .i64 q0) := (blk_cell Lq12.out 0).trans rfl
          have tq1_12 : u12.cell? ⟨gq, 1, none⟩ = some (.int .i64 q1) := (blk_cell Lq12.out 1).trans rfl
          have tq2_12 : u12.cell? ⟨gq, 2, none⟩ = some (.int .u32 q2) := (blk_cell Lq12.out 2).trans rfl
          have tq3_12 : u12.cell? ⟨gq, 3, none⟩ = some (.int .u32 q3) := (blk_cell Lq12.out 3).trans rfl
          have tk0_12 : u12.cell? ⟨gk, 0, none⟩ = some (.int .i64 k0) := (blk_cell Lk12.out 0).trans rfl
          have tk1_12 : u12.cell? ⟨gk, 1, none⟩ = some (.int .i64 k1) := (blk_cell Lk12.out 1).trans rfl
          have tk2_12 : u12.cell? ⟨gk, 2, none⟩ = some (.int .u32 k2) := (blk_cell Lk12.out 2).trans rfl
          have tk3_12 : u12.cell? ⟨gk, 3, none⟩ = some (.int .u32 k3) := (blk_cell Lk12.out 3).trans rfl
          have te0_12 : u12.cell? ⟨ge, 0, none⟩ = some (.int .i64 e0) := (blk_cell Le12.out 0).trans rfl
          have te1_12 : u12.cell? ⟨ge, 1, none⟩ = some (.int .i64 e1) := (blk_cell Le12.out 1).trans rfl
          have te2_12 : u12.cell? ⟨ge, 2, none⟩ = some (.bool e2) := (blk_cell Le12.out 2).trans rfl
          have te3_12 : u12.cell? ⟨ge, 3, none⟩ = some (.int .i64 e3) := (blk_cell Le12.out 3).trans rfl
          have te4_12 : u12.cell? ⟨ge, 4, none⟩ = some (.string e4) := (blk_cell Le12.out 4).trans rfl
          have te5_12 : u12.cell? ⟨ge, 5, none⟩ = some (.string e5) := (blk_cell Le12.out 5).trans rfl
          have te6_12 : u12.cell? ⟨ge, 6, none⟩ = some (.string e6) := (blk_cell Le12.out 6).trans rfl
          have te7_12 : u12.cell? ⟨ge, 7, none⟩ = some (.string e7) := (blk_cell Le12.out 7).trans rfl
          have te8_12 : u12.cell? ⟨ge, 8, none⟩ = some (.slice A e8.length c) := (blk_cell Le12.out 8).trans rfl
          have te9_12 : u12.cell? ⟨ge, 9, none⟩ = some (.string e9) := (blk_cell Le12.out 9).trans rfl
          have tb0_12 : u12.cell? ⟨gb, 0, none⟩ = some (.int .i64 b0) := (blk_cell Lb12.out 0).trans rfl
          have tb1_12 : u12.cell? ⟨gb, 1, none⟩ = some (.int .i64 b1) := (blk_cell Lb12.out 1).trans rfl
          have tb2_12 : u12.cell? ⟨gb, 2, none⟩ = some (.int .u32 b2) := (blk_cell Lb12.out 2).trans rfl
          have tb3_12 : u12.cell? ⟨gb, 3, none⟩ = some (.int .u32 b3) := (blk_cell Lb12.out 3).trans rfl
          have tb4_12 : u12.cell? ⟨gb, 4, none⟩ = some (.int .u64 b4) := (blk_cell Lb12.out 4).trans rfl
          have tb5_12 : u12.cell? ⟨gb, 5, none⟩ = some (.bool b5) := (blk_cell Lb12.out 5).trans rfl
          rw [M1.out]
          clear M1
          go_wp2_with fail
          refine (my.out k0 k1 k2 k3 _).mono ?_
          rintro e u13 ⟨rfl, hbc⟩
          have BB13 := Lib.hid (below_then BB12.out (BB12.out).size hbc)
          have Lw13 := Lib.hid ((hbc.block _ (blk_lt Lw12.out)).trans Lw12.out)
          have Lq13 := Lib.hid ((hbc.block _ (blk_lt Lq12.out)).trans Lq12.out)
          have Lk13 := Lib.hid ((hbc.block _ (blk_lt Lk12.out)).trans Lk12.out)
          have Le13 := Lib.hid ((hbc.block _ (blk_lt Le12.out)).trans Le12.out)
          have Lb13 := Lib.hid ((hbc.block _ (blk_lt Lb12.out)).trans Lb12.out)
          clear hbc
          have tw0_13 : u13.cell? ⟨v5.heap.size, 0, none⟩ = some (.int .i64 q0) := (blk_cell Lw13.out 0).trans rfl
          have tw1_13 : u13.cell? ⟨v5.heap.size, 1, none⟩ = some (.int .i64 q1) := (blk_cell Lw13.out 1).trans rfl
          have tw2_13 : u13.cell? ⟨v5.heap.size, 2, none⟩ = some (.int .u32 (Go.bits .or .u32 q2 k2)) := (blk_cell Lw13.out 2).trans rfl
          have tw3_13 : u13.cell? ⟨v5.heap.size, 3, none⟩ = some (.int .u32 (Go.bits .or .u32 q3 k3)) := (blk_cell Lw13.out 3).trans rfl
          have tq0_13 : u13.cell? ⟨gq, 0, none⟩ = some (.int .i64 q0) := (blk_cell Lq13.out 0).trans rfl
          have tq1_13 : u13.cell? ⟨gq, 1, none⟩ = some (.int .i64 q1) := (blk_cell Lq13.out 1).trans rfl
          have tq2_13 : u13.cell? ⟨gq, 2, none⟩ = some (.int .u32 q2) := (blk_cell Lq13.out 2).trans rfl
          have tq3_13 : u13.cell? ⟨gq, 3, none⟩ = some (.int .u32 q3) := (blk_cell Lq13.out 3).trans rfl
          have tk0_13 : u13.cell? ⟨gk, 0, none⟩ = some (.int .i64 k0) := (blk_cell Lk13.out 0).trans rfl
          have tk1_13 : u13.cell? ⟨gk, 1, none⟩ = some (.int .i64 k1) := (blk_cell Lk13.out 1).trans rfl
          have tk2_13 : u13.cell? ⟨gk, 2, none⟩ = some (.int .u32 k2) := (blk_cell Lk13.out 2).trans rfl
          have tk3_13 : u13.cell? ⟨gk, 3, none⟩ = some (.int .u32 k3) := (blk_cell Lk13.out 3).trans rfl
          have te0_13 : u13.cell? ⟨ge, 0, none⟩ = some (.int .i64 e0) := (blk_cell Le13.out 0).trans rfl
          have te1_13 : u13.cell? ⟨ge, 1, none⟩ = some (.int .i64 e1) := (blk_cell Le13.out 1).trans rfl
          have te2_13 : u13.cell? ⟨ge, 2, none⟩ = some (.bool e2) := (blk_cell Le13.out 2).trans rfl
          have te3_13 : u13.cell? ⟨ge, 3, none⟩ = some (.int .i64 e3) := (blk_cell Le13.out 3).trans rfl
          have te4_13 : u13.cell? ⟨ge, 4, none⟩ = some (.string e4) := (blk_cell Le13.out 4).trans rfl
          have te5_13 : u13.cell? ⟨ge, 5, none⟩ = some (.string e5) := (blk_cell Le13.out 5).trans rfl
          have te6_13 : u13.cell? ⟨ge, 6, none⟩ = some (.string e6) := (blk_cell Le13.out 6).trans rfl
          have te7_13 : u13.cell? ⟨ge, 7, none⟩ = some (.string e7) := (blk_cell Le13.out 7).trans rfl
          have te8_13 : u13.cell? ⟨ge, 8, none⟩ = some (.slice A e8.length c) := (blk_cell Le13.out 8).trans rfl
          have te9_13 : u13.cell? ⟨ge, 9, none⟩ = some (.string e9) := (blk_cell Le13.out 9).trans rfl
          have tb0_13 : u13.cell? ⟨gb, 0, none⟩ = some (.int .i64 b0) := (blk_cell Lb13.out 0).trans rfl
          have tb1_13 : u13.cell? ⟨gb, 1, none⟩ = some (.int .i64 b1) := (blk_cell Lb13.out 1).trans rfl
          have tb2_13 : u13.cell? ⟨gb, 2, none⟩ = some (.int .u32 b2) := (blk_cell Lb13.out 2).trans rfl
          have tb3_13 : u13.cell? ⟨gb, 3, none⟩ = some (.int .u32 b3) := (blk_cell Lb13.out 3).trans rfl
          have tb4_13 : u13.cell? ⟨gb, 4, none⟩ = some (.int .u64 b4) := (blk_cell Lb13.out 4).trans rfl
          have tb5_13 : u13.cell? ⟨gb, 5, none⟩ = some (.bool b5) := (blk_cell Lb13.out 5).trans rfl
          have M0 := Mbk.out
          generalize mayB k0 k1 k2 k3 b0 b1 b2 b3 b4 = r2 at M0 ⊢
          cases r2 with
          | false =>
            clear M0
            go_wp2_with fail
            go_ret
            exact ⟨rfl, BB13.out⟩
          | true =>
            have M1 := Lib.hid (M0 rfl)
            clear M0
            go_wp2_with fail
            refine (my.out (q0) (q1) ((Go.bits .or .u32 q2 k2)) ((Go.bits .or .u32 q3 k3)) _).mono ?_
            rintro e u14 ⟨rfl, hbc⟩
            have BB14 := Lib.hid (below_then BB13.out (BB13.out).size hbc)
            have Lw14 := Lib.hid ((hbc.block _ (blk_lt Lw13.out)).trans Lw13.out)
            have Lq14 := Lib.hid ((hbc.block _ (blk_lt Lq13.out)).trans Lq13.out)
            have Lk14 := Lib.hid ((hbc.block _ (blk_lt Lk13.out)).trans Lk13.out)
            have Le14 := Lib.hid ((hbc.block _ (blk_lt Le13.out)).trans Le13.out)
            have Lb14 := Lib.hid ((hbc.block _ (blk_lt Lb13.out)).trans Lb13.out)
            clear hbc
            have tw0_14 : u14.cell? ⟨v5.heap.size, 0, none⟩ = some (.int .i64 q0) := (blk_cell Lw14.out 0).trans rfl
            have tw1_14 : u14.cell? ⟨v5.heap.size, 1, none⟩ = some (.int .i64 q1) := (blk_cell Lw14.out 1).trans rfl
            have tw2_14 : u14.cell? ⟨v5.heap.size, 2, none⟩ = some (.int .u32 (Go.bits .or .u32 q2 k2)) := (blk_cell Lw14.out 2).trans rfl
            have tw3_14 : u14.cell? ⟨v5.heap.size, 3, none⟩ = some (.int .u32 (Go.bits .or .u32 q3 k3)) := (blk_cell Lw14.out 3).trans rfl
            have tq0_14 : u14.cell? ⟨gq, 0, none⟩ = some (.int .i64 q0) := (blk_cell Lq14.out 0).trans rfl
            have tq1_14 : u14.cell? ⟨gq, 1, none⟩ = some (.int .i64 q1) := (blk_cell Lq14.out 1).trans rfl
            have tq2_14 : u14.cell? ⟨gq, 2, none⟩ = some (.int .u32 q2) := (blk_cell Lq14.out 2).trans rfl
            have tq3_14 : u14.cell? ⟨gq, 3, none⟩ = some (.int .u32 q3) := (blk_cell Lq14.out 3).trans rfl
            have tk0_14 : u14.cell? ⟨gk, 0, none⟩ = some (.int .i64 k0) := (blk_cell Lk14.out 0).trans rfl
            have tk1_14 : u14.cell? ⟨gk, 1, none⟩ = some (.int .i64 k1) := (blk_cell Lk14.out 1).trans rfl
            have tk2_14 : u14.cell? ⟨gk, 2, none⟩ = some (.int .u32 k2) := (blk_cell Lk14.out 2).trans rfl
            have tk3_14 : u14.cell? ⟨gk, 3, none⟩ = some (.int .u32 k3) := (blk_cell Lk14.out 3).trans rfl
            have te0_14 : u14.cell? ⟨ge, 0, none⟩ = some (.int .i64 e0) := (blk_cell Le14.out 0).trans rfl
            have te1_14 : u14.cell? ⟨ge, 1, none⟩ = some (.int .i64 e1) := (blk_cell Le14.out 1).trans rfl
            have te2_14 : u14.cell? ⟨ge, 2, none⟩ = some (.bool e2) := (blk_cell Le14.out 2).trans rfl
            have te3_14 : u14.cell? ⟨ge, 3, none⟩ = some (.int .i64 e3) := (blk_cell Le14.out 3).trans rfl
            have te4_14 : u14.cell? ⟨ge, 4, none⟩ = some (.string e4) := (blk_cell Le14.out 4).trans rfl
            have te5_14 : u14.cell? ⟨ge, 5, none⟩ = some (.string e5) := (blk_cell Le14.out 5).trans rfl
            have te6_14 : u14.cell? ⟨ge, 6, none⟩ = some (.string e6) := (blk_cell Le14.out 6).trans rfl
            have te7_14 : u14.cell? ⟨ge, 7, none⟩ = some (.string e7) := (blk_cell Le14.out 7).trans rfl
            have te8_14 : u14.cell? ⟨ge, 8, none⟩ = some (.slice A e8.length c) := (blk_cell Le14.out 8).trans rfl
            have te9_14 : u14.cell? ⟨ge, 9, none⟩ = some (.string e9) := (blk_cell Le14.out 9).trans rfl
            have tb0_14 : u14.cell? ⟨gb, 0, none⟩ = some (.int .i64 b0) := (blk_cell Lb14.out 0).trans rfl
            have tb1_14 : u14.cell? ⟨gb, 1, none⟩ = some (.int .i64 b1) := (blk_cell Lb14.out 1).trans rfl
            have tb2_14 : u14.cell? ⟨gb, 2, none⟩ = some (.int .u32 b2) := (blk_cell Lb14.out 2).trans rfl
            have tb3_14 : u14.cell? ⟨gb, 3, none⟩ = some (.int .u32 b3) := (blk_cell Lb14.out 3).trans rfl
            have tb4_14 : u14.cell? ⟨gb, 4, none⟩ = some (.int .u64 b4) := (blk_cell Lb14.out 4).trans rfl
            have tb5_14 : u14.cell? ⟨gb, 5, none⟩ = some (.bool b5) := (blk_cell Lb14.out 5).trans rfl
            rw [M1.out]
            clear M1
            go_wp2_with fail
            go_ret
            exact ⟨rfl, BB14.out⟩

theorem walk (w : World) (x0 : (((Int × Int × Int × Int)) × ((Int × Int × Int × Int)) × ((Int × Int × Bool × Int × ByteArray × ByteArray × ByteArray × ByteArray × (List PBriefWide.S129) × ByteArray)) × (Int × Int × Int × Int × Int × Bool))) (cs0 : Array Value) (hK0 : kd41.K w x0 cs0.toList) (hg0 : g41 x0) :
    Calls Try.prog 5 #[.agg cs0] w fun e w' => e = .returned (.bool true) ∧ Below w.heap.size w w' := by
  obtain ⟨l0⟩ := cs0
  obtain ⟨⟨q0, q1, q2, q3⟩, ⟨k0, k1, k2, k3⟩, ⟨e0, e1, e2, e3, e4, e5, e6, e7, e8, e9⟩, ⟨b0, b1, b2, b3, b4, b5⟩⟩ := x0
  obtain ⟨_, _, rfl, hQ, _, _, rfl, hK, _, _, rfl, hE, hB⟩ := hK0
  obtain ⟨_, _, rfl, rfl, _, _, rfl, rfl, _, _, rfl, rfl, rfl⟩ := hQ
  obtain ⟨_, _, rfl, rfl, _, _, rfl, rfl, _, _, rfl, rfl, rfl⟩ := hK
  obtain ⟨_, _, rfl, rfl, _, _, rfl, rfl, _, _, rfl, rfl, _, _, rfl, rfl, _, _, rfl, rfl, _, _, rfl, rfl, _, _, rfl, rfl, _, _, rfl, rfl, _, _, rfl, ⟨A, c, rfl, hc, hC⟩, rfl⟩ := hE
  obtain ⟨_, _, rfl, rfl, _, _, rfl, rfl, _, _, rfl, rfl, _, _, rfl, rfl, _, _, rfl, rfl, rfl⟩ := hB
  exact core w q0 q1 q2 q3 k0 k1 k2 k3 e0 e1 e2 e3 e4 e5 e6 e7 A c e8 e9 b0 b1 b2 b3 b4 b5 hC hc
end Go.Proofs.Ytliiefkdgdflpaa.WBriefWide
