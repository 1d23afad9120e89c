/-
  brief.All: what is told of all briefs of a row is what joining them one behind the other tells.
-/
import Derived.RangeFuncNested
import Derived.RangeFuncBound
import Derived.RangeFuncCalls
import Derived.RangeFuncLeaves
import Derived.RangeFuncBox
import Derived.Shelf.Abstract
import Derived.Shelf.RegionOpen
import Derived.WalkKit
import Derived.OwnWalkIn
import Derived.TacticsInMore
import Derived.LoopNIn
import Derived.LoopIn
import Derived.Lib.Hide
import Derived.Laws.Rows
import Derived.Test.YtliiefkdgdflpaaBriefLaw
namespace Go.Proofs.Ytliiefkdgdflpaa.All
open Go.RowKit Go.Shelf BriefLaw
set_option linter.unusedVariables false
attribute [local go_sem] Oper.semAt_some

def upto {α : Type} (f : Nat → α) (k : Nat) : List α := (List.range k).map f
theorem upto_succ {α : Type} (f : Nat → α) (k : Nat) : upto f (k + 1) = upto f k ++ [f k] := by simp [upto, List.range_succ]
theorem upto_length {α : Type} (f : Nat → α) (k : Nat) : (upto f k).length = k := by simp [upto]

def at0 (zs : List Br) (k : Nat) : Br := zs[k]?.getD none0
theorem upto_all (zs : List Br) : upto (at0 zs) zs.length = zs := by
  apply List.ext_getElem
  · simp [upto]
  · intro i h1 h2
    simp [upto, at0, h2]
theorem upto_take (zs : List Br) {k : Nat} (hk : k ≤ zs.length) : upto (at0 zs) k = zs.take k := by
  apply List.ext_getElem
  · simp [upto, hk]
  · intro i h1 h2
    have : i < zs.length := by simp [upto] at h1; omega
    simp [upto, at0, this]

/-- six cells from an address on -/
def Six (W : World) (b o : Nat) (x : Br) : Prop :=
  W.cell? ⟨b, o, none⟩ = some (.int .i64 x.first) ∧ W.cell? ⟨b, o + 1, none⟩ = some (.int .i64 x.last) ∧ W.cell? ⟨b, o + 2, none⟩ = some (.int .u32 x.grave) ∧ W.cell? ⟨b, o + 3, none⟩ = some (.int .u32 x.src) ∧ W.cell? ⟨b, o + 4, none⟩ = some (.int .u64 x.many) ∧ W.cell? ⟨b, o + 5, none⟩ = some (.bool x.keep)
theorem Six.below {n₀ : Nat} {A B : World} {b o : Nat} {x : Br} (h : Six A b o x) (hb : b < n₀) (k : Below n₀ A B) : Six B b o x :=
  ⟨(k.cell (p := ⟨b, o, none⟩) hb).trans h.1, (k.cell (p := ⟨b, o + 1, none⟩) hb).trans h.2.1, (k.cell (p := ⟨b, o + 2, none⟩) hb).trans h.2.2.1, (k.cell (p := ⟨b, o + 3, none⟩) hb).trans h.2.2.2.1, (k.cell (p := ⟨b, o + 4, none⟩) hb).trans h.2.2.2.2.1, (k.cell (p := ⟨b, o + 5, none⟩) hb).trans h.2.2.2.2.2⟩

set_option maxRecDepth 100000 in
set_option maxHeartbeats 2000000 in
theorem each1_in (F : Fence) (n : Nat) (h7 : F.fn 57) (hro : F.round = none) (hn : 1 ≤ n) (l Bs n₀ b off len cap : Nat) (zs : List Br) (hreach : len * 40 ≤ 140737488351232) (hb : b < n₀) (J Jx : List Br → World → Prop)
    (hJa : ∀ pre W o, J pre W → J pre (W.alloc o))
    (hY : ∀ pre x W, J pre W → pre.length < len → YieldAt F (n - 1) Try.prog l #[.agg (cells x)] W fun e W' =>
      (e = .returned (.bool true) ∧ J (pre ++ [x]) W' ∧ Below n₀ W W') ∨ (e = .returned (.bool false) ∧ Jx (pre ++ [x]) W'))
    (W : World) (hn0 : n₀ ≤ W.heap.size) (hBs : W.cell? ⟨Bs, 0, none⟩ = some (.slice (some ⟨b, off, none⟩) len cap)) (hc : ∀ j, j < len → Six W b (off + j * 6) (at0 zs j)) (h0 : J [] W) :
    CallsIn F n Try.prog 57 #[.func (.yield l) #[] #[], .pointer (some ⟨Bs, 0, none⟩)] W fun e W' => (∃ v, e = .returned v) ∧
      ((∃ ys, ys = upto (at0 zs) len ∧ J ys W') ∨ (∃ pre, (∃ k, k ≤ len ∧ pre = upto (at0 zs) k) ∧ Jx pre W')) := by
  refine callsIn_of_wp Try.func57 rfl h7 ?_ hro
  simp only [Try.ntmps57, List.size_toArray, List.length_cons, List.length_nil, Nat.reduceAdd, Nat.reduceSub, Array.replicate_succ, Array.replicate_zero, List.push_toArray, List.append_toArray, List.nil_append, List.cons_append]
  gi_wp2
  gi_loopw [7] (fun i wr => ∃ k : Nat, k ≤ len ∧ i = .int .i64 k ∧ J (upto (at0 zs) k) wr ∧ Below n₀ W wr)
    (fun i _ => len - (intOf i).toNat)
  case atStart => exact ⟨0, Nat.zero_le _, rfl, h0, Below.refl _ _⟩
  case round =>
    obtain ⟨k, hk, rfl, hJs, hnx⟩ := hrel
    by_cases hlt : k < len
    · obtain ⟨c0, c1, c2, c3, c4, c5⟩ := (hc k hlt).below hb hnx
      obtain ⟨x, hx⟩ : ∃ x, x = at0 zs k := ⟨_, rfl⟩
      rw [← hx] at c0 c1 c2 c3 c4 c5
      replace hx := Lib.hid hx
      obtain ⟨fn, tmps, assign, body, hy, hR⟩ := hY _ x (wr.alloc (.cells (cells x) 36)) (hJa _ _ _ hJs) (by rw [upto_length]; exact hlt)
      dsimp only [cells] at hy
      gi_wp2
      refine hR.mono ?_
      have hn1 : n₀ ≤ wr.heap.size := Nat.le_trans hn0 hnx.size
      have hba : Below n₀ W (wr.alloc (.cells (cells x) 36)) := hnx.alloc hn1 _
      rintro e W3 (⟨rfl, hJ3, hk3⟩ | ⟨rfl, hJx3⟩)
      · gi_wp2
        go_roundw
        case rel => exact ⟨k + 1, by omega, by simp, by rw [upto_succ, ← hx.out]; exact hJ3, hba.trans hk3⟩
        case measure => simp [intOf]; omega
      · gi_wp2
        refine bodyPost_ret (results_none rfl _ _ _) rfl ?_
        exact ⟨⟨_, rfl⟩, .inr ⟨_, ⟨k + 1, by omega, by rw [upto_succ, ← hx.out]⟩, hJx3⟩⟩
    · obtain rfl : k = len := by omega
      gi_wp2
      go_end0
      exact ⟨⟨_, rfl⟩, .inl ⟨_, rfl, hJs⟩⟩

set_option maxRecDepth 100000 in
set_option maxHeartbeats 1000000 in
theorem each1_nil_in (F : Fence) (n : Nat) (h7 : F.fn 57) (hro : F.round = none) (l Bs c : Nat) (A : Option Addr) (J : List Br → World → Prop) (W : World) (hBs : W.cell? ⟨Bs, 0, none⟩ = some (.slice A 0 c)) (h0 : J [] W) :
    CallsIn F n Try.prog 57 #[.func (.yield l) #[] #[], .pointer (some ⟨Bs, 0, none⟩)] W fun e W' => (∃ v, e = .returned v) ∧ J [] W' := by
  refine callsIn_of_wp Try.func57 rfl h7 ?_ hro
  simp only [Try.ntmps57, List.size_toArray, List.length_cons, List.length_nil, Nat.reduceAdd, Nat.reduceSub, Array.replicate_succ, Array.replicate_zero, List.push_toArray, List.append_toArray, List.nil_append, List.cons_append]
  gi_wp2
  gi_loopw [7] (fun i wr => i = .int .i64 0 ∧ J [] wr) (fun _ _ => 0)
  case atStart => exact ⟨rfl, h0⟩
  case round =>
    obtain ⟨rfl, hJs⟩ := hrel
    gi_wp2
    go_end0
    exact ⟨⟨_, rfl⟩, hJs⟩

set_option maxHeartbeats 1000000 in
theorem each_in (F : Fence) (n : Nat) (h5 : F.fn 54) (hro : F.round = none) (a : Option Addr) (len cap : Nat) (w : World) :
    CallsIn F n Try.prog 54 #[.slice a len cap] w fun e w' => e = .returned (.func (.func 57) #[] #[.pointer (some ⟨w.heap.size, 0, none⟩)]) ∧ w' = w.alloc (.cells #[.slice a len cap] 58) := by
  refine callsIn_of_wp Try.func54 rfl h5 ?_ hro
  simp only [Try.ntmps54, List.size_toArray, List.length_cons, List.length_nil, Nat.reduceAdd, Nat.reduceSub, Array.replicate_succ, Array.replicate_zero, List.push_toArray, List.append_toArray, List.nil_append, List.cons_append]
  gi_wp2
  go_ret
  exact ⟨rfl, rfl⟩

/-- the slice value holds the briefs zs, in a block below n₀; or there are none -/
def Rows (n₀ : Nat) (W : World) (sv : Value) (zs : List Br) : Prop :=
  (∃ A c, sv = .slice A 0 c ∧ zs = []) ∨ ∃ b off cap, sv = .slice (some ⟨b, off, none⟩) zs.length cap ∧ b < n₀ ∧ zs.length * 40 ≤ 140737488351232 ∧ ∀ j, j < zs.length → Six W b (off + j * 6) (at0 zs j)
theorem Rows.below {n₀ : Nat} {A B : World} (h : Below n₀ A B) {sv : Value} {zs : List Br} : Rows n₀ A sv zs → Rows n₀ B sv zs
  | .inl e => .inl e
  | .inr ⟨b, off, cap, e, hb, hr, hc⟩ => .inr ⟨b, off, cap, e, hb, hr, fun j hj => (hc j hj).below hb h⟩

theorem each_stops (F : Fence) (n : Nat) (h7 : F.fn 57) (hro : F.round = none) (hn : 1 ≤ n) (Bs n₀ : Nat) (sv : Value) (zs : List Br) (w : World) (hBs : Bs < w.heap.size) (hn₀ : n₀ ≤ w.heap.size)
    (hc : w.cell? ⟨Bs, 0, none⟩ = some sv) (hI : Rows n₀ w sv zs) :
    SeqStopsK F n Try.prog 57 #[.pointer (some ⟨Bs, 0, none⟩)] (fun x : Br => #[Value.agg (cells x)]) (Below n₀) (fun ys => ys = zs) (fun pre => pre <+: zs) zs.length w := fun l J Jx W hW hJ _ hY h0 => by
  have hc' := (hW.cell (p := ⟨Bs, 0, none⟩) hBs).trans hc
  rcases hI.below (hW.mono hn₀) with ⟨A, c, rfl, rfl⟩ | ⟨b, off, cap, rfl, hb, hr, hcs⟩
  · exact (each1_nil_in F n h7 hro l Bs c A J W hc' h0).mono fun e W' ⟨he, hj⟩ => ⟨he, .inl ⟨_, rfl, hj⟩⟩
  · refine (each1_in F n h7 hro hn l Bs n₀ b off zs.length cap zs hr hb J Jx (fun pre W1 o h => hJ pre W1 _ none h (World.grownBy_alloc W1 o none) (fun r e => by cases e)) hY W (Nat.le_trans hn₀ hW.size) hc' hcs h0).mono ?_
    rintro e W' ⟨he, ⟨ys, rfl, hj⟩ | ⟨pre, ⟨k, hk, rfl⟩, hj⟩⟩
    · exact ⟨he, .inl ⟨_, upto_all zs, hj⟩⟩
    · exact ⟨he, .inr ⟨_, by rw [upto_take zs hk]; exact List.take_prefix _ _, hj⟩⟩

/-- a block of cells -/
def Blk (W : World) (B : Nat) (t : TypeId) (cs : Array Value) : Prop := W.heap[B]? = some (.cells cs t (0, 0))
theorem Blk.lt {W : World} {B : Nat} {t : TypeId} {v : Array Value} (h : Blk W B t v) : B < W.heap.size := (Array.getElem?_eq_some_iff.1 h).1
theorem Blk.new (W : World) (t : TypeId) (v : Array Value) : Blk (W.alloc (.cells v t)) W.heap.size t v := World.alloc_heap_new W _
theorem Blk.kept {W W' : World} {row : Option Nat} {B : Nat} {t : TypeId} {v : Array Value} (h : Blk W B t v) (hg : W.grownBy W' row) (hne : some B ≠ row) : Blk W' B t v := (hg.block B h.lt hne).trans h
theorem Blk.alloc {W : World} {B : Nat} {t : TypeId} {v : Array Value} (h : Blk W B t v) (o : Obj) : Blk (W.alloc o) B t v := h.kept (World.grownBy_alloc W o none) (by simp)
theorem Blk.below {W W' : World} {n₀ B : Nat} {t : TypeId} {v : Array Value} (h : Blk W B t v) (k : Below n₀ W W') (hB : B < n₀) : Blk W' B t v := (k.block B hB).trans h
theorem Blk.cell {W : World} {B : Nat} {t : TypeId} {v : Array Value} (h : Blk W B t v) (i : Nat) : W.cell? ⟨B, i, none⟩ = v[i]? := Go.Proofs.YtliiefkdgdflpaaW.PrintWords.blk_cell h i
theorem Blk.frozen {W : World} {B : Nat} {t : TypeId} {v : Array Value} (h : Blk W B t v) (i : Nat) : W.frozen? ⟨B, i, none⟩ = false := Go.Proofs.YtliiefkdgdflpaaW.PrintWords.blk_frozen h i
theorem Blk.set {W : World} {B : Nat} {t : TypeId} {v : Array Value} (h : Blk W B t v) (i : Nat) (u : Value) : Blk (W.setCell ⟨B, i, none⟩ u) B t (v.setIfInBounds i u) := Go.Proofs.YtliiefkdgdflpaaW.PrintWords.blk_set h i u
theorem Blk.far {W : World} {B : Nat} {t : TypeId} {v : Array Value} (h : Blk W B t v) {B' : Nat} (hp : B ≠ B') (i : Nat) (u : Value) : Blk (W.setCell ⟨B', i, none⟩ u) B t v := Go.Proofs.YtliiefkdgdflpaaW.PrintWords.blk_far h hp u
theorem blk_own {β : Type} (B : Nat) (t : TypeId) (f : β → Array Value) : Own (fun s W => Blk W B t (f s)) := fun s X Y row hs hg hrow =>
  hs.kept hg (fun e' => by obtain ⟨o, ho, hc⟩ := hrow B e'.symm; rw [show X.heap[B]? = _ from hs] at ho; cases ho; cases hc)

def fold (first : Br) (zs : List Br) : Br := zs.foldl join first
theorem fold_snoc (first : Br) (pre : List Br) (x : Br) : fold first (pre ++ [x]) = join (fold first pre) x := by simp [fold]

theorem joinC (a b : Br) (w : World) : Calls Try.prog 28 #[.agg #[.int .i64 a.first, .int .i64 a.last, .int .u32 a.grave, .int .u32 a.src, .int .u64 a.many, .bool a.keep], .agg #[.int .i64 b.first, .int .i64 b.last, .int .u32 b.grave, .int .u32 b.src, .int .u64 b.many, .bool b.keep]] w fun e w' => e = .returned (.agg (cells (join a b))) ∧ Below w.heap.size w w' :=
  PBriefOrder.brief_Join.calls _ _ _ _ _ _ _ _ _ _ _ _ _ _ _ _ _ _ w (join_f a b)

set_option maxRecDepth 100000 in
set_option maxHeartbeats 4000000 in
theorem folded_in (n : Nat) (hn : 3 ≤ n) (a : Option Addr) (cap : Nat) (zs : List Br) (first : Br) (w : World) (hI : Rows w.heap.size w (.slice a zs.length cap) zs) :
    CallsIn Fence.wide n Try.prog 44 #[.slice a zs.length cap, .agg (cells first), .func (.func 28) #[] #[]] w fun e w' => e = .returned (.agg (cells (fold first zs))) ∧ Below w.heap.size w w' := by
  have h1 : 1 ≤ n := by omega
  refine callsIn_of_wp_marks Try.func44 rfl trivial ?_ rfl
  simp only [cells, Try.ntmps44, List.size_toArray, List.length_cons, List.length_nil, Nat.reduceAdd, Nat.reduceSub, Array.replicate_succ, Array.replicate_zero, List.push_toArray, List.append_toArray, List.nil_append, List.cons_append]
  gi_wp2_with (refine ⟨trivial, ?_⟩; gi_at_call 54; refine (each_in Fence.wide (n - 1) trivial rfl _ _ _ _).mono ?_; rintro e w' ⟨rfl, rfl⟩)
  have b4 := ((Blk.new w 36 (cells first)).alloc (.cells #[.func (.func 28) #[] #[]] 49)).alloc (.cells (cells none0) 36)
  have b5 := (Blk.new (w.alloc (.cells (cells first) 36)) 49 #[.func (.func 28) #[] #[]]).alloc (.cells (cells none0) 36)
  have b6 := Blk.new ((w.alloc (.cells (cells first) 36)).alloc (.cells #[.func (.func 28) #[] #[]] 49)) 36 (cells none0)
  have hB0 : Below w.heap.size w (((w.alloc (.cells (cells first) 36)).alloc (.cells #[.func (.func 28) #[] #[]] 49)).alloc (.cells (cells none0) 36)) := (((Below.refl _ w).alloc (Nat.le_refl _) _).alloc (by simp) _).alloc (by simp; omega) _
  simp only [World.size_alloc] at b5 b6
  have hsz : (((w.alloc (.cells (cells first) 36)).alloc (.cells #[.func (.func 28) #[] #[]] 49)).alloc (.cells (cells none0) 36)).heap.size = w.heap.size + 3 := by simp
  replace b4 := b4.alloc (.cells #[.slice a zs.length cap] 58)
  replace b5 := b5.alloc (.cells #[.slice a zs.length cap] 58)
  replace b6 := b6.alloc (.cells #[.slice a zs.length cap] 58)
  have b7 := Blk.new (((w.alloc (.cells (cells first) 36)).alloc (.cells #[.func (.func 28) #[] #[]] 49)).alloc (.cells (cells none0) 36)) 58 #[.slice a zs.length cap]
  replace hB0 := hB0.alloc (by rw [hsz]; omega) (.cells #[.slice a zs.length cap] 58)
  rw [hsz] at b7
  obtain ⟨W0, hW0⟩ : ∃ W0, (((w.alloc (.cells (cells first) 36)).alloc (.cells #[.func (.func 28) #[] #[]] 49)).alloc (.cells (cells none0) 36)).alloc (.cells #[.slice a zs.length cap] 58) = W0 := ⟨_, rfl⟩
  have hsz0 : W0.heap.size = w.heap.size + 4 := by rw [← hW0]; simp
  rw [hW0] at b4 b5 b6 b7 hB0
  change Code.wpIn _ _ _ _ _ _ ((((w.alloc (.cells (cells first) 36)).alloc (.cells #[.func (.func 28) #[] #[]] 49)).alloc (.cells (cells none0) 36)).alloc (.cells #[.slice a zs.length cap] 58))
  rw [hW0]
  clear hW0 hsz
  refine wpIn_rangeFunc_ownH rfl h1 (gf := 57) (lb := #[.pointer (some ⟨w.heap.size + 1 + 1 + 1, 0, none⟩)]) rfl trivial (enters_of Try.func57 (by kernel_rfl) rfl)
    (each_stops Fence.wide (n - 1) trivial rfl (by omega) (w.heap.size + 1 + 1 + 1) w.heap.size (.slice a zs.length cap) zs W0 (by omega) (by omega) ((b7.cell 0).trans rfl) (hI.below hB0)) belowK_t (belowK_b (by omega)) (Below.refl _ _) (fun _ => rfl)
    (fun pre W => ((Blk W w.heap.size 36 (cells (fold first pre)) ∧ Blk W (w.heap.size + 1) 49 #[.func (.func 28) #[] #[]]) ∧ (Blk W (w.heap.size + 1 + 1) 36 (cells none0) ∧ Blk W (w.heap.size + 1 + 1 + 1) 58 #[.slice a zs.length cap])) ∧ Below w.heap.size w W)
    (fun _ _ _ => False)
    (OwnFrom.and (OwnFrom.and (OwnFrom.and (Own.from (blk_own _ _ _) _) (Own.from (blk_own _ _ _) _)) (OwnFrom.and (Own.from (blk_own _ _ _) _) (Own.from (blk_own _ _ _) _))) (ownFrom_below (Nat.le_refl _) (by omega)))
    (fun _ _ _ _ _ hs _ _ => hs)
    ⟨⟨⟨b4, b5⟩, b6, b7⟩, hB0⟩
    (fun x a' W => ∃ Bx, w.heap.size + 1 + 1 + 1 < Bx ∧ Blk W Bx 36 (cells x) ∧ a' = { tmps := #[.slice a zs.length cap, .agg (cells first), .func (.func 28) #[] #[], undef, .pointer (some ⟨w.heap.size, 0, none⟩), .pointer (some ⟨w.heap.size + 1, 0, none⟩), .pointer (some ⟨w.heap.size + 1 + 1, 0, none⟩), .pointer (some ⟨Bx, 0, none⟩), .slice a zs.length cap, .func (.func 57) #[] #[.pointer (some ⟨w.heap.size + 1 + 1 + 1, 0, none⟩)], .agg (cells x), undef, undef, undef, undef, undef], defers := [] })
    (fun x a' _ X Y row hs hg hr => by obtain ⟨Bx, h1, h2, h3⟩ := hs; exact ⟨Bx, h1, blk_own Bx 36 (fun (_ : Unit) => cells x) () X Y row h2 hg (fun r e => (hr r e).2), h3⟩)
    ?assign ?body ?done ?stop
  case assign =>
    rintro l pre x W K ⟨⟨⟨q4, q5⟩, q6, q7⟩, hB1⟩ hK
    have hlt5 : w.heap.size + 1 + 1 + 1 < W.heap.size := q7.lt
    simp only [cells]
    gi_wp2
    exact hK _ _ ((KeepsOthers.alloc _ _).from _) ((Below.refl _ W).alloc hB1.size _) ⟨⟨⟨q4.alloc _, q5.alloc _⟩, q6.alloc _, q7.alloc _⟩, hB1.alloc hB1.size _⟩ ⟨W.heap.size, hlt5, Blk.new W 36 _, rfl⟩
  case body =>
    rintro l pre x a' W hl ⟨r, hr⟩ ⟨⟨⟨q4, q5⟩, q6, q7⟩, hB1⟩ ⟨Bx, hBx, qX, rfl⟩ hlt
    have h1' : 1 ≤ n - 1 - 1 := by omega
    obtain ⟨y, hy⟩ : ∃ y, y = fold first pre := ⟨_, rfl⟩
    rw [← hy] at q4
    replace hy := Lib.hid hy
    have e5 : W.cell? ⟨w.heap.size + 1, 0, none⟩ = some (.func (.func 28) #[] #[]) := (q5.cell 0).trans rfl
    have c0 : W.cell? ⟨w.heap.size, 0, none⟩ = some (.int .i64 y.first) := (q4.cell 0).trans rfl
    have f0 := q4.frozen 0
    have x0 : W.cell? ⟨Bx, 0, none⟩ = some (.int .i64 x.first) := (qX.cell 0).trans rfl
    have c1 : W.cell? ⟨w.heap.size, 1, none⟩ = some (.int .i64 y.last) := (q4.cell 1).trans rfl
    have f1 := q4.frozen 1
    have x1 : W.cell? ⟨Bx, 1, none⟩ = some (.int .i64 x.last) := (qX.cell 1).trans rfl
    have c2 : W.cell? ⟨w.heap.size, 2, none⟩ = some (.int .u32 y.grave) := (q4.cell 2).trans rfl
    have f2 := q4.frozen 2
    have x2 : W.cell? ⟨Bx, 2, none⟩ = some (.int .u32 x.grave) := (qX.cell 2).trans rfl
    have c3 : W.cell? ⟨w.heap.size, 3, none⟩ = some (.int .u32 y.src) := (q4.cell 3).trans rfl
    have f3 := q4.frozen 3
    have x3 : W.cell? ⟨Bx, 3, none⟩ = some (.int .u32 x.src) := (qX.cell 3).trans rfl
    have c4 : W.cell? ⟨w.heap.size, 4, none⟩ = some (.int .u64 y.many) := (q4.cell 4).trans rfl
    have f4 := q4.frozen 4
    have x4 : W.cell? ⟨Bx, 4, none⟩ = some (.int .u64 x.many) := (qX.cell 4).trans rfl
    have c5 : W.cell? ⟨w.heap.size, 5, none⟩ = some (.bool y.keep) := (q4.cell 5).trans rfl
    have f5 := q4.frozen 5
    have x5 : W.cell? ⟨Bx, 5, none⟩ = some (.bool x.keep) := (qX.cell 5).trans rfl
    simp only [cells]
    gi_wp2_with (refine ⟨trivial, ?_⟩; gi_at_call 28; refine (CallsIn.inRound l (callsIn_wide.2 (joinC y x W))).mono ?_; rintro e W2 ⟨rfl, hb2⟩; dsimp only [cells]; have r4 := q4.below hb2 q4.lt; have r5 := q5.below hb2 q5.lt; have r6 := q6.below hb2 q6.lt; have r7 := q7.below hb2 q7.lt; have d0 : W2.cell? ⟨w.heap.size, 0, none⟩ = some (.int .i64 y.first) := (r4.cell 0).trans rfl; have g0 := r4.frozen 0; have d1 : W2.cell? ⟨w.heap.size, 1, none⟩ = some (.int .i64 y.last) := (r4.cell 1).trans rfl; have g1 := r4.frozen 1; have d2 : W2.cell? ⟨w.heap.size, 2, none⟩ = some (.int .u32 y.grave) := (r4.cell 2).trans rfl; have g2 := r4.frozen 2; have d3 : W2.cell? ⟨w.heap.size, 3, none⟩ = some (.int .u32 y.src) := (r4.cell 3).trans rfl; have g3 := r4.frozen 3; have d4 : W2.cell? ⟨w.heap.size, 4, none⟩ = some (.int .u64 y.many) := (r4.cell 4).trans rfl; have g4 := r4.frozen 4; have d5 : W2.cell? ⟨w.heap.size, 5, none⟩ = some (.bool y.keep) := (r4.cell 5).trans rfl; have g5 := r4.frozen 5)
    have HB3 := (((((((hb2.mono hB1.size).setCell (p := ⟨w.heap.size, 0, none⟩) (Nat.le_refl _) (.int .i64 (join y x).first)).setCell (p := ⟨w.heap.size, 1, none⟩) (Nat.le_refl _) (.int .i64 (join y x).last)).setCell (p := ⟨w.heap.size, 2, none⟩) (Nat.le_refl _) (.int .u32 (join y x).grave)).setCell (p := ⟨w.heap.size, 3, none⟩) (Nat.le_refl _) (.int .u32 (join y x).src)).setCell (p := ⟨w.heap.size, 4, none⟩) (Nat.le_refl _) (.int .u64 (join y x).many)).setCell (p := ⟨w.heap.size, 5, none⟩) (Nat.le_refl _) (.bool (join y x).keep))
    refine ⟨(((((((KeepsOthers.of_grownBy (Go.Proofs.YtliiefkdgdflpaaW.PrintWords.grown_of_below hb2 none) (fun j o e => by cases e)).trans (KeepsOthers.setCell _ _ _)).trans (KeepsOthers.setCell _ _ _)).trans (KeepsOthers.setCell _ _ _)).trans (KeepsOthers.setCell _ _ _)).trans (KeepsOthers.setCell _ _ _)).trans (KeepsOthers.setCell _ _ _)).from _, HB3, ⟨⟨?_, ((((((r5.far (B' := w.heap.size) (by omega) 0 (.int .i64 (join y x).first)).far (B' := w.heap.size) (by omega) 1 (.int .i64 (join y x).last)).far (B' := w.heap.size) (by omega) 2 (.int .u32 (join y x).grave)).far (B' := w.heap.size) (by omega) 3 (.int .u32 (join y x).src)).far (B' := w.heap.size) (by omega) 4 (.int .u64 (join y x).many)).far (B' := w.heap.size) (by omega) 5 (.bool (join y x).keep))⟩, ((((((r6.far (B' := w.heap.size) (by omega) 0 (.int .i64 (join y x).first)).far (B' := w.heap.size) (by omega) 1 (.int .i64 (join y x).last)).far (B' := w.heap.size) (by omega) 2 (.int .u32 (join y x).grave)).far (B' := w.heap.size) (by omega) 3 (.int .u32 (join y x).src)).far (B' := w.heap.size) (by omega) 4 (.int .u64 (join y x).many)).far (B' := w.heap.size) (by omega) 5 (.bool (join y x).keep)), ((((((r7.far (B' := w.heap.size) (by omega) 0 (.int .i64 (join y x).first)).far (B' := w.heap.size) (by omega) 1 (.int .i64 (join y x).last)).far (B' := w.heap.size) (by omega) 2 (.int .u32 (join y x).grave)).far (B' := w.heap.size) (by omega) 3 (.int .u32 (join y x).src)).far (B' := w.heap.size) (by omega) 4 (.int .u64 (join y x).many)).far (B' := w.heap.size) (by omega) 5 (.bool (join y x).keep))⟩, hB1.trans HB3⟩
    have h4 := ((((((r4.set 0 (.int .i64 (join y x).first)).set 1 (.int .i64 (join y x).last)).set 2 (.int .u32 (join y x).grave)).set 3 (.int .u32 (join y x).src)).set 4 (.int .u64 (join y x).many)).set 5 (.bool (join y x).keep))
    show Blk _ w.heap.size 36 (cells (fold first (pre ++ [x])))
    rw [fold_snoc, ← hy.out]
    exact h4
  case done =>
    rintro D ys W hD rfl ⟨⟨⟨q4, q5⟩, q6, q7⟩, hB1⟩ hK
    obtain ⟨y, hy⟩ : ∃ y, y = fold first ys := ⟨_, rfl⟩
    rw [← hy] at q4
    replace hy := Lib.hid hy
    have c0 : W.cell? ⟨w.heap.size, 0, none⟩ = some (.int .i64 y.first) := (q4.cell 0).trans rfl
    have z0 : W.cell? ⟨w.heap.size + 1 + 1, 0, none⟩ = some (.int .i64 none0.first) := (q6.cell 0).trans rfl
    have f0 := q6.frozen 0
    have c1 : W.cell? ⟨w.heap.size, 1, none⟩ = some (.int .i64 y.last) := (q4.cell 1).trans rfl
    have z1 : W.cell? ⟨w.heap.size + 1 + 1, 1, none⟩ = some (.int .i64 none0.last) := (q6.cell 1).trans rfl
    have f1 := q6.frozen 1
    have c2 : W.cell? ⟨w.heap.size, 2, none⟩ = some (.int .u32 y.grave) := (q4.cell 2).trans rfl
    have z2 : W.cell? ⟨w.heap.size + 1 + 1, 2, none⟩ = some (.int .u32 none0.grave) := (q6.cell 2).trans rfl
    have f2 := q6.frozen 2
    have c3 : W.cell? ⟨w.heap.size, 3, none⟩ = some (.int .u32 y.src) := (q4.cell 3).trans rfl
    have z3 : W.cell? ⟨w.heap.size + 1 + 1, 3, none⟩ = some (.int .u32 none0.src) := (q6.cell 3).trans rfl
    have f3 := q6.frozen 3
    have c4 : W.cell? ⟨w.heap.size, 4, none⟩ = some (.int .u64 y.many) := (q4.cell 4).trans rfl
    have z4 : W.cell? ⟨w.heap.size + 1 + 1, 4, none⟩ = some (.int .u64 none0.many) := (q6.cell 4).trans rfl
    have f4 := q6.frozen 4
    have c5 : W.cell? ⟨w.heap.size, 5, none⟩ = some (.bool y.keep) := (q4.cell 5).trans rfl
    have z5 : W.cell? ⟨w.heap.size + 1 + 1, 5, none⟩ = some (.bool none0.keep) := (q6.cell 5).trans rfl
    have f5 := q6.frozen 5
    gi_wp2
    have hK2 := (((((((KeepsOthers.refl W).trans (KeepsOthers.setCell _ ⟨w.heap.size + 1 + 1, 0, none⟩ (.int .i64 y.first))).trans (KeepsOthers.setCell _ ⟨w.heap.size + 1 + 1, 1, none⟩ (.int .i64 y.last))).trans (KeepsOthers.setCell _ ⟨w.heap.size + 1 + 1, 2, none⟩ (.int .u32 y.grave))).trans (KeepsOthers.setCell _ ⟨w.heap.size + 1 + 1, 3, none⟩ (.int .u32 y.src))).trans (KeepsOthers.setCell _ ⟨w.heap.size + 1 + 1, 4, none⟩ (.int .u64 y.many))).trans (KeepsOthers.setCell _ ⟨w.heap.size + 1 + 1, 5, none⟩ (.bool y.keep))).same D _ hK rfl
    have h6 := ((((((q6.set 0 (.int .i64 y.first)).set 1 (.int .i64 y.last)).set 2 (.int .u32 y.grave)).set 3 (.int .u32 y.src)).set 4 (.int .u64 y.many)).set 5 (.bool y.keep))
    have hB2 := ((((((hB1.setCell (p := ⟨w.heap.size + 1 + 1, 0, none⟩) (by simp; omega) (.int .i64 y.first)).setCell (p := ⟨w.heap.size + 1 + 1, 1, none⟩) (by simp; omega) (.int .i64 y.last)).setCell (p := ⟨w.heap.size + 1 + 1, 2, none⟩) (by simp; omega) (.int .u32 y.grave)).setCell (p := ⟨w.heap.size + 1 + 1, 3, none⟩) (by simp; omega) (.int .u32 y.src)).setCell (p := ⟨w.heap.size + 1 + 1, 4, none⟩) (by simp; omega) (.int .u64 y.many)).setCell (p := ⟨w.heap.size + 1 + 1, 5, none⟩) (by simp; omega) (.bool y.keep))
    refine ⟨by simp, .inl ⟨_, _, rfl, run_takeDeferred hK2, ?_⟩⟩
    have h6' := h6.kept (grownBy_putObj' _ D (.deferred none)) (by intro e; cases e; omega)
    refine ⟨_, results_cell_row (p := 6) (ty := 36) rfl _ _ (w.heap.size + 1 + 1) 36 _ (0, 0) _ rfl h6' Try.underlying36 rfl (by kernel_rfl), ?_, ?_⟩
    · rw [← hy.out]; rfl
    · exact hB2.trans (belowK_b (w := w) (Nat.le_refl _) _ D _ _ (by omega) hK2 rfl rfl)
  case stop =>
    rintro D c pre W _ _ h _
    exact h.elim

theorem noneC (w : World) : Calls Try.prog 29 #[] w fun e w' => e = .returned (.agg (cells none0)) ∧ Below w.heap.size w w' := PBriefOrder.brief_None.calls 0 0 0 0 0 false w rfl

set_option maxRecDepth 100000 in
set_option maxHeartbeats 4000000 in
theorem all_calls (a : Option Addr) (cap : Nat) (zs : List Br) (w : World) (hI : Rows w.heap.size w (.slice a zs.length cap) zs) :
    Calls Try.prog 31 #[.slice a zs.length cap] w fun e w' => e = .returned (.agg (cells (fold none0 zs))) ∧ Below w.heap.size w w' := by
  go_enter Try.func31, Try.ntmps31
  go_wp2_with fail
  have b0 := Blk.new w 36 (cells none0)
  have hB0 : Below w.heap.size w (w.alloc (.cells (cells none0) 36)) := (Below.refl _ w).alloc (Nat.le_refl _) _
  have hs0 : (w.alloc (.cells (cells none0) 36)).heap.size = w.heap.size + 1 := by simp
  refine (noneC _).mono ?_
  rintro e w1 ⟨rfl, hb1⟩
  have hb1 : Below (w.alloc (.cells (cells none0) 36)).heap.size (w.alloc (.cells (cells none0) 36)) w1 := hb1
  have r1 := b0.below hb1 (by omega)
  have hB1 := hB0.trans (hb1.mono (by omega : w.heap.size ≤ _))
  have hI1 := hI.below hB1
  have hs1 := hB1.size
  simp only [cells]
  go_wp2_with fail
  have hI1' : Rows w1.heap.size w1 (.slice a zs.length cap) zs := by
    rcases hI1 with h | ⟨b, off, c, h1, h2, h3⟩
    · exact .inl h
    · exact .inr ⟨b, off, c, h1, by omega, h3⟩
  refine (callsIn_wide.1 (folded_in 3 (by omega) a cap zs none0 w1 hI1')).mono ?_
  rintro e w2 ⟨rfl, hb2⟩
  have r2 := r1.below hb2 r1.lt
  have hB2 := hB1.trans (hb2.mono hs1)
  obtain ⟨y, hy⟩ : ∃ y, y = fold none0 zs := ⟨_, rfl⟩
  rw [← hy]
  replace hy := Lib.hid hy
  have c0 : w2.cell? ⟨w.heap.size, 0, none⟩ = some (.int .i64 0) := (r2.cell 0).trans rfl
  have f0 := r2.frozen 0
  have c1 : w2.cell? ⟨w.heap.size, 1, none⟩ = some (.int .i64 0) := (r2.cell 1).trans rfl
  have f1 := r2.frozen 1
  have c2 : w2.cell? ⟨w.heap.size, 2, none⟩ = some (.int .u32 0) := (r2.cell 2).trans rfl
  have f2 := r2.frozen 2
  have c3 : w2.cell? ⟨w.heap.size, 3, none⟩ = some (.int .u32 0) := (r2.cell 3).trans rfl
  have f3 := r2.frozen 3
  have c4 : w2.cell? ⟨w.heap.size, 4, none⟩ = some (.int .u64 0) := (r2.cell 4).trans rfl
  have f4 := r2.frozen 4
  have c5 : w2.cell? ⟨w.heap.size, 5, none⟩ = some (.bool false) := (r2.cell 5).trans rfl
  have f5 := r2.frozen 5
  simp only [cells]
  go_wp2_with fail
  have h6 := ((((((r2.set 0 (.int .i64 y.first)).set 1 (.int .i64 y.last)).set 2 (.int .u32 y.grave)).set 3 (.int .u32 y.src)).set 4 (.int .u64 y.many)).set 5 (.bool y.keep))
  have hB3 := ((((((hB2.setCell (p := ⟨w.heap.size, 0, none⟩) (Nat.le_refl _) (.int .i64 y.first)).setCell (p := ⟨w.heap.size, 1, none⟩) (Nat.le_refl _) (.int .i64 y.last)).setCell (p := ⟨w.heap.size, 2, none⟩) (Nat.le_refl _) (.int .u32 y.grave)).setCell (p := ⟨w.heap.size, 3, none⟩) (Nat.le_refl _) (.int .u32 y.src)).setCell (p := ⟨w.heap.size, 4, none⟩) (Nat.le_refl _) (.int .u64 y.many)).setCell (p := ⟨w.heap.size, 5, none⟩) (Nat.le_refl _) (.bool y.keep))
  refine bodyPost_ret (results_cell_row (p := 2) (ty := 36) rfl _ _ w.heap.size 36 _ (0, 0) _ rfl h6 Try.underlying36 rfl (by kernel_rfl)) rfl ?_
  exact ⟨by rw [← hy.out]; rfl, hB3⟩
end Go.Proofs.Ytliiefkdgdflpaa.All
