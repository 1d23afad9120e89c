/-
  brief.Parse: a text's brief.
-/
import Derived.Test.YtliiefkdgdflpaaBriefText
import Derived.Test.YtliiefkdgdflpaaBriefNum
import Derived.Laws.Rows
import Derived.Laws.ResultCell
namespace Go.Proofs.Ytliiefkdgdflpaa.BriefParse
open Go.RowKit Go.Proofs.YtliiefkdgdflpaaW.PrintWords Go.Proofs.YtliiefkdgdflpaaW.PrintLast Go.Proofs.YtliiefkdgdflpaaW.PrintMore BriefBytes BriefLaw BriefText BriefNum
set_option linter.unusedVariables false
set_option linter.unusedSimpArgs false

theorem results_row2 {P : Program} {fn : Func} {p u : Tmp} {ty : TypeId} (h : fn.results = #[.cell p ty, .tmp u]) (tmps : Array Value) (w : World) (g : Nat) (t : TypeId) (cs : Array Value) (fr : Nat × Nat) (d : TypeDesc)
    (hp : tmps.getD p undef = .pointer (some ⟨g, 0, none⟩)) (hg : w.heap[g]? = some (.cells cs t fr))
    (hu : P.underlying ty = some d) (hd : (match d with | .struct _ | .array _ _ => true | _ => false) = true) (hi : (P.info? ty).map (·.size) = some cs.size) :
    (results fn tmps).run P w = .ok (.tuple #[.agg cs, tmps.getD u undef]) w := by
  rw [results_cell_tmp h, hp]
  simp [asAddr, run_loadVar_row w g t ty cs fr d hg hu hd hi, Result.andThen]

theorem blk_at (w : World) (o : Obj) (n : Nat) (h : w.heap.size = n) : (w.alloc o).heap[n]? = some o := h ▸ blk_new w o

set_option maxRecDepth 100000 in
theorem parse_other (s : ByteArray) (w : World) (h : ¬ s.size = 33) (hs : s.size ≤ 9223372036854775807) :
    Calls Try.prog 36 #[.string s] w fun e w' => e = .returned (.tuple #[.agg #[.int .i64 0, .int .i64 0, .int .u32 0, .int .u32 0, .int .u64 0, .bool false], .int .i64 3]) ∧ Below w.heap.size w w' := by
  have h' : ((s.size : Int) == 33) = false := by simp; omega
  have h'' : ((s.size : Int) != 33) = true := by simp; omega
  go_enter Try.func36, Try.ntmps36
  go_wp2_with fail
  have hb := blk_at (w.alloc (.cells #[.string s] 9)) (.cells #[.int .i64 0, .int .i64 0, .int .u32 0, .int .u32 0, .int .u64 0, .bool false] 36) (w.heap.size + 1) (World.size_alloc _ _)
  refine bodyPost_ret (results_row2 (p := 2) (u := 3) (ty := 36) rfl _ _ (w.heap.size + 1) 36 _ (0, 0) _ rfl hb Try.underlying36 rfl (by kernel_rfl)) rfl ?_
  exact ⟨rfl, below_alloc (below_alloc (Below.refl _ _) _) _⟩
/-- a closure's call -/
theorem goesF_ {P : Program} {ops : Array Oper} {Q : Exit → Act → World → Prop} {oi : Oper} {N : Option Tmp} {a : Act} {w : World} {K : Act → World → Prop} {f : FuncId} {fn : Func} {as_ : Array Operand} {ts : Array TypeId} {t : Tmp} (hf : P.funcs[f]? = some fn) (hname : (fn.name == "runtime.NumGoroutine") = false) (hb : fn.body.isSome = true) (lb args : Array Value)
    (hw : Region.wanted oi (yielded ops a.tmps) = true) (hN : oi.dst = N) (hop : oi.op = .call { callee := .value (.tmp t), args := as_, argTypes := ts }) (hv : a.eval (.tmp t) = .func (.func f) #[] lb) (hargs : as_.map a.eval ++ lb = args)
    (h : Calls P f args w fun e w' => ∃ v, e = .returned v ∧ K (a.put N v) w') : if Region.wanted oi (yielded ops a.tmps) = true then Oper.wp P oi a w K Q else K (a.put N undef) w := by
  refine call_ f args hw hN ?_ h
  have he := enters_ hf hname hb args w
  unfold execOp
  simp only [hop]
  simp [resolve, Deferred.ofValue, invoke, hv, hargs, he]


theorem alloc_step {P : Program} {ops : Array Oper} {Q : Exit → Act → World → Prop} {oi : Oper} {a : Act} {W : World} {K : Act → World → Prop} {cs : Array Value} {t : TypeId} (hw : Region.wanted oi (yielded ops a.tmps) = true)
    (hrun : (execOp a.eval oi).run P W = .ok (.value (.pointer (some ⟨W.heap.size, 0, none⟩))) (W.alloc (.cells cs t (0, 0))))
    (h : ∀ g w1, g = W.heap.size → w1.heap[g]? = some (.cells cs t (0, 0)) → Below W.heap.size W w1 → K (a.put oi.dst (.pointer (some ⟨g, 0, none⟩))) w1) : if Region.wanted oi (yielded ops a.tmps) = true then Oper.wp P oi a W K Q else K (a.put oi.dst undef) W :=
  event_step hw hrun (h _ _ rfl (blk_new W _) (below_alloc (Below.refl _ _) _))

theorem rightP (a : Br) (r : Bool) (h : right a = r) (w : World) : Calls Try.prog 27 #[.agg #[.int .i64 a.first, .int .i64 a.last, .int .u32 a.grave, .int .u32 a.src, .int .u64 a.many, .bool a.keep]] w fun e w' => e = .returned (.bool r) ∧ Below w.heap.size w w' := by
  subst h; exact PBriefOrder.brief_Right.calls 2 _ _ _ _ _ _ _ w (right_f a)
theorem textP (b : Br) (t : ByteArray) (h : txt b = t) (w : World) : Calls Try.prog 35 #[.agg #[.int .i64 b.first, .int .i64 b.last, .int .u32 b.grave, .int .u32 b.src, .int .u64 b.many, .bool b.keep]] w fun e w' => e = .returned (.string t) ∧ Below w.heap.size w w' := by
  subst h; exact textC b w
theorem numD (s : ByteArray) (g : Nat) (a c : Int) (a' c' : Nat) (ha : a = a') (hc' : c = c') (hac : a' ≤ c') (hc : c' ≤ 33) (h8 : c' - a' ≤ 8) (hs : s.size = 33) (m : Int) (hm : num (BriefNum.part s a' (c' - a')) 0 = m) (w : World) (hbox : w.heap[g]? = some (.cells #[.string s] 9 (0, 0))) :
    Calls Try.prog 50 #[.int .i64 a, .int .i64 c, .pointer (some ⟨g, 0, none⟩)] w fun e w' => e = .returned (.int .u64 m) ∧ Below w.heap.size w w' := by
  subst ha hc' hm
  exact numC s g a' c' hac (by omega) h8 (by omega) w ((blk_cell hbox 0).trans rfl)

set_option maxRecDepth 100000 in
set_option maxHeartbeats 8000000 in
theorem parse_33 (s : ByteArray) (w : World) (hs : s.size = 33) (m1 m2 m3 m4 m5 : Int) (e1 : RowKit.Hid (num (BriefNum.part s 0 8) 0 = m1)) (e2 : RowKit.Hid (num (BriefNum.part s 8 8) 0 = m2)) (e3 : RowKit.Hid (num (BriefNum.part s 16 4) 0 = m3)) (e4 : RowKit.Hid (num (BriefNum.part s 20 4) 0 = m4)) (e5 : RowKit.Hid (num (BriefNum.part s 24 8) 0 = m5))
    (kp : Bool) (e6 : RowKit.Hid ((bt s 32 == 1) = kp)) (y0 y1 y2 y3 : Int) (g0 : RowKit.Hid (RowKit.wrap64 m1 = y0)) (g1 : RowKit.Hid (RowKit.wrap64 m2 = y1)) (g2 : RowKit.Hid (IntKind.u32.wrap m3 = y2)) (g3 : RowKit.Hid (IntKind.u32.wrap m4 = y3))
    (rb : Bool) (hrb : RowKit.Hid (right ⟨y0, y1, y2, y3, m5, kp⟩ = rb)) (t : ByteArray) (ht : RowKit.Hid (txt ⟨y0, y1, y2, y3, m5, kp⟩ = t)) (tb : Bool) (htb : (t.toList == s.toList) = tb) :
    Calls Try.prog 36 #[.string s] w fun e w' => e = .returned (if rb && tb then .tuple #[.agg #[.int .i64 y0, .int .i64 y1, .int .u32 y2, .int .u32 y3, .int .u64 m5, .bool kp], .int .i64 0] else .tuple #[.agg #[.int .i64 0, .int .i64 0, .int .u32 0, .int .u32 0, .int .u64 0, .bool false], .int .i64 3]) ∧ Below w.heap.size w w' := by
  have h' : ((s.size : Int) == 33) = true := by simp; omega
  have h'' : ((s.size : Int) != 33) = false := by simp; omega
  have hs32 : 32 < s.size := by omega
  have hs32i : (32 : Int) < (s.size : Int) := by omega
  have hs33 := Lib.hid hs
  clear hs
  go_enter Try.func36, Try.ntmps36
  go_wp2_with fail
  have hb0 := Lib.hid (blk_alloc (blk_new w (.cells #[.string s] 9)) (.cells #[.int .i64 0, .int .i64 0, .int .u32 0, .int .u32 0, .int .u64 0, .bool false] 36))
  have hb1 := Lib.hid (blk_at (w.alloc (.cells #[.string s] 9)) (.cells #[.int .i64 0, .int .i64 0, .int .u32 0, .int .u32 0, .int .u64 0, .bool false] 36) (w.heap.size + 1) (World.size_alloc _ _))
  have hB := Lib.hid (below_alloc (below_alloc (Below.refl _ w) (.cells #[.string s] 9)) (.cells #[.int .i64 0, .int .i64 0, .int .u32 0, .int .u32 0, .int .u64 0, .bool false] 36))
  refine start_ (n := 20) (S := fun w' => w'.heap[w.heap.size]? = some (.cells #[.string s] 9 (0, 0)) ∧ w'.heap[w.heap.size + 1]? = some (.cells #[.int .i64 0, .int .i64 0, .int .u32 0, .int .u32 0, .int .u64 0, .bool false] 36 (0, 0)) ∧ Below w.heap.size w w') (ds := []) #[false, false, false, false, false, false, false, false, false, false, false, false, false, false, false, false, false, false, false, false] (by kernel_rfl) rfl rfl (⟨hb0.out, hb1.out, hB.out.drew⟩) (fun hS => ?_)
  refine pure_ (i := 0) (N := some 11) (v := ?_) (a' := ?_) #[true, false, false, false, false, false, false, false, false, false, false, false, false, false, false, false, false, false, false, false] rfl rfl (by kernel_rfl) (fun _ _ _ h => h) (Or.inl ⟨by rfl, ?_⟩) ?_ ?_
  rotate_left
  · intro w'
    go_simp
    with_reducible rfl
  rotate_left
  · simp only [Act.put, List.setIfInBounds_toArray, List.set_cons_zero, List.set_cons_succ, i64_w, i32_w]
    rfl
  refine pure_ (i := 3) (N := some 14) (v := ?_) (a' := ?_) #[true, false, false, true, false, false, false, false, false, false, false, false, false, false, false, false, false, false, false, false] rfl rfl (by kernel_rfl) (fun _ _ _ h => h) (Or.inl ⟨by rfl, ?_⟩) ?_ ?_
  rotate_left
  · intro w'
    go_simp
    with_reducible rfl
  rotate_left
  · simp only [Act.put, List.setIfInBounds_toArray, List.set_cons_zero, List.set_cons_succ, i64_w, i32_w]
    rfl
  refine pure_ (i := 6) (N := some 17) (v := ?_) (a' := ?_) #[true, false, false, true, false, false, true, false, false, false, false, false, false, false, false, false, false, false, false, false] rfl rfl (by kernel_rfl) (fun _ _ _ h => h) (Or.inl ⟨by rfl, ?_⟩) ?_ ?_
  rotate_left
  · intro w'
    go_simp
    with_reducible rfl
  rotate_left
  · simp only [Act.put, List.setIfInBounds_toArray, List.set_cons_zero, List.set_cons_succ, i64_w, i32_w]
    rfl
  refine pure_ (i := 9) (N := some 20) (v := ?_) (a' := ?_) #[true, false, false, true, false, false, true, false, false, true, false, false, false, false, false, false, false, false, false, false] rfl rfl (by kernel_rfl) (fun _ _ _ h => h) (Or.inl ⟨by rfl, ?_⟩) ?_ ?_
  rotate_left
  · intro w'
    go_simp
    with_reducible rfl
  rotate_left
  · simp only [Act.put, List.setIfInBounds_toArray, List.set_cons_zero, List.set_cons_succ, i64_w, i32_w]
    rfl
  refine pure_ (i := 12) (N := some 23) (v := ?_) (a' := ?_) #[true, false, false, true, false, false, true, false, false, true, false, false, true, false, false, false, false, false, false, false] rfl rfl (by kernel_rfl) (fun _ _ _ h => h) (Or.inl ⟨by rfl, ?_⟩) ?_ ?_
  rotate_left
  · intro w'
    go_simp
    with_reducible rfl
  rotate_left
  · simp only [Act.put, List.setIfInBounds_toArray, List.set_cons_zero, List.set_cons_succ, i64_w, i32_w]
    rfl
  refine take_ (i := 14) (N := some 25) (v := ?_) (a' := ?_) #[true, false, false, true, false, false, true, false, false, true, false, false, true, false, true, false, false, false, false, false] rfl rfl (by kernel_rfl) (fun _ _ _ h => h) (Or.inl ⟨by rfl, ?_⟩) hS ?_ ?_
  rotate_left
  · rintro w' hs
    have t0 : w'.cell? ⟨w.heap.size, 0, none⟩ = some (.string s) := (blk_cell hs.1 0).trans rfl
    clear hs
    go_simp
    with_reducible rfl
  rotate_left
  · simp only [Act.put, List.setIfInBounds_toArray, List.set_cons_zero, List.set_cons_succ, i64_w, i32_w]
    rfl
  refine pure_ (i := 15) (N := some 26) (v := ?_) (a' := ?_) #[true, false, false, true, false, false, true, false, false, true, false, false, true, false, true, true, false, false, false, false] rfl rfl (by kernel_rfl) (fun _ _ _ h => h) (Or.inl ⟨by rfl, ?_⟩) ?_ ?_
  rotate_left
  · intro w'
    go_simp
    with_reducible rfl
  rotate_left
  · simp only [Act.put, List.setIfInBounds_toArray, List.set_cons_zero, List.set_cons_succ, i64_w, i32_w]
    rfl
  refine pure_ (i := 16) (N := some 27) (v := ?_) (a' := ?_) #[true, false, false, true, false, false, true, false, false, true, false, false, true, false, true, true, true, false, false, false] rfl rfl (by kernel_rfl) (fun _ _ _ h => h) (Or.inl ⟨by rfl, ?_⟩) ?_ ?_
  rotate_left
  · intro w'
    go_simp
    with_reducible rfl
  rotate_left
  · simp only [Act.put, List.setIfInBounds_toArray, List.set_cons_zero, List.set_cons_succ, i64_w, i32_w]
    rfl
  have hkp : (((s[32].toNat : Nat) : Int) == 1) = kp := by rw [show ((s[32].toNat : Nat) : Int) = bt s 32 from bt_at s 32 hs32]; exact e6.out
  rw [hkp]
  clear hkp
  refine join_ (σ := Nat) 1 #[true, true, true, true, true, true, true, true, true, true, true, true, true, true, true, true, true, true, true, false] (fun gx => [(12, .int .u64 m1), (13, .int .i64 (RowKit.wrap64 m1)), (15, .int .u64 m2), (16, .int .i64 (RowKit.wrap64 m2)), (18, .int .u64 m3), (19, .int .u32 (IntKind.u32.wrap m3)), (21, .int .u64 m4), (22, .int .u32 (IntKind.u32.wrap m4)), (24, .int .u64 m5), (28, .agg #[.int .i64 (RowKit.wrap64 m1), .int .i64 (RowKit.wrap64 m2), .int .u32 (IntKind.u32.wrap m3), .int .u32 (IntKind.u32.wrap m4), .int .u64 m5, .bool kp]), (5, .pointer (some ⟨gx, 0, none⟩))]) (fun gx w' => w'.heap[w.heap.size]? = some (.cells #[.string s] 9 (0, 0)) ∧ w'.heap[w.heap.size + 1]? = some (.cells #[.int .i64 0, .int .i64 0, .int .u32 0, .int .u32 0, .int .u64 0, .bool false] 36 (0, 0)) ∧ w'.heap[gx]? = some (.cells #[.int .i64 0, .int .i64 0, .int .u32 0, .int .u32 0, .int .u64 0, .bool false] 36 (0, 0)) ∧ w.heap.size + 1 < gx ∧ Below w.heap.size w w') ?hcont ?htree
  case htree =>
    intro hcont
    simp only [putAll, Act.put, List.setIfInBounds_toArray, List.set_cons_zero, List.set_cons_succ, i64_w, i32_w] at hcont
    replace hcont := Lib.hid hcont
    refine two_ (i := 1) (j := 18) (Ni := some 12) (Nj := some 5) #[true, true, false, true, false, false, true, false, false, true, false, false, true, false, true, true, true, false, false, false] #[true, false, false, true, false, false, true, false, false, true, false, false, true, false, true, true, true, false, true, false] rfl rfl rfl rfl (by kernel_rfl) (by decide) (by decide) (fun K hK => ?_) (fun K hK => ?_)
    rotate_left
    · skip
      refine alloc_step (cs := #[.int .i64 0, .int .i64 0, .int .u32 0, .int .u32 0, .int .u64 0, .bool false]) (t := 36) (by rfl) (by first | (go_simp; done) | (go_simp; rfl)) ?_
      rintro g w' hgs hgb hb'
      have hG := Lib.hid (And.intro hgb (show w.heap.size + 1 < g from hgs ▸ blk_lt hS.2.1))
      clear hgb hgs
      refine hK.out _ _ ⟨blk_below hS.1 hb', blk_below hS.2.1 hb', below_then hS.2.2 hS.2.2.size hb'⟩ (fun hS => ?_)
      clear hK K
      refine norm_ (a' := ?_) ?_ ?_
      rotate_left
      · show Act.put _ (some 5) _ = _
        simp only [Act.put, List.setIfInBounds_toArray, List.set_cons_zero, List.set_cons_succ, i64_w, i32_w]
        rfl
      refine one_ (i := 1) (N := some 12) #[true, true, false, true, false, false, true, false, false, true, false, false, true, false, true, true, true, false, true, false] rfl rfl (by kernel_rfl) (by decide) (fun K hK => ?_)
      refine goesF_ (t := 11) Try.func50 (by kernel_rfl) rfl #[.pointer (some ⟨w.heap.size, 0, none⟩)] #[.int .i64 0, .int .i64 8, .pointer (some ⟨w.heap.size, 0, none⟩)] (by rfl) rfl rfl rfl (by (try simp only [List.map_toArray, List.map_cons, List.map_nil]); first | done | rfl) ?_
      refine (numD s w.heap.size 0 8 0 8 rfl rfl (by omega) (by omega) (by omega) hs33.out m1 e1.out _ hS.1).mono ?_
      rintro e w' ⟨rfl, hb'⟩
      refine ⟨_, rfl, ?_⟩
      have hG := Lib.hid (And.intro (blk_below hG.out.1 hb') hG.out.2)
      refine hK.out _ _ ⟨blk_below hS.1 hb', blk_below hS.2.1 hb', below_then hS.2.2 hS.2.2.size hb'⟩ (fun hS => ?_)
      clear hK K
      refine norm_ (a' := ?_) ?_ ?_
      rotate_left
      · show Act.put _ (some 12) _ = _
        simp only [Act.put, List.setIfInBounds_toArray, List.set_cons_zero, List.set_cons_succ, i64_w, i32_w]
        rfl
      refine pure_ (i := 2) (N := some 13) (v := ?_) (a' := ?_) #[true, true, true, true, false, false, true, false, false, true, false, false, true, false, true, true, true, false, true, false] rfl rfl (by kernel_rfl) (fun _ _ _ h => h) (Or.inl ⟨by rfl, ?_⟩) ?_ ?_
      rotate_left
      · intro w'
        go_simp
        with_reducible rfl
      rotate_left
      · simp only [Act.put, List.setIfInBounds_toArray, List.set_cons_zero, List.set_cons_succ, i64_w, i32_w]
        rfl
      refine one_ (i := 4) (N := some 15) #[true, true, true, true, true, false, true, false, false, true, false, false, true, false, true, true, true, false, true, false] rfl rfl (by kernel_rfl) (by decide) (fun K hK => ?_)
      refine goesF_ (t := 14) Try.func50 (by kernel_rfl) rfl #[.pointer (some ⟨w.heap.size, 0, none⟩)] #[.int .i64 8, .int .i64 16, .pointer (some ⟨w.heap.size, 0, none⟩)] (by rfl) rfl rfl rfl (by (try simp only [List.map_toArray, List.map_cons, List.map_nil]); first | done | rfl) ?_
      refine (numD s w.heap.size 8 16 8 16 rfl rfl (by omega) (by omega) (by omega) hs33.out m2 e2.out _ hS.1).mono ?_
      rintro e w' ⟨rfl, hb'⟩
      refine ⟨_, rfl, ?_⟩
      have hG := Lib.hid (And.intro (blk_below hG.out.1 hb') hG.out.2)
      refine hK.out _ _ ⟨blk_below hS.1 hb', blk_below hS.2.1 hb', below_then hS.2.2 hS.2.2.size hb'⟩ (fun hS => ?_)
      clear hK K
      refine norm_ (a' := ?_) ?_ ?_
      rotate_left
      · show Act.put _ (some 15) _ = _
        simp only [Act.put, List.setIfInBounds_toArray, List.set_cons_zero, List.set_cons_succ, i64_w, i32_w]
        rfl
      refine pure_ (i := 5) (N := some 16) (v := ?_) (a' := ?_) #[true, true, true, true, true, true, true, false, false, true, false, false, true, false, true, true, true, false, true, false] rfl rfl (by kernel_rfl) (fun _ _ _ h => h) (Or.inl ⟨by rfl, ?_⟩) ?_ ?_
      rotate_left
      · intro w'
        go_simp
        with_reducible rfl
      rotate_left
      · simp only [Act.put, List.setIfInBounds_toArray, List.set_cons_zero, List.set_cons_succ, i64_w, i32_w]
        rfl
      refine one_ (i := 7) (N := some 18) #[true, true, true, true, true, true, true, true, false, true, false, false, true, false, true, true, true, false, true, false] rfl rfl (by kernel_rfl) (by decide) (fun K hK => ?_)
      refine goesF_ (t := 17) Try.func50 (by kernel_rfl) rfl #[.pointer (some ⟨w.heap.size, 0, none⟩)] #[.int .i64 16, .int .i64 20, .pointer (some ⟨w.heap.size, 0, none⟩)] (by rfl) rfl rfl rfl (by (try simp only [List.map_toArray, List.map_cons, List.map_nil]); first | done | rfl) ?_
      refine (numD s w.heap.size 16 20 16 20 rfl rfl (by omega) (by omega) (by omega) hs33.out m3 e3.out _ hS.1).mono ?_
      rintro e w' ⟨rfl, hb'⟩
      refine ⟨_, rfl, ?_⟩
      have hG := Lib.hid (And.intro (blk_below hG.out.1 hb') hG.out.2)
      refine hK.out _ _ ⟨blk_below hS.1 hb', blk_below hS.2.1 hb', below_then hS.2.2 hS.2.2.size hb'⟩ (fun hS => ?_)
      clear hK K
      refine norm_ (a' := ?_) ?_ ?_
      rotate_left
      · show Act.put _ (some 18) _ = _
        simp only [Act.put, List.setIfInBounds_toArray, List.set_cons_zero, List.set_cons_succ, i64_w, i32_w]
        rfl
      refine pure_ (i := 8) (N := some 19) (v := ?_) (a' := ?_) #[true, true, true, true, true, true, true, true, true, true, false, false, true, false, true, true, true, false, true, false] rfl rfl (by kernel_rfl) (fun _ _ _ h => h) (Or.inl ⟨by rfl, ?_⟩) ?_ ?_
      rotate_left
      · intro w'
        go_simp
        with_reducible rfl
      rotate_left
      · simp only [Act.put, List.setIfInBounds_toArray, List.set_cons_zero, List.set_cons_succ, i64_w, i32_w]
        rfl
      refine one_ (i := 10) (N := some 21) #[true, true, true, true, true, true, true, true, true, true, true, false, true, false, true, true, true, false, true, false] rfl rfl (by kernel_rfl) (by decide) (fun K hK => ?_)
      refine goesF_ (t := 20) Try.func50 (by kernel_rfl) rfl #[.pointer (some ⟨w.heap.size, 0, none⟩)] #[.int .i64 20, .int .i64 24, .pointer (some ⟨w.heap.size, 0, none⟩)] (by rfl) rfl rfl rfl (by (try simp only [List.map_toArray, List.map_cons, List.map_nil]); first | done | rfl) ?_
      refine (numD s w.heap.size 20 24 20 24 rfl rfl (by omega) (by omega) (by omega) hs33.out m4 e4.out _ hS.1).mono ?_
      rintro e w' ⟨rfl, hb'⟩
      refine ⟨_, rfl, ?_⟩
      have hG := Lib.hid (And.intro (blk_below hG.out.1 hb') hG.out.2)
      refine hK.out _ _ ⟨blk_below hS.1 hb', blk_below hS.2.1 hb', below_then hS.2.2 hS.2.2.size hb'⟩ (fun hS => ?_)
      clear hK K
      refine norm_ (a' := ?_) ?_ ?_
      rotate_left
      · show Act.put _ (some 21) _ = _
        simp only [Act.put, List.setIfInBounds_toArray, List.set_cons_zero, List.set_cons_succ, i64_w, i32_w]
        rfl
      refine pure_ (i := 11) (N := some 22) (v := ?_) (a' := ?_) #[true, true, true, true, true, true, true, true, true, true, true, true, true, false, true, true, true, false, true, false] rfl rfl (by kernel_rfl) (fun _ _ _ h => h) (Or.inl ⟨by rfl, ?_⟩) ?_ ?_
      rotate_left
      · intro w'
        go_simp
        with_reducible rfl
      rotate_left
      · simp only [Act.put, List.setIfInBounds_toArray, List.set_cons_zero, List.set_cons_succ, i64_w, i32_w]
        rfl
      refine one_ (i := 13) (N := some 24) #[true, true, true, true, true, true, true, true, true, true, true, true, true, true, true, true, true, false, true, false] rfl rfl (by kernel_rfl) (by decide) (fun K hK => ?_)
      refine goesF_ (t := 23) Try.func50 (by kernel_rfl) rfl #[.pointer (some ⟨w.heap.size, 0, none⟩)] #[.int .i64 24, .int .i64 32, .pointer (some ⟨w.heap.size, 0, none⟩)] (by rfl) rfl rfl rfl (by (try simp only [List.map_toArray, List.map_cons, List.map_nil]); first | done | rfl) ?_
      refine (numD s w.heap.size 24 32 24 32 rfl rfl (by omega) (by omega) (by omega) hs33.out m5 e5.out _ hS.1).mono ?_
      rintro e w' ⟨rfl, hb'⟩
      refine ⟨_, rfl, ?_⟩
      have hG := Lib.hid (And.intro (blk_below hG.out.1 hb') hG.out.2)
      refine hK.out _ _ ⟨blk_below hS.1 hb', blk_below hS.2.1 hb', below_then hS.2.2 hS.2.2.size hb'⟩ (fun hS => ?_)
      clear hK K
      refine norm_ (a' := ?_) ?_ ?_
      rotate_left
      · show Act.put _ (some 24) _ = _
        simp only [Act.put, List.setIfInBounds_toArray, List.set_cons_zero, List.set_cons_succ, i64_w, i32_w]
        rfl
      refine pure_ (i := 17) (N := some 28) (v := ?_) (a' := ?_) #[true, true, true, true, true, true, true, true, true, true, true, true, true, true, true, true, true, true, true, false] rfl rfl (by kernel_rfl) (fun _ _ _ h => h) (Or.inl ⟨by rfl, ?_⟩) ?_ ?_
      rotate_left
      · intro w'
        go_simp
        with_reducible rfl
      rotate_left
      · simp only [Act.put, List.setIfInBounds_toArray, List.set_cons_zero, List.set_cons_succ, i64_w, i32_w]
        rfl
      exact hcont.out g _ ⟨hS.1, hS.2.1, hG.out.1, hG.out.2, hS.2.2⟩
    refine goesF_ (t := 11) Try.func50 (by kernel_rfl) rfl #[.pointer (some ⟨w.heap.size, 0, none⟩)] #[.int .i64 0, .int .i64 8, .pointer (some ⟨w.heap.size, 0, none⟩)] (by rfl) rfl rfl rfl (by (try simp only [List.map_toArray, List.map_cons, List.map_nil]); first | done | rfl) ?_
    refine (numD s w.heap.size 0 8 0 8 rfl rfl (by omega) (by omega) (by omega) hs33.out m1 e1.out _ hS.1).mono ?_
    rintro e w' ⟨rfl, hb'⟩
    refine ⟨_, rfl, ?_⟩
    refine hK.out _ _ ⟨blk_below hS.1 hb', blk_below hS.2.1 hb', below_then hS.2.2 hS.2.2.size hb'⟩ (fun hS => ?_)
    clear hK K
    refine norm_ (a' := ?_) ?_ ?_
    rotate_left
    · show Act.put _ (some 12) _ = _
      simp only [Act.put, List.setIfInBounds_toArray, List.set_cons_zero, List.set_cons_succ, i64_w, i32_w]
      rfl
    refine pure_ (i := 2) (N := some 13) (v := ?_) (a' := ?_) #[true, true, true, true, false, false, true, false, false, true, false, false, true, false, true, true, true, false, false, false] rfl rfl (by kernel_rfl) (fun _ _ _ h => h) (Or.inl ⟨by rfl, ?_⟩) ?_ ?_
    rotate_left
    · intro w'
      go_simp
      with_reducible rfl
    rotate_left
    · simp only [Act.put, List.setIfInBounds_toArray, List.set_cons_zero, List.set_cons_succ, i64_w, i32_w]
      rfl
    refine two_ (i := 4) (j := 18) (Ni := some 15) (Nj := some 5) #[true, true, true, true, true, false, true, false, false, true, false, false, true, false, true, true, true, false, false, false] #[true, true, true, true, false, false, true, false, false, true, false, false, true, false, true, true, true, false, true, false] rfl rfl rfl rfl (by kernel_rfl) (by decide) (by decide) (fun K hK => ?_) (fun K hK => ?_)
    rotate_left
    · skip
      refine alloc_step (cs := #[.int .i64 0, .int .i64 0, .int .u32 0, .int .u32 0, .int .u64 0, .bool false]) (t := 36) (by rfl) (by first | (go_simp; done) | (go_simp; rfl)) ?_
      rintro g w' hgs hgb hb'
      have hG := Lib.hid (And.intro hgb (show w.heap.size + 1 < g from hgs ▸ blk_lt hS.2.1))
      clear hgb hgs
      refine hK.out _ _ ⟨blk_below hS.1 hb', blk_below hS.2.1 hb', below_then hS.2.2 hS.2.2.size hb'⟩ (fun hS => ?_)
      clear hK K
      refine norm_ (a' := ?_) ?_ ?_
      rotate_left
      · show Act.put _ (some 5) _ = _
        simp only [Act.put, List.setIfInBounds_toArray, List.set_cons_zero, List.set_cons_succ, i64_w, i32_w]
        rfl
      refine one_ (i := 4) (N := some 15) #[true, true, true, true, true, false, true, false, false, true, false, false, true, false, true, true, true, false, true, false] rfl rfl (by kernel_rfl) (by decide) (fun K hK => ?_)
      refine goesF_ (t := 14) Try.func50 (by kernel_rfl) rfl #[.pointer (some ⟨w.heap.size, 0, none⟩)] #[.int .i64 8, .int .i64 16, .pointer (some ⟨w.heap.size, 0, none⟩)] (by rfl) rfl rfl rfl (by (try simp only [List.map_toArray, List.map_cons, List.map_nil]); first | done | rfl) ?_
      refine (numD s w.heap.size 8 16 8 16 rfl rfl (by omega) (by omega) (by omega) hs33.out m2 e2.out _ hS.1).mono ?_
      rintro e w' ⟨rfl, hb'⟩
      refine ⟨_, rfl, ?_⟩
      have hG := Lib.hid (And.intro (blk_below hG.out.1 hb') hG.out.2)
      refine hK.out _ _ ⟨blk_below hS.1 hb', blk_below hS.2.1 hb', below_then hS.2.2 hS.2.2.size hb'⟩ (fun hS => ?_)
      clear hK K
      refine norm_ (a' := ?_) ?_ ?_
      rotate_left
      · show Act.put _ (some 15) _ = _
        simp only [Act.put, List.setIfInBounds_toArray, List.set_cons_zero, List.set_cons_succ, i64_w, i32_w]
        rfl
      refine pure_ (i := 5) (N := some 16) (v := ?_) (a' := ?_) #[true, true, true, true, true, true, true, false, false, true, false, false, true, false, true, true, true, false, true, false] rfl rfl (by kernel_rfl) (fun _ _ _ h => h) (Or.inl ⟨by rfl, ?_⟩) ?_ ?_
      rotate_left
      · intro w'
        go_simp
        with_reducible rfl
      rotate_left
      · simp only [Act.put, List.setIfInBounds_toArray, List.set_cons_zero, List.set_cons_succ, i64_w, i32_w]
        rfl
      refine one_ (i := 7) (N := some 18) #[true, true, true, true, true, true, true, true, false, true, false, false, true, false, true, true, true, false, true, false] rfl rfl (by kernel_rfl) (by decide) (fun K hK => ?_)
      refine goesF_ (t := 17) Try.func50 (by kernel_rfl) rfl #[.pointer (some ⟨w.heap.size, 0, none⟩)] #[.int .i64 16, .int .i64 20, .pointer (some ⟨w.heap.size, 0, none⟩)] (by rfl) rfl rfl rfl (by (try simp only [List.map_toArray, List.map_cons, List.map_nil]); first | done | rfl) ?_
      refine (numD s w.heap.size 16 20 16 20 rfl rfl (by omega) (by omega) (by omega) hs33.out m3 e3.out _ hS.1).mono ?_
      rintro e w' ⟨rfl, hb'⟩
      refine ⟨_, rfl, ?_⟩
      have hG := Lib.hid (And.intro (blk_below hG.out.1 hb') hG.out.2)
      refine hK.out _ _ ⟨blk_below hS.1 hb', blk_below hS.2.1 hb', below_then hS.2.2 hS.2.2.size hb'⟩ (fun hS => ?_)
      clear hK K
      refine norm_ (a' := ?_) ?_ ?_
      rotate_left
      · show Act.put _ (some 18) _ = _
        simp only [Act.put, List.setIfInBounds_toArray, List.set_cons_zero, List.set_cons_succ, i64_w, i32_w]
        rfl
      refine pure_ (i := 8) (N := some 19) (v := ?_) (a' := ?_) #[true, true, true, true, true, true, true, true, true, true, false, false, true, false, true, true, true, false, true, false] rfl rfl (by kernel_rfl) (fun _ _ _ h => h) (Or.inl ⟨by rfl, ?_⟩) ?_ ?_
      rotate_left
      · intro w'
        go_simp
        with_reducible rfl
      rotate_left
      · simp only [Act.put, List.setIfInBounds_toArray, List.set_cons_zero, List.set_cons_succ, i64_w, i32_w]
        rfl
      refine one_ (i := 10) (N := some 21) #[true, true, true, true, true, true, true, true, true, true, true, false, true, false, true, true, true, false, true, false] rfl rfl (by kernel_rfl) (by decide) (fun K hK => ?_)
      refine goesF_ (t := 20) Try.func50 (by kernel_rfl) rfl #[.pointer (some ⟨w.heap.size, 0, none⟩)] #[.int .i64 20, .int .i64 24, .pointer (some ⟨w.heap.size, 0, none⟩)] (by rfl) rfl rfl rfl (by (try simp only [List.map_toArray, List.map_cons, List.map_nil]); first | done | rfl) ?_
      refine (numD s w.heap.size 20 24 20 24 rfl rfl (by omega) (by omega) (by omega) hs33.out m4 e4.out _ hS.1).mono ?_
      rintro e w' ⟨rfl, hb'⟩
      refine ⟨_, rfl, ?_⟩
      have hG := Lib.hid (And.intro (blk_below hG.out.1 hb') hG.out.2)
      refine hK.out _ _ ⟨blk_below hS.1 hb', blk_below hS.2.1 hb', below_then hS.2.2 hS.2.2.size hb'⟩ (fun hS => ?_)
      clear hK K
      refine norm_ (a' := ?_) ?_ ?_
      rotate_left
      · show Act.put _ (some 21) _ = _
        simp only [Act.put, List.setIfInBounds_toArray, List.set_cons_zero, List.set_cons_succ, i64_w, i32_w]
        rfl
      refine pure_ (i := 11) (N := some 22) (v := ?_) (a' := ?_) #[true, true, true, true, true, true, true, true, true, true, true, true, true, false, true, true, true, false, true, false] rfl rfl (by kernel_rfl) (fun _ _ _ h => h) (Or.inl ⟨by rfl, ?_⟩) ?_ ?_
      rotate_left
      · intro w'
        go_simp
        with_reducible rfl
      rotate_left
      · simp only [Act.put, List.setIfInBounds_toArray, List.set_cons_zero, List.set_cons_succ, i64_w, i32_w]
        rfl
      refine one_ (i := 13) (N := some 24) #[true, true, true, true, true, true, true, true, true, true, true, true, true, true, true, true, true, false, true, false] rfl rfl (by kernel_rfl) (by decide) (fun K hK => ?_)
      refine goesF_ (t := 23) Try.func50 (by kernel_rfl) rfl #[.pointer (some ⟨w.heap.size, 0, none⟩)] #[.int .i64 24, .int .i64 32, .pointer (some ⟨w.heap.size, 0, none⟩)] (by rfl) rfl rfl rfl (by (try simp only [List.map_toArray, List.map_cons, List.map_nil]); first | done | rfl) ?_
      refine (numD s w.heap.size 24 32 24 32 rfl rfl (by omega) (by omega) (by omega) hs33.out m5 e5.out _ hS.1).mono ?_
      rintro e w' ⟨rfl, hb'⟩
      refine ⟨_, rfl, ?_⟩
      have hG := Lib.hid (And.intro (blk_below hG.out.1 hb') hG.out.2)
      refine hK.out _ _ ⟨blk_below hS.1 hb', blk_below hS.2.1 hb', below_then hS.2.2 hS.2.2.size hb'⟩ (fun hS => ?_)
      clear hK K
      refine norm_ (a' := ?_) ?_ ?_
      rotate_left
      · show Act.put _ (some 24) _ = _
        simp only [Act.put, List.setIfInBounds_toArray, List.set_cons_zero, List.set_cons_succ, i64_w, i32_w]
        rfl
      refine pure_ (i := 17) (N := some 28) (v := ?_) (a' := ?_) #[true, true, true, true, true, true, true, true, true, true, true, true, true, true, true, true, true, true, true, false] rfl rfl (by kernel_rfl) (fun _ _ _ h => h) (Or.inl ⟨by rfl, ?_⟩) ?_ ?_
      rotate_left
      · intro w'
        go_simp
        with_reducible rfl
      rotate_left
      · simp only [Act.put, List.setIfInBounds_toArray, List.set_cons_zero, List.set_cons_succ, i64_w, i32_w]
        rfl
      exact hcont.out g _ ⟨hS.1, hS.2.1, hG.out.1, hG.out.2, hS.2.2⟩
    refine goesF_ (t := 14) Try.func50 (by kernel_rfl) rfl #[.pointer (some ⟨w.heap.size, 0, none⟩)] #[.int .i64 8, .int .i64 16, .pointer (some ⟨w.heap.size, 0, none⟩)] (by rfl) rfl rfl rfl (by (try simp only [List.map_toArray, List.map_cons, List.map_nil]); first | done | rfl) ?_
    refine (numD s w.heap.size 8 16 8 16 rfl rfl (by omega) (by omega) (by omega) hs33.out m2 e2.out _ hS.1).mono ?_
    rintro e w' ⟨rfl, hb'⟩
    refine ⟨_, rfl, ?_⟩
    refine hK.out _ _ ⟨blk_below hS.1 hb', blk_below hS.2.1 hb', below_then hS.2.2 hS.2.2.size hb'⟩ (fun hS => ?_)
    clear hK K
    refine norm_ (a' := ?_) ?_ ?_
    rotate_left
    · show Act.put _ (some 15) _ = _
      simp only [Act.put, List.setIfInBounds_toArray, List.set_cons_zero, List.set_cons_succ, i64_w, i32_w]
      rfl
    refine pure_ (i := 5) (N := some 16) (v := ?_) (a' := ?_) #[true, true, true, true, true, true, true, false, false, true, false, false, true, false, true, true, true, false, false, false] rfl rfl (by kernel_rfl) (fun _ _ _ h => h) (Or.inl ⟨by rfl, ?_⟩) ?_ ?_
    rotate_left
    · intro w'
      go_simp
      with_reducible rfl
    rotate_left
    · simp only [Act.put, List.setIfInBounds_toArray, List.set_cons_zero, List.set_cons_succ, i64_w, i32_w]
      rfl
    refine two_ (i := 7) (j := 18) (Ni := some 18) (Nj := some 5) #[true, true, true, true, true, true, true, true, false, true, false, false, true, false, true, true, true, false, false, false] #[true, true, true, true, true, true, true, false, false, true, false, false, true, false, true, true, true, false, true, false] rfl rfl rfl rfl (by kernel_rfl) (by decide) (by decide) (fun K hK => ?_) (fun K hK => ?_)
    rotate_left
    · skip
      refine alloc_step (cs := #[.int .i64 0, .int .i64 0, .int .u32 0, .int .u32 0, .int .u64 0, .bool false]) (t := 36) (by rfl) (by first | (go_simp; done) | (go_simp; rfl)) ?_
      rintro g w' hgs hgb hb'
      have hG := Lib.hid (And.intro hgb (show w.heap.size + 1 < g from hgs ▸ blk_lt hS.2.1))
      clear hgb hgs
      refine hK.out _ _ ⟨blk_below hS.1 hb', blk_below hS.2.1 hb', below_then hS.2.2 hS.2.2.size hb'⟩ (fun hS => ?_)
      clear hK K
      refine norm_ (a' := ?_) ?_ ?_
      rotate_left
      · show Act.put _ (some 5) _ = _
        simp only [Act.put, List.setIfInBounds_toArray, List.set_cons_zero, List.set_cons_succ, i64_w, i32_w]
        rfl
      refine one_ (i := 7) (N := some 18) #[true, true, true, true, true, true, true, true, false, true, false, false, true, false, true, true, true, false, true, false] rfl rfl (by kernel_rfl) (by decide) (fun K hK => ?_)
      refine goesF_ (t := 17) Try.func50 (by kernel_rfl) rfl #[.pointer (some ⟨w.heap.size, 0, none⟩)] #[.int .i64 16, .int .i64 20, .pointer (some ⟨w.heap.size, 0, none⟩)] (by rfl) rfl rfl rfl (by (try simp only [List.map_toArray, List.map_cons, List.map_nil]); first | done | rfl) ?_
      refine (numD s w.heap.size 16 20 16 20 rfl rfl (by omega) (by omega) (by omega) hs33.out m3 e3.out _ hS.1).mono ?_
      rintro e w' ⟨rfl, hb'⟩
      refine ⟨_, rfl, ?_⟩
      have hG := Lib.hid (And.intro (blk_below hG.out.1 hb') hG.out.2)
      refine hK.out _ _ ⟨blk_below hS.1 hb', blk_below hS.2.1 hb', below_then hS.2.2 hS.2.2.size hb'⟩ (fun hS => ?_)
      clear hK K
      refine norm_ (a' := ?_) ?_ ?_
      rotate_left
      · show Act.put _ (some 18) _ = _
        simp only [Act.put, List.setIfInBounds_toArray, List.set_cons_zero, List.set_cons_succ, i64_w, i32_w]
        rfl
      refine pure_ (i := 8) (N := some 19) (v := ?_) (a' := ?_) #[true, true, true, true, true, true, true, true, true, true, false, false, true, false, true, true, true, false, true, false] rfl rfl (by kernel_rfl) (fun _ _ _ h => h) (Or.inl ⟨by rfl, ?_⟩) ?_ ?_
      rotate_left
      · intro w'
        go_simp
        with_reducible rfl
      rotate_left
      · simp only [Act.put, List.setIfInBounds_toArray, List.set_cons_zero, List.set_cons_succ, i64_w, i32_w]
        rfl
      refine one_ (i := 10) (N := some 21) #[true, true, true, true, true, true, true, true, true, true, true, false, true, false, true, true, true, false, true, false] rfl rfl (by kernel_rfl) (by decide) (fun K hK => ?_)
      refine goesF_ (t := 20) Try.func50 (by kernel_rfl) rfl #[.pointer (some ⟨w.heap.size, 0, none⟩)] #[.int .i64 20, .int .i64 24, .pointer (some ⟨w.heap.size, 0, none⟩)] (by rfl) rfl rfl rfl (by (try simp only [List.map_toArray, List.map_cons, List.map_nil]); first | done | rfl) ?_
      refine (numD s w.heap.size 20 24 20 24 rfl rfl (by omega) (by omega) (by omega) hs33.out m4 e4.out _ hS.1).mono ?_
      rintro e w' ⟨rfl, hb'⟩
      refine ⟨_, rfl, ?_⟩
      have hG := Lib.hid (And.intro (blk_below hG.out.1 hb') hG.out.2)
      refine hK.out _ _ ⟨blk_below hS.1 hb', blk_below hS.2.1 hb', below_then hS.2.2 hS.2.2.size hb'⟩ (fun hS => ?_)
      clear hK K
      refine norm_ (a' := ?_) ?_ ?_
      rotate_left
      · show Act.put _ (some 21) _ = _
        simp only [Act.put, List.setIfInBounds_toArray, List.set_cons_zero, List.set_cons_succ, i64_w, i32_w]
        rfl
      refine pure_ (i := 11) (N := some 22) (v := ?_) (a' := ?_) #[true, true, true, true, true, true, true, true, true, true, true, true, true, false, true, true, true, false, true, false] rfl rfl (by kernel_rfl) (fun _ _ _ h => h) (Or.inl ⟨by rfl, ?_⟩) ?_ ?_
      rotate_left
      · intro w'
        go_simp
        with_reducible rfl
      rotate_left
      · simp only [Act.put, List.setIfInBounds_toArray, List.set_cons_zero, List.set_cons_succ, i64_w, i32_w]
        rfl
      refine one_ (i := 13) (N := some 24) #[true, true, true, true, true, true, true, true, true, true, true, true, true, true, true, true, true, false, true, false] rfl rfl (by kernel_rfl) (by decide) (fun K hK => ?_)
      refine goesF_ (t := 23) Try.func50 (by kernel_rfl) rfl #[.pointer (some ⟨w.heap.size, 0, none⟩)] #[.int .i64 24, .int .i64 32, .pointer (some ⟨w.heap.size, 0, none⟩)] (by rfl) rfl rfl rfl (by (try simp only [List.map_toArray, List.map_cons, List.map_nil]); first | done | rfl) ?_
      refine (numD s w.heap.size 24 32 24 32 rfl rfl (by omega) (by omega) (by omega) hs33.out m5 e5.out _ hS.1).mono ?_
      rintro e w' ⟨rfl, hb'⟩
      refine ⟨_, rfl, ?_⟩
      have hG := Lib.hid (And.intro (blk_below hG.out.1 hb') hG.out.2)
      refine hK.out _ _ ⟨blk_below hS.1 hb', blk_below hS.2.1 hb', below_then hS.2.2 hS.2.2.size hb'⟩ (fun hS => ?_)
      clear hK K
      refine norm_ (a' := ?_) ?_ ?_
      rotate_left
      · show Act.put _ (some 24) _ = _
        simp only [Act.put, List.setIfInBounds_toArray, List.set_cons_zero, List.set_cons_succ, i64_w, i32_w]
        rfl
      refine pure_ (i := 17) (N := some 28) (v := ?_) (a' := ?_) #[true, true, true, true, true, true, true, true, true, true, true, true, true, true, true, true, true, true, true, false] rfl rfl (by kernel_rfl) (fun _ _ _ h => h) (Or.inl ⟨by rfl, ?_⟩) ?_ ?_
      rotate_left
      · intro w'
        go_simp
        with_reducible rfl
      rotate_left
      · simp only [Act.put, List.setIfInBounds_toArray, List.set_cons_zero, List.set_cons_succ, i64_w, i32_w]
        rfl
      exact hcont.out g _ ⟨hS.1, hS.2.1, hG.out.1, hG.out.2, hS.2.2⟩
    refine goesF_ (t := 17) Try.func50 (by kernel_rfl) rfl #[.pointer (some ⟨w.heap.size, 0, none⟩)] #[.int .i64 16, .int .i64 20, .pointer (some ⟨w.heap.size, 0, none⟩)] (by rfl) rfl rfl rfl (by (try simp only [List.map_toArray, List.map_cons, List.map_nil]); first | done | rfl) ?_
    refine (numD s w.heap.size 16 20 16 20 rfl rfl (by omega) (by omega) (by omega) hs33.out m3 e3.out _ hS.1).mono ?_
    rintro e w' ⟨rfl, hb'⟩
    refine ⟨_, rfl, ?_⟩
    refine hK.out _ _ ⟨blk_below hS.1 hb', blk_below hS.2.1 hb', below_then hS.2.2 hS.2.2.size hb'⟩ (fun hS => ?_)
    clear hK K
    refine norm_ (a' := ?_) ?_ ?_
    rotate_left
    · show Act.put _ (some 18) _ = _
      simp only [Act.put, List.setIfInBounds_toArray, List.set_cons_zero, List.set_cons_succ, i64_w, i32_w]
      rfl
    refine pure_ (i := 8) (N := some 19) (v := ?_) (a' := ?_) #[true, true, true, true, true, true, true, true, true, true, false, false, true, false, true, true, true, false, false, false] rfl rfl (by kernel_rfl) (fun _ _ _ h => h) (Or.inl ⟨by rfl, ?_⟩) ?_ ?_
    rotate_left
    · intro w'
      go_simp
      with_reducible rfl
    rotate_left
    · simp only [Act.put, List.setIfInBounds_toArray, List.set_cons_zero, List.set_cons_succ, i64_w, i32_w]
      rfl
    refine two_ (i := 10) (j := 18) (Ni := some 21) (Nj := some 5) #[true, true, true, true, true, true, true, true, true, true, true, false, true, false, true, true, true, false, false, false] #[true, true, true, true, true, true, true, true, true, true, false, false, true, false, true, true, true, false, true, false] rfl rfl rfl rfl (by kernel_rfl) (by decide) (by decide) (fun K hK => ?_) (fun K hK => ?_)
    rotate_left
    · skip
      refine alloc_step (cs := #[.int .i64 0, .int .i64 0, .int .u32 0, .int .u32 0, .int .u64 0, .bool false]) (t := 36) (by rfl) (by first | (go_simp; done) | (go_simp; rfl)) ?_
      rintro g w' hgs hgb hb'
      have hG := Lib.hid (And.intro hgb (show w.heap.size + 1 < g from hgs ▸ blk_lt hS.2.1))
      clear hgb hgs
      refine hK.out _ _ ⟨blk_below hS.1 hb', blk_below hS.2.1 hb', below_then hS.2.2 hS.2.2.size hb'⟩ (fun hS => ?_)
      clear hK K
      refine norm_ (a' := ?_) ?_ ?_
      rotate_left
      · show Act.put _ (some 5) _ = _
        simp only [Act.put, List.setIfInBounds_toArray, List.set_cons_zero, List.set_cons_succ, i64_w, i32_w]
        rfl
      refine one_ (i := 10) (N := some 21) #[true, true, true, true, true, true, true, true, true, true, true, false, true, false, true, true, true, false, true, false] rfl rfl (by kernel_rfl) (by decide) (fun K hK => ?_)
      refine goesF_ (t := 20) Try.func50 (by kernel_rfl) rfl #[.pointer (some ⟨w.heap.size, 0, none⟩)] #[.int .i64 20, .int .i64 24, .pointer (some ⟨w.heap.size, 0, none⟩)] (by rfl) rfl rfl rfl (by (try simp only [List.map_toArray, List.map_cons, List.map_nil]); first | done | rfl) ?_
      refine (numD s w.heap.size 20 24 20 24 rfl rfl (by omega) (by omega) (by omega) hs33.out m4 e4.out _ hS.1).mono ?_
      rintro e w' ⟨rfl, hb'⟩
      refine ⟨_, rfl, ?_⟩
      have hG := Lib.hid (And.intro (blk_below hG.out.1 hb') hG.out.2)
      refine hK.out _ _ ⟨blk_below hS.1 hb', blk_below hS.2.1 hb', below_then hS.2.2 hS.2.2.size hb'⟩ (fun hS => ?_)
      clear hK K
      refine norm_ (a' := ?_) ?_ ?_
      rotate_left
      · show Act.put _ (some 21) _ = _
        simp only [Act.put, List.setIfInBounds_toArray, List.set_cons_zero, List.set_cons_succ, i64_w, i32_w]
        rfl
      refine pure_ (i := 11) (N := some 22) (v := ?_) (a' := ?_) #[true, true, true, true, true, true, true, true, true, true, true, true, true, false, true, true, true, false, true, false] rfl rfl (by kernel_rfl) (fun _ _ _ h => h) (Or.inl ⟨by rfl, ?_⟩) ?_ ?_
      rotate_left
      · intro w'
        go_simp
        with_reducible rfl
      rotate_left
      · simp only [Act.put, List.setIfInBounds_toArray, List.set_cons_zero, List.set_cons_succ, i64_w, i32_w]
        rfl
      refine one_ (i := 13) (N := some 24) #[true, true, true, true, true, true, true, true, true, true, true, true, true, true, true, true, true, false, true, false] rfl rfl (by kernel_rfl) (by decide) (fun K hK => ?_)
      refine goesF_ (t := 23) Try.func50 (by kernel_rfl) rfl #[.pointer (some ⟨w.heap.size, 0, none⟩)] #[.int .i64 24, .int .i64 32, .pointer (some ⟨w.heap.size, 0, none⟩)] (by rfl) rfl rfl rfl (by (try simp only [List.map_toArray, List.map_cons, List.map_nil]); first | done | rfl) ?_
      refine (numD s w.heap.size 24 32 24 32 rfl rfl (by omega) (by omega) (by omega) hs33.out m5 e5.out _ hS.1).mono ?_
      rintro e w' ⟨rfl, hb'⟩
      refine ⟨_, rfl, ?_⟩
      have hG := Lib.hid (And.intro (blk_below hG.out.1 hb') hG.out.2)
      refine hK.out _ _ ⟨blk_below hS.1 hb', blk_below hS.2.1 hb', below_then hS.2.2 hS.2.2.size hb'⟩ (fun hS => ?_)
      clear hK K
      refine norm_ (a' := ?_) ?_ ?_
      rotate_left
      · show Act.put _ (some 24) _ = _
        simp only [Act.put, List.setIfInBounds_toArray, List.set_cons_zero, List.set_cons_succ, i64_w, i32_w]
        rfl
      refine pure_ (i := 17) (N := some 28) (v := ?_) (a' := ?_) #[true, true, true, true, true, true, true, true, true, true, true, true, true, true, true, true, true, true, true, false] rfl rfl (by kernel_rfl) (fun _ _ _ h => h) (Or.inl ⟨by rfl, ?_⟩) ?_ ?_
      rotate_left
      · intro w'
        go_simp
        with_reducible rfl
      rotate_left
      · simp only [Act.put, List.setIfInBounds_toArray, List.set_cons_zero, List.set_cons_succ, i64_w, i32_w]
        rfl
      exact hcont.out g _ ⟨hS.1, hS.2.1, hG.out.1, hG.out.2, hS.2.2⟩
    refine goesF_ (t := 20) Try.func50 (by kernel_rfl) rfl #[.pointer (some ⟨w.heap.size, 0, none⟩)] #[.int .i64 20, .int .i64 24, .pointer (some ⟨w.heap.size, 0, none⟩)] (by rfl) rfl rfl rfl (by (try simp only [List.map_toArray, List.map_cons, List.map_nil]); first | done | rfl) ?_
    refine (numD s w.heap.size 20 24 20 24 rfl rfl (by omega) (by omega) (by omega) hs33.out m4 e4.out _ hS.1).mono ?_
    rintro e w' ⟨rfl, hb'⟩
    refine ⟨_, rfl, ?_⟩
    refine hK.out _ _ ⟨blk_below hS.1 hb', blk_below hS.2.1 hb', below_then hS.2.2 hS.2.2.size hb'⟩ (fun hS => ?_)
    clear hK K
    refine norm_ (a' := ?_) ?_ ?_
    rotate_left
    · show Act.put _ (some 21) _ = _
      simp only [Act.put, List.setIfInBounds_toArray, List.set_cons_zero, List.set_cons_succ, i64_w, i32_w]
      rfl
    refine pure_ (i := 11) (N := some 22) (v := ?_) (a' := ?_) #[true, true, true, true, true, true, true, true, true, true, true, true, true, false, true, true, true, false, false, false] rfl rfl (by kernel_rfl) (fun _ _ _ h => h) (Or.inl ⟨by rfl, ?_⟩) ?_ ?_
    rotate_left
    · intro w'
      go_simp
      with_reducible rfl
    rotate_left
    · simp only [Act.put, List.setIfInBounds_toArray, List.set_cons_zero, List.set_cons_succ, i64_w, i32_w]
      rfl
    refine two_ (i := 13) (j := 18) (Ni := some 24) (Nj := some 5) #[true, true, true, true, true, true, true, true, true, true, true, true, true, true, true, true, true, false, false, false] #[true, true, true, true, true, true, true, true, true, true, true, true, true, false, true, true, true, false, true, false] rfl rfl rfl rfl (by kernel_rfl) (by decide) (by decide) (fun K hK => ?_) (fun K hK => ?_)
    rotate_left
    · skip
      refine alloc_step (cs := #[.int .i64 0, .int .i64 0, .int .u32 0, .int .u32 0, .int .u64 0, .bool false]) (t := 36) (by rfl) (by first | (go_simp; done) | (go_simp; rfl)) ?_
      rintro g w' hgs hgb hb'
      have hG := Lib.hid (And.intro hgb (show w.heap.size + 1 < g from hgs ▸ blk_lt hS.2.1))
      clear hgb hgs
      refine hK.out _ _ ⟨blk_below hS.1 hb', blk_below hS.2.1 hb', below_then hS.2.2 hS.2.2.size hb'⟩ (fun hS => ?_)
      clear hK K
      refine norm_ (a' := ?_) ?_ ?_
      rotate_left
      · show Act.put _ (some 5) _ = _
        simp only [Act.put, List.setIfInBounds_toArray, List.set_cons_zero, List.set_cons_succ, i64_w, i32_w]
        rfl
      refine one_ (i := 13) (N := some 24) #[true, true, true, true, true, true, true, true, true, true, true, true, true, true, true, true, true, false, true, false] rfl rfl (by kernel_rfl) (by decide) (fun K hK => ?_)
      refine goesF_ (t := 23) Try.func50 (by kernel_rfl) rfl #[.pointer (some ⟨w.heap.size, 0, none⟩)] #[.int .i64 24, .int .i64 32, .pointer (some ⟨w.heap.size, 0, none⟩)] (by rfl) rfl rfl rfl (by (try simp only [List.map_toArray, List.map_cons, List.map_nil]); first | done | rfl) ?_
      refine (numD s w.heap.size 24 32 24 32 rfl rfl (by omega) (by omega) (by omega) hs33.out m5 e5.out _ hS.1).mono ?_
      rintro e w' ⟨rfl, hb'⟩
      refine ⟨_, rfl, ?_⟩
      have hG := Lib.hid (And.intro (blk_below hG.out.1 hb') hG.out.2)
      refine hK.out _ _ ⟨blk_below hS.1 hb', blk_below hS.2.1 hb', below_then hS.2.2 hS.2.2.size hb'⟩ (fun hS => ?_)
      clear hK K
      refine norm_ (a' := ?_) ?_ ?_
      rotate_left
      · show Act.put _ (some 24) _ = _
        simp only [Act.put, List.setIfInBounds_toArray, List.set_cons_zero, List.set_cons_succ, i64_w, i32_w]
        rfl
      refine pure_ (i := 17) (N := some 28) (v := ?_) (a' := ?_) #[true, true, true, true, true, true, true, true, true, true, true, true, true, true, true, true, true, true, true, false] rfl rfl (by kernel_rfl) (fun _ _ _ h => h) (Or.inl ⟨by rfl, ?_⟩) ?_ ?_
      rotate_left
      · intro w'
        go_simp
        with_reducible rfl
      rotate_left
      · simp only [Act.put, List.setIfInBounds_toArray, List.set_cons_zero, List.set_cons_succ, i64_w, i32_w]
        rfl
      exact hcont.out g _ ⟨hS.1, hS.2.1, hG.out.1, hG.out.2, hS.2.2⟩
    refine goesF_ (t := 23) Try.func50 (by kernel_rfl) rfl #[.pointer (some ⟨w.heap.size, 0, none⟩)] #[.int .i64 24, .int .i64 32, .pointer (some ⟨w.heap.size, 0, none⟩)] (by rfl) rfl rfl rfl (by (try simp only [List.map_toArray, List.map_cons, List.map_nil]); first | done | rfl) ?_
    refine (numD s w.heap.size 24 32 24 32 rfl rfl (by omega) (by omega) (by omega) hs33.out m5 e5.out _ hS.1).mono ?_
    rintro e w' ⟨rfl, hb'⟩
    refine ⟨_, rfl, ?_⟩
    refine hK.out _ _ ⟨blk_below hS.1 hb', blk_below hS.2.1 hb', below_then hS.2.2 hS.2.2.size hb'⟩ (fun hS => ?_)
    clear hK K
    refine norm_ (a' := ?_) ?_ ?_
    rotate_left
    · show Act.put _ (some 24) _ = _
      simp only [Act.put, List.setIfInBounds_toArray, List.set_cons_zero, List.set_cons_succ, i64_w, i32_w]
      rfl
    refine pure_ (i := 17) (N := some 28) (v := ?_) (a' := ?_) #[true, true, true, true, true, true, true, true, true, true, true, true, true, true, true, true, true, true, false, false] rfl rfl (by kernel_rfl) (fun _ _ _ h => h) (Or.inl ⟨by rfl, ?_⟩) ?_ ?_
    rotate_left
    · intro w'
      go_simp
      with_reducible rfl
    rotate_left
    · simp only [Act.put, List.setIfInBounds_toArray, List.set_cons_zero, List.set_cons_succ, i64_w, i32_w]
      rfl
    refine one_ (i := 18) (N := some 5) #[true, true, true, true, true, true, true, true, true, true, true, true, true, true, true, true, true, true, true, false] rfl rfl (by kernel_rfl) (by decide) (fun K hK => ?_)
    refine alloc_step (cs := #[.int .i64 0, .int .i64 0, .int .u32 0, .int .u32 0, .int .u64 0, .bool false]) (t := 36) (by rfl) (by first | (go_simp; done) | (go_simp; rfl)) ?_
    rintro g w' hgs hgb hb'
    have hG := Lib.hid (And.intro hgb (show w.heap.size + 1 < g from hgs ▸ blk_lt hS.2.1))
    clear hgb hgs
    refine hK.out _ _ ⟨blk_below hS.1 hb', blk_below hS.2.1 hb', below_then hS.2.2 hS.2.2.size hb'⟩ (fun hS => ?_)
    clear hK K
    refine norm_ (a' := ?_) ?_ ?_
    rotate_left
    · show Act.put _ (some 5) _ = _
      simp only [Act.put, List.setIfInBounds_toArray, List.set_cons_zero, List.set_cons_succ, i64_w, i32_w]
      rfl
    exact hcont.out g _ ⟨hS.1, hS.2.1, hG.out.1, hG.out.2, hS.2.2⟩
  case hcont =>
    rintro gx w1 ⟨hA1, hR1, hX1, hgx, hB1⟩
    refine norm_ (a' := ?_) ?_ ?_
    rotate_left
    · simp only [putAll, Act.put, List.setIfInBounds_toArray, List.set_cons_zero, List.set_cons_succ, i64_w, i32_w]
      rfl
    rw [g0.out, g1.out, g2.out, g3.out]
    clear e1 e2 e3 e4 e5 e6 g0 g1 g2 g3 hb0 hb1 hB
    refine one_ (i := 19) (N := none) #[true, true, true, true, true, true, true, true, true, true, true, true, true, true, true, true, true, true, true, true] rfl rfl (by kernel_rfl) (by decide) (fun K hK => ?_)
    have c0 : w1.cell? ⟨gx, 0, none⟩ = some (.int .i64 0) := (blk_cell hX1 0).trans rfl
    have f0 := blk_frozen hX1 0
    have c1 : w1.cell? ⟨gx, 1, none⟩ = some (.int .i64 0) := (blk_cell hX1 1).trans rfl
    have f1 := blk_frozen hX1 1
    have c2 : w1.cell? ⟨gx, 2, none⟩ = some (.int .u32 0) := (blk_cell hX1 2).trans rfl
    have f2 := blk_frozen hX1 2
    have c3 : w1.cell? ⟨gx, 3, none⟩ = some (.int .u32 0) := (blk_cell hX1 3).trans rfl
    have f3 := blk_frozen hX1 3
    have c4 : w1.cell? ⟨gx, 4, none⟩ = some (.int .u64 0) := (blk_cell hX1 4).trans rfl
    have f4 := blk_frozen hX1 4
    have c5 : w1.cell? ⟨gx, 5, none⟩ = some (.bool false) := (blk_cell hX1 5).trans rfl
    have f5 := blk_frozen hX1 5
    refine skip_ (w1 := ((((((w1.setCell ⟨gx, 0, none⟩ (.int .i64 y0)).setCell ⟨gx, 1, none⟩ (.int .i64 y1)).setCell ⟨gx, 2, none⟩ (.int .u32 y2)).setCell ⟨gx, 3, none⟩ (.int .u32 y3)).setCell ⟨gx, 4, none⟩ (.int .u64 m5)).setCell ⟨gx, 5, none⟩ (.bool kp))) (by rfl) rfl (by first | (go_simp; done) | (go_simp; rfl)) ?_
    have X2 := Lib.hid (blk_set (blk_set (blk_set (blk_set (blk_set (blk_set hX1 0 (.int .i64 y0)) 1 (.int .i64 y1)) 2 (.int .u32 y2)) 3 (.int .u32 y3)) 4 (.int .u64 m5)) 5 (.bool kp))
    have A2 := Lib.hid (blk_far (blk_far (blk_far (blk_far (blk_far (blk_far hA1 (p := ⟨gx, 0, none⟩) (by show w.heap.size ≠ gx; omega) (.int .i64 y0)) (p := ⟨gx, 1, none⟩) (by show w.heap.size ≠ gx; omega) (.int .i64 y1)) (p := ⟨gx, 2, none⟩) (by show w.heap.size ≠ gx; omega) (.int .u32 y2)) (p := ⟨gx, 3, none⟩) (by show w.heap.size ≠ gx; omega) (.int .u32 y3)) (p := ⟨gx, 4, none⟩) (by show w.heap.size ≠ gx; omega) (.int .u64 m5)) (p := ⟨gx, 5, none⟩) (by show w.heap.size ≠ gx; omega) (.bool kp))
    have R2 := Lib.hid (blk_far (blk_far (blk_far (blk_far (blk_far (blk_far hR1 (p := ⟨gx, 0, none⟩) (by show w.heap.size + 1 ≠ gx; omega) (.int .i64 y0)) (p := ⟨gx, 1, none⟩) (by show w.heap.size + 1 ≠ gx; omega) (.int .i64 y1)) (p := ⟨gx, 2, none⟩) (by show w.heap.size + 1 ≠ gx; omega) (.int .u32 y2)) (p := ⟨gx, 3, none⟩) (by show w.heap.size + 1 ≠ gx; omega) (.int .u32 y3)) (p := ⟨gx, 4, none⟩) (by show w.heap.size + 1 ≠ gx; omega) (.int .u64 m5)) (p := ⟨gx, 5, none⟩) (by show w.heap.size + 1 ≠ gx; omega) (.bool kp))
    have B2 := Lib.hid (below_set (g := gx) (j := 5) (v := .bool kp) (below_set (g := gx) (j := 4) (v := .int .u64 m5) (below_set (g := gx) (j := 3) (v := .int .u32 y3) (below_set (g := gx) (j := 2) (v := .int .u32 y2) (below_set (g := gx) (j := 1) (v := .int .i64 y1) (below_set (g := gx) (j := 0) (v := .int .i64 y0) hB1 (by omega)) (by omega)) (by omega)) (by omega)) (by omega)) (by omega))
    generalize ((((((w1.setCell ⟨gx, 0, none⟩ (.int .i64 y0)).setCell ⟨gx, 1, none⟩ (.int .i64 y1)).setCell ⟨gx, 2, none⟩ (.int .u32 y2)).setCell ⟨gx, 3, none⟩ (.int .u32 y3)).setCell ⟨gx, 4, none⟩ (.int .u64 m5)).setCell ⟨gx, 5, none⟩ (.bool kp)) = w2 at *
    refine hK.out _ _ ⟨A2.out, R2.out, B2.out⟩ (fun hS => ?_)
    clear hK K hS c0 f0 c1 f1 c2 f2 c3 f3 c4 f4 c5 f5
    refine done_ (by kernel_rfl) ?_
    go_wp2_with fail
    cases rb with
    | false =>
      refine start_ (n := 9) (S := fun w' => w'.heap[w.heap.size]? = some (.cells #[.string s] 9 (0, 0)) ∧ w'.heap[w.heap.size + 1]? = some (.cells #[.int .i64 0, .int .i64 0, .int .u32 0, .int .u32 0, .int .u64 0, .bool false] 36 (0, 0)) ∧ w'.heap[gx]? = some (.cells #[.int .i64 y0, .int .i64 y1, .int .u32 y2, .int .u32 y3, .int .u64 m5, .bool kp] 36 (0, 0)) ∧ Below w.heap.size w w') (ds := []) #[false, false, false, false, false, false, false, false, false] (by kernel_rfl) rfl rfl (⟨A2.out, R2.out, X2.out, B2.out.drew⟩) (fun hS => ?_)
      refine take_ (i := 0) (N := some 29) (v := ?_) (a' := ?_) #[true, false, false, false, false, false, false, false, false] rfl rfl (by kernel_rfl) (fun _ _ _ h => h) (Or.inl ⟨by rfl, ?_⟩) hS ?_ ?_
      rotate_left
      · rintro w' hs
        have t0 : w'.cell? ⟨gx, 0, none⟩ = some (.int .i64 y0) := (blk_cell hs.2.2.1 0).trans rfl
        have t1 : w'.cell? ⟨gx, 1, none⟩ = some (.int .i64 y1) := (blk_cell hs.2.2.1 1).trans rfl
        have t2 : w'.cell? ⟨gx, 2, none⟩ = some (.int .u32 y2) := (blk_cell hs.2.2.1 2).trans rfl
        have t3 : w'.cell? ⟨gx, 3, none⟩ = some (.int .u32 y3) := (blk_cell hs.2.2.1 3).trans rfl
        have t4 : w'.cell? ⟨gx, 4, none⟩ = some (.int .u64 m5) := (blk_cell hs.2.2.1 4).trans rfl
        have t5 : w'.cell? ⟨gx, 5, none⟩ = some (.bool kp) := (blk_cell hs.2.2.1 5).trans rfl
        clear hs
        go_simp
        with_reducible rfl
      rotate_left
      · simp only [Act.put, List.setIfInBounds_toArray, List.set_cons_zero, List.set_cons_succ, i64_w, i32_w]
        rfl
      refine one_ (i := 1) (N := some 30) #[true, true, false, false, false, false, false, false, false] rfl rfl (by kernel_rfl) (by decide) (fun K hK => ?_)
      refine goes_ Try.func27 (by kernel_rfl) rfl #[.agg #[.int .i64 y0, .int .i64 y1, .int .u32 y2, .int .u32 y3, .int .u64 m5, .bool kp]] (by rfl) rfl rfl (by (try simp only [List.map_toArray, List.map_cons, List.map_nil]); first | done | rfl) ?_
      refine (rightP ⟨y0, y1, y2, y3, m5, kp⟩ false hrb.out _).mono ?_
      rintro e w' ⟨rfl, hb'⟩
      refine ⟨_, rfl, ?_⟩
      refine hK.out _ _ (⟨blk_below hS.1 hb', blk_below hS.2.1 hb', blk_below hS.2.2.1 hb', below_then hS.2.2.2 hS.2.2.2.size hb'⟩) (fun hS => ?_)
      clear hK K
      refine norm_ (a' := ?_) ?_ ?_
      rotate_left
      · show Act.put _ (some 30) _ = _
        simp only [Act.put, List.setIfInBounds_toArray, List.set_cons_zero, List.set_cons_succ, i64_w, i32_w]
        rfl
      refine pure_ (i := 2) (N := some 31) (v := ?_) (a' := ?_) #[true, true, true, false, false, false, false, false, false] rfl rfl (by kernel_rfl) (fun _ _ _ h => h) (Or.inl ⟨by rfl, ?_⟩) ?_ ?_
      rotate_left
      · intro w'
        go_simp
        with_reducible rfl
      rotate_left
      · simp only [Act.put, List.setIfInBounds_toArray, List.set_cons_zero, List.set_cons_succ, i64_w, i32_w]
        rfl
      refine pure_ (i := 3) (N := some 32) (v := ?_) (a' := ?_) #[true, true, true, true, false, false, false, false, false] rfl rfl (by kernel_rfl) (fun _ _ _ h => h) (Or.inl ⟨by rfl, ?_⟩) ?_ ?_
      rotate_left
      · intro w'
        go_simp
        with_reducible rfl
      rotate_left
      · simp only [Act.put, List.setIfInBounds_toArray, List.set_cons_zero, List.set_cons_succ, i64_w, i32_w]
        rfl
      refine pure_ (i := 4) (N := some 33) (v := undef) (a' := ?_) #[true, true, true, true, true, false, false, false, false] rfl rfl (by kernel_rfl) (fun _ _ _ h => h) (Or.inr ⟨by rfl, rfl⟩) ?_ ?_
      rotate_left
      · simp only [Act.put, List.setIfInBounds_toArray, List.set_cons_zero, List.set_cons_succ, i64_w, i32_w]
        rfl
      refine pure_ (i := 5) (N := some 34) (v := undef) (a' := ?_) #[true, true, true, true, true, true, false, false, false] rfl rfl (by kernel_rfl) (fun _ _ _ h => h) (Or.inr ⟨by rfl, rfl⟩) ?_ ?_
      rotate_left
      · simp only [Act.put, List.setIfInBounds_toArray, List.set_cons_zero, List.set_cons_succ, i64_w, i32_w]
        rfl
      refine pure_ (i := 6) (N := some 35) (v := undef) (a' := ?_) #[true, true, true, true, true, true, true, false, false] rfl rfl (by kernel_rfl) (fun _ _ _ h => h) (Or.inr ⟨by rfl, rfl⟩) ?_ ?_
      rotate_left
      · simp only [Act.put, List.setIfInBounds_toArray, List.set_cons_zero, List.set_cons_succ, i64_w, i32_w]
        rfl
      refine pure_ (i := 7) (N := some 36) (v := undef) (a' := ?_) #[true, true, true, true, true, true, true, true, false] rfl rfl (by kernel_rfl) (fun _ _ _ h => h) (Or.inr ⟨by rfl, rfl⟩) ?_ ?_
      rotate_left
      · simp only [Act.put, List.setIfInBounds_toArray, List.set_cons_zero, List.set_cons_succ, i64_w, i32_w]
        rfl
      refine pure_ (i := 8) (N := some 37) (v := ?_) (a' := ?_) #[true, true, true, true, true, true, true, true, true] rfl rfl (by kernel_rfl) (fun _ _ _ h => h) (Or.inl ⟨by rfl, ?_⟩) ?_ ?_
      rotate_left
      · intro w'
        go_simp
        with_reducible rfl
      rotate_left
      · simp only [Act.put, List.setIfInBounds_toArray, List.set_cons_zero, List.set_cons_succ, i64_w, i32_w]
        rfl
      refine done_ (by kernel_rfl) ?_

      have c0 : w'.cell? ⟨w.heap.size + 1, 0, none⟩ = some (.int .i64 0) := (blk_cell hS.2.1 0).trans rfl
      have f0 := blk_frozen hS.2.1 0
      have c1 : w'.cell? ⟨w.heap.size + 1, 1, none⟩ = some (.int .i64 0) := (blk_cell hS.2.1 1).trans rfl
      have f1 := blk_frozen hS.2.1 1
      have c2 : w'.cell? ⟨w.heap.size + 1, 2, none⟩ = some (.int .u32 0) := (blk_cell hS.2.1 2).trans rfl
      have f2 := blk_frozen hS.2.1 2
      have c3 : w'.cell? ⟨w.heap.size + 1, 3, none⟩ = some (.int .u32 0) := (blk_cell hS.2.1 3).trans rfl
      have f3 := blk_frozen hS.2.1 3
      have c4 : w'.cell? ⟨w.heap.size + 1, 4, none⟩ = some (.int .u64 0) := (blk_cell hS.2.1 4).trans rfl
      have f4 := blk_frozen hS.2.1 4
      have c5 : w'.cell? ⟨w.heap.size + 1, 5, none⟩ = some (.bool false) := (blk_cell hS.2.1 5).trans rfl
      have f5 := blk_frozen hS.2.1 5
      go_wp2_with fail
      refine bodyPost_ret (results_row2 (p := 2) (u := 3) (ty := 36) rfl _ _ (w.heap.size + 1) 36 _ (0, 0) _ rfl (blk_set (blk_set (blk_set (blk_set (blk_set (blk_set hS.2.1 0 (.int .i64 0)) 1 (.int .i64 0)) 2 (.int .u32 0)) 3 (.int .u32 0)) 4 (.int .u64 0)) 5 (.bool false)) Try.underlying36 rfl (by kernel_rfl)) rfl ?_
      exact ⟨rfl, (below_set (g := w.heap.size + 1) (j := 5) (v := .bool false) (below_set (g := w.heap.size + 1) (j := 4) (v := .int .u64 0) (below_set (g := w.heap.size + 1) (j := 3) (v := .int .u32 0) (below_set (g := w.heap.size + 1) (j := 2) (v := .int .u32 0) (below_set (g := w.heap.size + 1) (j := 1) (v := .int .i64 0) (below_set (g := w.heap.size + 1) (j := 0) (v := .int .i64 0) hS.2.2.2 (by omega)) (by omega)) (by omega)) (by omega)) (by omega)) (by omega))⟩
    | true =>
      have htb2 : (t.toList != s.toList) = !tb := by rw [← htb]; rfl
      cases tb with
      | false =>
        refine start_ (n := 9) (S := fun w' => w'.heap[w.heap.size]? = some (.cells #[.string s] 9 (0, 0)) ∧ w'.heap[w.heap.size + 1]? = some (.cells #[.int .i64 0, .int .i64 0, .int .u32 0, .int .u32 0, .int .u64 0, .bool false] 36 (0, 0)) ∧ w'.heap[gx]? = some (.cells #[.int .i64 y0, .int .i64 y1, .int .u32 y2, .int .u32 y3, .int .u64 m5, .bool kp] 36 (0, 0)) ∧ Below w.heap.size w w') (ds := []) #[false, false, false, false, false, false, false, false, false] (by kernel_rfl) rfl rfl (⟨A2.out, R2.out, X2.out, B2.out.drew⟩) (fun hS => ?_)
        refine take_ (i := 0) (N := some 29) (v := ?_) (a' := ?_) #[true, false, false, false, false, false, false, false, false] rfl rfl (by kernel_rfl) (fun _ _ _ h => h) (Or.inl ⟨by rfl, ?_⟩) hS ?_ ?_
        rotate_left
        · rintro w' hs
          have t0 : w'.cell? ⟨gx, 0, none⟩ = some (.int .i64 y0) := (blk_cell hs.2.2.1 0).trans rfl
          have t1 : w'.cell? ⟨gx, 1, none⟩ = some (.int .i64 y1) := (blk_cell hs.2.2.1 1).trans rfl
          have t2 : w'.cell? ⟨gx, 2, none⟩ = some (.int .u32 y2) := (blk_cell hs.2.2.1 2).trans rfl
          have t3 : w'.cell? ⟨gx, 3, none⟩ = some (.int .u32 y3) := (blk_cell hs.2.2.1 3).trans rfl
          have t4 : w'.cell? ⟨gx, 4, none⟩ = some (.int .u64 m5) := (blk_cell hs.2.2.1 4).trans rfl
          have t5 : w'.cell? ⟨gx, 5, none⟩ = some (.bool kp) := (blk_cell hs.2.2.1 5).trans rfl
          clear hs
          go_simp
          with_reducible rfl
        rotate_left
        · simp only [Act.put, List.setIfInBounds_toArray, List.set_cons_zero, List.set_cons_succ, i64_w, i32_w]
          rfl
        refine one_ (i := 1) (N := some 30) #[true, true, false, false, false, false, false, false, false] rfl rfl (by kernel_rfl) (by decide) (fun K hK => ?_)
        refine goes_ Try.func27 (by kernel_rfl) rfl #[.agg #[.int .i64 y0, .int .i64 y1, .int .u32 y2, .int .u32 y3, .int .u64 m5, .bool kp]] (by rfl) rfl rfl (by (try simp only [List.map_toArray, List.map_cons, List.map_nil]); first | done | rfl) ?_
        refine (rightP ⟨y0, y1, y2, y3, m5, kp⟩ true hrb.out _).mono ?_
        rintro e w' ⟨rfl, hb'⟩
        refine ⟨_, rfl, ?_⟩
        refine hK.out _ _ (⟨blk_below hS.1 hb', blk_below hS.2.1 hb', blk_below hS.2.2.1 hb', below_then hS.2.2.2 hS.2.2.2.size hb'⟩) (fun hS => ?_)
        clear hK K
        refine norm_ (a' := ?_) ?_ ?_
        rotate_left
        · show Act.put _ (some 30) _ = _
          simp only [Act.put, List.setIfInBounds_toArray, List.set_cons_zero, List.set_cons_succ, i64_w, i32_w]
          rfl
        refine pure_ (i := 2) (N := some 31) (v := ?_) (a' := ?_) #[true, true, true, false, false, false, false, false, false] rfl rfl (by kernel_rfl) (fun _ _ _ h => h) (Or.inl ⟨by rfl, ?_⟩) ?_ ?_
        rotate_left
        · intro w'
          go_simp
          with_reducible rfl
        rotate_left
        · simp only [Act.put, List.setIfInBounds_toArray, List.set_cons_zero, List.set_cons_succ, i64_w, i32_w]
          rfl
        refine pure_ (i := 3) (N := some 32) (v := ?_) (a' := ?_) #[true, true, true, true, false, false, false, false, false] rfl rfl (by kernel_rfl) (fun _ _ _ h => h) (Or.inl ⟨by rfl, ?_⟩) ?_ ?_
        rotate_left
        · intro w'
          go_simp
          with_reducible rfl
        rotate_left
        · simp only [Act.put, List.setIfInBounds_toArray, List.set_cons_zero, List.set_cons_succ, i64_w, i32_w]
          rfl
        refine take_ (i := 4) (N := some 33) (v := ?_) (a' := ?_) #[true, true, true, true, true, false, false, false, false] rfl rfl (by kernel_rfl) (fun _ _ _ h => h) (Or.inl ⟨by rfl, ?_⟩) hS ?_ ?_
        rotate_left
        · rintro w' hs
          have t0 : w'.cell? ⟨gx, 0, none⟩ = some (.int .i64 y0) := (blk_cell hs.2.2.1 0).trans rfl
          have t1 : w'.cell? ⟨gx, 1, none⟩ = some (.int .i64 y1) := (blk_cell hs.2.2.1 1).trans rfl
          have t2 : w'.cell? ⟨gx, 2, none⟩ = some (.int .u32 y2) := (blk_cell hs.2.2.1 2).trans rfl
          have t3 : w'.cell? ⟨gx, 3, none⟩ = some (.int .u32 y3) := (blk_cell hs.2.2.1 3).trans rfl
          have t4 : w'.cell? ⟨gx, 4, none⟩ = some (.int .u64 m5) := (blk_cell hs.2.2.1 4).trans rfl
          have t5 : w'.cell? ⟨gx, 5, none⟩ = some (.bool kp) := (blk_cell hs.2.2.1 5).trans rfl
          clear hs
          go_simp
          with_reducible rfl
        rotate_left
        · simp only [Act.put, List.setIfInBounds_toArray, List.set_cons_zero, List.set_cons_succ, i64_w, i32_w]
          rfl
        refine take_ (i := 6) (N := some 35) (v := ?_) (a' := ?_) #[true, true, true, true, true, false, true, false, false] rfl rfl (by kernel_rfl) (fun _ _ _ h => h) (Or.inl ⟨by rfl, ?_⟩) hS ?_ ?_
        rotate_left
        · rintro w' hs
          have t0 : w'.cell? ⟨w.heap.size, 0, none⟩ = some (.string s) := (blk_cell hs.1 0).trans rfl
          clear hs
          go_simp
          with_reducible rfl
        rotate_left
        · simp only [Act.put, List.setIfInBounds_toArray, List.set_cons_zero, List.set_cons_succ, i64_w, i32_w]
          rfl
        refine one_ (i := 5) (N := some 34) #[true, true, true, true, true, true, true, false, false] rfl rfl (by kernel_rfl) (by decide) (fun K hK => ?_)
        refine goes_ Try.func35 (by kernel_rfl) rfl #[.agg #[.int .i64 y0, .int .i64 y1, .int .u32 y2, .int .u32 y3, .int .u64 m5, .bool kp]] (by rfl) rfl rfl (by (try simp only [List.map_toArray, List.map_cons, List.map_nil]); first | done | rfl) ?_
        refine (textP ⟨y0, y1, y2, y3, m5, kp⟩ t ht.out _).mono ?_
        rintro e w' ⟨rfl, hb'⟩
        refine ⟨_, rfl, ?_⟩
        refine hK.out _ _ (⟨blk_below hS.1 hb', blk_below hS.2.1 hb', blk_below hS.2.2.1 hb', below_then hS.2.2.2 hS.2.2.2.size hb'⟩) (fun hS => ?_)
        clear hK K
        refine norm_ (a' := ?_) ?_ ?_
        rotate_left
        · show Act.put _ (some 34) _ = _
          simp only [Act.put, List.setIfInBounds_toArray, List.set_cons_zero, List.set_cons_succ, i64_w, i32_w]
          rfl
        refine pure_ (i := 7) (N := some 36) (v := ?_) (a' := ?_) #[true, true, true, true, true, true, true, true, false] rfl rfl (by kernel_rfl) (fun _ _ _ h => h) (Or.inl ⟨by rfl, ?_⟩) ?_ ?_
        rotate_left
        · intro w'
          go_simp
          with_reducible rfl
        rotate_left
        · simp only [Act.put, List.setIfInBounds_toArray, List.set_cons_zero, List.set_cons_succ, i64_w, i32_w]
          rfl
        refine pure_ (i := 8) (N := some 37) (v := ?_) (a' := ?_) #[true, true, true, true, true, true, true, true, true] rfl rfl (by kernel_rfl) (fun _ _ _ h => h) (Or.inl ⟨by rfl, ?_⟩) ?_ ?_
        rotate_left
        · intro w'
          go_simp
          with_reducible rfl
        rotate_left
        · simp only [Act.put, List.setIfInBounds_toArray, List.set_cons_zero, List.set_cons_succ, i64_w, i32_w]
          rfl
        refine done_ (by kernel_rfl) ?_

        have c0 : w'.cell? ⟨w.heap.size + 1, 0, none⟩ = some (.int .i64 0) := (blk_cell hS.2.1 0).trans rfl
        have f0 := blk_frozen hS.2.1 0
        have c1 : w'.cell? ⟨w.heap.size + 1, 1, none⟩ = some (.int .i64 0) := (blk_cell hS.2.1 1).trans rfl
        have f1 := blk_frozen hS.2.1 1
        have c2 : w'.cell? ⟨w.heap.size + 1, 2, none⟩ = some (.int .u32 0) := (blk_cell hS.2.1 2).trans rfl
        have f2 := blk_frozen hS.2.1 2
        have c3 : w'.cell? ⟨w.heap.size + 1, 3, none⟩ = some (.int .u32 0) := (blk_cell hS.2.1 3).trans rfl
        have f3 := blk_frozen hS.2.1 3
        have c4 : w'.cell? ⟨w.heap.size + 1, 4, none⟩ = some (.int .u64 0) := (blk_cell hS.2.1 4).trans rfl
        have f4 := blk_frozen hS.2.1 4
        have c5 : w'.cell? ⟨w.heap.size + 1, 5, none⟩ = some (.bool false) := (blk_cell hS.2.1 5).trans rfl
        have f5 := blk_frozen hS.2.1 5
        go_wp2_with fail
        refine bodyPost_ret (results_row2 (p := 2) (u := 3) (ty := 36) rfl _ _ (w.heap.size + 1) 36 _ (0, 0) _ rfl (blk_set (blk_set (blk_set (blk_set (blk_set (blk_set hS.2.1 0 (.int .i64 0)) 1 (.int .i64 0)) 2 (.int .u32 0)) 3 (.int .u32 0)) 4 (.int .u64 0)) 5 (.bool false)) Try.underlying36 rfl (by kernel_rfl)) rfl ?_
        exact ⟨rfl, (below_set (g := w.heap.size + 1) (j := 5) (v := .bool false) (below_set (g := w.heap.size + 1) (j := 4) (v := .int .u64 0) (below_set (g := w.heap.size + 1) (j := 3) (v := .int .u32 0) (below_set (g := w.heap.size + 1) (j := 2) (v := .int .u32 0) (below_set (g := w.heap.size + 1) (j := 1) (v := .int .i64 0) (below_set (g := w.heap.size + 1) (j := 0) (v := .int .i64 0) hS.2.2.2 (by omega)) (by omega)) (by omega)) (by omega)) (by omega)) (by omega))⟩
      | true =>
        refine start_ (n := 9) (S := fun w' => w'.heap[w.heap.size]? = some (.cells #[.string s] 9 (0, 0)) ∧ w'.heap[w.heap.size + 1]? = some (.cells #[.int .i64 0, .int .i64 0, .int .u32 0, .int .u32 0, .int .u64 0, .bool false] 36 (0, 0)) ∧ w'.heap[gx]? = some (.cells #[.int .i64 y0, .int .i64 y1, .int .u32 y2, .int .u32 y3, .int .u64 m5, .bool kp] 36 (0, 0)) ∧ Below w.heap.size w w') (ds := []) #[false, false, false, false, false, false, false, false, false] (by kernel_rfl) rfl rfl (⟨A2.out, R2.out, X2.out, B2.out.drew⟩) (fun hS => ?_)
        refine take_ (i := 0) (N := some 29) (v := ?_) (a' := ?_) #[true, false, false, false, false, false, false, false, false] rfl rfl (by kernel_rfl) (fun _ _ _ h => h) (Or.inl ⟨by rfl, ?_⟩) hS ?_ ?_
        rotate_left
        · rintro w' hs
          have t0 : w'.cell? ⟨gx, 0, none⟩ = some (.int .i64 y0) := (blk_cell hs.2.2.1 0).trans rfl
          have t1 : w'.cell? ⟨gx, 1, none⟩ = some (.int .i64 y1) := (blk_cell hs.2.2.1 1).trans rfl
          have t2 : w'.cell? ⟨gx, 2, none⟩ = some (.int .u32 y2) := (blk_cell hs.2.2.1 2).trans rfl
          have t3 : w'.cell? ⟨gx, 3, none⟩ = some (.int .u32 y3) := (blk_cell hs.2.2.1 3).trans rfl
          have t4 : w'.cell? ⟨gx, 4, none⟩ = some (.int .u64 m5) := (blk_cell hs.2.2.1 4).trans rfl
          have t5 : w'.cell? ⟨gx, 5, none⟩ = some (.bool kp) := (blk_cell hs.2.2.1 5).trans rfl
          clear hs
          go_simp
          with_reducible rfl
        rotate_left
        · simp only [Act.put, List.setIfInBounds_toArray, List.set_cons_zero, List.set_cons_succ, i64_w, i32_w]
          rfl
        refine one_ (i := 1) (N := some 30) #[true, true, false, false, false, false, false, false, false] rfl rfl (by kernel_rfl) (by decide) (fun K hK => ?_)
        refine goes_ Try.func27 (by kernel_rfl) rfl #[.agg #[.int .i64 y0, .int .i64 y1, .int .u32 y2, .int .u32 y3, .int .u64 m5, .bool kp]] (by rfl) rfl rfl (by (try simp only [List.map_toArray, List.map_cons, List.map_nil]); first | done | rfl) ?_
        refine (rightP ⟨y0, y1, y2, y3, m5, kp⟩ true hrb.out _).mono ?_
        rintro e w' ⟨rfl, hb'⟩
        refine ⟨_, rfl, ?_⟩
        refine hK.out _ _ (⟨blk_below hS.1 hb', blk_below hS.2.1 hb', blk_below hS.2.2.1 hb', below_then hS.2.2.2 hS.2.2.2.size hb'⟩) (fun hS => ?_)
        clear hK K
        refine norm_ (a' := ?_) ?_ ?_
        rotate_left
        · show Act.put _ (some 30) _ = _
          simp only [Act.put, List.setIfInBounds_toArray, List.set_cons_zero, List.set_cons_succ, i64_w, i32_w]
          rfl
        refine pure_ (i := 2) (N := some 31) (v := ?_) (a' := ?_) #[true, true, true, false, false, false, false, false, false] rfl rfl (by kernel_rfl) (fun _ _ _ h => h) (Or.inl ⟨by rfl, ?_⟩) ?_ ?_
        rotate_left
        · intro w'
          go_simp
          with_reducible rfl
        rotate_left
        · simp only [Act.put, List.setIfInBounds_toArray, List.set_cons_zero, List.set_cons_succ, i64_w, i32_w]
          rfl
        refine pure_ (i := 3) (N := some 32) (v := ?_) (a' := ?_) #[true, true, true, true, false, false, false, false, false] rfl rfl (by kernel_rfl) (fun _ _ _ h => h) (Or.inl ⟨by rfl, ?_⟩) ?_ ?_
        rotate_left
        · intro w'
          go_simp
          with_reducible rfl
        rotate_left
        · simp only [Act.put, List.setIfInBounds_toArray, List.set_cons_zero, List.set_cons_succ, i64_w, i32_w]
          rfl
        refine take_ (i := 4) (N := some 33) (v := ?_) (a' := ?_) #[true, true, true, true, true, false, false, false, false] rfl rfl (by kernel_rfl) (fun _ _ _ h => h) (Or.inl ⟨by rfl, ?_⟩) hS ?_ ?_
        rotate_left
        · rintro w' hs
          have t0 : w'.cell? ⟨gx, 0, none⟩ = some (.int .i64 y0) := (blk_cell hs.2.2.1 0).trans rfl
          have t1 : w'.cell? ⟨gx, 1, none⟩ = some (.int .i64 y1) := (blk_cell hs.2.2.1 1).trans rfl
          have t2 : w'.cell? ⟨gx, 2, none⟩ = some (.int .u32 y2) := (blk_cell hs.2.2.1 2).trans rfl
          have t3 : w'.cell? ⟨gx, 3, none⟩ = some (.int .u32 y3) := (blk_cell hs.2.2.1 3).trans rfl
          have t4 : w'.cell? ⟨gx, 4, none⟩ = some (.int .u64 m5) := (blk_cell hs.2.2.1 4).trans rfl
          have t5 : w'.cell? ⟨gx, 5, none⟩ = some (.bool kp) := (blk_cell hs.2.2.1 5).trans rfl
          clear hs
          go_simp
          with_reducible rfl
        rotate_left
        · simp only [Act.put, List.setIfInBounds_toArray, List.set_cons_zero, List.set_cons_succ, i64_w, i32_w]
          rfl
        refine take_ (i := 6) (N := some 35) (v := ?_) (a' := ?_) #[true, true, true, true, true, false, true, false, false] rfl rfl (by kernel_rfl) (fun _ _ _ h => h) (Or.inl ⟨by rfl, ?_⟩) hS ?_ ?_
        rotate_left
        · rintro w' hs
          have t0 : w'.cell? ⟨w.heap.size, 0, none⟩ = some (.string s) := (blk_cell hs.1 0).trans rfl
          clear hs
          go_simp
          with_reducible rfl
        rotate_left
        · simp only [Act.put, List.setIfInBounds_toArray, List.set_cons_zero, List.set_cons_succ, i64_w, i32_w]
          rfl
        refine one_ (i := 5) (N := some 34) #[true, true, true, true, true, true, true, false, false] rfl rfl (by kernel_rfl) (by decide) (fun K hK => ?_)
        refine goes_ Try.func35 (by kernel_rfl) rfl #[.agg #[.int .i64 y0, .int .i64 y1, .int .u32 y2, .int .u32 y3, .int .u64 m5, .bool kp]] (by rfl) rfl rfl (by (try simp only [List.map_toArray, List.map_cons, List.map_nil]); first | done | rfl) ?_
        refine (textP ⟨y0, y1, y2, y3, m5, kp⟩ t ht.out _).mono ?_
        rintro e w' ⟨rfl, hb'⟩
        refine ⟨_, rfl, ?_⟩
        refine hK.out _ _ (⟨blk_below hS.1 hb', blk_below hS.2.1 hb', blk_below hS.2.2.1 hb', below_then hS.2.2.2 hS.2.2.2.size hb'⟩) (fun hS => ?_)
        clear hK K
        refine norm_ (a' := ?_) ?_ ?_
        rotate_left
        · show Act.put _ (some 34) _ = _
          simp only [Act.put, List.setIfInBounds_toArray, List.set_cons_zero, List.set_cons_succ, i64_w, i32_w]
          rfl
        refine pure_ (i := 7) (N := some 36) (v := ?_) (a' := ?_) #[true, true, true, true, true, true, true, true, false] rfl rfl (by kernel_rfl) (fun _ _ _ h => h) (Or.inl ⟨by rfl, ?_⟩) ?_ ?_
        rotate_left
        · intro w'
          go_simp
          with_reducible rfl
        rotate_left
        · simp only [Act.put, List.setIfInBounds_toArray, List.set_cons_zero, List.set_cons_succ, i64_w, i32_w]
          rfl
        refine pure_ (i := 8) (N := some 37) (v := ?_) (a' := ?_) #[true, true, true, true, true, true, true, true, true] rfl rfl (by kernel_rfl) (fun _ _ _ h => h) (Or.inl ⟨by rfl, ?_⟩) ?_ ?_
        rotate_left
        · intro w'
          go_simp
          with_reducible rfl
        rotate_left
        · simp only [Act.put, List.setIfInBounds_toArray, List.set_cons_zero, List.set_cons_succ, i64_w, i32_w]
          rfl
        refine done_ (by kernel_rfl) ?_

        have c0 : w'.cell? ⟨w.heap.size + 1, 0, none⟩ = some (.int .i64 0) := (blk_cell hS.2.1 0).trans rfl
        have f0 := blk_frozen hS.2.1 0
        have d0 : w'.cell? ⟨gx, 0, none⟩ = some (.int .i64 y0) := (blk_cell hS.2.2.1 0).trans rfl
        have c1 : w'.cell? ⟨w.heap.size + 1, 1, none⟩ = some (.int .i64 0) := (blk_cell hS.2.1 1).trans rfl
        have f1 := blk_frozen hS.2.1 1
        have d1 : w'.cell? ⟨gx, 1, none⟩ = some (.int .i64 y1) := (blk_cell hS.2.2.1 1).trans rfl
        have c2 : w'.cell? ⟨w.heap.size + 1, 2, none⟩ = some (.int .u32 0) := (blk_cell hS.2.1 2).trans rfl
        have f2 := blk_frozen hS.2.1 2
        have d2 : w'.cell? ⟨gx, 2, none⟩ = some (.int .u32 y2) := (blk_cell hS.2.2.1 2).trans rfl
        have c3 : w'.cell? ⟨w.heap.size + 1, 3, none⟩ = some (.int .u32 0) := (blk_cell hS.2.1 3).trans rfl
        have f3 := blk_frozen hS.2.1 3
        have d3 : w'.cell? ⟨gx, 3, none⟩ = some (.int .u32 y3) := (blk_cell hS.2.2.1 3).trans rfl
        have c4 : w'.cell? ⟨w.heap.size + 1, 4, none⟩ = some (.int .u64 0) := (blk_cell hS.2.1 4).trans rfl
        have f4 := blk_frozen hS.2.1 4
        have d4 : w'.cell? ⟨gx, 4, none⟩ = some (.int .u64 m5) := (blk_cell hS.2.2.1 4).trans rfl
        have c5 : w'.cell? ⟨w.heap.size + 1, 5, none⟩ = some (.bool false) := (blk_cell hS.2.1 5).trans rfl
        have f5 := blk_frozen hS.2.1 5
        have d5 : w'.cell? ⟨gx, 5, none⟩ = some (.bool kp) := (blk_cell hS.2.2.1 5).trans rfl
        go_wp2_with fail
        refine bodyPost_ret (results_row2 (p := 2) (u := 3) (ty := 36) rfl _ _ (w.heap.size + 1) 36 _ (0, 0) _ rfl (blk_set (blk_set (blk_set (blk_set (blk_set (blk_set hS.2.1 0 (.int .i64 y0)) 1 (.int .i64 y1)) 2 (.int .u32 y2)) 3 (.int .u32 y3)) 4 (.int .u64 m5)) 5 (.bool kp)) Try.underlying36 rfl (by kernel_rfl)) rfl ?_
        exact ⟨rfl, (below_set (g := w.heap.size + 1) (j := 5) (v := .bool kp) (below_set (g := w.heap.size + 1) (j := 4) (v := .int .u64 m5) (below_set (g := w.heap.size + 1) (j := 3) (v := .int .u32 y3) (below_set (g := w.heap.size + 1) (j := 2) (v := .int .u32 y2) (below_set (g := w.heap.size + 1) (j := 1) (v := .int .i64 y1) (below_set (g := w.heap.size + 1) (j := 0) (v := .int .i64 y0) hS.2.2.2 (by omega)) (by omega)) (by omega)) (by omega)) (by omega)) (by omega))⟩
end Go.Proofs.Ytliiefkdgdflpaa.BriefParse
