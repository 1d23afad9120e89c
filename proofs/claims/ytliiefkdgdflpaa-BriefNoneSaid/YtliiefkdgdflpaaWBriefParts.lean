/-
  BriefParts's walk.
-/
import Derived.Test.YtliiefkdgdflpaaKBriefParts
import Derived.Test.YtliiefkdgdflpaaFold
import Derived.Test.YtliiefkdgdflpaaWLast
import Derived.Outline
import Derived.Lib.Hide
import Derived.Test.YtliiefkdgdflpaaWGuard
import Derived.Deep.LoopGhost
namespace Go.Proofs.Ytliiefkdgdflpaa.WBriefParts
open Go.RowKit Go.Proofs.YtliiefkdgdflpaaW.PrintWords Go.Proofs.YtliiefkdgdflpaaW.PrintLast Go.Proofs.YtliiefkdgdflpaaW.PrintMore KBriefParts BriefLaw All
set_option linter.unusedVariables false
set_option linter.unusedSimpArgs false
attribute [local go_sem high] PBriefOrder.eqA36
theorem shown_eq : PBriefOrder.tabularylaw06_shown.f = some true := by decide +kernel

abbrev T6 := Int × Int × Int × Int × Int × Bool
def br (t : T6) : Br := ⟨t.1, t.2.1, t.2.2.1, t.2.2.2.1, t.2.2.2.2.1, t.2.2.2.2.2⟩

theorem add_none (b off n : Nat) : Addr.add ⟨b, off, none⟩ n = ⟨b, off + n, none⟩ := by
  unfold Addr.add
  split
  · simp [*]
  · rfl

theorem rows_of {w : World} {A : Option Addr} {c : Nat} {xs : List T6} (h : kd36.C w A xs.length xs) (hl : xs.length ≤ 1048576) : All.Rows w.heap.size w (.slice A (xs.map br).length c) (xs.map br) := by
  rcases Nat.eq_zero_or_pos xs.length with h0 | h0
  · have : xs = [] := List.length_eq_zero_iff.1 h0
    subst this
    exact .inl ⟨A, c, rfl, rfl⟩
  · obtain ⟨ad, rfl, hc⟩ := h.2.2 h0
    have hone : ∀ j, j < xs.length → w.cell? (ad.add (j * 6 + 0)) = some (.int .i64 (at0 (xs.map br) j).first) ∧ w.cell? (ad.add (j * 6 + 1)) = some (.int .i64 (at0 (xs.map br) j).last) ∧ w.cell? (ad.add (j * 6 + 2)) = some (.int .u32 (at0 (xs.map br) j).grave) ∧ w.cell? (ad.add (j * 6 + 3)) = some (.int .u32 (at0 (xs.map br) j).src) ∧ w.cell? (ad.add (j * 6 + 4)) = some (.int .u64 (at0 (xs.map br) j).many) ∧ w.cell? (ad.add (j * 6 + 5)) = some (.bool (at0 (xs.map br) j).keep) := by
      intro j hj
      obtain ⟨cs, hcs, hK, hcell⟩ := hc j _ (List.getElem?_eq_getElem hj)
      have e : at0 (xs.map br) j = br xs[j] := by simp [at0, hj]
      rw [e]
      obtain ⟨_, _, rfl, h1, _, _, rfl, h2, _, _, rfl, h3, _, _, rfl, h4, _, _, rfl, h5, h6⟩ := hK
      cases h1; cases h2; cases h3; cases h4; cases h5; cases h6
      exact ⟨hcell 0 _ rfl, hcell 1 _ rfl, hcell 2 _ rfl, hcell 3 _ rfl, hcell 4 _ rfl, hcell 5 _ rfl⟩
    obtain ⟨b, off, spot⟩ := ad
    have h00 := (hone 0 h0).1
    have hs : spot = none ∧ b < w.heap.size := by
      have h01 : w.cell? ⟨b, off, spot⟩ = some (.int .i64 (at0 (xs.map br) 0).first) := h00
      unfold World.cell? at h01
      dsimp only at h01
      split at h01
      · rename_i cs t f hh
        refine ⟨?_, (Array.getElem?_eq_some_iff.1 hh).1⟩
        cases spot with
        | none => rfl
        | some s => simp at h01
      · cases h01
    obtain ⟨rfl, hb⟩ := hs
    refine .inr ⟨b, off, c, rfl, hb, by rw [List.length_map]; omega, fun j hj => ?_⟩
    have hj' : j < xs.length := by simpa using hj
    have h := hone j hj'
    simp only [add_none] at h
    obtain ⟨h1, h2, h3, h4, h5, h6⟩ := h
    exact ⟨h1, h2, h3, h4, h5, h6⟩

theorem field36 (x0 x1 x2 x3 x4 : Int) (x5 : Bool) (w : World) : (Instr.field 36 (.agg #[.int .i64 x0, .int .i64 x1, .int .u32 x2, .int .u32 x3, .int .u64 x4, .bool x5]) 4).run Try.prog w = .ok (.int .u64 x4) w := by kernel_rfl
attribute [local go_sem high] field36

theorem rows_up {A B : World} (h : Below A.heap.size A B) {sv : Value} {zs : List Br} (k : All.Rows A.heap.size A sv zs) : All.Rows B.heap.size B sv zs := by
  have hs := h.size
  rcases k.below h with h | ⟨b, off, c, h1, h2, h3⟩
  · exact .inl h
  · exact .inr ⟨b, off, c, h1, by omega, h3⟩

theorem allC (A : Option Addr) (c n : Nat) (us : List Br) (hn : us.length = n) (F : Br) (hF : fold none0 us = F) {w0 : World} (w : World) (hI : All.Rows w0.heap.size w0 (.slice A us.length c) us) (hB : Below w0.heap.size w0 w) :
    Calls Try.prog 31 #[.slice A n c] w fun e w' => e = .returned (.agg #[.int .i64 F.first, .int .i64 F.last, .int .u32 F.grave, .int .u32 F.src, .int .u64 F.many, .bool F.keep]) ∧ Below w.heap.size w w' := by
  subst hn
  subst hF
  exact all_calls A c us w (rows_up hB hI)

theorem joinD (a b c : Br) (h : join a b = c) (w : World) : Calls Try.prog 28 #[.agg #[.int .i64 a.first, .int .i64 a.last, .int .u32 a.grave, .int .u32 a.src, .int .u64 a.many, .bool a.keep], .agg #[.int .i64 b.first, .int .i64 b.last, .int .u32 b.grave, .int .u32 b.src, .int .u64 b.many, .bool b.keep]] w fun e w' => e = .returned (.agg #[.int .i64 c.first, .int .i64 c.last, .int .u32 c.grave, .int .u32 c.src, .int .u64 c.many, .bool c.keep]) ∧ Below w.heap.size w w' := by
  subst h; exact joinC a b w

theorem rightC (a : Br) (r : Bool) (h : right a = r) (w : World) : Calls Try.prog 27 #[.agg #[.int .i64 a.first, .int .i64 a.last, .int .u32 a.grave, .int .u32 a.src, .int .u64 a.many, .bool a.keep]] w fun e w' => e = .returned (.bool r) ∧ Below w.heap.size w w' := by
  subst h; exact PBriefOrder.brief_Right.calls 2 _ _ _ _ _ _ _ w (right_f a)

theorem ok36 (x : T6) (hg : g36 x) (hr : right (br x) = true) : Ok (br x) := by
  obtain ⟨a0, a1, a2, a3, a4, a5⟩ := x
  obtain ⟨_, _, h2, h3, h4, _⟩ := hg
  have e1 : IntKind.u32.min = 0 := rfl
  have e2 : IntKind.u64.min = 0 := rfl
  simp only [g28, g34, Lit.wf, e1, e2, Bool.and_eq_true, decide_eq_true_eq] at h2 h3 h4
  exact ok_of _ hr h2.1 h3.1 h4.1

set_option maxRecDepth 100000 in
set_option maxHeartbeats 8000000 in
theorem core (w : World) (xs ys : List T6) (A B : Option Addr) (ca cb : Nat) (hA : kd36.C w A xs.length xs) (hB : kd36.C w B ys.length ys) (hg : ∀ x ∈ xs ++ ys, g36 x) (hl : xs.length + ys.length ≤ 1048576) :
    Calls Try.prog 10 #[.slice A xs.length ca, .slice B ys.length cb] w fun e w' => e = .returned (.bool true) ∧ Below w.heap.size w w' := by
  go_enter Try.func10, Try.ntmps10
  go_wp2_with fail
  refine (PBriefOrder.tabularylaw06_shown.calls true _ shown_eq).mono ?_; rintro e w1 ⟨rfl, hb1⟩
  replace hA := Lib.hid hA
  replace hB := Lib.hid hB
  have HB := Lib.hid hb1
  have hinfo : (Try.prog.info? 36).map (fun i => (i.zero, i.size, i.bytes)) = some (some (.agg #[.int .i64 0, .int .i64 0, .int .u32 0, .int .u32 0, .int .u64 0, .bool false]), kd36.sz, 40) := by kernel_rfl
  have HO : kd36.R 36 (w1.alloc (.cells #[] 36)) w.heap.size (fun k => w.heap.size ≤ k) (.slice (some ⟨w1.heap.size, 0, none⟩) 0 0) [] :=
    ⟨fun k hk => by have : w1.heap.size = k := by simpa [Value.ownBlock] using hk
                    have := hb1.size; show w.heap.size ≤ k; omega, [], ⟨rfl, .inr ⟨w1.heap.size, 0, #[], rfl, hb1.size, blk_new _ _, Nat.le_refl _, by decide, rfl, rfl⟩⟩, Reps.none _ _⟩
  replace HO := Lib.hid HO
  have HBa := Lib.hid (below_alloc hb1 (.cells #[] 36))
  replace hinfo := Lib.hid hinfo
  clear hb1
  go_wp2_with (first
    | ((with_reducible refine gate_dst (N := 12) rfl ?_); refine Kd.R_append_rows kd36 (Rr := kd36.K _) (w0 := w) w.heap.size rfl (.tmp 10) (.tmp 11) 58 36 _ 40 rfl Try.underlying58 hinfo.out rfl (by decide) (by decide) _ [] xs A xs.length ca (fun k => w.heap.size ≤ k) (fun _ => False) rfl rfl HO.out (Kd.C_below hA.out HBa.out) (fun x cs h => h) (fun k h => h.elim) (fun k h => Nat.le_trans HBa.out.size h) HBa.out HBa.out.size (by simp only [List.length_nil]; omega) ?_; intro v1 w2 HO2 HB2 hg2 hat2)
    | ((with_reducible refine gate_dst (N := 14) rfl ?_); refine Kd.R_append_rows kd36 (Rr := kd36.K _) (w0 := w) w.heap.size rfl (.tmp 12) (.tmp 13) 58 36 _ 40 rfl Try.underlying58 hinfo.out rfl (by decide) (by decide) _ _ ys B ys.length cb (fun k => w.heap.size ≤ k) (fun _ => False) rfl rfl HO2 (Kd.C_below hB.out HB2) (fun x cs h => h) (fun k h => h.elim) (fun k h => Nat.le_trans HB2.size h) HB2 HB2.size (by simp only [List.nil_append]; omega) ?_; intro v3 w3 HO3 HB3 hg3 hat3; obtain ⟨A2, c2, rfl, hlc, hC3⟩ := Kd.R_reads HO3; clear HO2 HB2 hg2 hat2 hg3 hat3 HO3; replace hC3 := Lib.hid hC3; replace HB3 := Lib.hid HB3))
  clear HO HBa hinfo HB
  generalize hzs : [] ++ xs ++ ys = zs at *
  have hzs2 : zs = xs ++ ys := by rw [← hzs]; rfl
  clear hzs
  have hzl : zs.length = xs.length + ys.length := by rw [hzs2, List.length_append]
  have hrows := Lib.hid (rows_of (c := c2) hC3.out (by omega))
  have hus : (zs.map br).length = zs.length := List.length_map _
  obtain ⟨us, hus2⟩ : ∃ us, us = zs.map br := ⟨_, rfl⟩
  rw [← hus2] at hrows hus
  replace hus2 := Lib.hid hus2
  replace hzs2 := Lib.hid hzs2
  have hzl2 : zs.length ≤ 1048576 := by omega
  try simp only [List.nil_append, List.length_append, ← hzl]
  clear hzl
  go_loopw [8, 6] (fun i n wr => ∃ k : Nat, k ≤ zs.length ∧ i = .int .i64 k ∧ n = .int .u64 (sumM (us.take k)) ∧ RowKit.Hid (∀ z ∈ us.take k, Ok z ∧ z.many ≤ 1099511627776) ∧ RowKit.Hid (0 < k → zs.length ≤ 1000) ∧ RowKit.Hid (Below w3.heap.size w3 wr)) (fun i _ _ => zs.length - (intOf i).toNat)
  case atStart => exact ⟨0, Nat.zero_le _, rfl, rfl, Lib.hid (fun z hz => by cases hz), Lib.hid (fun h => by omega), Lib.hid (Below.refl _ _)⟩
  case round =>
    obtain ⟨k, hk, rfl, rfl, hall, hth, hBr⟩ := hrel
    by_cases hlt : k < zs.length
    · rcases hrows.out with ⟨_, _, he, h0⟩ | ⟨b, off, cap, he, hb, hr, hc⟩
      · rw [h0] at hus; simp at hus; omega
      · injection he with he1 he2 he3
        subst he1
        have hsix := (hc k (by omega)).below hb hBr.out
        clear hc hr he2 he3
        obtain ⟨x, hx⟩ : ∃ x, x = at0 us k := ⟨_, rfl⟩
        rw [← hx] at hsix
        have hxk : us[k]? = some x := by
          rw [hx]; unfold at0
          rw [List.getElem?_eq_getElem (by omega)]; rfl
        have htake : us.take (k + 1) = us.take k ++ [x] := by
          rw [List.take_add_one, hxk]; rfl
        replace htake := Lib.hid htake
        have hxz : ∃ t, t ∈ zs ∧ x = br t := by
          rw [hus2.out, List.getElem?_map] at hxk
          obtain ⟨t, ht, he⟩ := Option.map_eq_some_iff.1 hxk
          exact ⟨t, List.mem_of_getElem? ht, he.symm⟩
        replace hxz := Lib.hid hxz
        clear hxk hx
        obtain ⟨c0, c1, c2', c3, c4, c5⟩ := hsix
        have hbw : b < wr.heap.size := Nat.lt_of_lt_of_le hb hBr.out.size
        go_wp2_with fail
        obtain ⟨r, hr⟩ : ∃ r, right x = r := ⟨_, rfl⟩
        refine (rightC x r hr _).mono ?_
        rintro e w4 ⟨rfl, hb4⟩
        have d4 := (hb4.cell (p := ⟨b, off + k * 6 + 4, none⟩) hbw).trans c4
        have hB4 := Lib.hid (hBr.out.trans (hb4.mono hBr.out.size))
        have hBw := Lib.hid (HB3.out.trans (hB4.out.mono HB3.out.size))
        clear hb4
        cases r with
        | false =>
          go_wp2_with fail
          go_ret
          exact ⟨rfl, hBw.out⟩
        | true =>
          have hok : Ok x := by
            obtain ⟨t, ht, rfl⟩ := hxz.out
            exact ok36 t (hg t (by rw [← hzs2.out]; exact ht)) hr
          have hm0 := ok_many x hok
          by_cases hmm : x.many > 1099511627776
          · have dm : decide (x.many > 1099511627776) = true := decide_eq_true hmm
            go_wp2_with fail
            go_ret
            exact ⟨rfl, hBw.out⟩
          · have dm : decide (x.many > 1099511627776) = false := decide_eq_false hmm
            by_cases hth2 : 1000 < zs.length
            · have dl : decide (1000 < zs.length) = true := decide_eq_true hth2
              have dl2 : decide ((zs.length : Int) > 1000) = true := decide_eq_true (by omega)
              have dl3 : decide ((1000 : Int) < zs.length) = true := decide_eq_true (by omega)
              go_wp2_with fail
              go_ret
              exact ⟨rfl, hBw.out⟩
            · have dl : decide (1000 < zs.length) = false := decide_eq_false hth2
              have dl2 : decide ((zs.length : Int) > 1000) = false := decide_eq_false (by omega)
              have dl3 : decide ((1000 : Int) < zs.length) = false := decide_eq_false (by omega)
              have hsb := sumM_bound _ hall.out
              rw [List.length_take, hus, Nat.min_eq_left hk] at hsb
              obtain ⟨S, hS⟩ : ∃ S, S = sumM (us.take k) := ⟨_, rfl⟩
              rw [← hS] at hsb ⊢
              replace hS := Lib.hid hS
              have hS1 : 0 ≤ S := hsb.1
              have hS2 : S ≤ 1099511627776000 := by omega
              have hm2 : x.many ≤ 1099511627776 := by omega
              clear hsb
              go_wp2_with fail
              go_roundw
              case rel =>
                refine ⟨k + 1, by omega, by go_num, ?_, Lib.hid (fun z hz => ?_), Lib.hid (fun _ => by omega), hB4⟩
                · rw [htake.out, sumM_snoc, ← hS.out]
                · rw [htake.out] at hz
                  rcases List.mem_append.1 hz with hz | hz
                  · exact hall.out z hz
                  · obtain rfl : z = x := by simpa using hz
                    exact ⟨hok, hm2⟩
              case measure => simp [intOf]; omega
    · obtain rfl : k = zs.length := by omega
      rw [List.take_of_length_le (by omega)] at hall
      have hBw := Lib.hid (HB3.out.trans (hBr.out.mono HB3.out.size))
      have hsb := sumM_bound _ hall.out
      have htk : us.take zs.length = us := List.take_of_length_le (by omega)
      rw [htk]
      clear htk
      have hth3 : zs.length ≤ 1000 := by
        rcases Nat.eq_zero_or_pos zs.length with h | h
        · omega
        · exact hth.out h
      have hz0 : none0.many = 0 := rfl
      have hua : us = xs.map br ++ ys.map br := by rw [hus2.out, hzs2.out, List.map_append]
      have hlaw := fold_append (xs.map br) (ys.map br) (by rw [← hua]; exact hall.out) (by rw [← hua]; omega)
      rw [← hua] at hlaw
      have hmany := (fold_facts us none0 ok_none hall.out (by omega)).2
      have hA2 := rows_of (c := ca) hA.out (by have := congrArg List.length hua; simp at this; omega)
      have hB2 := rows_of (c := cb) hB.out (by have := congrArg List.length hua; simp at this; omega)
      replace hA2 := Lib.hid hA2
      replace hB2 := Lib.hid hB2
      obtain ⟨F, hF⟩ : ∃ F, fold none0 us = F := ⟨_, rfl⟩
      obtain ⟨Fa, hFa⟩ : ∃ F, fold none0 (xs.map br) = F := ⟨_, rfl⟩
      obtain ⟨Fb, hFb⟩ : ∃ F, fold none0 (ys.map br) = F := ⟨_, rfl⟩
      rw [hF, hFa, hFb] at hlaw
      rw [hF, hz0, Int.zero_add] at hmany
      replace hF := Lib.hid hF
      replace hFa := Lib.hid hFa
      replace hFb := Lib.hid hFb
      replace hlaw := Lib.hid hlaw.symm
      have hus' := Lib.hid hus
      obtain ⟨n, hn⟩ : ∃ n, n = sumM us := ⟨_, rfl⟩
      rw [← hn] at hsb hmany ⊢
      clear hn hall hth hua hz0 hus
      replace hmany := Lib.hid hmany
      go_wp2_with fail
      refine (allC A2 c2 zs.length us hus'.out F hF.out wr hrows.out hBr.out).mono ?_
      rintro e q1 ⟨rfl, hq⟩
      have hC1 := Lib.hid (hBr.out.trans (hq.mono hBr.out.size))
      have hD1 := Lib.hid (hBw.out.trans (hq.mono hBw.out.size))
      clear hq
      go_wp2_with fail
      refine (allC A ca xs.length (xs.map br) (List.length_map _) Fa hFa.out q1 hA2.out hD1.out).mono ?_
      rintro e q2 ⟨rfl, hq⟩
      have hC2 := Lib.hid (hC1.out.trans (hq.mono hC1.out.size))
      have hD2 := Lib.hid (hD1.out.trans (hq.mono hD1.out.size))
      clear hq
      go_wp2_with fail
      refine (allC B cb ys.length (ys.map br) (List.length_map _) Fb hFb.out q2 hB2.out hD2.out).mono ?_
      rintro e q3 ⟨rfl, hq⟩
      have hC3 := Lib.hid (hC2.out.trans (hq.mono hC2.out.size))
      have hD3 := Lib.hid (hD2.out.trans (hq.mono hD2.out.size))
      clear hq
      go_wp2_with fail
      refine (joinD Fa Fb F hlaw.out q3).mono ?_
      rintro e q4 ⟨rfl, hq⟩
      have hC4 := Lib.hid (hC3.out.trans (hq.mono hC3.out.size))
      have hD4 := Lib.hid (hD3.out.trans (hq.mono hD3.out.size))
      clear hq
      by_cases hn0 : n = 0
      · subst hn0
        go_wp2_with fail
        go_ret
        exact ⟨rfl, hD4.out⟩
      · have hne : (n == 0) = false := beq_eq_false_iff_ne.2 hn0
        go_wp2_with fail
        refine (allC A2 c2 zs.length us hus'.out F hF.out q4 hrows.out hC4.out).mono ?_
        rintro e q5 ⟨rfl, hq⟩
        have hD5 := Lib.hid (hD4.out.trans (hq.mono hD4.out.size))
        clear hq
        rw [hmany.out]
        go_wp2_with fail
        go_ret
        exact ⟨rfl, hD5.out⟩

theorem len_le : ∀ xs : List T6, xs.length ≤ (xs.map b36).sum := by
  intro xs
  induction xs with
  | nil => simp
  | cons x xs ih =>
    have : 1 ≤ b36 x := by simp [b36]
    simp only [List.length_cons, List.map_cons, List.sum_cons]
    omega

theorem walk (w : World) (x0 : (List (Int × Int × Int × Int × Int × Bool))) (v0 : Value) (hK0 : kd58.K w x0 [v0]) (hg0 : g58 x0) (x1 : (List (Int × Int × Int × Int × Int × Bool))) (v1 : Value) (hK1 : kd58.K w x1 [v1]) (hg1 : g58 x1) (hb : b58 x0 + b58 x1 ≤ 1048576) :
    Calls Try.prog 10 #[v0, v1] w fun e w' => e = .returned (.bool true) ∧ Below w.heap.size w w' := by
  obtain ⟨A, ca, h0, _, hA⟩ := hK0
  obtain ⟨B, cb, h1, _, hB⟩ := hK1
  cases h0
  cases h1
  have l0 := len_le x0
  have l1 := len_le x1
  simp only [b58] at hb
  refine core w x0 x1 A B ca cb hA hB (fun x hx => ?_) (by omega)
  rcases List.mem_append.1 hx with h | h
  · exact hg0.2 x h
  · exact hg1.2 x h
end Go.Proofs.Ytliiefkdgdflpaa.WBriefParts
