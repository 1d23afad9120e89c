/-
  BriefNone's walk, for every input.
-/
import Derived.Test.YtliiefkdgdflpaaKSBriefNone
import Derived.Test.YtliiefkdgdflpaaNoneLaw
import Derived.Test.YtliiefkdgdflpaaWBriefParts
namespace Go.Proofs.Ytliiefkdgdflpaa.WSBriefNone
open Go.RowKit Go.Proofs.YtliiefkdgdflpaaW.PrintWords Go.Proofs.YtliiefkdgdflpaaW.PrintLast Go.Proofs.YtliiefkdgdflpaaW.PrintMore KSBriefNone BriefLaw All NoneLaw
open KBriefParts (kd36)
open WBriefParts (add_none T6 br rows_up allC)
set_option linter.unusedVariables false
set_option linter.unusedSimpArgs false

abbrev E10 := (Int × Int × Bool × Int × ByteArray × ByteArray × ByteArray × ByteArray × (List PBriefNone.S129) × ByteArray)
def t6 (b : Br) : T6 := (b.first, b.last, b.grave, b.src, b.many, b.keep)
theorem br_t6 (b : Br) : br (t6 b) = b := rfl
def eb (e : E10) : Br := ofB e.1 e.2.1 e.2.2.2.1

theorem one_row (W : World) (y : Br) : ReadsRow (kd36.K (W.alloc (.cells #[.int .i64 y.first, .int .i64 y.last, .int .u32 y.grave, .int .u32 y.src, .int .u64 y.many, .bool y.keep] 36))) kd36.sz (W.alloc (.cells #[.int .i64 y.first, .int .i64 y.last, .int .u32 y.grave, .int .u32 y.src, .int .u64 y.many, .bool y.keep] 36)) (some ⟨W.heap.size, 0, none⟩) 1 [t6 y] := by
  refine ⟨rfl, by decide, fun _ => ⟨_, rfl, fun j p hj => ?_⟩⟩
  have h0 : j = 0 := by
    have := (List.getElem?_eq_some_iff.1 hj).1
    simp at this; exact this
  subst h0
  obtain rfl : t6 y = p := by simpa using hj
  refine ⟨[.int .i64 y.first, .int .i64 y.last, .int .u32 y.grave, .int .u32 y.src, .int .u64 y.many, .bool y.keep], rfl, ⟨[_], _, rfl, rfl, [_], _, rfl, rfl, [_], _, rfl, rfl, [_], _, rfl, rfl, [_], _, rfl, rfl, rfl⟩, fun i u hu => ?_⟩
  rw [Nat.zero_mul, add_none, blk_cell (blk_new W _), Nat.zero_add, Nat.zero_add]
  simpa using hu

theorem plain {α : Type} {d : Kd α} {w : World} {A : Option Addr} {n : Nat} {xs : List α} (h : d.C w A n xs) (hn : 0 < n) (hsz : 0 < d.sz) : ∃ b off, A = some ⟨b, off, none⟩ ∧ b < w.heap.size := by
  obtain ⟨ad, rfl, hc⟩ := h.2.2 hn
  have h0 : 0 < xs.length := by rw [h.1]; exact hn
  obtain ⟨c, hl, _, hcell⟩ := hc 0 _ (List.getElem?_eq_getElem h0)
  have h01 := hcell 0 _ (List.getElem?_eq_getElem (by omega))
  obtain ⟨b, off, spot⟩ := ad
  have h02 : w.cell? ⟨b, off, spot⟩ = some (c[0]'(by omega)) := by simpa [Addr.add] using h01
  unfold World.cell? at h02
  dsimp only at h02
  split at h02
  · rename_i cs t f hh
    cases spot with
    | none => exact ⟨b, off, rfl, (Array.getElem?_eq_some_iff.1 hh).1⟩
    | some s => simp at h02
  · cases h02

theorem rows_big {w : World} {A : Option Addr} {c : Nat} {xs : List T6} (h : kd36.C w A xs.length xs) (hl : xs.length ≤ 1099511627776) : All.Rows w.heap.size w (.slice A (xs.map br).length c) (xs.map br) := by
  rcases Nat.eq_zero_or_pos xs.length with h0 | h0
  · have : xs = [] := List.length_eq_zero_iff.1 h0
    subst this
    exact .inl ⟨A, c, rfl, rfl⟩
  · obtain ⟨ad, rfl, hc⟩ := h.2.2 h0
    have hone : ∀ j, j < xs.length → w.cell? (ad.add (j * 6 + 0)) = some (.int .i64 (at0 (xs.map br) j).first) ∧ w.cell? (ad.add (j * 6 + 1)) = some (.int .i64 (at0 (xs.map br) j).last) ∧ w.cell? (ad.add (j * 6 + 2)) = some (.int .u32 (at0 (xs.map br) j).grave) ∧ w.cell? (ad.add (j * 6 + 3)) = some (.int .u32 (at0 (xs.map br) j).src) ∧ w.cell? (ad.add (j * 6 + 4)) = some (.int .u64 (at0 (xs.map br) j).many) ∧ w.cell? (ad.add (j * 6 + 5)) = some (.bool (at0 (xs.map br) j).keep) := by
      intro j hj
      obtain ⟨cs, hcs, hK, hcell⟩ := hc j _ (List.getElem?_eq_getElem hj)
      have e : at0 (xs.map br) j = br xs[j] := by simp [at0, hj]
      rw [e]
      obtain ⟨_, _, rfl, h1, _, _, rfl, h2, _, _, rfl, h3, _, _, rfl, h4, _, _, rfl, h5, h6⟩ := hK
      cases h1; cases h2; cases h3; cases h4; cases h5; cases h6
      exact ⟨hcell 0 _ rfl, hcell 1 _ rfl, hcell 2 _ rfl, hcell 3 _ rfl, hcell 4 _ rfl, hcell 5 _ rfl⟩
    obtain ⟨b, off, spot⟩ := ad
    have h00 := (hone 0 h0).1
    have hs : spot = none ∧ b < w.heap.size := by
      have h01 : w.cell? ⟨b, off, spot⟩ = some (.int .i64 (at0 (xs.map br) 0).first) := h00
      unfold World.cell? at h01
      dsimp only at h01
      split at h01
      · rename_i cs t f hh
        refine ⟨?_, (Array.getElem?_eq_some_iff.1 hh).1⟩
        cases spot with
        | none => rfl
        | some s => simp at h01
      · cases h01
    obtain ⟨rfl, hb⟩ := hs
    refine .inr ⟨b, off, c, rfl, hb, by rw [List.length_map]; omega, fun j hj => ?_⟩
    have hj' : j < xs.length := by simpa using hj
    have h := hone j hj'
    simp only [add_none] at h
    obtain ⟨h1, h2, h3, h4, h5, h6⟩ := h
    exact ⟨h1, h2, h3, h4, h5, h6⟩

theorem fold_ones : ∀ (zs : List Br) (x : Br), Ok x → (∀ z ∈ zs, Ok z ∧ z.many ≤ 1) → x.many + zs.length < 18446744073709551616 →
    Ok (fold x zs) ∧ (fold x zs).many = x.many + sumM zs := by
  intro zs
  induction zs with
  | nil => intro x hx _ _; exact ⟨hx, by simp [fold, sumM]⟩
  | cons y ys ih =>
    intro x hx h hb
    have h2 := h y List.mem_cons_self
    have h3 := ok_many y h2.1
    have h4 := ok_many x hx
    simp only [List.length_cons] at hb
    have hs : x.many + y.many < 18446744073709551616 := by omega
    have hm := join_many x y hx h2.1 hs
    have ho := join_ok x y hx h2.1 hs
    obtain ⟨i1, i2⟩ := ih (join x y) ho (fun z hz => h z (List.mem_cons_of_mem _ hz)) (by omega)
    refine ⟨i1, ?_⟩
    show (fold (join x y) ys).many = _
    rw [i2, hm]
    simp only [sumM]; omega
theorem may_ones (q : Q4) : ∀ (zs : List Br) (x : Br), Ok x → (∀ z ∈ zs, Ok z ∧ z.many ≤ 1) → x.many + zs.length < 18446744073709551616 →
    (may q x = true ∨ ∃ z ∈ zs, may q z = true) → may q (fold x zs) = true := by
  intro zs
  induction zs with
  | nil => intro x _ _ _ h; rcases h with h | ⟨z, hz, _⟩; exact h; cases hz
  | cons y ys ih =>
    intro x hx h hb hm
    have h2 := h y List.mem_cons_self
    have h3 := ok_many y h2.1
    have h4 := ok_many x hx
    simp only [List.length_cons] at hb
    have hj := join_many x y hx h2.1 (by omega)
    show may q (fold (join x y) ys) = true
    refine ih (join x y) (join_ok x y hx h2.1 (by omega)) (fun z hz => h z (List.mem_cons_of_mem _ hz)) (by omega) ?_
    rcases hm with hm | ⟨z, hz, hm⟩
    · exact .inl (may_join q x y hx h2.1 (by omega) (.inl hm))
    · rcases List.mem_cons.1 hz with rfl | hz
      · exact .inl (may_join q x z hx h2.1 (by omega) (.inr hm))
      · exact .inr ⟨z, hz, hm⟩

set_option maxRecDepth 100000 in
set_option maxHeartbeats 8000000 in
theorem core (w : World) (xs : List E10) (A : Option Addr) (ca : Nat) (q : Q4) (hA : kd33.C w A xs.length xs) (hl : xs.length ≤ 1099511627776) :
    Calls Try.prog 13 #[.slice A xs.length ca, .agg #[.int .i64 q.first, .int .i64 q.last, .int .u32 q.grave, .int .u32 q.src]] w fun e w' => e = .returned (.bool true) ∧ Below w.heap.size w w' := by
  go_enter Try.func13, Try.ntmps13
  go_wp2_with fail
  refine (PBriefNone.tabularylaw06_shown.calls true _ (by decide +kernel)).mono ?_; rintro e w1 ⟨rfl, hb1⟩
  have hQ := Lib.hid (blk_below (blk_new w (.cells #[.int .i64 q.first, .int .i64 q.last, .int .u32 q.grave, .int .u32 q.src] 30)) hb1)
  have HB := Lib.hid (below_then (below_alloc (Below.refl _ w) (.cells #[.int .i64 q.first, .int .i64 q.last, .int .u32 q.grave, .int .u32 q.src] 30)) (below_alloc (Below.refl _ w) _).size hb1)
  replace hA := Lib.hid hA
  clear hb1
  go_wp2_with fail
  go_loopw [7, 6] (fun i v wr => ∃ k : Nat, k ≤ xs.length ∧ i = .int .i64 k ∧ kd36.R 36 wr w1.heap.size (fun k => w1.heap.size ≤ k) v ((xs.take k).map (fun e => t6 (eb e))) ∧ RowKit.Hid (Below w1.heap.size w1 wr)) (fun i _ _ => xs.length - (intOf i).toNat)
  case atStart => exact ⟨0, Nat.zero_le _, rfl, Kd.R_nil _ _ _ _ _, Lib.hid (Below.refl _ _)⟩
  case round =>
    obtain ⟨k, hk, rfl, hR, hBr⟩ := hrel
    obtain ⟨Av, cv, rfl, hlc, hCv⟩ := Kd.R_reads hR
    by_cases hlt : k < xs.length
    · replace hR := Lib.hid hR
      replace hCv := Lib.hid hCv
      have hBw := Lib.hid (HB.out.trans (hBr.out.mono HB.out.size))
      have hAw := Kd.C_below hA.out hBw.out
      obtain ⟨b, off, rfl, hbw⟩ := plain hAw (by omega) (by decide)
      obtain ⟨ad, had, hc⟩ := hAw.2.2 (by omega)
      cases had
      obtain ⟨x, hx⟩ : ∃ x, xs[k]? = some x := ⟨_, List.getElem?_eq_getElem hlt⟩
      obtain ⟨cs, hcs, hK, hcell⟩ := hc k x hx
      clear hc hAw
      have htk : (xs.take (k + 1)).map (fun e => t6 (eb e)) = (xs.take k).map (fun e => t6 (eb e)) ++ [t6 (eb x)] := by
        rw [List.take_add_one, hx]; simp
      replace htk := Lib.hid htk
      obtain ⟨e0, e1, e2, e3, e4, e5, e6, e7, e8, e9⟩ := x
      obtain ⟨_, _, rfl, rfl, _, _, rfl, rfl, _, _, rfl, rfl, _, _, rfl, rfl, _, _, rfl, rfl, _, _, rfl, rfl, _, _, rfl, rfl, _, _, rfl, rfl, _, _, rfl, ⟨A8, c8, rfl, hc8, hC8⟩, rfl⟩ := hK
      have n0 := hcell 0 _ rfl
      have n1 := hcell 1 _ rfl
      have n2 := hcell 2 _ rfl
      have n3 := hcell 3 _ rfl
      have n4 := hcell 4 _ rfl
      have n5 := hcell 5 _ rfl
      have n6 := hcell 6 _ rfl
      have n7 := hcell 7 _ rfl
      have n8 := hcell 8 _ rfl
      have n9 := hcell 9 _ rfl
      have hs33 : kd33.sz = 10 := rfl
      simp only [add_none, hs33, Nat.add_zero, ← Nat.add_assoc] at n0 n1 n2 n3 n4 n5 n6 n7 n8 n9
      clear hcell hx hs33 hcs
      replace hC8 := Lib.hid hC8
      have hof := Lib.hid (of_f e0 e1 e2 e3 e4 e5 e6 e7 e8 e9)
      go_wp2_with fail
      refine (PBriefNone.brief_Of.calls e0 e1 e2 e3 e4 e5 e6 e7 A8 c8 e8 e9 false _ _ _ _ _ _ wr hC8.out hc8 hof.out).mono ?_
      rintro e w4 ⟨rfl, hb4⟩
      have hlk : ((xs.take k).map (fun e => t6 (eb e))).length = k := by rw [List.length_map, List.length_take, Nat.min_eq_left hk]
      rw [hlk] at hR
      replace hlk := Lib.hid hlk
      have hR4 := Lib.hid (Kd.R_below hR.out hb4)
      have hB4 := Lib.hid (below_then hBr.out hBr.out.size hb4)
      obtain ⟨y, hy⟩ : ∃ y, y = ofB e0 e1 e3 := ⟨_, rfl⟩
      have hye : eb (e0, e1, e2, e3, e4, e5, e6, e7, e8, e9) = y := hy.symm
      rw [← hy]
      rw [hye] at htk
      clear hy hye hb4 hR hof
      have hinfo : (Try.prog.info? 36).map (fun i => (i.zero, i.size, i.bytes)) = some (some (.agg #[.int .i64 0, .int .i64 0, .int .u32 0, .int .u32 0, .int .u64 0, .bool false]), kd36.sz, 40) := by kernel_rfl
      replace hinfo := Lib.hid hinfo
      have hRa := Lib.hid (Kd.R_below hR4.out (below_alloc (Below.refl _ w4) (.cells #[.int .i64 y.first, .int .i64 y.last, .int .u32 y.grave, .int .u32 y.src, .int .u64 y.many, .bool y.keep] 36)))
      have hBa := Lib.hid (below_alloc hB4.out (.cells #[.int .i64 y.first, .int .i64 y.last, .int .u32 y.grave, .int .u32 y.src, .int .u64 y.many, .bool y.keep] 36))
      have hOne := Lib.hid (one_row w4 y)
      go_wp2_with ((with_reducible refine gate_dst (N := 25) rfl ?_); refine Kd.R_append_rows kd36 (Rr := kd36.K _) (w0 := w1) w1.heap.size rfl (.tmp 18) (.tmp 24) 58 36 _ 40 rfl Try.underlying58 hinfo.out rfl (by decide) (by decide) _ _ [t6 y] (some ⟨w4.heap.size, 0, none⟩) 1 1 (fun k => w1.heap.size ≤ k) (fun _ => False) rfl rfl hRa.out hOne.out (fun x cs h => h) (fun k h => h.elim) (fun k h => Nat.le_trans hBa.out.size h) hBa.out hBa.out.size (by rw [hlk.out]; omega) ?_; intro v5 w5 HO5 HB5 hg5 hat5; rw [← htk.out] at HO5; obtain ⟨A5, c5, rfl, hlc5, hC5⟩ := Kd.R_reads HO5; replace HO5 := Lib.hid HO5; replace HB5 := Lib.hid HB5; clear hg5 hat5 hC5 hlc5)
      go_roundw
      case rel => exact ⟨k + 1, by omega, by go_num, (by have h := HO5.out; simpa only [List.length_map, List.length_take] using h), HB5⟩
      case measure => simp [intOf]; omega
    · obtain rfl : k = xs.length := by omega
      have hmm : ((xs.take xs.length).map (fun e => t6 (eb e))).map br = xs.map eb := by rw [List.take_length, List.map_map]; rfl
      have hlen : ((xs.take xs.length).map (fun e => t6 (eb e))).length = xs.length := by rw [List.take_length, List.length_map]
      have hrows := rows_big (c := cv) hCv (by rw [hlen]; omega)
      rw [hmm] at hrows
      replace hrows := Lib.hid hrows
      have hll : (xs.map eb).length = xs.length := List.length_map _
      replace hll := Lib.hid hll
      have hBw := Lib.hid (HB.out.trans (hBr.out.mono HB.out.size))
      clear hmm hlen hR hCv hlc
      have hall : ∀ z ∈ xs.map eb, Ok z ∧ z.many ≤ 1 := by
        intro z hz
        obtain ⟨e, _, rfl⟩ := List.mem_map.1 hz
        exact of_ok _ _ _
      have hall2 : ∀ z ∈ xs.map eb, Ok z ∧ z.many ≤ 1099511627776 := fun z hz => ⟨(hall z hz).1, by have := (hall z hz).2; omega⟩
      have hz0 : none0.many = 0 := rfl
      have hff := fold_ones (xs.map eb) none0 ok_none hall (by rw [hll.out]; omega)
      have hle := sumM_le (xs.map eb) (fun z hz => (hall z hz).2)
      have hge := (sumM_bound (xs.map eb) hall2).1
      have hmay := may_ones q (xs.map eb) none0 ok_none hall (by rw [hll.out]; omega)
      rw [hll.out] at hle
      obtain ⟨F, hF⟩ : ∃ F, fold none0 (xs.map eb) = F := ⟨_, rfl⟩
      rw [hF] at hff hmay
      have hFm : F.many ≤ xs.length := by rw [hff.2]; omega
      have hFm0 : 0 ≤ F.many := by rw [hff.2]; omega
      have hFr := Lib.hid (right_of F hff.1)
      replace hF := Lib.hid hF
      have hmayM : ∀ e ∈ xs, may q (eb e) = true → may q F = true := fun e he h => hmay (.inr ⟨eb e, List.mem_map.2 ⟨e, he, rfl⟩, h⟩)
      replace hmayM := Lib.hid hmayM
      clear hall hall2 hff hle hge hmay hz0
      go_wp2_with fail
      refine (allC Av cv xs.length (xs.map eb) hll.out F hF.out wr hrows.out (Below.refl _ _)).mono ?_
      rintro e q1 ⟨rfl, hq⟩
      have hD1 := Lib.hid (hBw.out.trans (hq.mono hBw.out.size))
      have hQ1 := Lib.hid (blk_below (blk_below hQ.out hBr.out) hq)
      clear hq hrows hBr
      have hQ2 := Lib.hid (blk_alloc hQ1.out (.cells #[.int .i64 F.first, .int .i64 F.last, .int .u32 F.grave, .int .u32 F.src, .int .u64 F.many, .bool F.keep] 36))
      have hX2 := Lib.hid (blk_new q1 (.cells #[.int .i64 F.first, .int .i64 F.last, .int .u32 F.grave, .int .u32 F.src, .int .u64 F.many, .bool F.keep] 36))
      have hD2 := Lib.hid (below_alloc hD1.out (.cells #[.int .i64 F.first, .int .i64 F.last, .int .u32 F.grave, .int .u32 F.src, .int .u64 F.many, .bool F.keep] 36))
      have aq0 : (q1.alloc (.cells #[.int .i64 F.first, .int .i64 F.last, .int .u32 F.grave, .int .u32 F.src, .int .u64 F.many, .bool F.keep] 36)).cell? ⟨w.heap.size, 0, none⟩ = some (.int .i64 q.first) := (blk_cell hQ2.out 0).trans rfl
      have aq1 : (q1.alloc (.cells #[.int .i64 F.first, .int .i64 F.last, .int .u32 F.grave, .int .u32 F.src, .int .u64 F.many, .bool F.keep] 36)).cell? ⟨w.heap.size, 1, none⟩ = some (.int .i64 q.last) := (blk_cell hQ2.out 1).trans rfl
      have aq2 : (q1.alloc (.cells #[.int .i64 F.first, .int .i64 F.last, .int .u32 F.grave, .int .u32 F.src, .int .u64 F.many, .bool F.keep] 36)).cell? ⟨w.heap.size, 2, none⟩ = some (.int .u32 q.grave) := (blk_cell hQ2.out 2).trans rfl
      have aq3 : (q1.alloc (.cells #[.int .i64 F.first, .int .i64 F.last, .int .u32 F.grave, .int .u32 F.src, .int .u64 F.many, .bool F.keep] 36)).cell? ⟨w.heap.size, 3, none⟩ = some (.int .u32 q.src) := (blk_cell hQ2.out 3).trans rfl
      have ax0 : (q1.alloc (.cells #[.int .i64 F.first, .int .i64 F.last, .int .u32 F.grave, .int .u32 F.src, .int .u64 F.many, .bool F.keep] 36)).cell? ⟨q1.heap.size, 0, none⟩ = some (.int .i64 F.first) := (blk_cell hX2.out 0).trans rfl
      have ax1 : (q1.alloc (.cells #[.int .i64 F.first, .int .i64 F.last, .int .u32 F.grave, .int .u32 F.src, .int .u64 F.many, .bool F.keep] 36)).cell? ⟨q1.heap.size, 1, none⟩ = some (.int .i64 F.last) := (blk_cell hX2.out 1).trans rfl
      have ax2 : (q1.alloc (.cells #[.int .i64 F.first, .int .i64 F.last, .int .u32 F.grave, .int .u32 F.src, .int .u64 F.many, .bool F.keep] 36)).cell? ⟨q1.heap.size, 2, none⟩ = some (.int .u32 F.grave) := (blk_cell hX2.out 2).trans rfl
      have ax3 : (q1.alloc (.cells #[.int .i64 F.first, .int .i64 F.last, .int .u32 F.grave, .int .u32 F.src, .int .u64 F.many, .bool F.keep] 36)).cell? ⟨q1.heap.size, 3, none⟩ = some (.int .u32 F.src) := (blk_cell hX2.out 3).trans rfl
      have ax4 : (q1.alloc (.cells #[.int .i64 F.first, .int .i64 F.last, .int .u32 F.grave, .int .u32 F.src, .int .u64 F.many, .bool F.keep] 36)).cell? ⟨q1.heap.size, 4, none⟩ = some (.int .u64 F.many) := (blk_cell hX2.out 4).trans rfl
      have ax5 : (q1.alloc (.cells #[.int .i64 F.first, .int .i64 F.last, .int .u32 F.grave, .int .u32 F.src, .int .u64 F.many, .bool F.keep] 36)).cell? ⟨q1.heap.size, 5, none⟩ = some (.bool F.keep) := (blk_cell hX2.out 5).trans rfl
      go_wp2_with fail
      refine (PBriefNone.brief_May.calls _ _ _ _ _ _ _ _ _ _ _ _ (may_f q F)).mono ?_
      rintro e q2 ⟨rfl, hq⟩
      have hS2 := Lib.hid (And.intro (blk_below hQ2.out hq) (And.intro (blk_below hX2.out hq) (below_then hD2.out hD2.out.size hq)))
      clear hq hQ1 hQ2 hX2 hD1 hD2 aq0 aq1 aq2 aq3 ax0 ax1 ax2 ax3 ax4 ax5
      generalize q1.heap.size = gx at *
      obtain ⟨mr, hmr⟩ : ∃ mr, may q F = mr := ⟨_, rfl⟩
      rw [hmr] at hmayM ⊢
      clear hmr
      go_wp2_with fail
      clear hBw
      go_loopw [10] (fun i wr => ∃ k : Nat, k ≤ xs.length ∧ i = .int .i64 k ∧ RowKit.Hid (wr.heap[w.heap.size]? = some (.cells #[.int .i64 q.first, .int .i64 q.last, .int .u32 q.grave, .int .u32 q.src] 30 (0, 0)) ∧ wr.heap[gx]? = some (.cells #[.int .i64 F.first, .int .i64 F.last, .int .u32 F.grave, .int .u32 F.src, .int .u64 F.many, .bool F.keep] 36 (0, 0)) ∧ Below w.heap.size w wr)) (fun i _ => xs.length - (intOf i).toNat)
      case atStart => exact ⟨0, Nat.zero_le _, rfl, hS2⟩
      case round =>
        clear hS2
        obtain ⟨k, hk, rfl, hr⟩ := hrel
        by_cases hlt : k < xs.length
        · have hAw := Kd.C_below hA.out hr.out.2.2
          obtain ⟨b, off, rfl, hbr⟩ := plain hAw (by omega) (by decide)
          obtain ⟨ad, had, hc⟩ := hAw.2.2 (by omega)
          cases had
          obtain ⟨x, hx⟩ : ∃ x, xs[k]? = some x := ⟨_, List.getElem?_eq_getElem hlt⟩
          obtain ⟨cs, hcs, hK, hcell⟩ := hc k x hx
          clear hc hAw
          have hxm := hmayM.out x (List.mem_of_getElem? hx)
          obtain ⟨e0, e1, e2, e3, e4, e5, e6, e7, e8, e9⟩ := x
          obtain ⟨_, _, rfl, rfl, _, _, rfl, rfl, _, _, rfl, rfl, _, _, rfl, rfl, _, _, rfl, rfl, _, _, rfl, rfl, _, _, rfl, rfl, _, _, rfl, rfl, _, _, rfl, ⟨A8, c8, rfl, hc8, hC8⟩, rfl⟩ := hK
          have n0 := hcell 0 _ rfl
          have n1 := hcell 1 _ rfl
          have n2 := hcell 2 _ rfl
          have n3 := hcell 3 _ rfl
          have n4 := hcell 4 _ rfl
          have n5 := hcell 5 _ rfl
          have n6 := hcell 6 _ rfl
          have n7 := hcell 7 _ rfl
          have n8 := hcell 8 _ rfl
          have n9 := hcell 9 _ rfl
          have hs33 : kd33.sz = 10 := rfl
          simp only [add_none, hs33, Nat.add_zero, ← Nat.add_assoc] at n0 n1 n2 n3 n4 n5 n6 n7 n8 n9
          clear hcell hx hs33 hcs
          replace hC8 := Lib.hid hC8
          have hmt := match_f q e0 e1 e2 e3 e4 e5 e6 e7 e8 e9
          have hxm : (decide ((ofB e0 e1 e3).many = 1) && may q (ofB e0 e1 e3)) = true → mr = true := fun h => hxm (by rw [Bool.and_eq_true] at h; exact h.2)
          generalize (decide ((ofB e0 e1 e3).many = 1) && may q (ofB e0 e1 e3)) = m at hmt hxm
          cases m with
          | false =>
            clear hxm
            replace hmt := Lib.hid hmt
            go_wp2_with fail
            refine start_ (n := 10) (S := fun w' => w'.heap[w.heap.size]? = some (.cells #[.int .i64 q.first, .int .i64 q.last, .int .u32 q.grave, .int .u32 q.src] 30 (0, 0)) ∧ w'.heap[gx]? = some (.cells #[.int .i64 F.first, .int .i64 F.last, .int .u32 F.grave, .int .u32 F.src, .int .u64 F.many, .bool F.keep] 36 (0, 0)) ∧ Below w.heap.size w w' ∧ Below wr.heap.size wr w') (ds := []) #[false, false, false, false, false, false, false, false, false, false] (by kernel_rfl) rfl rfl (⟨hr.out.1, hr.out.2.1, hr.out.2.2.drew, (Below.refl _ _).drew⟩) (fun hS => ?_)
            refine take_ (i := 0) (N := some 37) (v := ?_) (a' := ?_) #[true, false, false, false, false, false, false, false, false, false] rfl rfl (by kernel_rfl) (fun _ _ _ h => h) (Or.inl ⟨by rfl, ?_⟩) hS ?_ ?_
            rotate_left
            · rintro w' hs
              have t0 : w'.cell? ⟨w.heap.size, 0, none⟩ = some (.int .i64 q.first) := (blk_cell hs.1 0).trans rfl
              have t1 : w'.cell? ⟨w.heap.size, 1, none⟩ = some (.int .i64 q.last) := (blk_cell hs.1 1).trans rfl
              have t2 : w'.cell? ⟨w.heap.size, 2, none⟩ = some (.int .u32 q.grave) := (blk_cell hs.1 2).trans rfl
              have t3 : w'.cell? ⟨w.heap.size, 3, none⟩ = some (.int .u32 q.src) := (blk_cell hs.1 3).trans rfl
              clear hs
              go_simp
              with_reducible rfl
            rotate_left
            · simp only [Act.put, List.setIfInBounds_toArray, List.set_cons_zero, List.set_cons_succ, i64_w, i32_w]
              rfl
            refine pure_ (i := 1) (N := some 38) (v := ?_) (a' := ?_) #[true, true, false, false, false, false, false, false, false, false] rfl rfl (by kernel_rfl) (fun _ _ _ h => h) (Or.inl ⟨by rfl, ?_⟩) ?_ ?_
            rotate_left
            · intro w'
              go_simp
              with_reducible rfl
            rotate_left
            · simp only [Act.put, List.setIfInBounds_toArray, List.set_cons_zero, List.set_cons_succ, i64_w, i32_w]
              rfl
            refine pure_ (i := 2) (N := some 39) (v := ?_) (a' := ?_) #[true, true, true, false, false, false, false, false, false, false] rfl rfl (by kernel_rfl) (fun _ _ _ h => h) (Or.inl ⟨by rfl, ?_⟩) ?_ ?_
            rotate_left
            · intro w'
              go_simp
              with_reducible rfl
            rotate_left
            · simp only [Act.put, List.setIfInBounds_toArray, List.set_cons_zero, List.set_cons_succ, i64_w, i32_w]
              rfl
            refine pure_ (i := 3) (N := some 40) (v := ?_) (a' := ?_) #[true, true, true, true, false, false, false, false, false, false] rfl rfl (by kernel_rfl) (fun _ _ _ h => h) (Or.inl ⟨by rfl, ?_⟩) ?_ ?_
            rotate_left
            · intro w'
              go_simp
              with_reducible rfl
            rotate_left
            · simp only [Act.put, List.setIfInBounds_toArray, List.set_cons_zero, List.set_cons_succ, i64_w, i32_w]
              rfl
            refine take_ (i := 4) (N := some 41) (v := ?_) (a' := ?_) #[true, true, true, true, true, false, false, false, false, false] rfl rfl (by kernel_rfl) (fun _ _ _ h => h) (Or.inl ⟨by rfl, ?_⟩) hS ?_ ?_
            rotate_left
            · rintro w' hs
              have t0 := (hs.2.2.2.cell (p := ⟨b, off + k * 10, none⟩) hbr).trans n0
              have t1 := (hs.2.2.2.cell (p := ⟨b, off + k * 10 + 1, none⟩) hbr).trans n1
              have t2 := (hs.2.2.2.cell (p := ⟨b, off + k * 10 + 2, none⟩) hbr).trans n2
              have t3 := (hs.2.2.2.cell (p := ⟨b, off + k * 10 + 3, none⟩) hbr).trans n3
              have t4 := (hs.2.2.2.cell (p := ⟨b, off + k * 10 + 4, none⟩) hbr).trans n4
              have t5 := (hs.2.2.2.cell (p := ⟨b, off + k * 10 + 5, none⟩) hbr).trans n5
              have t6 := (hs.2.2.2.cell (p := ⟨b, off + k * 10 + 6, none⟩) hbr).trans n6
              have t7 := (hs.2.2.2.cell (p := ⟨b, off + k * 10 + 7, none⟩) hbr).trans n7
              have t8 := (hs.2.2.2.cell (p := ⟨b, off + k * 10 + 8, none⟩) hbr).trans n8
              have t9 := (hs.2.2.2.cell (p := ⟨b, off + k * 10 + 9, none⟩) hbr).trans n9
              clear hs
              go_simp
              with_reducible rfl
            rotate_left
            · simp only [Act.put, List.setIfInBounds_toArray, List.set_cons_zero, List.set_cons_succ, i64_w, i32_w]
              rfl
            refine one_ (i := 5) (N := some 42) #[true, true, true, true, true, true, false, false, false, false] rfl rfl (by kernel_rfl) (by decide) (fun K hK => ?_)
            refine goes_ Try.func20 (by kernel_rfl) rfl #[.agg #[.int .i64 q.first, .int .i64 q.last, .int .u32 q.grave, .int .u32 q.src], .agg #[.int .i64 e0, .int .i64 e1, .bool e2, .int .i64 e3, .string e4, .string e5, .string e6, .string e7, .slice A8 e8.length c8, .string e9]] (by rfl) rfl rfl (by (try simp only [List.map_toArray, List.map_cons, List.map_nil]); first | done | rfl) ?_
            refine (PBriefNone.brief_Match.calls q.first q.last q.grave q.src e0 e1 e2 e3 e4 e5 e6 e7 A8 c8 e8 e9 false _ (Kd.C_below hC8.out hS.2.2.2) hc8 hmt.out).mono ?_
            rintro e w' ⟨rfl, hb'⟩
            refine ⟨_, rfl, ?_⟩
            refine hK.out _ _ (⟨blk_below hS.1 hb', blk_below hS.2.1 hb', below_then hS.2.2.1 hS.2.2.1.size hb', below_then hS.2.2.2 hS.2.2.2.size hb'⟩) (fun hS => ?_)
            clear hK K
            refine norm_ (a' := ?_) ?_ ?_
            rotate_left
            · show Act.put _ (some 42) _ = _
              simp only [Act.put, List.setIfInBounds_toArray, List.set_cons_zero, List.set_cons_succ, i64_w, i32_w]
              rfl
            refine pure_ (i := 6) (N := some 43) (v := ?_) (a' := ?_) #[true, true, true, true, true, true, true, false, false, false] rfl rfl (by kernel_rfl) (fun _ _ _ h => h) (Or.inl ⟨by rfl, ?_⟩) ?_ ?_
            rotate_left
            · intro w'
              go_simp
              with_reducible rfl
            rotate_left
            · simp only [Act.put, List.setIfInBounds_toArray, List.set_cons_zero, List.set_cons_succ, i64_w, i32_w]
              rfl
            refine pure_ (i := 7) (N := some 44) (v := undef) (a' := ?_) #[true, true, true, true, true, true, true, true, false, false] rfl rfl (by kernel_rfl) (fun _ _ _ h => h) (Or.inr ⟨by rfl, rfl⟩) ?_ ?_
            rotate_left
            · simp only [Act.put, List.setIfInBounds_toArray, List.set_cons_zero, List.set_cons_succ, i64_w, i32_w]
              rfl
            refine pure_ (i := 8) (N := some 45) (v := undef) (a' := ?_) #[true, true, true, true, true, true, true, true, true, false] rfl rfl (by kernel_rfl) (fun _ _ _ h => h) (Or.inr ⟨by rfl, rfl⟩) ?_ ?_
            rotate_left
            · simp only [Act.put, List.setIfInBounds_toArray, List.set_cons_zero, List.set_cons_succ, i64_w, i32_w]
              rfl
            refine pure_ (i := 9) (N := some 46) (v := ?_) (a' := ?_) #[true, true, true, true, true, true, true, true, true, true] rfl rfl (by kernel_rfl) (fun _ _ _ h => h) (Or.inl ⟨by rfl, ?_⟩) ?_ ?_
            rotate_left
            · intro w'
              go_simp
              with_reducible rfl
            rotate_left
            · simp only [Act.put, List.setIfInBounds_toArray, List.set_cons_zero, List.set_cons_succ, i64_w, i32_w]
              rfl
            refine done_ (by kernel_rfl) ?_
            go_wp2_with fail
            go_roundw
            case rel => exact ⟨k + 1, by omega, by go_num, Lib.hid ⟨hS.1, hS.2.1, hS.2.2.1⟩⟩
            case measure => simp [intOf]; omega
          | true =>
            obtain rfl : mr = true := hxm rfl
            clear hxm
            replace hmt := Lib.hid hmt
            go_wp2_with fail
            refine start_ (n := 10) (S := fun w' => w'.heap[w.heap.size]? = some (.cells #[.int .i64 q.first, .int .i64 q.last, .int .u32 q.grave, .int .u32 q.src] 30 (0, 0)) ∧ w'.heap[gx]? = some (.cells #[.int .i64 F.first, .int .i64 F.last, .int .u32 F.grave, .int .u32 F.src, .int .u64 F.many, .bool F.keep] 36 (0, 0)) ∧ Below w.heap.size w w' ∧ Below wr.heap.size wr w') (ds := []) #[false, false, false, false, false, false, false, false, false, false] (by kernel_rfl) rfl rfl (⟨hr.out.1, hr.out.2.1, hr.out.2.2.drew, (Below.refl _ _).drew⟩) (fun hS => ?_)
            refine take_ (i := 0) (N := some 37) (v := ?_) (a' := ?_) #[true, false, false, false, false, false, false, false, false, false] rfl rfl (by kernel_rfl) (fun _ _ _ h => h) (Or.inl ⟨by rfl, ?_⟩) hS ?_ ?_
            rotate_left
            · rintro w' hs
              have t0 : w'.cell? ⟨w.heap.size, 0, none⟩ = some (.int .i64 q.first) := (blk_cell hs.1 0).trans rfl
              have t1 : w'.cell? ⟨w.heap.size, 1, none⟩ = some (.int .i64 q.last) := (blk_cell hs.1 1).trans rfl
              have t2 : w'.cell? ⟨w.heap.size, 2, none⟩ = some (.int .u32 q.grave) := (blk_cell hs.1 2).trans rfl
              have t3 : w'.cell? ⟨w.heap.size, 3, none⟩ = some (.int .u32 q.src) := (blk_cell hs.1 3).trans rfl
              clear hs
              go_simp
              with_reducible rfl
            rotate_left
            · simp only [Act.put, List.setIfInBounds_toArray, List.set_cons_zero, List.set_cons_succ, i64_w, i32_w]
              rfl
            refine pure_ (i := 1) (N := some 38) (v := ?_) (a' := ?_) #[true, true, false, false, false, false, false, false, false, false] rfl rfl (by kernel_rfl) (fun _ _ _ h => h) (Or.inl ⟨by rfl, ?_⟩) ?_ ?_
            rotate_left
            · intro w'
              go_simp
              with_reducible rfl
            rotate_left
            · simp only [Act.put, List.setIfInBounds_toArray, List.set_cons_zero, List.set_cons_succ, i64_w, i32_w]
              rfl
            refine pure_ (i := 2) (N := some 39) (v := ?_) (a' := ?_) #[true, true, true, false, false, false, false, false, false, false] rfl rfl (by kernel_rfl) (fun _ _ _ h => h) (Or.inl ⟨by rfl, ?_⟩) ?_ ?_
            rotate_left
            · intro w'
              go_simp
              with_reducible rfl
            rotate_left
            · simp only [Act.put, List.setIfInBounds_toArray, List.set_cons_zero, List.set_cons_succ, i64_w, i32_w]
              rfl
            refine pure_ (i := 3) (N := some 40) (v := ?_) (a' := ?_) #[true, true, true, true, false, false, false, false, false, false] rfl rfl (by kernel_rfl) (fun _ _ _ h => h) (Or.inl ⟨by rfl, ?_⟩) ?_ ?_
            rotate_left
            · intro w'
              go_simp
              with_reducible rfl
            rotate_left
            · simp only [Act.put, List.setIfInBounds_toArray, List.set_cons_zero, List.set_cons_succ, i64_w, i32_w]
              rfl
            refine take_ (i := 4) (N := some 41) (v := ?_) (a' := ?_) #[true, true, true, true, true, false, false, false, false, false] rfl rfl (by kernel_rfl) (fun _ _ _ h => h) (Or.inl ⟨by rfl, ?_⟩) hS ?_ ?_
            rotate_left
            · rintro w' hs
              have t0 := (hs.2.2.2.cell (p := ⟨b, off + k * 10, none⟩) hbr).trans n0
              have t1 := (hs.2.2.2.cell (p := ⟨b, off + k * 10 + 1, none⟩) hbr).trans n1
              have t2 := (hs.2.2.2.cell (p := ⟨b, off + k * 10 + 2, none⟩) hbr).trans n2
              have t3 := (hs.2.2.2.cell (p := ⟨b, off + k * 10 + 3, none⟩) hbr).trans n3
              have t4 := (hs.2.2.2.cell (p := ⟨b, off + k * 10 + 4, none⟩) hbr).trans n4
              have t5 := (hs.2.2.2.cell (p := ⟨b, off + k * 10 + 5, none⟩) hbr).trans n5
              have t6 := (hs.2.2.2.cell (p := ⟨b, off + k * 10 + 6, none⟩) hbr).trans n6
              have t7 := (hs.2.2.2.cell (p := ⟨b, off + k * 10 + 7, none⟩) hbr).trans n7
              have t8 := (hs.2.2.2.cell (p := ⟨b, off + k * 10 + 8, none⟩) hbr).trans n8
              have t9 := (hs.2.2.2.cell (p := ⟨b, off + k * 10 + 9, none⟩) hbr).trans n9
              clear hs
              go_simp
              with_reducible rfl
            rotate_left
            · simp only [Act.put, List.setIfInBounds_toArray, List.set_cons_zero, List.set_cons_succ, i64_w, i32_w]
              rfl
            refine one_ (i := 5) (N := some 42) #[true, true, true, true, true, true, false, false, false, false] rfl rfl (by kernel_rfl) (by decide) (fun K hK => ?_)
            refine goes_ Try.func20 (by kernel_rfl) rfl #[.agg #[.int .i64 q.first, .int .i64 q.last, .int .u32 q.grave, .int .u32 q.src], .agg #[.int .i64 e0, .int .i64 e1, .bool e2, .int .i64 e3, .string e4, .string e5, .string e6, .string e7, .slice A8 e8.length c8, .string e9]] (by rfl) rfl rfl (by (try simp only [List.map_toArray, List.map_cons, List.map_nil]); first | done | rfl) ?_
            refine (PBriefNone.brief_Match.calls q.first q.last q.grave q.src e0 e1 e2 e3 e4 e5 e6 e7 A8 c8 e8 e9 true _ (Kd.C_below hC8.out hS.2.2.2) hc8 hmt.out).mono ?_
            rintro e w' ⟨rfl, hb'⟩
            refine ⟨_, rfl, ?_⟩
            refine hK.out _ _ (⟨blk_below hS.1 hb', blk_below hS.2.1 hb', below_then hS.2.2.1 hS.2.2.1.size hb', below_then hS.2.2.2 hS.2.2.2.size hb'⟩) (fun hS => ?_)
            clear hK K
            refine norm_ (a' := ?_) ?_ ?_
            rotate_left
            · show Act.put _ (some 42) _ = _
              simp only [Act.put, List.setIfInBounds_toArray, List.set_cons_zero, List.set_cons_succ, i64_w, i32_w]
              rfl
            refine pure_ (i := 6) (N := some 43) (v := ?_) (a' := ?_) #[true, true, true, true, true, true, true, false, false, false] rfl rfl (by kernel_rfl) (fun _ _ _ h => h) (Or.inl ⟨by rfl, ?_⟩) ?_ ?_
            rotate_left
            · intro w'
              go_simp
              with_reducible rfl
            rotate_left
            · simp only [Act.put, List.setIfInBounds_toArray, List.set_cons_zero, List.set_cons_succ, i64_w, i32_w]
              rfl
            refine pure_ (i := 7) (N := some 44) (v := ?_) (a' := ?_) #[true, true, true, true, true, true, true, true, false, false] rfl rfl (by kernel_rfl) (fun _ _ _ h => h) (Or.inl ⟨by rfl, ?_⟩) ?_ ?_
            rotate_left
            · intro w'
              go_simp
              with_reducible rfl
            rotate_left
            · simp only [Act.put, List.setIfInBounds_toArray, List.set_cons_zero, List.set_cons_succ, i64_w, i32_w]
              rfl
            refine pure_ (i := 8) (N := some 45) (v := ?_) (a' := ?_) #[true, true, true, true, true, true, true, true, true, false] rfl rfl (by kernel_rfl) (fun _ _ _ h => h) (Or.inl ⟨by rfl, ?_⟩) ?_ ?_
            rotate_left
            · intro w'
              go_simp
              with_reducible rfl
            rotate_left
            · simp only [Act.put, List.setIfInBounds_toArray, List.set_cons_zero, List.set_cons_succ, i64_w, i32_w]
              rfl
            refine pure_ (i := 9) (N := some 46) (v := ?_) (a' := ?_) #[true, true, true, true, true, true, true, true, true, true] rfl rfl (by kernel_rfl) (fun _ _ _ h => h) (Or.inl ⟨by rfl, ?_⟩) ?_ ?_
            rotate_left
            · intro w'
              go_simp
              with_reducible rfl
            rotate_left
            · simp only [Act.put, List.setIfInBounds_toArray, List.set_cons_zero, List.set_cons_succ, i64_w, i32_w]
              rfl
            refine done_ (by kernel_rfl) ?_
            go_wp2_with fail
            go_roundw
            case rel => exact ⟨k + 1, by omega, by go_num, Lib.hid ⟨hS.1, hS.2.1, hS.2.2.1⟩⟩
            case measure => simp [intOf]; omega
        · obtain rfl : k = xs.length := by omega
          have z0 : wr.cell? ⟨gx, 0, none⟩ = some (.int .i64 F.first) := (blk_cell hr.out.2.1 0).trans rfl
          have z1 : wr.cell? ⟨gx, 1, none⟩ = some (.int .i64 F.last) := (blk_cell hr.out.2.1 1).trans rfl
          have z2 : wr.cell? ⟨gx, 2, none⟩ = some (.int .u32 F.grave) := (blk_cell hr.out.2.1 2).trans rfl
          have z3 : wr.cell? ⟨gx, 3, none⟩ = some (.int .u32 F.src) := (blk_cell hr.out.2.1 3).trans rfl
          have z4 : wr.cell? ⟨gx, 4, none⟩ = some (.int .u64 F.many) := (blk_cell hr.out.2.1 4).trans rfl
          have z5 : wr.cell? ⟨gx, 5, none⟩ = some (.bool F.keep) := (blk_cell hr.out.2.1 5).trans rfl
          go_wp2_with fail
          refine (WBriefParts.rightC F true hFr.out _).mono ?_
          rintro e q3 ⟨rfl, hq⟩
          have hX3 := Lib.hid (blk_below hr.out.2.1 hq)
          have hD3 := Lib.hid (below_then hr.out.2.2 hr.out.2.2.size hq)
          clear hq
          have y0 : q3.cell? ⟨gx, 0, none⟩ = some (.int .i64 F.first) := (blk_cell hX3.out 0).trans rfl
          have y1 : q3.cell? ⟨gx, 1, none⟩ = some (.int .i64 F.last) := (blk_cell hX3.out 1).trans rfl
          have y2 : q3.cell? ⟨gx, 2, none⟩ = some (.int .u32 F.grave) := (blk_cell hX3.out 2).trans rfl
          have y3 : q3.cell? ⟨gx, 3, none⟩ = some (.int .u32 F.src) := (blk_cell hX3.out 3).trans rfl
          have y4 : q3.cell? ⟨gx, 4, none⟩ = some (.int .u64 F.many) := (blk_cell hX3.out 4).trans rfl
          have y5 : q3.cell? ⟨gx, 5, none⟩ = some (.bool F.keep) := (blk_cell hX3.out 5).trans rfl
          go_wp2_with fail
          go_ret
          exact ⟨rfl, hD3.out⟩

theorem b33 : Try.prog.bytesOf 33 = 136 := by kernel_rfl

theorem walk (w : World) (x0 : (List (Int × Int × Bool × Int × ByteArray × ByteArray × ByteArray × ByteArray × (List PBriefNone.S129) × ByteArray))) (v0 : Value) (hK0 : kd70.K w x0 [v0]) (hs0 : s70 x0) (x1 : (Int × Int × Int × Int)) (cs1 : Array Value) (hK1 : kd30.K w x1 cs1.toList) (hs1 : s30 x1) :
    Calls Try.prog 13 #[v0, .agg cs1] w fun e w' => e = .returned (.bool true) ∧ Below w.heap.size w w' := by
  obtain ⟨A, ca, h0, _, hA⟩ := hK0
  cases h0
  obtain ⟨l1⟩ := cs1
  obtain ⟨q0, q1, q2, q3⟩ := x1
  obtain ⟨_, _, rfl, rfl, _, _, rfl, rfl, _, _, rfl, rfl, rfl⟩ := hK1
  obtain ⟨hl, _⟩ := hs0
  have hl' : x0.length * 136 ≤ 140737488351232 := by rw [b33] at hl; exact hl
  exact core w x0 A ca ⟨q0, q1, q2, q3⟩ hA (by omega)
end Go.Proofs.Ytliiefkdgdflpaa.WSBriefNone
