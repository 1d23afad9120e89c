/-
  tag.Text: the text of parts.
-/
import Derived.Test.YtliiefkdgdflpaaTagAdd
import Derived.Test.YtliiefkdgdflpaaTagBytes
namespace Go.Proofs.Ytliiefkdgdflpaa.TagText
open Go.RowKit Go.Proofs.YtliiefkdgdflpaaW.PrintWords Go.Proofs.YtliiefkdgdflpaaW.PrintLast TagBytes
set_option linter.unusedVariables false

theorem add_none (b off n : Nat) : Addr.add ⟨b, off, none⟩ n = ⟨b, off + n, none⟩ := by
  unfold Addr.add
  split
  · simp [*]
  · rfl

theorem plain {α : Type} {d : Kd α} {w : World} {A : Option Addr} {n : Nat} {xs : List α} (h : d.C w A n xs) (hn : 0 < n) (hsz : 0 < d.sz) : ∃ b off, A = some ⟨b, off, none⟩ ∧ b < w.heap.size := by
  obtain ⟨ad, rfl, hc⟩ := h.2.2 hn
  have h0 : 0 < xs.length := by rw [h.1]; exact hn
  obtain ⟨c, hl, _, hcell⟩ := hc 0 _ (List.getElem?_eq_getElem h0)
  have h01 := hcell 0 _ (List.getElem?_eq_getElem (by omega))
  obtain ⟨b, off, spot⟩ := ad
  have h02 : w.cell? ⟨b, off, spot⟩ = some (c[0]'(by omega)) := by simpa [Addr.add] using h01
  unfold World.cell? at h02
  dsimp only at h02
  split at h02
  · rename_i cs t f hh
    cases spot with
    | none => exact ⟨b, off, rfl, (Array.getElem?_eq_some_iff.1 hh).1⟩
    | some s => simp at h02
  · cases h02


theorem bytes1 (n : Int) (w : World) : Calls Try.prog 47 #[.int .u64 n, .int .i64 1] w fun e w' => e = .returned (.string (strOfNums (be 1 n))) ∧ Below w.heap.size w w' := PTagLong.tag_bytes.calls 3 n 1 _ w (TagBytes.b1 n)
theorem bytes4 (n : Int) (w : World) : Calls Try.prog 47 #[.int .u64 n, .int .i64 4] w fun e w' => e = .returned (.string (strOfNums (be 4 n))) ∧ Below w.heap.size w w' := PTagLong.tag_bytes.calls 6 n 4 _ w (TagBytes.b4 n)
theorem bytes8 (n : Int) (w : World) : Calls Try.prog 47 #[.int .u64 n, .int .i64 8] w fun e w' => e = .returned (.string (strOfNums (be 8 n))) ∧ Below w.heap.size w w' := PTagLong.tag_bytes.calls 10 n 8 _ w (TagBytes.b8 n)

set_option maxRecDepth 100000 in
set_option maxHeartbeats 2000000 in
theorem text_arg (kind : Int) (A : Option Addr) (n c : Nat) (w : World) (h : kind < 0 ∨ 255 < kind) :
    Calls Try.prog 34 #[.int .i64 kind, .slice A n c] w fun e w' => e = .returned (.tuple #[.string ⟨#[]⟩, .int .i64 1]) ∧ Below w.heap.size w w' := by
  rcases h with h | h
  all_goals
    go_enter Try.func34, Try.ntmps34
    go_wp2_with fail
    go_ret2
    exact ⟨rfl, Below.refl _ _⟩

set_option maxRecDepth 100000 in
set_option maxHeartbeats 2000000 in
theorem text_big (kind : Int) (A : Option Addr) (n c : Nat) (w : World) (h0 : 0 ≤ kind) (h1 : kind ≤ 255) (h : 65536 < n) :
    Calls Try.prog 34 #[.int .i64 kind, .slice A n c] w fun e w' => e = .returned (.tuple #[.string ⟨#[]⟩, .int .i64 4]) ∧ Below w.heap.size w w' := by
  have hn : (65536 : Int) < (n : Int) := by omega
  go_enter Try.func34, Try.ntmps34
  go_wp2_with fail
  go_ret2
  exact ⟨rfl, Below.refl _ _⟩

theorem bat_below {T e B b : Nat} {p : Value} {bs : List Value} {W W' : World} (h : Lib.BuilderAt T e B b p bs W) (hb : Below W.heap.size W W') : Lib.BuilderAt T e B b p bs W' := by
  obtain ⟨hB, v, hbk, hown, hne⟩ := h
  exact ⟨hB, v, (hb.block b (Array.getElem?_eq_some_iff.1 hbk).1).trans hbk, own_move hown (fun k hk => hb.block k (own_lt hown k hk)), hne⟩
theorem is_below {T e B b : Nat} {bs : List Value} {W W' : World} (h : Lib.IsBuilder T e B b bs W) (hb : Below W.heap.size W W') : Lib.IsBuilder T e B b bs W' := by
  rcases h with h | h
  · exact Or.inl (bat_below h hb)
  · exact Or.inr (bat_below h hb)

def hd (kind : Int) (n : Nat) : List UInt8 := (strOfNums (be 1 kind)).data.toList ++ (strOfNums (be 4 (n : Int))).data.toList
def pt (p : ByteArray) : List UInt8 := (strOfNums (be 8 (p.size : Int))).data.toList ++ p.data.toList
def body (xs : List ByteArray) : List UInt8 := xs.flatMap pt
theorem body_snoc (xs : List ByteArray) (p : ByteArray) : body (xs ++ [p]) = body xs ++ pt p := by simp [body]
theorem body_le (xs : List ByteArray) (k : Nat) : (body (xs.take k)).length ≤ (body xs).length := by
  have h : body xs = body (xs.take k) ++ body (xs.drop k) := by unfold body; rw [← List.flatMap_append, List.take_append_drop]
  rw [h, List.length_append]; omega
theorem hd_length (kind : Int) (n : Nat) : (hd kind n).length = 5 := by
  unfold hd
  rw [List.length_append]
  have h1 : (strOfNums (be 1 kind)).data.toList.length = 1 := TagBytes.sz 1 kind
  have h2 : (strOfNums (be 4 (n : Int))).data.toList.length = 4 := TagBytes.sz 4 _
  omega

set_option maxRecDepth 100000 in
set_option maxHeartbeats 4000000 in
theorem text_ok (kind : Int) (A : Option Addr) (c : Nat) (xs : List ByteArray) (w : World) (h0 : 0 ≤ kind) (h1 : kind ≤ 255) (h : xs.length ≤ 65536) (hC : Kd.string.C w A xs.length xs) (htot : 5 + (body xs).length ≤ 140737488355328) (hsz : ∀ p ∈ xs, p.size ≤ 9223372036854775807) :
    Calls Try.prog 34 #[.int .i64 kind, .slice A xs.length c] w fun e w' => e = .returned (.tuple #[.string ⟨(hd kind xs.length ++ body xs).toArray⟩, .int .i64 0]) ∧ Below w.heap.size w w' := by
  have hn : (xs.length : Int) ≤ 65536 := by omega
  have B0 := Lib.hid (Lib.fresh_isBuilder 93 5 w)
  have L0 := Lib.hid ((Below.refl _ w).alloc (Nat.le_refl _) (.cells #[.pointer none, .slice none 0 0] 93))
  have HC := Lib.hid hC
  have HS := Lib.hid hsz
  clear hC hsz
  go_enter Try.func34, Try.ntmps34
  go_wp2_with fail
  refine (bytes1 _ _).mono ?_
  rintro e w1 ⟨rfl, hb⟩
  have B1 := Lib.hid (is_below B0.out hb)
  have L1 := Lib.hid (below_then L0.out L0.out.size hb)
  clear hb B0 L0
  go_wp2_with fail
  refine (bytes4 _ _).mono ?_
  rintro e w2 ⟨rfl, hb⟩
  have B2 := Lib.hid (is_below B1.out hb)
  have L2 := Lib.hid (below_then L1.out L1.out.size hb)
  clear hb B1 L1
  obtain ⟨s1, hs1⟩ : ∃ s1, strOfNums (be 1 kind) = s1 := ⟨_, rfl⟩
  obtain ⟨s2, hs2⟩ : ∃ s2, strOfNums (be 4 (xs.length : Int)) = s2 := ⟨_, rfl⟩
  have z1 : s1.size = 1 := by rw [← hs1]; exact TagBytes.sz 1 kind
  have z2 : s2.size = 4 := by rw [← hs2]; exact TagBytes.sz 4 _
  rw [hs1, hs2]
  have hhd : hd kind xs.length = s1.data.toList ++ s2.data.toList := by unfold hd; rw [hs1, hs2]
  replace hhd := Lib.hid hhd
  clear hs1 hs2
  have B3 := Lib.hid (is_below B2.out (below_alloc (Below.refl _ w2) (.cells #[.string s1, .string s2] 9)))
  have L3 := Lib.hid (below_alloc L2.out (.cells #[.string s1, .string s2] 9))
  have S3 := Lib.hid (blk_new w2 (.cells #[.string s1, .string s2] 9))
  go_wp2_with fail
  refine (TagAdd.addC w.heap.size w.heap.size w2.heap.size [] s1 s2 _ B3.out S3.out (by simp; omega) L3.out.size).mono ?_
  rintro e w4 ⟨rfl, B4, hb⟩
  rw [List.nil_append, Lib.strCells_eq, Lib.strCells_eq, ← Lib.byteCells_append, ← hhd.out] at B4
  replace B4 := Lib.hid B4
  have L4 := Lib.hid (L3.out.trans hb)
  clear hb B2 B3 L2 L3 S3 hhd z1 z2
  go_wp2_with fail
  go_loopw [36] (fun i wr => ∃ k : Nat, k ≤ xs.length ∧ i = .int .i64 k ∧ RowKit.Hid (Lib.IsBuilder 93 5 w.heap.size w.heap.size (Lib.byteCells (hd kind xs.length ++ body (xs.take k))) wr) ∧ RowKit.Hid (Below w.heap.size w wr)) (fun i _ => xs.length - (intOf i).toNat)
  case atStart => exact ⟨0, Nat.zero_le _, rfl, Lib.hid (by simpa [body] using B4.out), L4⟩
  case round =>
    clear B4 L4
    obtain ⟨k, hk, rfl, hB, hL⟩ := hrel
    by_cases hlt : k < xs.length
    · have hCw : Kd.string.C wr A xs.length xs := HC.out.imp_ hL.out (fun _ _ hp => Kd.string.K_below hL.out hp)
      obtain ⟨bb, off, rfl, hbw⟩ := plain hCw (by omega) (by decide)
      obtain ⟨ad, had, hc⟩ := hCw.2.2 (by omega)
      cases had
      obtain ⟨p, hp⟩ : ∃ p, xs[k]? = some p := ⟨_, List.getElem?_eq_getElem hlt⟩
      obtain ⟨cs, hcs, hK, hcell⟩ := hc k p hp
      clear hc hCw
      have hpz := HS.out p (List.mem_of_getElem? hp)
      have htk : body (xs.take (k + 1)) = body (xs.take k) ++ pt p := by
        rw [List.take_add_one, hp]; exact body_snoc _ _
      have hle := body_le xs (k + 1)
      rw [htk, List.length_append] at hle
      have hpl : (pt p).length = 8 + p.size := by
        unfold pt
        rw [List.length_append]
        have h1 : (strOfNums (be 8 (p.size : Int))).data.toList.length = 8 := TagBytes.sz 8 _
        have h2 : p.data.toList.length = p.size := by rw [Array.length_toList]; rfl
        omega
      have hhl := hd_length kind xs.length
      have hcl : (hd kind xs.length ++ body (xs.take k)).length + 8 + p.size ≤ 140737488355328 := by rw [List.length_append]; omega
      replace htk := Lib.hid htk
      replace hcl := Lib.hid hcl
      cases hK
      have n0 := hcell 0 _ rfl
      have hs1 : Kd.string.sz = 1 := rfl
      simp only [add_none, hs1, Nat.mul_one, Nat.add_zero] at n0
      clear hcell hp hs1 hcs hle hpl hhl
      go_wp2_with fail
      refine (bytes8 _ _).mono ?_
      rintro e w5 ⟨rfl, hb⟩
      have B5 := Lib.hid (is_below hB.out hb)
      have L5 := Lib.hid (below_then hL.out hL.out.size hb)
      clear hb hB hL
      obtain ⟨s3, hs3⟩ : ∃ s3, strOfNums (be 8 (p.size : Int)) = s3 := ⟨_, rfl⟩
      have z3 : s3.size = 8 := by rw [← hs3]; exact TagBytes.sz 8 _
      have hpt : pt p = s3.data.toList ++ p.data.toList := by unfold pt; rw [hs3]
      rw [hs3]
      replace hpt := Lib.hid hpt
      clear hs3
      have B6 := Lib.hid (is_below B5.out (below_alloc (Below.refl _ w5) (.cells #[.string s3, .string p] 9)))
      have L6 := Lib.hid (below_alloc L5.out (.cells #[.string s3, .string p] 9))
      have S6 := Lib.hid (blk_new w5 (.cells #[.string s3, .string p] 9))
      go_wp2_with fail
      refine (TagAdd.addC w.heap.size w.heap.size w5.heap.size _ s3 p _ B6.out S6.out (by rw [Lib.byteCells_length, z3]; exact hcl.out) L6.out.size).mono ?_
      rintro e w7 ⟨rfl, B7, hb⟩
      rw [Lib.strCells_eq, Lib.strCells_eq, ← Lib.byteCells_append, ← Lib.byteCells_append, ← hpt.out, List.append_assoc, ← htk.out] at B7
      replace B7 := Lib.hid B7
      have L7 := Lib.hid (L6.out.trans hb)
      clear hb B5 B6 L5 L6 S6 hpt htk
      go_wp2_with fail
      go_roundw
      case rel => exact ⟨k + 1, by omega, by go_num, B7, L7⟩
      case measure => simp [intOf]; omega
    · obtain rfl : k = xs.length := by omega
      rw [List.take_length] at hB
      go_wp2_with fail
      refine (Build.string w.heap.size w.heap.size _ _ hB.out hL.out.size).mono ?_
      rintro e w8 ⟨rfl, hb⟩
      have L8 := Lib.hid (hL.out.trans hb)
      clear hb
      go_wp2_with fail
      go_ret2
      exact ⟨rfl, L8.out⟩
end Go.Proofs.Ytliiefkdgdflpaa.TagText
