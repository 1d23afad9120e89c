/-
  A brief's text and a text's brief, in plain Lean.
-/
import Derived.Test.YtliiefkdgdflpaaBriefText
import Derived.Test.YtliiefkdgdflpaaBriefNum
namespace Go.Proofs.Ytliiefkdgdflpaa.BackLaw
open Go.RowKit Go.Proofs.YtliiefkdgdflpaaW.PrintWords Go.Proofs.YtliiefkdgdflpaaW.PrintMore BriefBytes BriefLaw BriefText
set_option linter.unusedVariables false

def dec (s : ByteArray) : Br := ⟨RowKit.wrap64 (num (BriefNum.part s 0 8) 0), RowKit.wrap64 (num (BriefNum.part s 8 8) 0), IntKind.u32.wrap (num (BriefNum.part s 16 4) 0), IntKind.u32.wrap (num (BriefNum.part s 20 4) 0), num (BriefNum.part s 24 8) 0, bt s 32 == 1⟩

theorem bytes_str (xs : List Int) (h : ∀ x ∈ xs, 0 ≤ x ∧ x < 256) : bytesOf (strOfNums xs) = xs := by
  unfold bytesOf strOfNums
  simp only [List.map_map]
  conv => rhs; rw [← List.map_id xs]
  apply List.map_congr_left
  intro x hx
  have := h x hx
  simp only [Function.comp, UInt8.toNat_ofNat', id]
  omega

def L (a : Br) : List Int := be 8 (IntKind.u64.wrap a.first) ++ (be 8 (IntKind.u64.wrap a.last) ++ (be 4 (IntKind.u64.wrap a.grave) ++ (be 4 (IntKind.u64.wrap a.src) ++ (be 8 a.many ++ be 1 (kn a.keep)))))
theorem txt_L (a : Br) : txt a = strOfNums (L a) := by
  unfold txt L
  simp only [WWordWords.str_append]
  simp only [ByteArray.append_assoc]
theorem L_range (a : Br) : ∀ x ∈ L a, 0 ≤ x ∧ x < 256 := by
  intro x hx
  unfold L at hx
  simp only [List.mem_append] at hx
  rcases hx with h | h | h | h | h | h <;> exact be_range _ _ x h
theorem bytes_txt (a : Br) : bytesOf (txt a) = L a := by rw [txt_L, bytes_str _ (L_range a)]
theorem txt_size (a : Br) : (txt a).size = 33 := by
  rw [← bytesOf_length, bytes_txt]
  unfold L
  simp only [List.length_append, be_length]

structure InR (a : Br) : Prop where
  f : -9223372036854775808 ≤ a.first ∧ a.first ≤ 9223372036854775807
  l : -9223372036854775808 ≤ a.last ∧ a.last ≤ 9223372036854775807
  g : 0 ≤ a.grave ∧ a.grave ≤ 4294967295
  s : 0 ≤ a.src ∧ a.src ≤ 4294967295
  m : 0 ≤ a.many ∧ a.many ≤ 18446744073709551615

theorem take_app (xs ys : List Int) (n : Nat) (h : xs.length = n) : (xs ++ ys).take n = xs := by subst h; simp
theorem drop_app (xs ys : List Int) (n m : Nat) (h : xs.length = n) : (xs ++ ys).drop (n + m) = ys.drop m := by
  subst h; simp

theorem num8 (n : Int) (h0 : 0 ≤ n) (h1 : n < 18446744073709551616) : num (be 8 n) 0 = n := num_be 8 n h0 (by rw [show (256 : Int) ^ 8 = 18446744073709551616 by decide]; exact h1)
theorem num4 (n : Int) (h0 : 0 ≤ n) (h1 : n < 4294967296) : num (be 4 n) 0 = n := num_be 4 n h0 (by rw [show (256 : Int) ^ 4 = 4294967296 by decide]; exact h1)
theorem dec_txt (a : Br) (h : InR a) : dec (txt a) = a := by
  obtain ⟨a0, a1, a2, a3, a4, a5⟩ := a
  obtain ⟨hf, hl, hg, hs, hm⟩ := h
  dsimp only at hf hl hg hs hm
  have hb := bytes_txt ⟨a0, a1, a2, a3, a4, a5⟩
  have p0 : BriefNum.part (txt ⟨a0, a1, a2, a3, a4, a5⟩) 0 8 = be 8 (IntKind.u64.wrap a0) := by
    unfold BriefNum.part; rw [hb]; exact take_app _ _ 8 (be_length _ _)
  have p1 : BriefNum.part (txt ⟨a0, a1, a2, a3, a4, a5⟩) 8 8 = be 8 (IntKind.u64.wrap a1) := by
    unfold BriefNum.part; rw [hb]; unfold L
    rw [show (8 : Nat) = 8 + 0 from rfl, drop_app _ _ 8 0 (be_length _ _)]
    exact take_app _ _ 8 (be_length _ _)
  have p2 : BriefNum.part (txt ⟨a0, a1, a2, a3, a4, a5⟩) 16 4 = be 4 (IntKind.u64.wrap a2) := by
    unfold BriefNum.part; rw [hb]; unfold L
    rw [show (16 : Nat) = 8 + (8 + 0) from rfl, drop_app _ _ 8 _ (be_length _ _), drop_app _ _ 8 _ (be_length _ _)]
    exact take_app _ _ 4 (be_length _ _)
  have p3 : BriefNum.part (txt ⟨a0, a1, a2, a3, a4, a5⟩) 20 4 = be 4 (IntKind.u64.wrap a3) := by
    unfold BriefNum.part; rw [hb]; unfold L
    rw [show (20 : Nat) = 8 + (8 + (4 + 0)) from rfl, drop_app _ _ 8 _ (be_length _ _), drop_app _ _ 8 _ (be_length _ _), drop_app _ _ 4 _ (be_length _ _)]
    exact take_app _ _ 4 (be_length _ _)
  have p4 : BriefNum.part (txt ⟨a0, a1, a2, a3, a4, a5⟩) 24 8 = be 8 a4 := by
    unfold BriefNum.part; rw [hb]; unfold L
    rw [show (24 : Nat) = 8 + (8 + (4 + (4 + 0))) from rfl, drop_app _ _ 8 _ (be_length _ _), drop_app _ _ 8 _ (be_length _ _), drop_app _ _ 4 _ (be_length _ _), drop_app _ _ 4 _ (be_length _ _)]
    exact take_app _ _ 8 (be_length _ _)
  have p5 : bt (txt ⟨a0, a1, a2, a3, a4, a5⟩) 32 = kn a5 := by
    have h1 : (L ⟨a0, a1, a2, a3, a4, a5⟩).drop 32 = be 1 (kn a5) := by
      unfold L
      rw [show (32 : Nat) = 8 + (8 + (4 + (4 + (8 + 0)))) from rfl, drop_app _ _ 8 _ (be_length _ _), drop_app _ _ 8 _ (be_length _ _), drop_app _ _ 4 _ (be_length _ _), drop_app _ _ 4 _ (be_length _ _), drop_app _ _ 8 _ (be_length _ _)]
      rfl
    have h2 : (L ⟨a0, a1, a2, a3, a4, a5⟩)[32]? = some (kn a5 % 256) := by
      have h3 := congrArg (fun l : List Int => l[0]?) h1
      simp only [List.getElem?_drop] at h3
      exact h3
    rw [← rd_bytesOf, hb]
    unfold rd
    rw [List.getD_eq_getElem?_getD, show (32 : Int).toNat = 32 from rfl, h2]
    cases a5 <;> rfl
  unfold dec
  rw [p0, p1, p2, p3, p4, p5]
  have w32 : ∀ n : Int, IntKind.u32.wrap n = n % 4294967296 := IntKind.wrap_u32
  rw [num8 _ (by rw [BriefLaw.wrap64]; omega) (by rw [BriefLaw.wrap64]; omega), num8 _ (by rw [BriefLaw.wrap64]; omega) (by rw [BriefLaw.wrap64]; omega), num4 _ (by rw [BriefLaw.wrap64]; omega) (by rw [BriefLaw.wrap64]; omega), num4 _ (by rw [BriefLaw.wrap64]; omega) (by rw [BriefLaw.wrap64]; omega), num8 _ hm.1 (by omega)]
  have q : ∀ n : Int, -9223372036854775808 ≤ n ∧ n ≤ 9223372036854775807 → RowKit.wrap64 (IntKind.u64.wrap n) = n := by
    intro n hn
    rw [BriefLaw.wrap64]
    unfold RowKit.wrap64
    omega
  rw [q a0 hf, q a1 hl, w32, w32, BriefLaw.wrap64, BriefLaw.wrap64]
  have k5 : (kn a5 == 1) = a5 := by cases a5 <;> rfl
  rw [k5, show a2 % 18446744073709551616 % 4294967296 = a2 by omega, show a3 % 18446744073709551616 % 4294967296 = a3 by omega]

theorem txt_inj (a b : Br) (ha : InR a) (hb : InR b) (h : txt a = txt b) : a = b := by
  rw [← dec_txt a ha, ← dec_txt b hb, h]
end Go.Proofs.Ytliiefkdgdflpaa.BackLaw
