/-
  A text of a kind and parts, taken apart and laid, in plain Lean.
-/
import Derived.Test.YtliiefkdgdflpaaTagSplit
import Derived.Test.YtliiefkdgdflpaaPTagBackx1
namespace Go.Proofs.Ytliiefkdgdflpaa.TagParse
open Go.RowKit Go.Proofs.YtliiefkdgdflpaaW.PrintWords TagBytes TagNum TagSplit TagText
set_option linter.unusedVariables false

/-- a text's kind, parts, and why it is none (0, 2, 3) -/
def parse (bs : List Int) : Int × List (List Int) × Int :=
  if bs.length < 5 then (0, [], 2)
  else if num ((bs.drop 1).take 4) 0 > 65536 then (0, [], 3)
  else if (split (num ((bs.drop 1).take 4) 0).toNat (bs.drop 5)).2 = 0 then (bs.headD 0, (split (num ((bs.drop 1).take 4) 0).toNat (bs.drop 5)).1, 0)
  else (0, [], (split (num ((bs.drop 1).take 4) 0).toNat (bs.drop 5)).2)

/-- the text, as whole numbers -/
def text (kind : Int) (ps : List (List Int)) : List Int := kind :: (be 4 (ps.length : Int) ++ laid ps)

theorem text_length (kind : Int) (ps : List (List Int)) : (text kind ps).length = 5 + (laid ps).length := by
  simp [text, be_length]; omega

theorem be4 (n : Nat) (h : n ≤ 65536) : num (be 4 (n : Int)) 0 = n := num_be 4 _ (by omega) (by rw [show (256 : Int) ^ 4 = 4294967296 by decide]; omega)

theorem drop1 (kind : Int) (n : Nat) (L : List Int) : ((kind :: (be 4 (n : Int) ++ L)).drop 1).take 4 = be 4 (n : Int) := by
  rw [List.drop_succ_cons, List.drop_zero, List.take_append_of_le_length (by rw [be_length]; exact Nat.le_refl _), List.take_of_length_le (by rw [be_length]; exact Nat.le_refl _)]
theorem drop5 (kind : Int) (n : Nat) (L : List Int) : (kind :: (be 4 (n : Int) ++ L)).drop 5 = L := by
  rw [List.drop_succ_cons, List.drop_append_of_le_length (by rw [be_length]; exact Nat.le_refl _), List.drop_eq_nil_of_le (by rw [be_length]; exact Nat.le_refl _), List.nil_append]

theorem parse_laid (kind : Int) (n : Nat) (hn : n ≤ 65536) (L : List Int) :
    parse (kind :: (be 4 (n : Int) ++ L)) = if (split n L).2 = 0 then (kind, (split n L).1, 0) else (0, [], (split n L).2) := by
  have hl : ¬ (kind :: (be 4 (n : Int) ++ L)).length < 5 := by rw [List.length_cons, List.length_append, be_length]; omega
  unfold parse
  rw [if_neg hl, drop1, be4 n hn, drop5, if_neg (by omega), Int.toNat_natCast]
  rfl

theorem parse_more (kind : Int) (ps : List (List Int)) (t : List Int) (hn : ps.length ≤ 65536) (h : ∀ p ∈ ps, (p.length : Int) < 18446744073709551616) :
    parse (text kind ps ++ t) = if t = [] then (kind, ps, 0) else (0, [], 3) := by
  have e : text kind ps ++ t = kind :: (be 4 (ps.length : Int) ++ (laid ps ++ t)) := by simp [text]
  rw [e, parse_laid kind ps.length hn, split_laid ps t h]
  by_cases ht : t = []
  · simp [ht]
  · simp [ht]

theorem parse_text (kind : Int) (ps : List (List Int)) (hn : ps.length ≤ 65536) (h : ∀ p ∈ ps, (p.length : Int) < 18446744073709551616) :
    parse (text kind ps) = (kind, ps, 0) := by
  have := parse_more kind ps [] hn h
  simpa using this

theorem split_cut : ∀ (ps : List (List Int)) (k : Nat), (∀ p ∈ ps, (p.length : Int) < 18446744073709551616) → k < (laid ps).length → (split ps.length ((laid ps).take k)).2 = 2 := by
  intro ps
  induction ps with
  | nil => intro k _ hk; simp [laid] at hk
  | cons p ps ih =>
    intro k h hk
    have hp := h p List.mem_cons_self
    have hb8 : (be 8 (p.length : Int)).length = 8 := be_length _ _
    have hlen : (laid (p :: ps)).length = 8 + (p.length + (laid ps).length) := by simp [laid, hb8]
    have htl : ((laid (p :: ps)).take k).length = k := by rw [List.length_take]; omega
    rw [List.length_cons, split, htl]
    by_cases h8 : k < 8
    · rw [if_pos (Or.inl h8)]
    · have ht8 : ((laid (p :: ps)).take k).take 8 = be 8 (p.length : Int) := by
        rw [List.take_take, Nat.min_eq_left (by omega), laid, List.take_append_of_le_length (by omega), List.take_of_length_le (by omega)]
      have hn : num (be 8 (p.length : Int)) 0 = (p.length : Int) := num_be 8 _ (by omega) (by rw [show (256 : Int) ^ 8 = 18446744073709551616 by decide]; exact hp)
      rw [ht8, hn]
      by_cases hs : (p.length : Int) > (k : Int) - 8
      · rw [if_pos (Or.inr hs)]
      · rw [if_neg (by omega)]
        have hd : ((laid (p :: ps)).take k).drop (8 + ((p.length : Nat) : Int).toNat) = (laid ps).take (k - (8 + p.length)) := by
          rw [Int.toNat_natCast, List.drop_take, laid, ← List.append_assoc, List.drop_append_of_le_length (by simp [hb8]), List.drop_eq_nil_of_le (by simp [hb8]), List.nil_append]
        rw [hd]
        exact ih _ (fun q hq => h q (List.mem_cons_of_mem _ hq)) (by omega)

theorem parse_cut (kind : Int) (ps : List (List Int)) (k : Nat) (hn : ps.length ≤ 65536) (h : ∀ p ∈ ps, (p.length : Int) < 18446744073709551616) (hk : k < (text kind ps).length) :
    (parse ((text kind ps).take k)).2.2 = 2 := by
  have hl : ((text kind ps).take k).length = k := by rw [List.length_take]; omega
  by_cases h5 : k < 5
  · unfold parse
    rw [if_pos (by rw [hl]; exact h5)]
  · rw [text_length] at hk
    have e : (text kind ps).take k = kind :: (be 4 (ps.length : Int) ++ (laid ps).take (k - 5)) := by
      obtain ⟨j, rfl⟩ : ∃ j, k = j + 5 := ⟨k - 5, by omega⟩
      rw [text, List.take_succ_cons, List.take_append, be_length, List.take_of_length_le (by rw [be_length]; omega), show j + 5 - 5 = j by omega, show j + 4 - 4 = j by omega]
    rw [e, parse_laid kind ps.length hn, split_cut ps _ h (by omega)]
    rfl

theorem parse_back (bs : List Int) (hr : ∀ x ∈ bs, 0 ≤ x ∧ x < 256) (h : (parse bs).2.2 = 0) :
    text (parse bs).1 (parse bs).2.1 = bs ∧ (parse bs).2.1.length ≤ 65536 ∧ 0 ≤ (parse bs).1 ∧ (parse bs).1 ≤ 255 := by
  unfold parse at h ⊢
  by_cases h5 : bs.length < 5
  · rw [if_pos h5] at h; simp at h
  · rw [if_neg h5] at h ⊢
    by_cases hm : num ((bs.drop 1).take 4) 0 > 65536
    · rw [if_pos hm] at h; simp at h
    · rw [if_neg hm] at h ⊢
      by_cases h0 : (split (num ((bs.drop 1).take 4) 0).toNat (bs.drop 5)).2 = 0
      · rw [if_pos h0] at h ⊢
        have hl4 : ((bs.drop 1).take 4).length = 4 := by rw [List.length_take, List.length_drop]; omega
        have hr4 : ∀ x ∈ (bs.drop 1).take 4, 0 ≤ x ∧ x < 256 := fun x hx => hr x (List.mem_of_mem_drop (List.mem_of_mem_take hx))
        have hb := num_bound 4 _ hl4 hr4
        obtain ⟨l1, l2⟩ := laid_split _ (bs.drop 5) (fun x hx => hr x (List.mem_of_mem_drop hx)) h0
        dsimp only
        rw [text, l1, l2, show (((num ((bs.drop 1).take 4) 0).toNat : Nat) : Int) = num ((bs.drop 1).take 4) 0 by omega, be_num 4 _ hl4 hr4]
        cases bs with
        | nil => simp at h5
        | cons b bs =>
          have hb0 := hr b List.mem_cons_self
          refine ⟨?_, by omega, by simpa using hb0.1, by simp only [List.headD_cons]; omega⟩
          simp only [List.headD_cons, List.drop_succ_cons, List.drop_zero]
          rw [List.take_append_drop]
      · rw [if_neg h0] at h
        exact absurd h h0

theorem bytes_str (xs : List Int) (h : ∀ x ∈ xs, 0 ≤ x ∧ x < 256) : (strOfNums xs).data.toList.map (fun b => (b.toNat : Int)) = xs := by
  unfold strOfNums
  rw [List.map_map]
  conv => rhs; rw [← List.map_id xs]
  apply List.map_congr_left
  intro x hx
  have := h x hx
  simp [UInt8.toNat_ofNat']
  omega

theorem bytes_body : ∀ xs : List ByteArray, (body xs).map (fun b => (b.toNat : Int)) = laid (xs.map bytesOf) := by
  intro xs
  induction xs with
  | nil => rfl
  | cons x xs ih =>
    have e : body (x :: xs) = pt x ++ body xs := rfl
    rw [e, List.map_append, ih, List.map_cons, laid, pt, List.map_append, bytes_str _ (be_range 8 _), bytesOf_length, List.append_assoc]
    rfl

theorem bytes_text (kind : Int) (xs : List ByteArray) (h0 : 0 ≤ kind) (h1 : kind ≤ 255) : bytesOf ⟨(hd kind xs.length ++ body xs).toArray⟩ = text kind (xs.map bytesOf) := by
  unfold bytesOf
  have e : (⟨(hd kind xs.length ++ body xs).toArray⟩ : ByteArray).data.toList = hd kind xs.length ++ body xs := by simp
  rw [e, List.map_append, bytes_body, hd, List.map_append, bytes_str _ (be_range 1 _), bytes_str _ (be_range 4 _), text, List.length_map]
  simp [be]
  refine ⟨by omega, ?_⟩
  rfl

theorem bytes_inj {s t : ByteArray} (h : bytesOf s = bytesOf t) : s = t := by
  have h1 : s.data.toList = t.data.toList := by
    unfold bytesOf at h
    refine (List.map_inj_right (fun a b hab => UInt8.toNat_inj.1 ?_)).1 h
    have h2 : ((a.toNat : Int)) = b.toNat := hab
    omega
  cases s; cases t
  simpa using h1
theorem bytes_inj_map : ∀ {xs ys : List ByteArray}, xs.map bytesOf = ys.map bytesOf → xs = ys := by
  intro xs
  induction xs with
  | nil => intro ys h; cases ys with
    | nil => rfl
    | cons y ys => simp at h
  | cons x xs ih =>
    intro ys h
    cases ys with
    | nil => simp at h
    | cons y ys =>
      simp only [List.map_cons, List.cons.injEq] at h
      rw [bytes_inj h.1, ih h.2]

/-! ### two rows of strings, compared -/
theorem toList_iff (a b : ByteArray) : a.toList = b.toList ↔ a = b := by
  rw [ByteArray.toList_eq, ByteArray.toList_eq]
  exact ⟨fun h => by cases a; cases b; simpa using h, fun h => by rw [h]⟩
theorem rdOf_at (xs : List ByteArray) (i : Nat) (h : i < xs.length) : rdOf ByteArray.empty xs (i : Int) = xs[i] := by
  unfold rdOf
  simp only [Int.toNat_natCast]
  rw [List.getD_eq_getElem?_getD, List.getElem?_eq_getElem h]; rfl
theorem strings_l0 (xs ys : List ByteArray) (hl : xs.length = ys.length) (hs : xs.length ≤ 4611686018427387904) : ∀ (d k i : Nat), i + d = xs.length → d < k → xs.take i = ys.take i → PTagBack.tabularyref03_Strings.l0 k xs ys (i : Int) = some (decide (xs = ys)) := by
  intro d
  induction d with
  | zero =>
    intro k i hi hk he
    obtain ⟨k, rfl⟩ : ∃ j, k = j + 1 := ⟨k - 1, by omega⟩
    rw [PTagBack.tabularyref03_Strings.l0, if_neg (by omega)]
    rw [List.take_of_length_le (by omega), List.take_of_length_le (by omega)] at he
    simp [he]
  | succ d ih =>
    intro k i hi hk he
    obtain ⟨k, rfl⟩ : ∃ j, k = j + 1 := ⟨k - 1, by omega⟩
    have h1 : i < xs.length := by omega
    have h2 : i < ys.length := by omega
    rw [PTagBack.tabularyref03_Strings.l0, if_pos (by omega), if_pos (by omega), if_pos (by omega), rdOf_at xs i h1, rdOf_at ys i h2]
    by_cases hx : xs[i] = ys[i]
    · rw [if_pos (by rw [hx]), show wrap64 ((i : Int) + 1) = ((i + 1 : Nat) : Int) by unfold wrap64; omega]
      exact ih k (i + 1) (by omega) (by omega) (by rw [List.take_succ_eq_append_getElem h1, List.take_succ_eq_append_getElem h2, he, hx])
    · rw [if_neg (fun h => hx ((toList_iff _ _).1 h))]
      have : xs ≠ ys := fun e => hx (by subst e; rfl)
      simp [this]
theorem strings_f (xs ys : List ByteArray) (hs : xs.length ≤ 4611686018427387904) : PTagBack.tabularyref03_Strings.f (xs.length + 1) xs ys = some (decide (xs = ys)) := by
  unfold PTagBack.tabularyref03_Strings.f
  by_cases hl : xs.length = ys.length
  · rw [if_pos (by omega)]
    exact strings_l0 xs ys hl hs xs.length (xs.length + 1) 0 (by omega) (by omega) rfl
  · rw [if_neg (by omega)]
    have : xs ≠ ys := fun e => hl (by rw [e])
    simp [this]
end Go.Proofs.Ytliiefkdgdflpaa.TagParse
