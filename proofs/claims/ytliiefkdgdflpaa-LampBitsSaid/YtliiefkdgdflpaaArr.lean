/-
  Whole arrays in a variable of their own: loaded, stored, made: laws of the walk. No program here.
-/
import Derived.Test.YtliiefkdgdflpaaWWords
import Derived.Deep.MidRow
import Derived.Laws.Rows
namespace Go.Proofs.Ytliiefkdgdflpaa.Arr
open Go.RowKit Go.Proofs.YtliiefkdgdflpaaW.PrintWords

theorem there_of_block {w : World} {b : Nat} {t : TypeId} {cs : Array Value} (h : w.heap[b]? = some (.cells cs t (0, 0))) : w.there b 0 cs.size := fun i hi => by
  rw [Nat.zero_add]
  refine ⟨?_, blk_frozen h i⟩
  rw [blk_cell h]; simp [hi]

theorem below_setCells (b : Nat) : ∀ (vs : List Value) (o : Nat) (w : World) (B : Nat), B ≤ b → Below B w (w.setCells b o vs) := by
  intro vs o w B hB
  have h := setCells_same b vs o w
  exact ⟨h.1, h.2.1, h.2.2.1, Nat.le_of_eq h.2.2.2.symm, fun k hk => setCells_far vs o k (by omega)⟩

section
variable {P : Program}
theorem wpList_store_whole {ops : Array Oper} {rest : List Oper} {op : Oper} {a : Act} {w : World} {Q : Exit → Act → World → Prop} (hgd : op.guard = none) (ty : TypeId) (x y : Operand) (ho : op.op = .store ty x y)
    (b : Nat) (cells : Array Value) (hx : a.eval x = .pointer (some ⟨b, 0, none⟩)) (hy : a.eval y = .agg cells) (t : TypeId) (cs0 : Array Value) (hblk : w.heap[b]? = some (.cells cs0 t (0, 0))) (hsz : cs0.size = cells.size)
    (hi : (P.info? ty).map (·.size) = some cells.size) (h1 : cells.all (·.oneCell') = true)
    (h : ∀ w', w'.heap[b]? = some (.cells cells t (0, 0)) → (∀ B, B ≤ b → Below B w w') → wpList P ops Q rest (a.put op.dst undef) w') : wpList P ops Q (op :: rest) a w := by
  refine wpList_store_mid hgd ty x y ho b 0 cells hx hy (hsz ▸ there_of_block hblk) hi h1 (h _ ?_ (fun B hB => below_setCells b _ 0 w B hB))
  obtain ⟨cur, h3, _, h5⟩ := setCells_row cells.toList 0 w cs0 hblk (by simp; omega)
  rw [h3]
  have e : cur = cells := by
    apply Array.toList_inj.1
    rw [h5, Nat.zero_add, List.take_zero, List.nil_append, List.drop_of_length_le (by simp; omega), List.append_nil]
  rw [e]
end
end Go.Proofs.Ytliiefkdgdflpaa.Arr
