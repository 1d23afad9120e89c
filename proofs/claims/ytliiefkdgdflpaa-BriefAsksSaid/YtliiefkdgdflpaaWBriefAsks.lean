/-
  BriefAsks's walk: the printed functions' contracts, met at the arguments' own values.
-/
import Derived.Test.YtliiefkdgdflpaaKBriefAsks
import Derived.Test.YtliiefkdgdflpaaAsks
namespace Go.Proofs.Ytliiefkdgdflpaa.WBriefAsks
open Go.RowKit Go.Proofs.YtliiefkdgdflpaaW.PrintWords KBriefAsks

theorem walk (w : World) (x0 : (Int × Int × Int × Int)) (cs0 : Array Value) (hK0 : kd30.K w x0 cs0.toList) (hg0 : g30 x0) (x1 : (Int × Int × Bool × Int × ByteArray × ByteArray × ByteArray × ByteArray × (List PBriefAsks.S129) × ByteArray)) (cs1 : Array Value) (hK1 : kd33.K w x1 cs1.toList) (hg1 : g33 x1) (x2 : (Int × Int × Int × Int × Int × Bool)) (cs2 : Array Value) (hK2 : kd36.K w x2 cs2.toList) (hg2 : g36 x2) :
    Calls Try.prog 4 #[.agg cs0, .agg cs1, .agg cs2] w fun e w' => e = .returned (.bool true) ∧ Below w.heap.size w w' := by
  obtain ⟨l0⟩ := cs0
  obtain ⟨l1⟩ := cs1
  obtain ⟨l2⟩ := cs2
  obtain ⟨q0, q1, q2, q3⟩ := x0
  obtain ⟨e0, e1, e2, e3, e4, e5, e6, e7, e8, e9⟩ := x1
  obtain ⟨b0, b1, b2, b3, b4, b5⟩ := x2
  obtain ⟨_, _, rfl, rfl, _, _, rfl, rfl, _, _, rfl, rfl, rfl⟩ := hK0
  obtain ⟨_, _, rfl, rfl, _, _, rfl, rfl, _, _, rfl, rfl, _, _, rfl, rfl, _, _, rfl, rfl, _, _, rfl, rfl, _, _, rfl, rfl, _, _, rfl, rfl, _, _, rfl, ⟨A, c, rfl, hc, hC⟩, rfl⟩ := hK1
  obtain ⟨_, _, rfl, rfl, _, _, rfl, rfl, _, _, rfl, rfl, _, _, rfl, rfl, _, _, rfl, rfl, rfl⟩ := hK2
  exact PBriefAsks.tabularylaw06_BriefAsks.calls 26 q0 q1 q2 q3 e0 e1 e2 e3 e4 e5 e6 e7 A c e8 e9 b0 b1 b2 b3 b4 b5 true w hC hc (PBriefAsks.asks_true q0 q1 q2 q3 e0 e1 e2 e3 e4 e5 e6 e7 e8 e9 b0 b1 b2 b3 b4 b5)
end Go.Proofs.Ytliiefkdgdflpaa.WBriefAsks
