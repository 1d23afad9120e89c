/-
  The kinds of WordTurns's parameters, and their openings.
-/
import Derived.Test.YtliiefkdgdflpaaOpen
namespace Go.Proofs.Ytliiefkdgdflpaa.KWordTurns
open Go.RowKit Go.Proofs.YtliiefkdgdflpaaW.PrintWords Opn
def kd28 : Kd Int := Kd.int .u32
def g28 : Int → Prop := (fun n => (Lit.int .u32 n).wf = true)
def b28 : Int → Nat := (fun _ => 1)
theorem o28 : Opens Try.prog 28 kd28 g28 b28 := opens_int Try.underlying28
def kd3 : Kd Int := Kd.int .i64
def g3 : Int → Prop := (fun n => (Lit.int .i64 n).wf = true)
def b3 : Int → Nat := (fun _ => 1)
theorem o3 : Opens Try.prog 3 kd3 g3 b3 := opens_int Try.underlying3
end Go.Proofs.Ytliiefkdgdflpaa.KWordTurns
