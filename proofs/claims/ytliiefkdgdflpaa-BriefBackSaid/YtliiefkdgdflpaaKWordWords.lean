/-
  The kinds of WordWords's parameters, and their openings.
-/
import Derived.Test.YtliiefkdgdflpaaOpen
namespace Go.Proofs.Ytliiefkdgdflpaa.KWordWords
open Go.RowKit Go.Proofs.YtliiefkdgdflpaaW.PrintWords Opn
def kd28 : Kd Int := Kd.int .u32
def g28 : Int → Prop := (fun n => (Lit.int .u32 n).wf = true)
def b28 : Int → Nat := (fun _ => 1)
theorem o28 : Opens Try.prog 28 kd28 g28 b28 := opens_int Try.underlying28
def kd45 : Kd (List Int) := Kd.slice 28 kd28
def g45 : (List Int) → Prop := (fun xs => xs.length ≤ 9223372036854775807 ∧ ∀ x ∈ xs, g28 x)
def b45 : (List Int) → Nat := (fun xs => (xs.map b28).sum + 1)
theorem o45 : Opens Try.prog 45 kd45 g45 b45 := opens_slice Try.underlying45 (by kernel_rfl) o28
end Go.Proofs.Ytliiefkdgdflpaa.KWordWords
