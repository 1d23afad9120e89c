/-
  The kinds of WordApart's parameters, and their openings.
-/
import Derived.Test.YtliiefkdgdflpaaOpen
namespace Go.Proofs.Ytliiefkdgdflpaa.KWordApart
open Go.RowKit Go.Proofs.YtliiefkdgdflpaaW.PrintWords Opn
def kd28 : Kd Int := Kd.int .u32
def g28 : Int → Prop := (fun n => (Lit.int .u32 n).wf = true)
def b28 : Int → Nat := (fun _ => 1)
theorem o28 : Opens Try.prog 28 kd28 g28 b28 := opens_int Try.underlying28
def kd9 : Kd ByteArray := Kd.string
def g9 : ByteArray → Prop := (fun s => s.size ≤ 9223372036854775807)
def b9 : ByteArray → Nat := (fun s => s.size + 1)
theorem o9 : Opens Try.prog 9 kd9 g9 b9 := opens_string Try.underlying9
def kd53 : Kd (Int × Int × ByteArray × ByteArray) := Kd.pair kd28 (Kd.pair kd28 (Kd.pair kd9 (kd9)))
def g53 : (Int × Int × ByteArray × ByteArray) → Prop := (fun x => g28 x.1 ∧ g28 x.2.1 ∧ g9 x.2.2.1 ∧ g9 x.2.2.2)
def b53 : (Int × Int × ByteArray × ByteArray) → Nat := (fun x => b28 x.1 + (b28 x.2.1 + (b9 x.2.2.1 + (b9 x.2.2.2))) + 1)
theorem o53 : Opens Try.prog 53 kd53 g53 b53 := by have h := opens_struct (d := Kd.pair kd28 (Kd.pair kd28 (Kd.pair kd9 (kd9)))) Try.underlying53 (by kernel_rfl) (opensAt_cons (i := 0) rfl rfl (by kernel_rfl) o28 (opensAt_cons (i := 1) rfl rfl (by kernel_rfl) o28 (opensAt_cons (i := 2) rfl rfl (by kernel_rfl) o9 (opensAt_last (i := 3) rfl rfl (by kernel_rfl) o9)))); exact h
end Go.Proofs.Ytliiefkdgdflpaa.KWordApart
