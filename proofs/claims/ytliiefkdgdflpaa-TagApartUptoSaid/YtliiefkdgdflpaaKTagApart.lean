/-
  The kinds of TagApart's parameters, and their openings.
-/
import Derived.Test.YtliiefkdgdflpaaOpen
namespace Go.Proofs.Ytliiefkdgdflpaa.KTagApart
open Go.RowKit Go.Proofs.YtliiefkdgdflpaaW.PrintWords Opn
def kd3 : Kd Int := Kd.int .i64
def g3 : Int → Prop := (fun n => (Lit.int .i64 n).wf = true)
def b3 : Int → Nat := (fun _ => 1)
theorem o3 : Opens Try.prog 3 kd3 g3 b3 := opens_int Try.underlying3
def kd9 : Kd ByteArray := Kd.string
def g9 : ByteArray → Prop := (fun s => s.size ≤ 9223372036854775807)
def b9 : ByteArray → Nat := (fun s => s.size + 1)
theorem o9 : Opens Try.prog 9 kd9 g9 b9 := opens_string Try.underlying9
def kd61 : Kd (List ByteArray) := Kd.slice 9 kd9
def g61 : (List ByteArray) → Prop := (fun xs => xs.length ≤ 9223372036854775807 ∧ ∀ x ∈ xs, g9 x)
def b61 : (List ByteArray) → Nat := (fun xs => (xs.map b9).sum + 1)
theorem o61 : Opens Try.prog 61 kd61 g61 b61 := opens_slice Try.underlying61 (by kernel_rfl) o9
def kd80 : Kd (Int × (List ByteArray) × Int × (List ByteArray) × ByteArray) := Kd.pair kd3 (Kd.pair kd61 (Kd.pair kd3 (Kd.pair kd61 (kd9))))
def g80 : (Int × (List ByteArray) × Int × (List ByteArray) × ByteArray) → Prop := (fun x => g3 x.1 ∧ g61 x.2.1 ∧ g3 x.2.2.1 ∧ g61 x.2.2.2.1 ∧ g9 x.2.2.2.2)
def b80 : (Int × (List ByteArray) × Int × (List ByteArray) × ByteArray) → Nat := (fun x => b3 x.1 + (b61 x.2.1 + (b3 x.2.2.1 + (b61 x.2.2.2.1 + (b9 x.2.2.2.2)))) + 1)
theorem o80 : Opens Try.prog 80 kd80 g80 b80 := by have h := opens_struct (d := Kd.pair kd3 (Kd.pair kd61 (Kd.pair kd3 (Kd.pair kd61 (kd9))))) Try.underlying80 (by kernel_rfl) (opensAt_cons (i := 0) rfl rfl (by kernel_rfl) o3 (opensAt_cons (i := 1) rfl rfl (by kernel_rfl) o61 (opensAt_cons (i := 2) rfl rfl (by kernel_rfl) o3 (opensAt_cons (i := 3) rfl rfl (by kernel_rfl) o61 (opensAt_last (i := 4) rfl rfl (by kernel_rfl) o9))))); exact h
end Go.Proofs.Ytliiefkdgdflpaa.KTagApart
