/-
  The kinds of BriefParts's parameters, and their openings.
-/
import Derived.Test.YtliiefkdgdflpaaOpen
namespace Go.Proofs.Ytliiefkdgdflpaa.KBriefParts
open Go.RowKit Go.Proofs.YtliiefkdgdflpaaW.PrintWords Opn
def kd2 : Kd Int := Kd.int .i64
def g2 : Int → Prop := (fun n => (Lit.int .i64 n).wf = true)
def b2 : Int → Nat := (fun _ => 1)
theorem o2 : Opens Try.prog 2 kd2 g2 b2 := opens_int Try.underlying2
def kd28 : Kd Int := Kd.int .u32
def g28 : Int → Prop := (fun n => (Lit.int .u32 n).wf = true)
def b28 : Int → Nat := (fun _ => 1)
theorem o28 : Opens Try.prog 28 kd28 g28 b28 := opens_int Try.underlying28
def kd34 : Kd Int := Kd.int .u64
def g34 : Int → Prop := (fun n => (Lit.int .u64 n).wf = true)
def b34 : Int → Nat := (fun _ => 1)
theorem o34 : Opens Try.prog 34 kd34 g34 b34 := opens_int Try.underlying34
def kd4 : Kd Bool := Kd.bool
def g4 : Bool → Prop := (fun _ => True)
def b4 : Bool → Nat := (fun _ => 1)
theorem o4 : Opens Try.prog 4 kd4 g4 b4 := opens_bool Try.underlying4
def kd36 : Kd (Int × Int × Int × Int × Int × Bool) := Kd.pair kd2 (Kd.pair kd2 (Kd.pair kd28 (Kd.pair kd28 (Kd.pair kd34 (kd4)))))
def g36 : (Int × Int × Int × Int × Int × Bool) → Prop := (fun x => g2 x.1 ∧ g2 x.2.1 ∧ g28 x.2.2.1 ∧ g28 x.2.2.2.1 ∧ g34 x.2.2.2.2.1 ∧ g4 x.2.2.2.2.2)
def b36 : (Int × Int × Int × Int × Int × Bool) → Nat := (fun x => b2 x.1 + (b2 x.2.1 + (b28 x.2.2.1 + (b28 x.2.2.2.1 + (b34 x.2.2.2.2.1 + (b4 x.2.2.2.2.2))))) + 1)
theorem o36 : Opens Try.prog 36 kd36 g36 b36 := by have h := opens_struct (d := Kd.pair kd2 (Kd.pair kd2 (Kd.pair kd28 (Kd.pair kd28 (Kd.pair kd34 (kd4)))))) Try.underlying36 (by kernel_rfl) (opensAt_cons (i := 0) rfl rfl (by kernel_rfl) o2 (opensAt_cons (i := 1) rfl rfl (by kernel_rfl) o2 (opensAt_cons (i := 2) rfl rfl (by kernel_rfl) o28 (opensAt_cons (i := 3) rfl rfl (by kernel_rfl) o28 (opensAt_cons (i := 4) rfl rfl (by kernel_rfl) o34 (opensAt_last (i := 5) rfl rfl (by kernel_rfl) o4)))))); exact h
def kd58 : Kd (List (Int × Int × Int × Int × Int × Bool)) := Kd.slice 36 kd36
def g58 : (List (Int × Int × Int × Int × Int × Bool)) → Prop := (fun xs => xs.length ≤ 9223372036854775807 ∧ ∀ x ∈ xs, g36 x)
def b58 : (List (Int × Int × Int × Int × Int × Bool)) → Nat := (fun xs => (xs.map b36).sum + 1)
theorem o58 : Opens Try.prog 58 kd58 g58 b58 := opens_slice Try.underlying58 (by kernel_rfl) o36
end Go.Proofs.Ytliiefkdgdflpaa.KBriefParts
