/-
  The kinds of TagBack's parameters, and their openings within the form's own reach.
-/
import Derived.Test.YtliiefkdgdflpaaOpenS
namespace Go.Proofs.Ytliiefkdgdflpaa.KSTagBack
open Go.RowKit Go.Proofs.YtliiefkdgdflpaaW.PrintWords OpnS
def kd3 : Kd Int := Kd.int .i64
def s3 : Int → Prop := (fun n => (Lit.int .i64 n).wf = true)
theorem o3 : SOpens Try.prog 3 kd3 s3 := sopens_int Try.underlying3
def kd9 : Kd ByteArray := Kd.string
def s9 : ByteArray → Prop := (fun s => s.size ≤ reachBytes)
theorem o9 : SOpens Try.prog 9 kd9 s9 := sopens_string Try.underlying9
def kd61 : Kd (List ByteArray) := Kd.slice 9 kd9
def s61 : (List ByteArray) → Prop := (fun xs => xs.length * Try.prog.bytesOf 9 ≤ reachBytes ∧ ∀ x ∈ xs, s9 x)
theorem o61 : SOpens Try.prog 61 kd61 s61 := sopens_slice Try.underlying61 (by kernel_rfl) o9
def kd74 : Kd (Int × (List ByteArray) × Int × ByteArray) := Kd.pair kd3 (Kd.pair kd61 (Kd.pair kd3 (kd9)))
def s74 : (Int × (List ByteArray) × Int × ByteArray) → Prop := (fun x => s3 x.1 ∧ s61 x.2.1 ∧ s3 x.2.2.1 ∧ s9 x.2.2.2)
theorem o74 : SOpens Try.prog 74 kd74 s74 := by have h := sopens_struct (d := Kd.pair kd3 (Kd.pair kd61 (Kd.pair kd3 (kd9)))) Try.underlying74 (by kernel_rfl) (sopensAt_cons (i := 0) rfl rfl (by kernel_rfl) o3 (sopensAt_cons (i := 1) rfl rfl (by kernel_rfl) o61 (sopensAt_cons (i := 2) rfl rfl (by kernel_rfl) o3 (sopensAt_last (i := 3) rfl rfl (by kernel_rfl) o9)))); exact h
end Go.Proofs.Ytliiefkdgdflpaa.KSTagBack
