/-
  The kinds of TagLong's parameters, and their openings within the form's own reach.
-/
import Derived.Test.YtliiefkdgdflpaaOpenS
namespace Go.Proofs.Ytliiefkdgdflpaa.KSTagLong
open Go.RowKit Go.Proofs.YtliiefkdgdflpaaW.PrintWords OpnS
def kd3 : Kd Int := Kd.int .i64
def s3 : Int → Prop := (fun n => (Lit.int .i64 n).wf = true)
theorem o3 : SOpens Try.prog 3 kd3 s3 := sopens_int Try.underlying3
def kd9 : Kd ByteArray := Kd.string
def s9 : ByteArray → Prop := (fun s => s.size ≤ reachBytes)
theorem o9 : SOpens Try.prog 9 kd9 s9 := sopens_string Try.underlying9
def kd61 : Kd (List ByteArray) := Kd.slice 9 kd9
def s61 : (List ByteArray) → Prop := (fun xs => xs.length * Try.prog.bytesOf 9 ≤ reachBytes ∧ ∀ x ∈ xs, s9 x)
theorem o61 : SOpens Try.prog 61 kd61 s61 := sopens_slice Try.underlying61 (by kernel_rfl) o9
end Go.Proofs.Ytliiefkdgdflpaa.KSTagLong
