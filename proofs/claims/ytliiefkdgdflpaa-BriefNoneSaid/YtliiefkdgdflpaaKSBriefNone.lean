/-
  The kinds of BriefNone's parameters, and their openings within the form's own reach.
-/
import Derived.Test.YtliiefkdgdflpaaOpenS
import Derived.Test.YtliiefkdgdflpaaPBriefNonex
namespace Go.Proofs.Ytliiefkdgdflpaa.KSBriefNone
open Go.RowKit Go.Proofs.YtliiefkdgdflpaaW.PrintWords OpnS
def kd3 : Kd Int := Kd.int .i64
def s3 : Int → Prop := (fun n => (Lit.int .i64 n).wf = true)
theorem o3 : SOpens Try.prog 3 kd3 s3 := sopens_int Try.underlying3
def kd4 : Kd Bool := Kd.bool
def s4 : Bool → Prop := (fun _ => True)
theorem o4 : SOpens Try.prog 4 kd4 s4 := sopens_bool Try.underlying4
def kd2 : Kd Int := Kd.int .i64
def s2 : Int → Prop := (fun n => (Lit.int .i64 n).wf = true)
theorem o2 : SOpens Try.prog 2 kd2 s2 := sopens_int Try.underlying2
def kd9 : Kd ByteArray := Kd.string
def s9 : ByteArray → Prop := (fun s => s.size ≤ reachBytes)
theorem o9 : SOpens Try.prog 9 kd9 s9 := sopens_string Try.underlying9
def kd131 : Kd PBriefNone.S131 := PBriefNone.k131
def s131 (x : PBriefNone.S131) : Prop := s9 x.f0 ∧ s9 x.f1
theorem o131 : SOpens Try.prog 131 kd131 s131 := sopens_iso (fun x : PBriefNone.S131 => (x.f0, x.f1)) (fun p => ⟨p.1, p.2⟩) (fun _ => rfl) (by have h := sopens_struct (d := Kd.pair kd9 (kd9)) Try.underlying131 (by kernel_rfl) (sopensAt_cons (i := 0) rfl rfl (by kernel_rfl) o9 (sopensAt_last (i := 1) rfl rfl (by kernel_rfl) o9)); exact h)
def kd127 : Kd (List PBriefNone.S131) := Kd.slice 131 kd131
def s127 : (List PBriefNone.S131) → Prop := (fun xs => xs.length * Try.prog.bytesOf 131 ≤ reachBytes ∧ ∀ x ∈ xs, s131 x)
theorem o127 : SOpens Try.prog 127 kd127 s127 := sopens_slice Try.underlying127 (by kernel_rfl) o131
def kd129 : Kd PBriefNone.S129 := PBriefNone.k129
def s129 (x : PBriefNone.S129) : Prop := s9 x.f0 ∧ s127 x.f1
theorem o129 : SOpens Try.prog 129 kd129 s129 := sopens_iso (fun x : PBriefNone.S129 => (x.f0, x.f1)) (fun p => ⟨p.1, p.2⟩) (fun _ => rfl) (by have h := sopens_struct (d := Kd.pair kd9 (kd127)) Try.underlying129 (by kernel_rfl) (sopensAt_cons (i := 0) rfl rfl (by kernel_rfl) o9 (sopensAt_last (i := 1) rfl rfl (by kernel_rfl) o127)); exact h)
def kd31 : Kd (List PBriefNone.S129) := Kd.slice 129 kd129
def s31 : (List PBriefNone.S129) → Prop := (fun xs => xs.length * Try.prog.bytesOf 129 ≤ reachBytes ∧ ∀ x ∈ xs, s129 x)
theorem o31 : SOpens Try.prog 31 kd31 s31 := sopens_slice Try.underlying31 (by kernel_rfl) o129
def kd33 : Kd (Int × Int × Bool × Int × ByteArray × ByteArray × ByteArray × ByteArray × (List PBriefNone.S129) × ByteArray) := Kd.pair kd3 (Kd.pair kd3 (Kd.pair kd4 (Kd.pair kd2 (Kd.pair kd9 (Kd.pair kd9 (Kd.pair kd9 (Kd.pair kd9 (Kd.pair kd31 (kd9)))))))))
def s33 : (Int × Int × Bool × Int × ByteArray × ByteArray × ByteArray × ByteArray × (List PBriefNone.S129) × ByteArray) → Prop := (fun x => s3 x.1 ∧ s3 x.2.1 ∧ s4 x.2.2.1 ∧ s2 x.2.2.2.1 ∧ s9 x.2.2.2.2.1 ∧ s9 x.2.2.2.2.2.1 ∧ s9 x.2.2.2.2.2.2.1 ∧ s9 x.2.2.2.2.2.2.2.1 ∧ s31 x.2.2.2.2.2.2.2.2.1 ∧ s9 x.2.2.2.2.2.2.2.2.2)
theorem o33 : SOpens Try.prog 33 kd33 s33 := by have h := sopens_struct (d := Kd.pair kd3 (Kd.pair kd3 (Kd.pair kd4 (Kd.pair kd2 (Kd.pair kd9 (Kd.pair kd9 (Kd.pair kd9 (Kd.pair kd9 (Kd.pair kd31 (kd9)))))))))) Try.underlying33 (by kernel_rfl) (sopensAt_cons (i := 0) rfl rfl (by kernel_rfl) o3 (sopensAt_cons (i := 1) rfl rfl (by kernel_rfl) o3 (sopensAt_cons (i := 2) rfl rfl (by kernel_rfl) o4 (sopensAt_cons (i := 3) rfl rfl (by kernel_rfl) o2 (sopensAt_cons (i := 4) rfl rfl (by kernel_rfl) o9 (sopensAt_cons (i := 5) rfl rfl (by kernel_rfl) o9 (sopensAt_cons (i := 6) rfl rfl (by kernel_rfl) o9 (sopensAt_cons (i := 7) rfl rfl (by kernel_rfl) o9 (sopensAt_cons (i := 8) rfl rfl (by kernel_rfl) o31 (sopensAt_last (i := 9) rfl rfl (by kernel_rfl) o9)))))))))); exact h
def kd70 : Kd (List (Int × Int × Bool × Int × ByteArray × ByteArray × ByteArray × ByteArray × (List PBriefNone.S129) × ByteArray)) := Kd.slice 33 kd33
def s70 : (List (Int × Int × Bool × Int × ByteArray × ByteArray × ByteArray × ByteArray × (List PBriefNone.S129) × ByteArray)) → Prop := (fun xs => xs.length * Try.prog.bytesOf 33 ≤ reachBytes ∧ ∀ x ∈ xs, s33 x)
theorem o70 : SOpens Try.prog 70 kd70 s70 := sopens_slice Try.underlying70 (by kernel_rfl) o33
def kd28 : Kd Int := Kd.int .u32
def s28 : Int → Prop := (fun n => (Lit.int .u32 n).wf = true)
theorem o28 : SOpens Try.prog 28 kd28 s28 := sopens_int Try.underlying28
def kd30 : Kd (Int × Int × Int × Int) := Kd.pair kd2 (Kd.pair kd2 (Kd.pair kd28 (kd28)))
def s30 : (Int × Int × Int × Int) → Prop := (fun x => s2 x.1 ∧ s2 x.2.1 ∧ s28 x.2.2.1 ∧ s28 x.2.2.2)
theorem o30 : SOpens Try.prog 30 kd30 s30 := by have h := sopens_struct (d := Kd.pair kd2 (Kd.pair kd2 (Kd.pair kd28 (kd28)))) Try.underlying30 (by kernel_rfl) (sopensAt_cons (i := 0) rfl rfl (by kernel_rfl) o2 (sopensAt_cons (i := 1) rfl rfl (by kernel_rfl) o2 (sopensAt_cons (i := 2) rfl rfl (by kernel_rfl) o28 (sopensAt_last (i := 3) rfl rfl (by kernel_rfl) o28)))); exact h
end Go.Proofs.Ytliiefkdgdflpaa.KSBriefNone
