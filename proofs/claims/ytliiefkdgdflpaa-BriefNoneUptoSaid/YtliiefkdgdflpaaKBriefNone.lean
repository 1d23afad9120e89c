/-
  The kinds of BriefNone's parameters, and their openings.
-/
import Derived.Test.YtliiefkdgdflpaaOpen
import Derived.Test.YtliiefkdgdflpaaPBriefNonex
namespace Go.Proofs.Ytliiefkdgdflpaa.KBriefNone
open Go.RowKit Go.Proofs.YtliiefkdgdflpaaW.PrintWords Opn
def kd3 : Kd Int := Kd.int .i64
def g3 : Int → Prop := (fun n => (Lit.int .i64 n).wf = true)
def b3 : Int → Nat := (fun _ => 1)
theorem o3 : Opens Try.prog 3 kd3 g3 b3 := opens_int Try.underlying3
def kd4 : Kd Bool := Kd.bool
def g4 : Bool → Prop := (fun _ => True)
def b4 : Bool → Nat := (fun _ => 1)
theorem o4 : Opens Try.prog 4 kd4 g4 b4 := opens_bool Try.underlying4
def kd2 : Kd Int := Kd.int .i64
def g2 : Int → Prop := (fun n => (Lit.int .i64 n).wf = true)
def b2 : Int → Nat := (fun _ => 1)
theorem o2 : Opens Try.prog 2 kd2 g2 b2 := opens_int Try.underlying2
def kd9 : Kd ByteArray := Kd.string
def g9 : ByteArray → Prop := (fun s => s.size ≤ 9223372036854775807)
def b9 : ByteArray → Nat := (fun s => s.size + 1)
theorem o9 : Opens Try.prog 9 kd9 g9 b9 := opens_string Try.underlying9
def kd131 : Kd PBriefNone.S131 := PBriefNone.k131
def g131 (x : PBriefNone.S131) : Prop := g9 x.f0 ∧ g9 x.f1
def b131 (x : PBriefNone.S131) : Nat := b9 x.f0 + (b9 x.f1) + 1
theorem o131 : Opens Try.prog 131 kd131 g131 b131 := opens_iso (fun x : PBriefNone.S131 => (x.f0, x.f1)) (fun p => ⟨p.1, p.2⟩) (fun _ => rfl) ((by have h := opens_struct (d := Kd.pair kd9 (kd9)) Try.underlying131 (by kernel_rfl) (opensAt_cons (i := 0) rfl rfl (by kernel_rfl) o9 (opensAt_last (i := 1) rfl rfl (by kernel_rfl) o9)); exact h))
def kd127 : Kd (List PBriefNone.S131) := Kd.slice 131 kd131
def g127 : (List PBriefNone.S131) → Prop := (fun xs => xs.length ≤ 9223372036854775807 ∧ ∀ x ∈ xs, g131 x)
def b127 : (List PBriefNone.S131) → Nat := (fun xs => (xs.map b131).sum + 1)
theorem o127 : Opens Try.prog 127 kd127 g127 b127 := opens_slice Try.underlying127 (by kernel_rfl) o131
def kd129 : Kd PBriefNone.S129 := PBriefNone.k129
def g129 (x : PBriefNone.S129) : Prop := g9 x.f0 ∧ g127 x.f1
def b129 (x : PBriefNone.S129) : Nat := b9 x.f0 + (b127 x.f1) + 1
theorem o129 : Opens Try.prog 129 kd129 g129 b129 := opens_iso (fun x : PBriefNone.S129 => (x.f0, x.f1)) (fun p => ⟨p.1, p.2⟩) (fun _ => rfl) ((by have h := opens_struct (d := Kd.pair kd9 (kd127)) Try.underlying129 (by kernel_rfl) (opensAt_cons (i := 0) rfl rfl (by kernel_rfl) o9 (opensAt_last (i := 1) rfl rfl (by kernel_rfl) o127)); exact h))
def kd31 : Kd (List PBriefNone.S129) := Kd.slice 129 kd129
def g31 : (List PBriefNone.S129) → Prop := (fun xs => xs.length ≤ 9223372036854775807 ∧ ∀ x ∈ xs, g129 x)
def b31 : (List PBriefNone.S129) → Nat := (fun xs => (xs.map b129).sum + 1)
theorem o31 : Opens Try.prog 31 kd31 g31 b31 := opens_slice Try.underlying31 (by kernel_rfl) o129
def kd33 : Kd (Int × Int × Bool × Int × ByteArray × ByteArray × ByteArray × ByteArray × (List PBriefNone.S129) × ByteArray) := Kd.pair kd3 (Kd.pair kd3 (Kd.pair kd4 (Kd.pair kd2 (Kd.pair kd9 (Kd.pair kd9 (Kd.pair kd9 (Kd.pair kd9 (Kd.pair kd31 (kd9)))))))))
def g33 : (Int × Int × Bool × Int × ByteArray × ByteArray × ByteArray × ByteArray × (List PBriefNone.S129) × ByteArray) → Prop := (fun x => g3 x.1 ∧ g3 x.2.1 ∧ g4 x.2.2.1 ∧ g2 x.2.2.2.1 ∧ g9 x.2.2.2.2.1 ∧ g9 x.2.2.2.2.2.1 ∧ g9 x.2.2.2.2.2.2.1 ∧ g9 x.2.2.2.2.2.2.2.1 ∧ g31 x.2.2.2.2.2.2.2.2.1 ∧ g9 x.2.2.2.2.2.2.2.2.2)
def b33 : (Int × Int × Bool × Int × ByteArray × ByteArray × ByteArray × ByteArray × (List PBriefNone.S129) × ByteArray) → Nat := (fun x => b3 x.1 + (b3 x.2.1 + (b4 x.2.2.1 + (b2 x.2.2.2.1 + (b9 x.2.2.2.2.1 + (b9 x.2.2.2.2.2.1 + (b9 x.2.2.2.2.2.2.1 + (b9 x.2.2.2.2.2.2.2.1 + (b31 x.2.2.2.2.2.2.2.2.1 + (b9 x.2.2.2.2.2.2.2.2.2))))))))) + 1)
theorem o33 : Opens Try.prog 33 kd33 g33 b33 := by have h := opens_struct (d := Kd.pair kd3 (Kd.pair kd3 (Kd.pair kd4 (Kd.pair kd2 (Kd.pair kd9 (Kd.pair kd9 (Kd.pair kd9 (Kd.pair kd9 (Kd.pair kd31 (kd9)))))))))) Try.underlying33 (by kernel_rfl) (opensAt_cons (i := 0) rfl rfl (by kernel_rfl) o3 (opensAt_cons (i := 1) rfl rfl (by kernel_rfl) o3 (opensAt_cons (i := 2) rfl rfl (by kernel_rfl) o4 (opensAt_cons (i := 3) rfl rfl (by kernel_rfl) o2 (opensAt_cons (i := 4) rfl rfl (by kernel_rfl) o9 (opensAt_cons (i := 5) rfl rfl (by kernel_rfl) o9 (opensAt_cons (i := 6) rfl rfl (by kernel_rfl) o9 (opensAt_cons (i := 7) rfl rfl (by kernel_rfl) o9 (opensAt_cons (i := 8) rfl rfl (by kernel_rfl) o31 (opensAt_last (i := 9) rfl rfl (by kernel_rfl) o9)))))))))); exact h
def kd70 : Kd (List (Int × Int × Bool × Int × ByteArray × ByteArray × ByteArray × ByteArray × (List PBriefNone.S129) × ByteArray)) := Kd.slice 33 kd33
def g70 : (List (Int × Int × Bool × Int × ByteArray × ByteArray × ByteArray × ByteArray × (List PBriefNone.S129) × ByteArray)) → Prop := (fun xs => xs.length ≤ 9223372036854775807 ∧ ∀ x ∈ xs, g33 x)
def b70 : (List (Int × Int × Bool × Int × ByteArray × ByteArray × ByteArray × ByteArray × (List PBriefNone.S129) × ByteArray)) → Nat := (fun xs => (xs.map b33).sum + 1)
theorem o70 : Opens Try.prog 70 kd70 g70 b70 := opens_slice Try.underlying70 (by kernel_rfl) o33
def kd28 : Kd Int := Kd.int .u32
def g28 : Int → Prop := (fun n => (Lit.int .u32 n).wf = true)
def b28 : Int → Nat := (fun _ => 1)
theorem o28 : Opens Try.prog 28 kd28 g28 b28 := opens_int Try.underlying28
def kd30 : Kd (Int × Int × Int × Int) := Kd.pair kd2 (Kd.pair kd2 (Kd.pair kd28 (kd28)))
def g30 : (Int × Int × Int × Int) → Prop := (fun x => g2 x.1 ∧ g2 x.2.1 ∧ g28 x.2.2.1 ∧ g28 x.2.2.2)
def b30 : (Int × Int × Int × Int) → Nat := (fun x => b2 x.1 + (b2 x.2.1 + (b28 x.2.2.1 + (b28 x.2.2.2))) + 1)
theorem o30 : Opens Try.prog 30 kd30 g30 b30 := by have h := opens_struct (d := Kd.pair kd2 (Kd.pair kd2 (Kd.pair kd28 (kd28)))) Try.underlying30 (by kernel_rfl) (opensAt_cons (i := 0) rfl rfl (by kernel_rfl) o2 (opensAt_cons (i := 1) rfl rfl (by kernel_rfl) o2 (opensAt_cons (i := 2) rfl rfl (by kernel_rfl) o28 (opensAt_last (i := 3) rfl rfl (by kernel_rfl) o28)))); exact h
end Go.Proofs.Ytliiefkdgdflpaa.KBriefNone
