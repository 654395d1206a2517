/- AuditTells is proved whole: for every input the law returns true, and the input reads as it did. No condition. -/
import Derived.Test.YtaeanhonfoakeaaRows
import Derived.Test.YtaeanhonfoakeaaK9
import Derived.Test.YtaeanhonfoakeaaM0
import Derived.Test.YtaeanhonfoakeaaM6
section
namespace Go.Proofs.Ytaeanhonfoakeaa
open Go Heron
theorem laidOut : laidOutB Try.prog = true := by kernel_rfl
theorem bulk_pos {H : Type} (d : DataW H) : 1 ≤ Rows.uptoBulk d := by
  unfold Rows.uptoBulk
  split <;> omega
noncomputable def bulkFn : BulkFn := { f := fun d => Rows.uptoBulk d, fs := fun l => Rows.uptoBulkAll l, str := fun bs => by simp [Rows.uptoBulk], slice := fun es sp => by simp [Rows.uptoBulk], agg := fun ps => by simp [Rows.uptoBulk], nil := by simp [Rows.uptoBulkAll], pos := fun d => bulk_pos d, cons := fun d r => by simp [Rows.uptoBulkAll] }
end Go.Proofs.Ytaeanhonfoakeaa
end

section
namespace Go.Proofs.Ytaeanhonfoakeaa.Tells
open Go Heron Go.RowKit
set_option linter.unusedVariables false
theorem own : ownKnob Go.Proofs.Try.prog.godebug = none := by kernel_rfl
set_option maxRecDepth 100000 in
theorem lifted (os : Os) (started : os.Started) (H : Type) (enc : TypeId × Value → H) :
    ReturnsInHanded {} Go.Proofs.Try.checked os 3 .any (Rows.auditTellsSpec.pre6 enc Go.Proofs.Try.prog Go.Proofs.Try.f3 Rows.auditTellsRow.domain false) (Rows.auditTellsSpec.post enc Go.Proofs.Try.prog Go.Proofs.Try.f3 false true false false) := by
  refine returnsInHanded_of_change_sized (C := Go.Proofs.Try.checked) own started (by kernel_rfl) Go.Proofs.Try.func3
    (ChangeSpec.witness6 (enc := enc) (C := Go.Proofs.Try.checked) false ⟨#[], #[.int .i64 0, .int .u8 0, .int .i64 0], []⟩ 8 (by kernel_rfl) (by kernel_rfl) (by kernel_rfl) (by kernel_rfl)) ?_
  intro W base args ds gs before hval0 hW hcnd hsz0 _
  have ho : OpensL bulkFn Go.Proofs.Try.prog [3, 5, 3] _ _ _ :=
    opensL_cons (opensV_flat (opens_int (k := .i64) (by kernel_rfl) (by kernel_rfl)) (by kernel_rfl) fun _ => rfl)
      (opensL_cons (opensV_flat (opens_int (k := .u8) (by kernel_rfl) (by kernel_rfl)) (by kernel_rfl) fun _ => rfl)
        (opensL_cons (opensV_flat (opens_int (k := .i64) (by kernel_rfl) (by kernel_rfl)) (by kernel_rfl) fun _ => rfl) opensL_nil))
  refine law_contract (B := bulkFn) (n := 3) (rt := 4) laidOut (by kernel_rfl) rfl (fun H ds hd => ?_) (by kernel_rfl) (by kernel_rfl) (by kernel_rfl) ho hval0 hW fun x hx hb => ?_
  · match ds, hd with
    | [d1, d2, d3], _ => rfl
  · obtain ⟨n1, n2, n3, _⟩ := x
    obtain ⟨h1, ⟨h2, h2'⟩, h3, _⟩ := hx
    have e : AVal.raw (.int .u8 n2) = ub (UInt8.ofNat n2.toNat) := by
      have a1 : (0 : Int) ≤ n2 := h2
      have a2 : n2 ≤ 255 := h2'
      have : (UInt8.ofNat n2.toNat).toNat = n2.toNat := by show n2.toNat % 256 = n2.toNat; omega
      show _ = AVal.raw (.int .u8 _)
      rw [this]
      congr
      omega
    show callP Go.Proofs.Try.prog 3 [.i n1, AVal.raw (.int .u8 n2), .i n3] H0 _
    rw [e]
    exact (f3_c n1 n3 _).use rfl
set_option maxRecDepth 100000 in
theorem over : Rows.auditTellsRow.holds Try.pinned (OpenSpec.ofChange Rows.auditTellsSpec) :=
  OpenClaim.holds_of_wide 3 Go.Proofs.Try.f3 rfl rfl rfl rfl rfl rfl rfl ⟨rfl, rfl, rfl, rfl, rfl⟩ rfl rfl rfl rfl rfl (by kernel_rfl) Go.Proofs.Try.func3 (by kernel_rfl)
    (of_decide_eq_true (by kernel_rfl)) (by unfold Func.isWrapper; first | (rw [if_pos (by decide +kernel)]; kernel_rfl) | (rw [if_neg (by decide +kernel)]; exact ⟨rfl, rfl⟩))
    (fun os started H enc _ => lifted os started H enc)
theorem proved : Rows.AuditTellsSaid := over
end Go.Proofs.Ytaeanhonfoakeaa.Tells

namespace Go.Proofs.Ytaeanhonfoakeaa
/-- The row, for the claim. -/
theorem auditTells_holds : Rows.AuditTellsSaid := Tells.proved
end Go.Proofs.Ytaeanhonfoakeaa
#print axioms Go.Proofs.Ytaeanhonfoakeaa.auditTells_holds
end
