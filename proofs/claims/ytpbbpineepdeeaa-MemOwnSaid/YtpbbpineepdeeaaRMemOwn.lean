/- MemOwn returns true for every row of acts: a step changes no other word than its own. -/
import Derived.Test.YtpbbpineepdeeaaLaw
import Derived.Test.YtpbbpineepdeeaaLMemOwn
namespace Go.Proofs.Ytpbbpineepdeeaa.rowMemOwn
open Go.ChangeShapes Go.WideShapes Go.ChangeAt Go.RowKit Go.Proofs.Ytpbbpineepdeeaa
set_option linter.unusedVariables false
set_option maxRecDepth 100000 in
theorem lifted (os : Os) (started : os.Started) (H : Type) (enc : TypeId × Value → H) :
    ReturnsInHanded {} Try.checked os 6 .any (Rows.memOwnSpec.pre6 enc Try.prog Try.f6 Rows.memOwnRow.domain false) (Rows.memOwnSpec.post enc Try.prog Try.f6 false true false false) := by
  refine returnsInHanded_of_change (C := Try.checked) own started (by kernel_rfl) Try.func6
    (ChangeSpec.witness6 (enc := enc) (C := Try.checked) false ⟨#[], #[.slice none 0 0], []⟩ 8 (by kernel_rfl) (by kernel_rfl) (by kernel_rfl) (by kernel_rfl)) ?_
  intro W base args ds gs before hval0 hW hcnd _
  have hval : ∀ (j : Nat) t v, Try.f6.params[j]? = some t → args[j]? = some v → Value.okWide Try.prog W .any base t v := hval0
  have hW' := hW
  obtain ⟨p, q, hA0, hV, rfl, hfz, hnd⟩ := hW
  have hA : DataW.TrodAll enc Try.prog W 0 (fun _ => true) true Try.f6.params.toList args.toList ds p := hA0
  rw [Try.params6] at hA hval
  obtain ⟨v0, vs0, d0, ds0, p0, q0, hargs, rfl, rfl, h0, r0⟩ := trodAll_cons hA
  obtain ⟨rfl, rfl, rfl⟩ := trodAll_nil r0
  obtain rfl : args = #[v0] := by cases args; simp_all
  obtain ⟨rfl, rfl⟩ := trodVars_none hV
  obtain ⟨n0, a0, b0, w0⟩ := arg_rows_i64 Try.underlying37 Try.underlying39 (by kernel_rfl) (by kernel_rfl) (by decide) (by kernel_rfl) (hval 0 37 v0 rfl rfl) h0 (fun x hx => hW'.lt x (by simp [hx]))
  refine law_done hW' (by kernel_rfl) rfl rfl rfl rfl rfl rfl ?_
  exact memOwn_walk n0 a0 v0 W b0

theorem over : Rows.memOwnRow.holds Try.pinned (OpenSpec.ofChange Rows.memOwnSpec) :=
  OpenClaim.holds_of_wide 6 Try.f6 rfl rfl rfl rfl rfl rfl rfl ⟨rfl, rfl, rfl, rfl, rfl⟩ rfl rfl rfl rfl rfl (by kernel_rfl) Try.func6 (by kernel_rfl)
    (of_decide_eq_true (by kernel_rfl)) (by unfold Func.isWrapper; first | (rw [if_pos (by decide +kernel)]; kernel_rfl) | (rw [if_neg (by decide +kernel)]; exact ⟨rfl, rfl⟩))
    (fun os started H enc _ => lifted os started H enc)

theorem proved : Rows.MemOwnSaid :=
  over
#print axioms proved
end Go.Proofs.Ytpbbpineepdeeaa.rowMemOwn
