/- For every input the law PowerStays returns true, and each argument reads behind the call as it read before: who is powered stays so. No condition. -/
import Derived.Test.YthdcicadcbogmaaDkRow
import Derived.Test.YthdcicadcbogmaaSpP
import Derived.Test.YthdcicadcbogmaaOk
import Derived.Test.YthdcicadcbogmaaRows
set_option linter.all false
set_option maxRecDepth 1000000
namespace Go.Proofs.Ythdcicadcbogmaa
open Go.ChangeShapes Go.WideShapes Go.ChangeAt Go.RowKit Dk
theorem Try.own : ownKnob Try.prog.godebug = none := by kernel_rfl
theorem Try.laidOut : laidOutB Try.prog = true := by kernel_rfl
theorem powerStays_lifted (os : Os) (started : os.Started) (H : Type) (enc : TypeId × Value → H) :
    ReturnsInHanded {} Try.checked os 4 .any (Rows.powerStaysSpec.pre6 enc Try.prog Try.f4 Rows.powerStaysRow.domain false) (Rows.powerStaysSpec.post enc Try.prog Try.f4 false true false false) := by
  refine returnsInHanded_of_change (C := Try.checked) Try.own started (by kernel_rfl) Try.func4
    (ChangeSpec.witness6 (enc := enc) (C := Try.checked) false ⟨#[], #[.slice none 0 0, .int .u8 0, .int .u16 0], []⟩ 8 (by kernel_rfl) (by kernel_rfl) (by kernel_rfl) (by kernel_rfl)) ?_
  intro W base args ds gs before hval0 hW hcnd _
  refine law_calls (P := Try.prog) (num := num) (n := 2) (t := tab) (m := 6) (tb := 4) (lim_ok (by kernel_rfl) tabOK) rfl rfl Try.laidOut (by kernel_rfl) rfl (by kernel_rfl) rfl ?_ ?_ hW hval0
  · intro ds h
    have h : ds.length = 3 := h
    match ds, h with
    | [_, _, _], _ => rfl
  · intro l hl
    rw [Try.params4] at hl ⊢
    obtain ⟨q1, _, rfl, f1, q2, _, rfl, f2, q3, _, rfl, f3, rfl⟩ := hl
    obtain ⟨L, z, rfl, hz, _, hr⟩ := fit_ints Try.underlying22 Try.underlying27 (by kernel_rfl) f1
    obtain ⟨i, rfl, hi⟩ := fit_int Try.underlying5 f2
    obtain ⟨t, rfl, ht⟩ := fit_int Try.underlying27 f3
    simp only [argsOf]
    rw [argOf_one (by kernel_rfl), argOf_one (by kernel_rfl), argOf_one (by kernel_rfl)]
    simp [Lit.wf, IntKind.min, IntKind.max, IntKind.signed, IntKind.bits] at hr hi ht
    exact s2 hz hr i t hi ht
theorem powerStays_holds : Rows.PowerStaysSaid :=
  OpenClaim.holds_of_wide 4 Try.f4 rfl rfl rfl rfl rfl rfl rfl ⟨rfl, rfl, rfl, rfl, rfl⟩ rfl rfl rfl rfl rfl (by kernel_rfl) Try.func4 (by kernel_rfl)
    (of_decide_eq_true (by kernel_rfl)) (by unfold Func.isWrapper; first | (rw [if_pos (by decide +kernel)]; kernel_rfl) | (rw [if_neg (by decide +kernel)]; exact ⟨rfl, rfl⟩))
    (fun os started H enc _ => powerStays_lifted os started H enc)
end Go.Proofs.Ythdcicadcbogmaa
