/- For every input the law PowerTwo returns true, and each argument reads behind the call as it read before: at the tick that Two tells two correct ones, or more, are powered, and ahead of it less. No condition. -/
import Derived.Test.YthdcicadcbogmaaDkRow
import Derived.Test.YthdcicadcbogmaaSpR
import Derived.Test.YthdcicadcbogmaaOk
import Derived.Test.YthdcicadcbogmaaRows
set_option linter.all false
set_option maxRecDepth 1000000
namespace Go.Proofs.Ythdcicadcbogmaa
open Go.ChangeShapes Go.WideShapes Go.ChangeAt Go.RowKit Dk
theorem Try.own : ownKnob Try.prog.godebug = none := by kernel_rfl
theorem Try.laidOut : laidOutB Try.prog = true := by kernel_rfl
theorem powerTwo_lifted (os : Os) (started : os.Started) (H : Type) (enc : TypeId × Value → H) :
    ReturnsInHanded {} Try.checked os 3 .any (Rows.powerTwoSpec.pre6 enc Try.prog Try.f3 Rows.powerTwoRow.domain false) (Rows.powerTwoSpec.post enc Try.prog Try.f3 false true false false) := by
  refine returnsInHanded_of_change (C := Try.checked) Try.own started (by kernel_rfl) Try.func3
    (ChangeSpec.witness6 (enc := enc) (C := Try.checked) false ⟨#[], #[.slice none 0 0, .agg #[.int .i64 0, .int .i64 0]], []⟩ 8 (by kernel_rfl) (by kernel_rfl) (by kernel_rfl) (by kernel_rfl)) ?_
  intro W base args ds gs before hval0 hW hcnd _
  refine law_calls (P := Try.prog) (num := num) (n := 1) (t := tab) (m := 6) (tb := 4) (lim_ok (by kernel_rfl) tabOK) rfl rfl Try.laidOut (by kernel_rfl) rfl (by kernel_rfl) rfl ?_ ?_ hW hval0
  · intro ds h
    have h : ds.length = 2 := h
    match ds, h with
    | [_, _], _ => rfl
  · intro l hl
    rw [Try.params3] at hl ⊢
    obtain ⟨q1, _, rfl, f1, q2, _, rfl, f2, rfl⟩ := hl
    obtain ⟨L, z, rfl, hz, _, hr⟩ := fit_ints Try.underlying22 Try.underlying27 (by kernel_rfl) f1
    obtain ⟨g1, _, rfl, h1, g2, _, rfl, h2, rfl⟩ := fit_struct Try.underlying24 f2
    obtain ⟨c, rfl, hc⟩ := fit_int Try.underlying3 h1
    obtain ⟨x, rfl, hx⟩ := fit_int Try.underlying3 h2
    simp only [argsOf]
    rw [argOf_one (by kernel_rfl), argOf_agg (by kernel_rfl)]
    simp [Lit.wf, IntKind.min, IntKind.max, IntKind.signed, IntKind.bits] at hr
    exact s1 hz hr c x
theorem powerTwo_holds : Rows.PowerTwoSaid :=
  OpenClaim.holds_of_wide 3 Try.f3 rfl rfl rfl rfl rfl rfl rfl ⟨rfl, rfl, rfl, rfl, rfl⟩ rfl rfl rfl rfl rfl (by kernel_rfl) Try.func3 (by kernel_rfl)
    (of_decide_eq_true (by kernel_rfl)) (by unfold Func.isWrapper; first | (rw [if_pos (by decide +kernel)]; kernel_rfl) | (rw [if_neg (by decide +kernel)]; exact ⟨rfl, rfl⟩))
    (fun os started H enc _ => powerTwo_lifted os started H enc)
end Go.Proofs.Ythdcicadcbogmaa
