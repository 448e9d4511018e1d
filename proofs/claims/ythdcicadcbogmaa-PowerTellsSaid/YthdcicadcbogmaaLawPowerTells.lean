/- For every input the law PowerTells returns true, and each argument reads behind the call as it read before: what a list of ticks is, and who is powered, are the answers of the document. No condition. -/
import Derived.Test.YthdcicadcbogmaaDkRow
import Derived.Test.YthdcicadcbogmaaSpU
import Derived.Test.YthdcicadcbogmaaOk
import Derived.Test.YthdcicadcbogmaaRows
set_option linter.all false
set_option maxRecDepth 1000000
namespace Go.Proofs.Ythdcicadcbogmaa
open Go.ChangeShapes Go.WideShapes Go.ChangeAt Go.RowKit Dk
theorem Try.own : ownKnob Try.prog.godebug = none := by kernel_rfl
theorem Try.laidOut : laidOutB Try.prog = true := by kernel_rfl
theorem powerTells_lifted (os : Os) (started : os.Started) (H : Type) (enc : TypeId × Value → H) :
    ReturnsInHanded {} Try.checked os 5 .any (Rows.powerTellsSpec.pre6 enc Try.prog Try.f5 Rows.powerTellsRow.domain false) (Rows.powerTellsSpec.post enc Try.prog Try.f5 false true false false) := by
  refine returnsInHanded_of_change (C := Try.checked) Try.own started (by kernel_rfl) Try.func5
    (ChangeSpec.witness6 (enc := enc) (C := Try.checked) false ⟨#[], #[.agg #[.int .i64 0, .slice none 0 0, .int .i64 0, .int .i64 0, .int .i64 0, .int .i64 0]], []⟩ 8 (by kernel_rfl) (by kernel_rfl) (by kernel_rfl) (by kernel_rfl)) ?_
  intro W base args ds gs before hval0 hW hcnd _
  refine law_calls (P := Try.prog) (num := num) (n := 3) (t := tab) (m := 6) (tb := 4) (lim_ok (by kernel_rfl) tabOK) rfl rfl Try.laidOut (by kernel_rfl) rfl (by kernel_rfl) rfl ?_ ?_ hW hval0
  · intro ds h
    have h : ds.length = 1 := h
    match ds, h with
    | [_], _ => rfl
  · intro l hl
    rw [Try.params5] at hl ⊢
    obtain ⟨q, _, rfl, f1, rfl⟩ := hl
    obtain ⟨g1, _, rfl, h1, g2, _, rfl, h2, g3, _, rfl, h3, g4, _, rfl, h4, g5, _, rfl, h5, rfl⟩ := fit_struct Try.underlying34 f1
    obtain ⟨n, rfl, hn⟩ := fit_int Try.underlying3 h1
    obtain ⟨L, z, rfl, hz, _, hr⟩ := fit_ints Try.underlying26 Try.underlying3 (by kernel_rfl) h2
    obtain ⟨k1, _, rfl, e1, k2, _, rfl, e2, rfl⟩ := fit_struct Try.underlying24 h3
    obtain ⟨c, rfl, hc⟩ := fit_int Try.underlying3 e1
    obtain ⟨x, rfl, hx⟩ := fit_int Try.underlying3 e2
    obtain ⟨i, rfl, hi⟩ := fit_int Try.underlying3 h4
    obtain ⟨t, rfl, ht⟩ := fit_int Try.underlying3 h5
    simp only [argsOf]
    rw [argOf_agg (by kernel_rfl)]
    simp [Lit.wf, IntKind.min, IntKind.max, IntKind.signed, IntKind.bits] at ht
    exact s3 hz n c x i t (by omega)
theorem powerTells_holds : Rows.PowerTellsSaid :=
  OpenClaim.holds_of_wide 5 Try.f5 rfl rfl rfl rfl rfl rfl rfl ⟨rfl, rfl, rfl, rfl, rfl⟩ rfl rfl rfl rfl rfl (by kernel_rfl) Try.func5 (by kernel_rfl)
    (of_decide_eq_true (by kernel_rfl)) (by unfold Func.isWrapper; first | (rw [if_pos (by decide +kernel)]; kernel_rfl) | (rw [if_neg (by decide +kernel)]; exact ⟨rfl, rfl⟩))
    (fun os started H enc _ => powerTells_lifted os started H enc)
end Go.Proofs.Ythdcicadcbogmaa
