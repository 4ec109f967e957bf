/-
  SurfaceParses returns true for every slice of tokens, on every schedule: what the tokens are read as is the document's row, or its error. Conditions: none.
-/
import Derived.Test.YtfaadjmglboaoaaParsesWalk
import Derived.Test.YtfaadjmglboaoaaOpenT3
namespace Go.Proofs.Ytfaadjmglboaoaa
open Go.ChangeShapes Go.WideShapes Go.ChangeAt Go.RowKit Go.Conc

namespace surfaceParses
theorem own : ownKnob Try.prog.godebug = none := by kernel_rfl

set_option maxRecDepth 100000 in
theorem lifted (os : Os) (started : os.Started) (H : Type) (enc : TypeId × Value → H) :
    ReturnsInLeavingWide {} Try.checked os 9 .any (Rows.surfaceParsesSpec.pre6 enc Try.prog Try.f9 Rows.surfaceParsesRow.domain false) (Rows.surfaceParsesSpec.post enc Try.prog Try.f9 false true false false) := by
  refine returns_of_ends2 own started Try.func9
    (ChangeSpec.witness6 (enc := enc) (C := Try.checked) false ⟨#[], #[.slice none 0 0], []⟩ 8 (by kernel_rfl) (by kernel_rfl) (by kernel_rfl) (by kernel_rfl)) ?_
  intro W base args ds gs before hval0 hW hcnd _ hcl hone
  have hval : ∀ (j : Nat) t v, Try.f9.params[j]? = some t → args[j]? = some v → Value.okWide Try.prog W .any base t v := hval0
  have hW' := hW
  obtain ⟨p, q, hA0, hV, rfl, hfz, hnd⟩ := hW
  have hA : DataW.TrodAll enc Try.prog W 0 (fun _ => true) true Try.f9.params.toList args.toList ds p := hA0
  rw [Try.params9] at hA hval
  obtain ⟨v0, vs0, d0, ds0, p0, q0, hargs, rfl, rfl, h0, r0⟩ := trodAll_cons hA
  obtain ⟨rfl, rfl, rfl⟩ := trodAll_nil r0
  obtain rfl : args = #[v0] := by cases args; simp_all
  obtain ⟨rfl, rfl⟩ := trodVars_none hV
  obtain ⟨a0, len0, cap0, rfl⟩ := okWide_slice Try.underlying36 (hval 0 36 v0 rfl rfl)
  obtain ⟨l, rfl, hR, _⟩ := open_t3 hone Try.underlying36 Try.underlying40 (by kernel_rfl) rfl rfl rfl rfl rfl rfl h0
  clear hA0 hval0
  refine walk l a0 cap0 W hcl hR _ fun u hg τ d => ?_
  exact ⟨_, _, _, [], _, [], hW', (trodAll_cons_mk (shut_bool Try.underlying4 _) trodAll_mk0), (trodAll_cons_mk (trod_grew (by kernel_rfl) (of_decide_eq_true (by kernel_rfl)) h0 hg) trodAll_mk0), rfl, grew_frame hg τ d _, fun h => by cases h⟩

theorem over : Rows.surfaceParsesRow.holds Try.pinned (OpenSpec.ofChange Rows.surfaceParsesSpec) :=
  OpenClaim.holds_of_wide_leaving 9 Try.f9 rfl rfl rfl rfl rfl rfl rfl ⟨rfl, rfl, rfl, rfl, rfl⟩ rfl rfl rfl rfl rfl (by kernel_rfl) Try.func9 (by kernel_rfl)
    (of_decide_eq_true (by kernel_rfl)) (by unfold Func.isWrapper; first | (rw [if_pos (by decide +kernel)]; kernel_rfl) | (rw [if_neg (by decide +kernel)]; exact ⟨rfl, rfl⟩))
    (fun os started H enc _ => lifted os started H enc)

/-- ████ THE STATEMENT ████ -/
theorem proved : Rows.SurfaceParsesSaid :=
  over
#print axioms proved
end surfaceParses
end Go.Proofs.Ytfaadjmglboaoaa
