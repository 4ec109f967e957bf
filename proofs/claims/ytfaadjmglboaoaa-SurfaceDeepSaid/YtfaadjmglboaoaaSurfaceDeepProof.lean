/-
  SurfaceDeep returns true for all numbers, on every schedule: so many lists one in the other are read as long as there are no more than may be; the first one too many is told. Conditions: none.
-/
import Derived.Test.YtfaadjmglboaoaaDeepWalk
import Derived.Test.YtfaadjmglboaoaaOpenT3
namespace Go.Proofs.Ytfaadjmglboaoaa
open Go.ChangeShapes Go.WideShapes Go.ChangeAt Go.RowKit Go.Conc

namespace surfaceDeep
theorem u8_bound {a1 : Int} (w1 : (Lit.int .u8 a1).wf = true) : 0 ≤ a1 ∧ a1 < 256 := by
  have e1 : IntKind.u8.min = 0 := by rfl
  have e2 : IntKind.u8.max = 255 := by rfl
  have h : IntKind.u8.min ≤ a1 ∧ a1 ≤ IntKind.u8.max := by simpa [Lit.wf] using w1
  omega
theorem own : ownKnob Try.prog.godebug = none := by kernel_rfl

set_option maxRecDepth 100000 in
theorem lifted (os : Os) (started : os.Started) (H : Type) (enc : TypeId × Value → H) :
    ReturnsInLeavingWide {} Try.checked os 10 .any (Rows.surfaceDeepSpec.pre6 enc Try.prog Try.f10 Rows.surfaceDeepRow.domain false) (Rows.surfaceDeepSpec.post enc Try.prog Try.f10 false true false false) := by
  refine returns_of_ends2 own started Try.func10
    (ChangeSpec.witness6 (enc := enc) (C := Try.checked) false ⟨#[], #[.int .u8 0, .int .u8 0], []⟩ 8 (by kernel_rfl) (by kernel_rfl) (by kernel_rfl) (by kernel_rfl)) ?_
  intro W base args ds gs before hval0 hW hcnd _ hcl hone
  have hval : ∀ (j : Nat) t v, Try.f10.params[j]? = some t → args[j]? = some v → Value.okWide Try.prog W .any base t v := hval0
  have hW' := hW
  obtain ⟨p, q, hA0, hV, rfl, hfz, hnd⟩ := hW
  have hA : DataW.TrodAll enc Try.prog W 0 (fun _ => true) true Try.f10.params.toList args.toList ds p := hA0
  rw [Try.params10] at hA hval
  obtain ⟨v0, vs0, d0, ds0, p0, q0, hargs, rfl, rfl, h0, r0⟩ := trodAll_cons hA
  obtain ⟨v1, vs1, d1, ds1, p1, q1, rfl, rfl, rfl, h1, r1⟩ := trodAll_cons r0
  obtain ⟨rfl, rfl, rfl⟩ := trodAll_nil r1
  obtain rfl : args = #[v0, v1] := by cases args; simp_all
  obtain ⟨rfl, rfl⟩ := trodVars_none hV
  obtain ⟨a1, rfl, rfl, rfl, w1⟩ := open_int Try.underlying5 (hval 0 5 v0 rfl rfl) h0
  obtain ⟨a2, rfl, rfl, rfl, w2⟩ := open_int Try.underlying5 (hval 1 5 v1 rfl rfl) h1
  have hb1 := u8_bound w1
  have hb2 := u8_bound w2
  obtain ⟨a, rfl⟩ : ∃ a : Nat, a1 = a := ⟨a1.toNat, by omega⟩
  obtain ⟨b, rfl⟩ : ∃ b : Nat, a2 = b := ⟨a2.toNat, by omega⟩
  clear hA0 hval0
  simp only [List.append_nil] at hW'
  refine walk a b (by omega) (by omega) W hcl _ fun u hg τ d => ?_
  exact ⟨_, _, _, _, [], [], hW', (trodAll_cons_mk (shut_bool Try.underlying4 _) trodAll_mk0), (trodAll_cons_mk (shut_int Try.underlying5 w1) (trodAll_cons_mk (shut_int Try.underlying5 w2) trodAll_mk0)), rfl, grew_frame hg τ d _, fun h => by cases h⟩

theorem over : Rows.surfaceDeepRow.holds Try.pinned (OpenSpec.ofChange Rows.surfaceDeepSpec) :=
  OpenClaim.holds_of_wide_leaving 10 Try.f10 rfl rfl rfl rfl rfl rfl rfl ⟨rfl, rfl, rfl, rfl, rfl⟩ rfl rfl rfl rfl rfl (by kernel_rfl) Try.func10 (by kernel_rfl)
    (of_decide_eq_true (by kernel_rfl)) (by unfold Func.isWrapper; first | (rw [if_pos (by decide +kernel)]; kernel_rfl) | (rw [if_neg (by decide +kernel)]; exact ⟨rfl, rfl⟩))
    (fun os started H enc _ => lifted os started H enc)

/-- ████ THE STATEMENT ████ -/
theorem proved : Rows.SurfaceDeepSaid :=
  over
#print axioms proved
end surfaceDeep
end Go.Proofs.Ytfaadjmglboaoaa
