/-
  SurfaceJoins returns true for all two rows, on every schedule: rows that stand one behind the other are a row of both's things; put in a list they are its things. Conditions: none.
-/
import Derived.Test.YtfaadjmglboaoaaJoinsWalk
import Derived.Test.YtfaadjmglboaoaaOpenT3
namespace Go.Proofs.Ytfaadjmglboaoaa
open Go.ChangeShapes Go.WideShapes Go.ChangeAt Go.RowKit Go.Conc

/-- A slice that came in is no longer than its capacity. -/
theorem cap_t3 {H : Type} {enc : TypeId × Value → H} {W : World} {t e : TypeId} {a : Option Addr} {len cap : Nat} {d : DataW H} {ps : List MemPlace} (ht : Try.prog.underlying t = some (.slice e)) (h : DataW.Trod enc Try.prog W 0 (fun _ => true) true t (.slice a len cap) d ps) : len ≤ cap := by
  obtain ⟨fuel, hf⟩ := h
  rcases Go.Deep.open_slice ht hf with ⟨hcs, _⟩ | ⟨x, l, c, m, n, D, Pl, hcs, _, hl, _⟩
  · simp [Value.cells] at hcs
    obtain ⟨rfl, rfl, rfl⟩ := hcs
    exact Nat.le_refl _
  · simp [Value.cells] at hcs
    obtain ⟨rfl, rfl, rfl⟩ := hcs
    exact hl

namespace surfaceJoins
theorem own : ownKnob Try.prog.godebug = none := by kernel_rfl

set_option maxRecDepth 100000 in
theorem lifted (os : Os) (started : os.Started) (H : Type) (enc : TypeId × Value → H) :
    ReturnsInLeavingWide {} Try.checked os 11 .any (Rows.surfaceJoinsSpec.pre6 enc Try.prog Try.f11 Rows.surfaceJoinsRow.domain false) (Rows.surfaceJoinsSpec.post enc Try.prog Try.f11 false true false false) := by
  refine returns_of_ends2 own started Try.func11
    (ChangeSpec.witness6 (enc := enc) (C := Try.checked) false ⟨#[], #[.slice none 0 0, .slice none 0 0], []⟩ 8 (by kernel_rfl) (by kernel_rfl) (by kernel_rfl) (by kernel_rfl)) ?_
  intro W base args ds gs before hval0 hW hcnd _ hcl hone
  have hval : ∀ (j : Nat) t v, Try.f11.params[j]? = some t → args[j]? = some v → Value.okWide Try.prog W .any base t v := hval0
  have hW' := hW
  obtain ⟨p, q, hA0, hV, rfl, hfz, hnd⟩ := hW
  have hA : DataW.TrodAll enc Try.prog W 0 (fun _ => true) true Try.f11.params.toList args.toList ds p := hA0
  rw [Try.params11] at hA hval
  obtain ⟨v0, vs0, d0, ds0, p0, q0, hargs, rfl, rfl, h0, r0⟩ := trodAll_cons hA
  obtain ⟨v1, vs1, d1, ds1, p1, q1, rfl, rfl, rfl, h1, r1⟩ := trodAll_cons r0
  obtain ⟨rfl, rfl, rfl⟩ := trodAll_nil r1
  obtain rfl : args = #[v0, v1] := by cases args; simp_all
  obtain ⟨rfl, rfl⟩ := trodVars_none hV
  obtain ⟨a0, len0, cap0, rfl⟩ := okWide_slice Try.underlying44 (hval 0 44 v0 rfl rfl)
  obtain ⟨a1, len1, cap1, rfl⟩ := okWide_slice Try.underlying44 (hval 1 44 v1 rfl rfl)
  have hc0 := cap_t3 Try.underlying44 h0
  have hc1 := cap_t3 Try.underlying44 h1
  obtain ⟨l, rfl, hR, _⟩ := open_t3 hone Try.underlying44 Try.underlying63 (by kernel_rfl) rfl rfl rfl rfl rfl rfl h0
  obtain ⟨r, rfl, hR2, _⟩ := open_t3 hone Try.underlying44 Try.underlying63 (by kernel_rfl) rfl rfl rfl rfl rfl rfl h1
  clear hA0 hval0
  refine walk l r a0 a1 cap0 cap1 W hcl hR hc0 hR2 hc1 _ fun u hg τ d => ?_
  exact ⟨_, _, _, [], _, [], hW', (trodAll_cons_mk (shut_bool Try.underlying4 _) trodAll_mk0), (trodAll_cons_mk (trod_grew (by kernel_rfl) (of_decide_eq_true (by kernel_rfl)) h0 hg) (trodAll_cons_mk (trod_grew (by kernel_rfl) (of_decide_eq_true (by kernel_rfl)) h1 hg) trodAll_mk0)), rfl, grew_frame hg τ d _, fun h => by cases h⟩

theorem over : Rows.surfaceJoinsRow.holds Try.pinned (OpenSpec.ofChange Rows.surfaceJoinsSpec) :=
  OpenClaim.holds_of_wide_leaving 11 Try.f11 rfl rfl rfl rfl rfl rfl rfl ⟨rfl, rfl, rfl, rfl, rfl⟩ rfl rfl rfl rfl rfl (by kernel_rfl) Try.func11 (by kernel_rfl)
    (of_decide_eq_true (by kernel_rfl)) (by unfold Func.isWrapper; first | (rw [if_pos (by decide +kernel)]; kernel_rfl) | (rw [if_neg (by decide +kernel)]; exact ⟨rfl, rfl⟩))
    (fun os started H enc _ => lifted os started H enc)

/-- ████ THE STATEMENT ████ -/
theorem proved : Rows.SurfaceJoinsSaid :=
  over
#print axioms proved
end surfaceJoins
end Go.Proofs.Ytfaadjmglboaoaa
