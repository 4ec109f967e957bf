/-
  LevelOrder returns true for all three numbers: Below is an order of levels in which 0 stands alone. Conditions: none. (The frame of this text was written by the kit's program for a proof's shell; the walk is this session's.)
-/
import Derived.Test.YtimhenmhepincaaRows
import Derived.Test.YtimhenmhepincaaWalks2
import Derived.WalkKit
import Derived.ProofKit
import Derived.OpenShut
import Derived.ShutString
import Derived.ChangeOld
import Derived.Below
namespace Go.Proofs.Ytimhenmhepincaa.levelOrder
open Go.ChangeShapes Go.WideShapes Go.ChangeAt Go.RowKit
open Go.ChangeMaps (open_string shut_string)
set_option linter.unusedVariables false      -- a walk need not use every 'w<i>' (that an integer argument fits its kind)

theorem own : ownKnob Try.prog.godebug = none := by kernel_rfl

/-- What the law asks first. -/
theorem firstAsk (a b c : Int) : bel a b = false ∨ (bel a b = true ∧ (bel b a = false ∨ (bel b a = true ∧ (a != b) = false)) ∧ (bel b c = false ∨ (bel b c = true ∧ bel a c = true))) := by
  cases h : bel a b
  · exact .inl rfl
  · refine .inr ⟨rfl, ?_, ?_⟩
    · cases h' : bel b a
      · exact .inl rfl
      · have := (bel_iff a b).1 h
        have := (bel_iff b a).1 h'
        exact .inr ⟨rfl, by rw [bne_eq_false_iff_eq]; omega⟩
    · cases h' : bel b c
      · exact .inl rfl
      · have := (bel_iff a b).1 h
        have := (bel_iff b c).1 h'
        exact .inr ⟨rfl, (bel_iff a c).2 (by omega)⟩
/-- What it asks last. -/
theorem lastAsk (a : Int) : (bel 0 a = false ∧ bel a 0 = false) ∨ (bel 0 a = true ∧ bel a 0 = true ∧ (a == 0) = true) := by
  by_cases h : a = 0
  · subst h; exact .inr ⟨by decide, by decide, by decide⟩
  · refine .inl ⟨?_, ?_⟩
    · cases h' : bel 0 a
      · rfl
      · have := (bel_iff 0 a).1 h'; omega
    · cases h' : bel a 0
      · rfl
      · have := (bel_iff a 0).1 h'; omega

/-! ### STEP 1: THE WALK -/
set_option maxHeartbeats 4000000 in
theorem walk (a0 : Int) (a1 : Int) (a2 : Int) (w0 : (Lit.int .i64 a0).wf = true) (w1 : (Lit.int .i64 a1).wf = true) (w2 : (Lit.int .i64 a2).wf = true) (w : World) :
    Calls Try.prog 3 #[.int .i64 a0, .int .i64 a1, .int .i64 a2] w fun e w' => e = .returned (.bool true) ∧ Below w.heap.size w w' := by
  have hb0 : Below w.heap.size w w := Below.refl _ _
  have h12 : bel 1 2 = true := by decide
  have hc : bel a0 a0 = (chk a0 == 0) := by unfold bel chk; cases h : lvl a0 <;> simp [h]
  clear w0 w1 w2
  rcases firstAsk a0 a1 a2 with h1 | ⟨h1, ⟨h2⟩ | ⟨h2, h3⟩, ⟨h4⟩ | ⟨h4, h5⟩⟩ <;> rcases lastAsk a0 with ⟨h6, h7⟩ | ⟨h6, h7, h8⟩
  all_goals
    go_enter Try.func3, Try.ntmps3
    go_wp2_with (first
      | (go_at_call 8; refine (at_of (below_any _ _ _) (w0 := w) (by assumption)).mono ?_; clear hb0; rintro e w' ⟨rfl, hb0⟩)
      | (go_at_call 9; refine (at_of (check_any _ _) (w0 := w) (by assumption)).mono ?_; clear hb0; rintro e w' ⟨rfl, hb0⟩))
    go_ret
    exact ⟨rfl, hb0⟩

/-! ### THE ROW's STEP: WRITTEN OUT: LEAVE IT -/
set_option maxRecDepth 100000 in
theorem lifted (os : Os) (started : os.Started) (H : Type) (enc : TypeId × Value → H) :
    ReturnsInHanded {} Try.checked os 3 .any (Rows.levelOrderSpec.pre6 enc Try.prog Try.f3 Rows.levelOrderRow.domain false) (Rows.levelOrderSpec.post enc Try.prog Try.f3 false true false false) := by
  refine returnsInHanded_of_change (C := Try.checked) own started (by kernel_rfl) Try.func3
    (ChangeSpec.witness6 (enc := enc) (C := Try.checked) false ⟨#[], #[.int .i64 0, .int .i64 0, .int .i64 0], []⟩ 8 (by kernel_rfl) (by kernel_rfl) (by kernel_rfl) (by kernel_rfl)) ?_
  intro W base args ds gs before hval0 hW hcnd _
  have hval : ∀ (j : Nat) t v, Try.f3.params[j]? = some t → args[j]? = some v → Value.okWide Try.prog W .any base t v := hval0
  have hW' := hW
  obtain ⟨p, q, hA0, hV, rfl, hfz, hnd⟩ := hW
  have hA : DataW.TrodAll enc Try.prog W 0 (fun _ => true) true Try.f3.params.toList args.toList ds p := hA0
  rw [Try.params3] at hA hval
  obtain ⟨v0, vs0, d0, ds0, p0, q0, hargs, rfl, rfl, h0, r0⟩ := trodAll_cons hA
  obtain ⟨v1, vs1, d1, ds1, p1, q1, rfl, rfl, rfl, h1, r1⟩ := trodAll_cons r0
  obtain ⟨v2, vs2, d2, ds2, p2, q2, rfl, rfl, rfl, h2, r2⟩ := trodAll_cons r1
  obtain ⟨rfl, rfl, rfl⟩ := trodAll_nil r2
  obtain rfl : args = #[v0, v1, v2] := by cases args; simp_all
  obtain ⟨rfl, rfl⟩ := trodVars_none hV
  obtain ⟨a0, rfl, rfl, rfl, w0⟩ := open_int Try.underlying3 (hval 0 3 v0 rfl rfl) h0
  obtain ⟨a1, rfl, rfl, rfl, w1⟩ := open_int Try.underlying3 (hval 1 3 v1 rfl rfl) h1
  obtain ⟨a2, rfl, rfl, rfl, w2⟩ := open_int Try.underlying3 (hval 2 3 v2 rfl rfl) h2
  clear hA0 hval0
  simp only [List.append_nil] at hW'
  refine (walk a0 a1 a2 w0 w1 w2 W).mono fun e W' ⟨he, hg⟩ => ?_
  subst he
  exact ⟨_, rfl, _, _, _, [], [], [], hW', (trodAll_cons_mk (shut_bool Try.underlying4 _) trodAll_mk0), (trodAll_cons_mk (shut_int Try.underlying3 w0) (trodAll_cons_mk (shut_int Try.underlying3 w1) (trodAll_cons_mk (shut_int Try.underlying3 w2) trodAll_mk0))), rfl, hg.frame _, fun h => by cases h⟩

theorem over : Rows.levelOrderRow.holds Try.pinned (OpenSpec.ofChange Rows.levelOrderSpec) :=
  OpenClaim.holds_of_wide 3 Try.f3 rfl rfl rfl rfl rfl rfl rfl ⟨rfl, rfl, rfl, rfl, rfl⟩ rfl rfl rfl rfl rfl (by kernel_rfl) Try.func3 (by kernel_rfl)
    (of_decide_eq_true (by kernel_rfl)) (by unfold Func.isWrapper; first | (rw [if_pos (by decide +kernel)]; kernel_rfl) | (rw [if_neg (by decide +kernel)]; exact ⟨rfl, rfl⟩))
    (fun os started H enc _ => lifted os started H enc)

/-- ████ THE STATEMENT ████ -/
theorem proved : Rows.LevelOrderSaid :=
  over
#print axioms proved
end Go.Proofs.Ytimhenmhepincaa.levelOrder
