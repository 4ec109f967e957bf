/-
  LevelUp returns true for all two numbers: a sort lies in the next one, the greatest in none. Conditions: none. (The frame of this text was written by the kit's program for a proof's shell; the walk is this session's.)
-/
import Derived.Test.YtimhenmhepincaaRows
import Derived.Test.YtimhenmhepincaaWalks2
import Derived.WalkKit
import Derived.ProofKit
import Derived.OpenShut
import Derived.ShutString
import Derived.ChangeOld
import Derived.Below
namespace Go.Proofs.Ytimhenmhepincaa.levelUp
open Go.ChangeShapes Go.WideShapes Go.ChangeAt Go.RowKit
open Go.ChangeMaps (open_string shut_string)
set_option linter.unusedVariables false      -- a walk need not use every 'w<i>' (that an integer argument fits its kind)

theorem own : ownKnob Try.prog.godebug = none := by kernel_rfl

/-! ### STEP 1: THE WALK -/
set_option maxHeartbeats 4000000 in
theorem walk (a0 : Int) (a1 : Int) (w0 : (Lit.int .i64 a0).wf = true) (w1 : (Lit.int .i64 a1).wf = true) (w : World) :
    Calls Try.prog 4 #[.int .i64 a0, .int .i64 a1] w fun e w' => e = .returned (.bool true) ∧ Below w.heap.size w w' := by
  have hb0 : Below w.heap.size w w := Below.refl _ _
  clear w0 w1
  cases hl : lvl a0
  · have h1 : chk a0 = 1 := by unfold chk; rw [hl]; rfl
    have h2 : upv a0 = 0 := by unfold upv; rw [hl]; rfl
    have h3 : upe a0 = 1 := by unfold upe; rw [hl]; rfl
    clear hl
    go_enter Try.func4, Try.ntmps4
    go_wp2_with (first
      | (go_at_call 10; refine (at_of (up_any _ _) (w0 := w) (by assumption)).mono ?_; clear hb0; rintro e w' ⟨rfl, hb0⟩)
      | (go_at_call 9; refine (at_of (check_any _ _) (w0 := w) (by assumption)).mono ?_; clear hb0; rintro e w' ⟨rfl, hb0⟩))
    go_ret
    exact ⟨rfl, hb0⟩
  · have hl2 := (lvl_iff a0).1 hl
    have h1 : chk a0 = 0 := by unfold chk; rw [hl]; rfl
    by_cases h9 : a0 = 9
    · have h2 : upv a0 = 0 := by unfold upv; rw [hl, h9]; rfl
      have h3 : upe a0 = 2 := by unfold upe; rw [hl, h9]; rfl
      have h9' : (a0 == 9) = true := by simp [h9]
      clear hl hl2 h9
      go_enter Try.func4, Try.ntmps4
      go_wp2_with (first
        | (go_at_call 10; refine (at_of (up_any _ _) (w0 := w) (by assumption)).mono ?_; clear hb0; rintro e w' ⟨rfl, hb0⟩)
        | (go_at_call 9; refine (at_of (check_any _ _) (w0 := w) (by assumption)).mono ?_; clear hb0; rintro e w' ⟨rfl, hb0⟩))
      go_ret
      exact ⟨rfl, hb0⟩
    · have h2 : upv a0 = a0 + 1 := by unfold upv; rw [hl, if_neg (by omega : ¬ 9 ≤ a0)]; rfl
      have h3 : upe a0 = 0 := by unfold upe; rw [hl, if_neg (by omega : ¬ 9 ≤ a0)]; rfl
      have h9' : (a0 == 9) = false := by simp [h9]
      have h4 : bel (a0 + 1) a0 = false := by
        cases h : bel (a0 + 1) a0
        · rfl
        · have := (bel_iff _ _).1 h; omega
      have h5 : bel a0 a1 = false ∨ (bel a0 a1 = true ∧ (a0 == 0) = false) ∨ (bel a0 a1 = true ∧ (a0 == 0) = true ∧ (a1 == 0) = true) := by
        cases h : bel a0 a1
        · exact .inl rfl
        · have := (bel_iff _ _).1 h
          by_cases h0 : a0 = 0
          · exact .inr (.inr ⟨rfl, by simp [h0], by simp; omega⟩)
          · exact .inr (.inl ⟨rfl, by simp [h0]⟩)
      obtain ⟨b1, b2⟩ := hl2
      clear hl h9
      rcases h5 with h5 | ⟨h5, h6⟩ | ⟨h5, h6, h7⟩
      all_goals
        go_enter Try.func4, Try.ntmps4
        go_wp2_with (first
          | (go_at_call 10; refine (at_of (up_any _ _) (w0 := w) (by assumption)).mono ?_; clear hb0; rintro e w' ⟨rfl, hb0⟩)
          | (go_at_call 8; refine (at_of (below_any _ _ _) (w0 := w) (by assumption)).mono ?_; clear hb0; rintro e w' ⟨rfl, hb0⟩)
          | (go_at_call 11; refine (strict_any _ _).mono ?_; rintro e w' ⟨rfl, rfl⟩)
          | (go_at_call 9; refine (at_of (check_any _ _) (w0 := w) (by assumption)).mono ?_; clear hb0; rintro e w' ⟨rfl, hb0⟩))
        go_ret
        exact ⟨rfl, hb0⟩

/-! ### THE ROW's STEP: WRITTEN OUT: LEAVE IT -/
set_option maxRecDepth 100000 in
theorem lifted (os : Os) (started : os.Started) (H : Type) (enc : TypeId × Value → H) :
    ReturnsInHanded {} Try.checked os 4 .any (Rows.levelUpSpec.pre6 enc Try.prog Try.f4 Rows.levelUpRow.domain false) (Rows.levelUpSpec.post enc Try.prog Try.f4 false true false false) := by
  refine returnsInHanded_of_change (C := Try.checked) own started (by kernel_rfl) Try.func4
    (ChangeSpec.witness6 (enc := enc) (C := Try.checked) false ⟨#[], #[.int .i64 0, .int .i64 0], []⟩ 8 (by kernel_rfl) (by kernel_rfl) (by kernel_rfl) (by kernel_rfl)) ?_
  intro W base args ds gs before hval0 hW hcnd _
  have hval : ∀ (j : Nat) t v, Try.f4.params[j]? = some t → args[j]? = some v → Value.okWide Try.prog W .any base t v := hval0
  have hW' := hW
  obtain ⟨p, q, hA0, hV, rfl, hfz, hnd⟩ := hW
  have hA : DataW.TrodAll enc Try.prog W 0 (fun _ => true) true Try.f4.params.toList args.toList ds p := hA0
  rw [Try.params4] at hA hval
  obtain ⟨v0, vs0, d0, ds0, p0, q0, hargs, rfl, rfl, h0, r0⟩ := trodAll_cons hA
  obtain ⟨v1, vs1, d1, ds1, p1, q1, rfl, rfl, rfl, h1, r1⟩ := trodAll_cons r0
  obtain ⟨rfl, rfl, rfl⟩ := trodAll_nil r1
  obtain rfl : args = #[v0, v1] := by cases args; simp_all
  obtain ⟨rfl, rfl⟩ := trodVars_none hV
  obtain ⟨a0, rfl, rfl, rfl, w0⟩ := open_int Try.underlying3 (hval 0 3 v0 rfl rfl) h0
  obtain ⟨a1, rfl, rfl, rfl, w1⟩ := open_int Try.underlying3 (hval 1 3 v1 rfl rfl) h1
  clear hA0 hval0
  simp only [List.append_nil] at hW'
  refine (walk a0 a1 w0 w1 W).mono fun e W' ⟨he, hg⟩ => ?_
  subst he
  exact ⟨_, rfl, _, _, _, [], [], [], hW', (trodAll_cons_mk (shut_bool Try.underlying4 _) trodAll_mk0), (trodAll_cons_mk (shut_int Try.underlying3 w0) (trodAll_cons_mk (shut_int Try.underlying3 w1) trodAll_mk0)), rfl, hg.frame _, fun h => by cases h⟩

theorem over : Rows.levelUpRow.holds Try.pinned (OpenSpec.ofChange Rows.levelUpSpec) :=
  OpenClaim.holds_of_wide 4 Try.f4 rfl rfl rfl rfl rfl rfl rfl ⟨rfl, rfl, rfl, rfl, rfl⟩ rfl rfl rfl rfl rfl (by kernel_rfl) Try.func4 (by kernel_rfl)
    (of_decide_eq_true (by kernel_rfl)) (by unfold Func.isWrapper; first | (rw [if_pos (by decide +kernel)]; kernel_rfl) | (rw [if_neg (by decide +kernel)]; exact ⟨rfl, rfl⟩))
    (fun os started H enc _ => lifted os started H enc)

/-- ████ THE STATEMENT ████ -/
theorem proved : Rows.LevelUpSaid :=
  over
#print axioms proved
end Go.Proofs.Ytimhenmhepincaa.levelUp
