/-
  LevelPi returns true for all three numbers: a function into propositions is one, into types it is of the greater level. Conditions: none. (The frame of this text was written by the kit's program for a proof's shell; the walk is this session's.)
-/
import Derived.Test.YtimhenmhepincaaRows
import Derived.Test.YtimhenmhepincaaWalks2
import Derived.WalkKit
import Derived.ProofKit
import Derived.OpenShut
import Derived.ShutString
import Derived.ChangeOld
import Derived.Below
namespace Go.Proofs.Ytimhenmhepincaa.levelPi
open Go.ChangeShapes Go.WideShapes Go.ChangeAt Go.RowKit
open Go.ChangeMaps (open_string shut_string)
set_option linter.unusedVariables false      -- a walk need not use every 'w<i>' (that an integer argument fits its kind)

theorem own : ownKnob Try.prog.godebug = none := by kernel_rfl

theorem chk_yes {n : Int} (h : lvl n = true) : chk n = 0 := by unfold chk; rw [h]; rfl
theorem chk_no {n : Int} (h : lvl n = false) : chk n = 1 := by unfold chk; rw [h]; rfl

/-! ### STEP 1: THE WALK -/
set_option maxHeartbeats 4000000 in
theorem walk (a0 : Int) (a1 : Int) (a2 : Int) (w0 : (Lit.int .i64 a0).wf = true) (w1 : (Lit.int .i64 a1).wf = true) (w2 : (Lit.int .i64 a2).wf = true) (w : World) :
    Calls Try.prog 6 #[.int .i64 a0, .int .i64 a1, .int .i64 a2] w fun e w' => e = .returned (.bool true) ∧ Below w.heap.size w w' := by
  have hb0 : Below w.heap.size w w := Below.refl _ _
  have hm1 : chk (-1) = 1 := by decide
  clear w0 w1 w2
  have key : (gre [a0, a1] = 1 ∧ chk a0 = 1) ∨ (gre [a0, a1] = 1 ∧ chk a0 = 0 ∧ chk a1 = 1) ∨ (gre [a0, a1] = 0 ∧ gre [a2, a1] = 1 ∧ chk a0 = 0 ∧ chk a1 = 0 ∧ chk a2 = 1) ∨ (lvl a0 = true ∧ lvl a1 = true ∧ lvl a2 = true) := by
    cases h0 : lvl a0
    · exact .inl ⟨(grv_no a0 a1 (.inl h0)).2.1, chk_no h0⟩
    · cases h1 : lvl a1
      · exact .inr (.inl ⟨(grv_no a0 a1 (.inr h1)).2.1, chk_yes h0, chk_no h1⟩)
      · cases h2 : lvl a2
        · exact .inr (.inr (.inl ⟨gre_yes _ _ h0 h1, (grv_no a2 a1 (.inl h2)).2.1, chk_yes h0, chk_yes h1, chk_no h2⟩))
        · exact .inr (.inr (.inr ⟨rfl, rfl, rfl⟩))
  rcases key with ⟨h1, h2⟩ | ⟨h1, h2, h3⟩ | ⟨h1, h2, h3, h4, h5⟩ | ⟨l0, l1, l2⟩
  iterate 3
    · go_enter Try.func6, Try.ntmps6
      go_wp2_with (first
        | (go_at_call 13; refine (at_of (ofPi_any _ _ _) (w0 := w) (by assumption)).mono ?_; clear hb0; rintro e w' ⟨rfl, hb0⟩)
        | (go_at_call 14; refine (at_of (ofSig_any _ _ _) (w0 := w) (by assumption)).mono ?_; clear hb0; rintro e w' ⟨rfl, hb0⟩)
        | (go_at_call 9; refine (at_of (check_any _ _) (w0 := w) (by assumption)).mono ?_; clear hb0; rintro e w' ⟨rfl, hb0⟩))
      go_ret
      exact ⟨rfl, hb0⟩
  · have g1 := gre_yes _ _ l0 l1
    have g2 := gre_yes _ _ l2 l1
    have g3 := gre_yes _ _ l1 l0
    have v1 := grv_two _ _ l0 l1
    have v2 := grv_two _ _ l2 l1
    have v3 := grv_two _ _ l1 l0
    have b0 := (lvl_iff _).1 l0
    have b1 := (lvl_iff _).1 l1
    have b2 := (lvl_iff _).1 l2
    have v31 : grv [a1, a0] = grv [a0, a1] := by rw [v1, v3]; unfold mx2; split <;> split <;> omega
    by_cases hz : a1 = 0
    · have p1 : piv a0 a1 = 0 := by unfold piv; simp [hz]
      have p2 : piv a2 a1 = 0 := by unfold piv; simp [hz]
      have v4 : grv [a0, a1] = a0 := by rw [v1]; unfold mx2; split <;> omega
      have hz' : (a1 == 0) = true := by simp [hz]
      rw [v4] at v31
      clear v1 v2 v3 l0 l1 l2 b0 b1 b2 hz
      by_cases hle : a0 ≤ a2
      · have hle' : decide (a0 ≤ a2) = true := by simp [hle]
        clear hle
        go_enter Try.func6, Try.ntmps6
        go_wp2_with (first
          | (go_at_call 13; refine (at_of (ofPi_any _ _ _) (w0 := w) (by assumption)).mono ?_; clear hb0; rintro e w' ⟨rfl, hb0⟩)
          | (go_at_call 14; refine (at_of (ofSig_any _ _ _) (w0 := w) (by assumption)).mono ?_; clear hb0; rintro e w' ⟨rfl, hb0⟩)
          | (go_at_call 9; refine (at_of (check_any _ _) (w0 := w) (by assumption)).mono ?_; clear hb0; rintro e w' ⟨rfl, hb0⟩))
        go_ret
        exact ⟨rfl, hb0⟩
      · have hle' : decide (a0 ≤ a2) = false := by simp; omega
        clear hle
        go_enter Try.func6, Try.ntmps6
        go_wp2_with (first
          | (go_at_call 13; refine (at_of (ofPi_any _ _ _) (w0 := w) (by assumption)).mono ?_; clear hb0; rintro e w' ⟨rfl, hb0⟩)
          | (go_at_call 14; refine (at_of (ofSig_any _ _ _) (w0 := w) (by assumption)).mono ?_; clear hb0; rintro e w' ⟨rfl, hb0⟩)
          | (go_at_call 9; refine (at_of (check_any _ _) (w0 := w) (by assumption)).mono ?_; clear hb0; rintro e w' ⟨rfl, hb0⟩))
        go_ret
        exact ⟨rfl, hb0⟩
    · have hz' : (a1 == 0) = false := by simp [hz]
      have p1 : piv a0 a1 = grv [a0, a1] := by unfold piv; rw [hz']; rfl
      have p2 : piv a2 a1 = grv [a2, a1] := by unfold piv; rw [hz']; rfl
      have q1 : a0 ≤ grv [a0, a1] := by rw [v1]; unfold mx2; split <;> omega
      have q2 : a1 ≤ grv [a0, a1] := by rw [v1]; unfold mx2; split <;> omega
      have q3 : bel a1 (grv [a0, a1]) = true := (bel_iff _ _).2 (by rw [v1]; unfold mx2; split <;> omega)
      have q4 : a0 ≤ a2 → ¬ grv [a2, a1] < grv [a0, a1] := by rw [v1, v2]; unfold mx2; split <;> split <;> omega
      obtain ⟨x, hx⟩ : ∃ x, grv [a0, a1] = x := ⟨_, rfl⟩
      obtain ⟨y, hy⟩ : ∃ y, grv [a2, a1] = y := ⟨_, rfl⟩
      rw [hx] at p1 q1 q2 q3 q4 v31
      rw [hy] at p2 q4
      clear v1 v2 v3 l0 l1 l2 b0 b1 b2 hz
      have r1 : decide (a0 ≤ x) = true := by simp [q1]
      have r2 : decide (a1 ≤ x) = true := by simp [q2]
      clear q1 q2
      by_cases hle : a0 ≤ a2
      · have hle' : decide (a0 ≤ a2) = true := by simp [hle]
        have r3 : decide (y < x) = false := by simpa using q4 hle
        clear hle q4
        go_enter Try.func6, Try.ntmps6
        go_wp2_with (first
          | (go_at_call 13; refine (at_of (ofPi_any _ _ _) (w0 := w) (by assumption)).mono ?_; clear hb0; rintro e w' ⟨rfl, hb0⟩)
          | (go_at_call 14; refine (at_of (ofSig_any _ _ _) (w0 := w) (by assumption)).mono ?_; clear hb0; rintro e w' ⟨rfl, hb0⟩)
          | (go_at_call 8; refine (at_of (below_any _ _ _) (w0 := w) (by assumption)).mono ?_; clear hb0; rintro e w' ⟨rfl, hb0⟩)
          | (go_at_call 9; refine (at_of (check_any _ _) (w0 := w) (by assumption)).mono ?_; clear hb0; rintro e w' ⟨rfl, hb0⟩))
        go_ret
        exact ⟨rfl, hb0⟩
      · have hle' : decide (a0 ≤ a2) = false := by simp; omega
        clear hle q4
        go_enter Try.func6, Try.ntmps6
        go_wp2_with (first
          | (go_at_call 13; refine (at_of (ofPi_any _ _ _) (w0 := w) (by assumption)).mono ?_; clear hb0; rintro e w' ⟨rfl, hb0⟩)
          | (go_at_call 14; refine (at_of (ofSig_any _ _ _) (w0 := w) (by assumption)).mono ?_; clear hb0; rintro e w' ⟨rfl, hb0⟩)
          | (go_at_call 8; refine (at_of (below_any _ _ _) (w0 := w) (by assumption)).mono ?_; clear hb0; rintro e w' ⟨rfl, hb0⟩)
          | (go_at_call 9; refine (at_of (check_any _ _) (w0 := w) (by assumption)).mono ?_; clear hb0; rintro e w' ⟨rfl, hb0⟩))
        go_ret
        exact ⟨rfl, hb0⟩

/-! ### THE ROW's STEP: WRITTEN OUT: LEAVE IT -/
set_option maxRecDepth 100000 in
theorem lifted (os : Os) (started : os.Started) (H : Type) (enc : TypeId × Value → H) :
    ReturnsInHanded {} Try.checked os 6 .any (Rows.levelPiSpec.pre6 enc Try.prog Try.f6 Rows.levelPiRow.domain false) (Rows.levelPiSpec.post enc Try.prog Try.f6 false true false false) := by
  refine returnsInHanded_of_change (C := Try.checked) own started (by kernel_rfl) Try.func6
    (ChangeSpec.witness6 (enc := enc) (C := Try.checked) false ⟨#[], #[.int .i64 0, .int .i64 0, .int .i64 0], []⟩ 8 (by kernel_rfl) (by kernel_rfl) (by kernel_rfl) (by kernel_rfl)) ?_
  intro W base args ds gs before hval0 hW hcnd _
  have hval : ∀ (j : Nat) t v, Try.f6.params[j]? = some t → args[j]? = some v → Value.okWide Try.prog W .any base t v := hval0
  have hW' := hW
  obtain ⟨p, q, hA0, hV, rfl, hfz, hnd⟩ := hW
  have hA : DataW.TrodAll enc Try.prog W 0 (fun _ => true) true Try.f6.params.toList args.toList ds p := hA0
  rw [Try.params6] at hA hval
  obtain ⟨v0, vs0, d0, ds0, p0, q0, hargs, rfl, rfl, h0, r0⟩ := trodAll_cons hA
  obtain ⟨v1, vs1, d1, ds1, p1, q1, rfl, rfl, rfl, h1, r1⟩ := trodAll_cons r0
  obtain ⟨v2, vs2, d2, ds2, p2, q2, rfl, rfl, rfl, h2, r2⟩ := trodAll_cons r1
  obtain ⟨rfl, rfl, rfl⟩ := trodAll_nil r2
  obtain rfl : args = #[v0, v1, v2] := by cases args; simp_all
  obtain ⟨rfl, rfl⟩ := trodVars_none hV
  obtain ⟨a0, rfl, rfl, rfl, w0⟩ := open_int Try.underlying3 (hval 0 3 v0 rfl rfl) h0
  obtain ⟨a1, rfl, rfl, rfl, w1⟩ := open_int Try.underlying3 (hval 1 3 v1 rfl rfl) h1
  obtain ⟨a2, rfl, rfl, rfl, w2⟩ := open_int Try.underlying3 (hval 2 3 v2 rfl rfl) h2
  clear hA0 hval0
  simp only [List.append_nil] at hW'
  refine (walk a0 a1 a2 w0 w1 w2 W).mono fun e W' ⟨he, hg⟩ => ?_
  subst he
  exact ⟨_, rfl, _, _, _, [], [], [], hW', (trodAll_cons_mk (shut_bool Try.underlying4 _) trodAll_mk0), (trodAll_cons_mk (shut_int Try.underlying3 w0) (trodAll_cons_mk (shut_int Try.underlying3 w1) (trodAll_cons_mk (shut_int Try.underlying3 w2) trodAll_mk0))), rfl, hg.frame _, fun h => by cases h⟩

theorem over : Rows.levelPiRow.holds Try.pinned (OpenSpec.ofChange Rows.levelPiSpec) :=
  OpenClaim.holds_of_wide 6 Try.f6 rfl rfl rfl rfl rfl rfl rfl ⟨rfl, rfl, rfl, rfl, rfl⟩ rfl rfl rfl rfl rfl (by kernel_rfl) Try.func6 (by kernel_rfl)
    (of_decide_eq_true (by kernel_rfl)) (by unfold Func.isWrapper; first | (rw [if_pos (by decide +kernel)]; kernel_rfl) | (rw [if_neg (by decide +kernel)]; exact ⟨rfl, rfl⟩))
    (fun os started H enc _ => lifted os started H enc)

/-- ████ THE STATEMENT ████ -/
theorem proved : Rows.LevelPiSaid :=
  over
#print axioms proved
end Go.Proofs.Ytimhenmhepincaa.levelPi
