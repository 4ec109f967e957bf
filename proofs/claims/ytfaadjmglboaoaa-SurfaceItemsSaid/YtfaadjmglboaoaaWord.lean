/-
  THE CLOSURES OF PACKAGE lexer, in a goroutine's own memory: which bytes they take.
-/
import Derived.Test.YtfaadjmglboaoaaMeta18
import Derived.Test.YtfaadjmglboaoaaRows
import Derived.WalkKit
import Derived.WalkSpells
import Derived.WalkLawsBesides
import Derived.Conc.CompanyMem
namespace Go.Proofs.Ytfaadjmglboaoaa
open Go.Conc Go.RowKit

/-- The child's goals. -/
abbrev GB (main : Bool) : (Goroutine → PH → Prop) → Prop := Closed Try.prog main viewB
theorem gb {main : Bool} : ∀ E, GB main E → Closed Try.prog main viewB E := fun _ h => h

section
variable {V : Type} {P : Program} {main : Bool} {X : View V} {GL : (Goroutine → V → Prop) → Prop} {kd : Bool} {fn : FuncId} {Q : Exit → Act → V → Prop} {a : Act} {v : V}
/-- One operation that turns nothing and lists nothing. -/
theorem opsG_pure (hGL : ∀ E, GL E → Closed P main X E) (I : Idle X) {ops : Array Oper} {i : Nat} {rest : List Nat} {o : Oper} (ho : ops[i]? = some o) (hw : Region.wanted o (yielded ops a.tmps) = true)
    (h : ∀ w, X.Holds v w → (∀ K : Act → World → Prop, (∀ a', OpsG GL kd fn ops rest Q a' v → K a' w) → uponK o a K ((execOp a.eval o).run P w)) ∧ (execOp a.eval o).events P w #[] = #[]) : OpsG GL kd fn ops (i :: rest) Q a v :=
  opsG_cons hGL ho hw fun w hw' => (h w hw').1 _ fun a' x => ⟨v, by rw [listed_nil (h w hw').2]; exact I v w hw', x⟩
end

/-- Which bytes are word bytes. -/
def wordOf (c : Int) : Bool := (decide (97 ≤ bits .or .u8 c 32) && decide (bits .or .u8 c 32 ≤ 122)) || (decide (48 ≤ c) && decide (c ≤ 57)) || c == 95

set_option maxHeartbeats 1000000 in
theorem one_b {main : Bool} (h : PH) (s : Value) : CallsG Try.prog (GB main) 70 #[s] h fun r h' => r = .int .i64 1 ∧ h' = h := by
  refine callsG_of_wp gb idleB Try.func70 rfl ?_
  rw [Try.ntmps70]
  repeat first
    | (refine opsG_pure gb idleB rfl (by rfl) fun w hw => ⟨fun K hK => ?_, by simp [go_sem]⟩; go_simp; refine hK _ ?_; clear hK K; try walk_nrm)
    | refine wpG_region gb idleB ?_ | refine wpG_seq gb idleB ?_ | refine wpG_block gb idleB ?_ | refine wpG_skip gb idleB ?_ | refine wpG_label gb idleB ?_ | refine wpG_ret gb idleB ?_ | refine wpG_exit gb idleB ?_ | refine opsG_nil gb idleB ?_
  exact ⟨.inr rfl, rfl, _, resultsC_tmp (by rfl) _, by simp⟩

set_option maxHeartbeats 1000000 in
theorem noLine_b {main : Bool} (h : PH) (c : Nat) : CallsG Try.prog (GB main) 71 #[.int .u8 c] h fun r h' => r = .bool ((c : Int) != 10) ∧ h' = h := by
  refine callsG_of_wp gb idleB Try.func71 rfl ?_
  rw [Try.ntmps71]
  repeat first
    | (refine opsG_pure gb idleB rfl (by rfl) fun w hw => ⟨fun K hK => ?_, by simp [go_sem]⟩; go_simp; refine hK _ ?_; clear hK K; try walk_nrm)
    | refine wpG_region gb idleB ?_ | refine wpG_seq gb idleB ?_ | refine wpG_block gb idleB ?_ | refine wpG_skip gb idleB ?_ | refine wpG_label gb idleB ?_ | refine wpG_ret gb idleB ?_ | refine wpG_exit gb idleB ?_ | refine opsG_nil gb idleB ?_
  exact ⟨.inr rfl, rfl, _, resultsC_tmp (by rfl) _, by simp⟩

set_option maxHeartbeats 4000000 in
theorem word_b {main : Bool} (h : PH) (c : Int) : CallsG Try.prog (GB main) 48 #[.int .u8 c] h fun r h' => r = .bool (wordOf c) ∧ h' = h := by
  refine callsG_of_wp gb idleB Try.func48 rfl ?_
  rw [Try.ntmps48]
  cases h1 : decide (97 ≤ bits .or .u8 c 32) <;> cases h2 : decide (bits .or .u8 c 32 ≤ 122) <;> cases h3 : decide (48 ≤ c) <;> cases h4 : decide (c ≤ 57) <;> cases h5 : (c == 95)
  all_goals
    repeat first
      | (refine opsG_pure gb idleB rfl (by rfl) fun w hw => ⟨fun K hK => ?_, by simp [go_sem]⟩; go_simp; refine hK _ ?_; clear hK K; try walk_nrm)
      | (refine opsG_unwanted gb idleB rfl (by rfl) ?_; try walk_nrm)
      | refine wpG_region gb idleB ?_ | refine wpG_seq gb idleB ?_ | refine wpG_block gb idleB ?_ | refine wpG_skip gb idleB ?_ | refine wpG_label gb idleB ?_ | refine wpG_ret gb idleB ?_ | refine wpG_exit gb idleB ?_ | refine opsG_nil gb idleB ?_
    exact ⟨.inr rfl, rfl, _, resultsC_tmp (by rfl) _, by simp [wordOf, h1, h2, h3, h4, h5]⟩
end Go.Proofs.Ytfaadjmglboaoaa
