/-
  corniceref06.Word: which bytes are word bytes by the document; that they are the lexer's.
-/
import Derived.Test.YtfaadjmglboaoaaShown
namespace Go.Proofs.Ytfaadjmglboaoaa
open Go.Conc Go.RowKit

section ylds
variable {ρ : Operand → Value} {d : Option Tmp} {ty : TypeId} {pos : String} {af : Array Edge} {gu : Option (Nat × Bool)}
theorem y_geq_u8 {x y : Operand} {m k : Int} (hx : ρ x = .int .u8 m) (hy : ρ y = .int .u8 k) {r : Bool} (hr : decide (k ≤ m) = r) : Ylds ρ ⟨d, .binOp .geq 5 x y 5, ty, pos, af, gu⟩ (.bool r) := fun w =>
  ⟨eq_of_K fun K hK => by subst hr; go_simp; exact hK, by simp [go_sem, hx, hy]⟩
theorem y_leq_u8 {x y : Operand} {m k : Int} (hx : ρ x = .int .u8 m) (hy : ρ y = .int .u8 k) {r : Bool} (hr : decide (m ≤ k) = r) : Ylds ρ ⟨d, .binOp .leq 5 x y 5, ty, pos, af, gu⟩ (.bool r) := fun w =>
  ⟨eq_of_K fun K hK => by subst hr; go_simp; exact hK, by simp [go_sem, hx, hy]⟩
end ylds

/-- Word bytes by the document. -/
def refWord (c : Int) : Bool := (decide (97 ≤ c) && decide (c ≤ 122)) || (decide (65 ≤ c) && decide (c ≤ 90)) || (decide (48 ≤ c) && decide (c ≤ 57)) || c == 95

theorem refWord_all : ((List.range 256).all fun n => refWord (n : Int) == wordOf (n : Int)) = true := by decide +kernel
theorem refWord_eq (c : UInt8) : refWord (c.toNat : Int) = wordOf (c.toNat : Int) := by
  have := List.all_eq_true.1 refWord_all c.toNat (List.mem_range.2 c.toNat_lt)
  simpa using this

set_option maxHeartbeats 1000000 in
theorem ref28 {main : Bool} (h : PH) (c : Int) : CallsG Try.prog (GB main) 28 #[.int .u8 c] h fun r h' => r = .bool (refWord c) ∧ h' = h := by
  refine callsG_of_wp (c := Try.f28.body.getD .skip) gb idleB Try.func28 rfl ?_
  rw [Try.ntmps28]
  rw [fr_of (n := 29) (by simp) [(0, .int .u8 c)] ⟨by simp, trivial⟩]
  generalize (fun j => (#[Value.int .u8 c] ++ Array.replicate (29 - #[Value.int .u8 c].size) undef).getD j undef) = σ
  refine wpG_seq gb idleB ?_
  refine wpG_region gb idleB ?_
  refine opsF_val gb idleB rfl (by rfl) rfl (x := .bool false) (y_assign rfl) ?_
  refine opsG_nil gb idleB ?_
  refine wpG_seq gb idleB ?_
  refine wpG_region gb idleB ?_
  refine opsF_val gb idleB rfl (by rfl) rfl (x := .int .u8 c) (y_move rfl) ?_
  refine opsF_val gb idleB rfl (by rfl) rfl (x := .bool (decide ((97 : Int) ≤ c))) (y_geq_u8 rfl rfl rfl) ?_
  cases hc1 : decide ((97 : Int) ≤ c)
  · refine opsF_val gb idleB rfl (by rfl) rfl (x := .bool false) (y_move rfl) ?_
    refine opsF_skip gb idleB rfl (by rfl) rfl ?_
    refine opsF_skip gb idleB rfl (by rfl) rfl ?_
    refine opsF_val gb idleB rfl (by rfl) rfl (x := .bool false) (y_pick (t := false) rfl rfl) ?_
    refine opsF_val gb idleB rfl (by rfl) rfl (x := .bool false) (y_move rfl) ?_
    refine opsF_val gb idleB rfl (by rfl) rfl (x := .int .u8 c) (y_move rfl) ?_
    refine opsF_val gb idleB rfl (by rfl) rfl (x := .bool (decide ((65 : Int) ≤ c))) (y_geq_u8 rfl rfl rfl) ?_
    cases hc2 : decide ((65 : Int) ≤ c)
    · refine opsF_val gb idleB rfl (by rfl) rfl (x := .bool false) (y_move rfl) ?_
      refine opsF_skip gb idleB rfl (by rfl) rfl ?_
      refine opsF_skip gb idleB rfl (by rfl) rfl ?_
      refine opsF_val gb idleB rfl (by rfl) rfl (x := .bool false) (y_pick (t := false) rfl rfl) ?_
      refine opsF_val gb idleB rfl (by rfl) rfl (x := .bool false) (y_pick (t := false) rfl rfl) ?_
      refine opsF_val gb idleB rfl (by rfl) rfl (x := .bool false) (y_move rfl) ?_
      refine opsF_val gb idleB rfl (by rfl) rfl (x := .int .u8 c) (y_move rfl) ?_
      refine opsF_val gb idleB rfl (by rfl) rfl (x := .bool (decide ((48 : Int) ≤ c))) (y_geq_u8 rfl rfl rfl) ?_
      cases hc3 : decide ((48 : Int) ≤ c)
      · refine opsF_val gb idleB rfl (by rfl) rfl (x := .bool false) (y_move rfl) ?_
        refine opsF_skip gb idleB rfl (by rfl) rfl ?_
        refine opsF_skip gb idleB rfl (by rfl) rfl ?_
        refine opsF_val gb idleB rfl (by rfl) rfl (x := .bool false) (y_pick (t := false) rfl rfl) ?_
        refine opsF_val gb idleB rfl (by rfl) rfl (x := .bool false) (y_pick (t := false) rfl rfl) ?_
        refine opsF_val gb idleB rfl (by rfl) rfl (x := .bool false) (y_move rfl) ?_
        refine opsF_val gb idleB rfl (by rfl) rfl (x := .int .u8 c) (y_move rfl) ?_
        refine opsF_val gb idleB rfl (by rfl) rfl (x := .bool ((c : Int) == 95)) (y_eql_u8 rfl rfl rfl) ?_
        cases hc4 : ((c : Int) == 95)
        · refine opsF_val gb idleB rfl (by rfl) rfl (x := .bool false) (y_pick (t := false) rfl rfl) ?_
          refine opsF_val gb idleB rfl (by rfl) rfl (x := .bool false) (y_assign rfl) ?_
          refine opsG_nil gb idleB ?_
          refine wpG_ret gb idleB ?_
          exact ⟨.inr rfl, rfl, _, resultsC_tmp (by rfl) _, (fr_ret (x := .bool false) (by decide) rfl).trans (by simp [refWord, hc1, hc2, hc3, hc4]), rfl⟩
        · refine opsF_val gb idleB rfl (by rfl) rfl (x := .bool true) (y_pick (t := false) rfl rfl) ?_
          refine opsF_val gb idleB rfl (by rfl) rfl (x := .bool true) (y_assign rfl) ?_
          refine opsG_nil gb idleB ?_
          refine wpG_ret gb idleB ?_
          exact ⟨.inr rfl, rfl, _, resultsC_tmp (by rfl) _, (fr_ret (x := .bool true) (by decide) rfl).trans (by simp [refWord, hc1, hc2, hc3, hc4]), rfl⟩
      · refine opsF_val gb idleB rfl (by rfl) rfl (x := .bool true) (y_move rfl) ?_
        refine opsF_val gb idleB rfl (by rfl) rfl (x := .int .u8 c) (y_move rfl) ?_
        refine opsF_val gb idleB rfl (by rfl) rfl (x := .bool (decide ((c : Int) ≤ 57))) (y_leq_u8 rfl rfl rfl) ?_
        cases hc4 : decide ((c : Int) ≤ 57)
        · refine opsF_val gb idleB rfl (by rfl) rfl (x := .bool false) (y_pick (t := true) rfl rfl) ?_
          refine opsF_val gb idleB rfl (by rfl) rfl (x := .bool false) (y_pick (t := false) rfl rfl) ?_
          refine opsF_val gb idleB rfl (by rfl) rfl (x := .bool false) (y_move rfl) ?_
          refine opsF_val gb idleB rfl (by rfl) rfl (x := .int .u8 c) (y_move rfl) ?_
          refine opsF_val gb idleB rfl (by rfl) rfl (x := .bool ((c : Int) == 95)) (y_eql_u8 rfl rfl rfl) ?_
          cases hc5 : ((c : Int) == 95)
          · refine opsF_val gb idleB rfl (by rfl) rfl (x := .bool false) (y_pick (t := false) rfl rfl) ?_
            refine opsF_val gb idleB rfl (by rfl) rfl (x := .bool false) (y_assign rfl) ?_
            refine opsG_nil gb idleB ?_
            refine wpG_ret gb idleB ?_
            exact ⟨.inr rfl, rfl, _, resultsC_tmp (by rfl) _, (fr_ret (x := .bool false) (by decide) rfl).trans (by simp [refWord, hc1, hc2, hc3, hc4, hc5]), rfl⟩
          · refine opsF_val gb idleB rfl (by rfl) rfl (x := .bool true) (y_pick (t := false) rfl rfl) ?_
            refine opsF_val gb idleB rfl (by rfl) rfl (x := .bool true) (y_assign rfl) ?_
            refine opsG_nil gb idleB ?_
            refine wpG_ret gb idleB ?_
            exact ⟨.inr rfl, rfl, _, resultsC_tmp (by rfl) _, (fr_ret (x := .bool true) (by decide) rfl).trans (by simp [refWord, hc1, hc2, hc3, hc4, hc5]), rfl⟩
        · refine opsF_val gb idleB rfl (by rfl) rfl (x := .bool true) (y_pick (t := true) rfl rfl) ?_
          refine opsF_val gb idleB rfl (by rfl) rfl (x := .bool true) (y_pick (t := false) rfl rfl) ?_
          refine opsF_val gb idleB rfl (by rfl) rfl (x := .bool true) (y_move rfl) ?_
          refine opsF_skip gb idleB rfl (by rfl) rfl ?_
          refine opsF_skip gb idleB rfl (by rfl) rfl ?_
          refine opsF_val gb idleB rfl (by rfl) rfl (x := .bool true) (y_pick (t := true) rfl rfl) ?_
          refine opsF_val gb idleB rfl (by rfl) rfl (x := .bool true) (y_assign rfl) ?_
          refine opsG_nil gb idleB ?_
          refine wpG_ret gb idleB ?_
          exact ⟨.inr rfl, rfl, _, resultsC_tmp (by rfl) _, (fr_ret (x := .bool true) (by decide) rfl).trans (by simp [refWord, hc1, hc2, hc3, hc4]), rfl⟩
    · refine opsF_val gb idleB rfl (by rfl) rfl (x := .bool true) (y_move rfl) ?_
      refine opsF_val gb idleB rfl (by rfl) rfl (x := .int .u8 c) (y_move rfl) ?_
      refine opsF_val gb idleB rfl (by rfl) rfl (x := .bool (decide ((c : Int) ≤ 90))) (y_leq_u8 rfl rfl rfl) ?_
      cases hc3 : decide ((c : Int) ≤ 90)
      · refine opsF_val gb idleB rfl (by rfl) rfl (x := .bool false) (y_pick (t := true) rfl rfl) ?_
        refine opsF_val gb idleB rfl (by rfl) rfl (x := .bool false) (y_pick (t := false) rfl rfl) ?_
        refine opsF_val gb idleB rfl (by rfl) rfl (x := .bool false) (y_move rfl) ?_
        refine opsF_val gb idleB rfl (by rfl) rfl (x := .int .u8 c) (y_move rfl) ?_
        refine opsF_val gb idleB rfl (by rfl) rfl (x := .bool (decide ((48 : Int) ≤ c))) (y_geq_u8 rfl rfl rfl) ?_
        cases hc4 : decide ((48 : Int) ≤ c)
        · refine opsF_val gb idleB rfl (by rfl) rfl (x := .bool false) (y_move rfl) ?_
          refine opsF_skip gb idleB rfl (by rfl) rfl ?_
          refine opsF_skip gb idleB rfl (by rfl) rfl ?_
          refine opsF_val gb idleB rfl (by rfl) rfl (x := .bool false) (y_pick (t := false) rfl rfl) ?_
          refine opsF_val gb idleB rfl (by rfl) rfl (x := .bool false) (y_pick (t := false) rfl rfl) ?_
          refine opsF_val gb idleB rfl (by rfl) rfl (x := .bool false) (y_move rfl) ?_
          refine opsF_val gb idleB rfl (by rfl) rfl (x := .int .u8 c) (y_move rfl) ?_
          refine opsF_val gb idleB rfl (by rfl) rfl (x := .bool ((c : Int) == 95)) (y_eql_u8 rfl rfl rfl) ?_
          cases hc5 : ((c : Int) == 95)
          · refine opsF_val gb idleB rfl (by rfl) rfl (x := .bool false) (y_pick (t := false) rfl rfl) ?_
            refine opsF_val gb idleB rfl (by rfl) rfl (x := .bool false) (y_assign rfl) ?_
            refine opsG_nil gb idleB ?_
            refine wpG_ret gb idleB ?_
            exact ⟨.inr rfl, rfl, _, resultsC_tmp (by rfl) _, (fr_ret (x := .bool false) (by decide) rfl).trans (by simp [refWord, hc1, hc2, hc3, hc4, hc5]), rfl⟩
          · refine opsF_val gb idleB rfl (by rfl) rfl (x := .bool true) (y_pick (t := false) rfl rfl) ?_
            refine opsF_val gb idleB rfl (by rfl) rfl (x := .bool true) (y_assign rfl) ?_
            refine opsG_nil gb idleB ?_
            refine wpG_ret gb idleB ?_
            exact ⟨.inr rfl, rfl, _, resultsC_tmp (by rfl) _, (fr_ret (x := .bool true) (by decide) rfl).trans (by simp [refWord, hc1, hc2, hc3, hc4, hc5]), rfl⟩
        · refine opsF_val gb idleB rfl (by rfl) rfl (x := .bool true) (y_move rfl) ?_
          refine opsF_val gb idleB rfl (by rfl) rfl (x := .int .u8 c) (y_move rfl) ?_
          refine opsF_val gb idleB rfl (by rfl) rfl (x := .bool (decide ((c : Int) ≤ 57))) (y_leq_u8 rfl rfl rfl) ?_
          cases hc5 : decide ((c : Int) ≤ 57)
          · refine opsF_val gb idleB rfl (by rfl) rfl (x := .bool false) (y_pick (t := true) rfl rfl) ?_
            refine opsF_val gb idleB rfl (by rfl) rfl (x := .bool false) (y_pick (t := false) rfl rfl) ?_
            refine opsF_val gb idleB rfl (by rfl) rfl (x := .bool false) (y_move rfl) ?_
            refine opsF_val gb idleB rfl (by rfl) rfl (x := .int .u8 c) (y_move rfl) ?_
            refine opsF_val gb idleB rfl (by rfl) rfl (x := .bool ((c : Int) == 95)) (y_eql_u8 rfl rfl rfl) ?_
            cases hc6 : ((c : Int) == 95)
            · refine opsF_val gb idleB rfl (by rfl) rfl (x := .bool false) (y_pick (t := false) rfl rfl) ?_
              refine opsF_val gb idleB rfl (by rfl) rfl (x := .bool false) (y_assign rfl) ?_
              refine opsG_nil gb idleB ?_
              refine wpG_ret gb idleB ?_
              exact ⟨.inr rfl, rfl, _, resultsC_tmp (by rfl) _, (fr_ret (x := .bool false) (by decide) rfl).trans (by simp [refWord, hc1, hc2, hc3, hc4, hc5, hc6]), rfl⟩
            · refine opsF_val gb idleB rfl (by rfl) rfl (x := .bool true) (y_pick (t := false) rfl rfl) ?_
              refine opsF_val gb idleB rfl (by rfl) rfl (x := .bool true) (y_assign rfl) ?_
              refine opsG_nil gb idleB ?_
              refine wpG_ret gb idleB ?_
              exact ⟨.inr rfl, rfl, _, resultsC_tmp (by rfl) _, (fr_ret (x := .bool true) (by decide) rfl).trans (by simp [refWord, hc1, hc2, hc3, hc4, hc5, hc6]), rfl⟩
          · refine opsF_val gb idleB rfl (by rfl) rfl (x := .bool true) (y_pick (t := true) rfl rfl) ?_
            refine opsF_val gb idleB rfl (by rfl) rfl (x := .bool true) (y_pick (t := false) rfl rfl) ?_
            refine opsF_val gb idleB rfl (by rfl) rfl (x := .bool true) (y_move rfl) ?_
            refine opsF_skip gb idleB rfl (by rfl) rfl ?_
            refine opsF_skip gb idleB rfl (by rfl) rfl ?_
            refine opsF_val gb idleB rfl (by rfl) rfl (x := .bool true) (y_pick (t := true) rfl rfl) ?_
            refine opsF_val gb idleB rfl (by rfl) rfl (x := .bool true) (y_assign rfl) ?_
            refine opsG_nil gb idleB ?_
            refine wpG_ret gb idleB ?_
            exact ⟨.inr rfl, rfl, _, resultsC_tmp (by rfl) _, (fr_ret (x := .bool true) (by decide) rfl).trans (by simp [refWord, hc1, hc2, hc3, hc4, hc5]), rfl⟩
      · refine opsF_val gb idleB rfl (by rfl) rfl (x := .bool true) (y_pick (t := true) rfl rfl) ?_
        refine opsF_val gb idleB rfl (by rfl) rfl (x := .bool true) (y_pick (t := false) rfl rfl) ?_
        refine opsF_val gb idleB rfl (by rfl) rfl (x := .bool true) (y_move rfl) ?_
        refine opsF_skip gb idleB rfl (by rfl) rfl ?_
        refine opsF_skip gb idleB rfl (by rfl) rfl ?_
        refine opsF_skip gb idleB rfl (by rfl) rfl ?_
        refine opsF_skip gb idleB rfl (by rfl) rfl ?_
        refine opsF_skip gb idleB rfl (by rfl) rfl ?_
        refine opsF_skip gb idleB rfl (by rfl) rfl ?_
        refine opsF_val gb idleB rfl (by rfl) rfl (x := .bool true) (y_pick (t := true) rfl rfl) ?_
        refine opsF_val gb idleB rfl (by rfl) rfl (x := .bool true) (y_move rfl) ?_
        refine opsF_skip gb idleB rfl (by rfl) rfl ?_
        refine opsF_skip gb idleB rfl (by rfl) rfl ?_
        refine opsF_val gb idleB rfl (by rfl) rfl (x := .bool true) (y_pick (t := true) rfl rfl) ?_
        refine opsF_val gb idleB rfl (by rfl) rfl (x := .bool true) (y_assign rfl) ?_
        refine opsG_nil gb idleB ?_
        refine wpG_ret gb idleB ?_
        exact ⟨.inr rfl, rfl, _, resultsC_tmp (by rfl) _, (fr_ret (x := .bool true) (by decide) rfl).trans (by simp [refWord, hc1, hc2, hc3]), rfl⟩
  · refine opsF_val gb idleB rfl (by rfl) rfl (x := .bool true) (y_move rfl) ?_
    refine opsF_val gb idleB rfl (by rfl) rfl (x := .int .u8 c) (y_move rfl) ?_
    refine opsF_val gb idleB rfl (by rfl) rfl (x := .bool (decide ((c : Int) ≤ 122))) (y_leq_u8 rfl rfl rfl) ?_
    cases hc2 : decide ((c : Int) ≤ 122)
    · refine opsF_val gb idleB rfl (by rfl) rfl (x := .bool false) (y_pick (t := true) rfl rfl) ?_
      refine opsF_val gb idleB rfl (by rfl) rfl (x := .bool false) (y_move rfl) ?_
      refine opsF_val gb idleB rfl (by rfl) rfl (x := .int .u8 c) (y_move rfl) ?_
      refine opsF_val gb idleB rfl (by rfl) rfl (x := .bool (decide ((65 : Int) ≤ c))) (y_geq_u8 rfl rfl rfl) ?_
      cases hc3 : decide ((65 : Int) ≤ c)
      · refine opsF_val gb idleB rfl (by rfl) rfl (x := .bool false) (y_move rfl) ?_
        refine opsF_skip gb idleB rfl (by rfl) rfl ?_
        refine opsF_skip gb idleB rfl (by rfl) rfl ?_
        refine opsF_val gb idleB rfl (by rfl) rfl (x := .bool false) (y_pick (t := false) rfl rfl) ?_
        refine opsF_val gb idleB rfl (by rfl) rfl (x := .bool false) (y_pick (t := false) rfl rfl) ?_
        refine opsF_val gb idleB rfl (by rfl) rfl (x := .bool false) (y_move rfl) ?_
        refine opsF_val gb idleB rfl (by rfl) rfl (x := .int .u8 c) (y_move rfl) ?_
        refine opsF_val gb idleB rfl (by rfl) rfl (x := .bool (decide ((48 : Int) ≤ c))) (y_geq_u8 rfl rfl rfl) ?_
        cases hc4 : decide ((48 : Int) ≤ c)
        · refine opsF_val gb idleB rfl (by rfl) rfl (x := .bool false) (y_move rfl) ?_
          refine opsF_skip gb idleB rfl (by rfl) rfl ?_
          refine opsF_skip gb idleB rfl (by rfl) rfl ?_
          refine opsF_val gb idleB rfl (by rfl) rfl (x := .bool false) (y_pick (t := false) rfl rfl) ?_
          refine opsF_val gb idleB rfl (by rfl) rfl (x := .bool false) (y_pick (t := false) rfl rfl) ?_
          refine opsF_val gb idleB rfl (by rfl) rfl (x := .bool false) (y_move rfl) ?_
          refine opsF_val gb idleB rfl (by rfl) rfl (x := .int .u8 c) (y_move rfl) ?_
          refine opsF_val gb idleB rfl (by rfl) rfl (x := .bool ((c : Int) == 95)) (y_eql_u8 rfl rfl rfl) ?_
          cases hc5 : ((c : Int) == 95)
          · refine opsF_val gb idleB rfl (by rfl) rfl (x := .bool false) (y_pick (t := false) rfl rfl) ?_
            refine opsF_val gb idleB rfl (by rfl) rfl (x := .bool false) (y_assign rfl) ?_
            refine opsG_nil gb idleB ?_
            refine wpG_ret gb idleB ?_
            exact ⟨.inr rfl, rfl, _, resultsC_tmp (by rfl) _, (fr_ret (x := .bool false) (by decide) rfl).trans (by simp [refWord, hc1, hc2, hc3, hc4, hc5]), rfl⟩
          · refine opsF_val gb idleB rfl (by rfl) rfl (x := .bool true) (y_pick (t := false) rfl rfl) ?_
            refine opsF_val gb idleB rfl (by rfl) rfl (x := .bool true) (y_assign rfl) ?_
            refine opsG_nil gb idleB ?_
            refine wpG_ret gb idleB ?_
            exact ⟨.inr rfl, rfl, _, resultsC_tmp (by rfl) _, (fr_ret (x := .bool true) (by decide) rfl).trans (by simp [refWord, hc1, hc2, hc3, hc4, hc5]), rfl⟩
        · refine opsF_val gb idleB rfl (by rfl) rfl (x := .bool true) (y_move rfl) ?_
          refine opsF_val gb idleB rfl (by rfl) rfl (x := .int .u8 c) (y_move rfl) ?_
          refine opsF_val gb idleB rfl (by rfl) rfl (x := .bool (decide ((c : Int) ≤ 57))) (y_leq_u8 rfl rfl rfl) ?_
          cases hc5 : decide ((c : Int) ≤ 57)
          · refine opsF_val gb idleB rfl (by rfl) rfl (x := .bool false) (y_pick (t := true) rfl rfl) ?_
            refine opsF_val gb idleB rfl (by rfl) rfl (x := .bool false) (y_pick (t := false) rfl rfl) ?_
            refine opsF_val gb idleB rfl (by rfl) rfl (x := .bool false) (y_move rfl) ?_
            refine opsF_val gb idleB rfl (by rfl) rfl (x := .int .u8 c) (y_move rfl) ?_
            refine opsF_val gb idleB rfl (by rfl) rfl (x := .bool ((c : Int) == 95)) (y_eql_u8 rfl rfl rfl) ?_
            cases hc6 : ((c : Int) == 95)
            · refine opsF_val gb idleB rfl (by rfl) rfl (x := .bool false) (y_pick (t := false) rfl rfl) ?_
              refine opsF_val gb idleB rfl (by rfl) rfl (x := .bool false) (y_assign rfl) ?_
              refine opsG_nil gb idleB ?_
              refine wpG_ret gb idleB ?_
              exact ⟨.inr rfl, rfl, _, resultsC_tmp (by rfl) _, (fr_ret (x := .bool false) (by decide) rfl).trans (by simp [refWord, hc1, hc2, hc3, hc4, hc5, hc6]), rfl⟩
            · refine opsF_val gb idleB rfl (by rfl) rfl (x := .bool true) (y_pick (t := false) rfl rfl) ?_
              refine opsF_val gb idleB rfl (by rfl) rfl (x := .bool true) (y_assign rfl) ?_
              refine opsG_nil gb idleB ?_
              refine wpG_ret gb idleB ?_
              exact ⟨.inr rfl, rfl, _, resultsC_tmp (by rfl) _, (fr_ret (x := .bool true) (by decide) rfl).trans (by simp [refWord, hc1, hc2, hc3, hc4, hc5, hc6]), rfl⟩
          · refine opsF_val gb idleB rfl (by rfl) rfl (x := .bool true) (y_pick (t := true) rfl rfl) ?_
            refine opsF_val gb idleB rfl (by rfl) rfl (x := .bool true) (y_pick (t := false) rfl rfl) ?_
            refine opsF_val gb idleB rfl (by rfl) rfl (x := .bool true) (y_move rfl) ?_
            refine opsF_skip gb idleB rfl (by rfl) rfl ?_
            refine opsF_skip gb idleB rfl (by rfl) rfl ?_
            refine opsF_val gb idleB rfl (by rfl) rfl (x := .bool true) (y_pick (t := true) rfl rfl) ?_
            refine opsF_val gb idleB rfl (by rfl) rfl (x := .bool true) (y_assign rfl) ?_
            refine opsG_nil gb idleB ?_
            refine wpG_ret gb idleB ?_
            exact ⟨.inr rfl, rfl, _, resultsC_tmp (by rfl) _, (fr_ret (x := .bool true) (by decide) rfl).trans (by simp [refWord, hc1, hc2, hc3, hc4, hc5]), rfl⟩
      · refine opsF_val gb idleB rfl (by rfl) rfl (x := .bool true) (y_move rfl) ?_
        refine opsF_val gb idleB rfl (by rfl) rfl (x := .int .u8 c) (y_move rfl) ?_
        refine opsF_val gb idleB rfl (by rfl) rfl (x := .bool (decide ((c : Int) ≤ 90))) (y_leq_u8 rfl rfl rfl) ?_
        cases hc4 : decide ((c : Int) ≤ 90)
        · refine opsF_val gb idleB rfl (by rfl) rfl (x := .bool false) (y_pick (t := true) rfl rfl) ?_
          refine opsF_val gb idleB rfl (by rfl) rfl (x := .bool false) (y_pick (t := false) rfl rfl) ?_
          refine opsF_val gb idleB rfl (by rfl) rfl (x := .bool false) (y_move rfl) ?_
          refine opsF_val gb idleB rfl (by rfl) rfl (x := .int .u8 c) (y_move rfl) ?_
          refine opsF_val gb idleB rfl (by rfl) rfl (x := .bool (decide ((48 : Int) ≤ c))) (y_geq_u8 rfl rfl rfl) ?_
          cases hc5 : decide ((48 : Int) ≤ c)
          · refine opsF_val gb idleB rfl (by rfl) rfl (x := .bool false) (y_move rfl) ?_
            refine opsF_skip gb idleB rfl (by rfl) rfl ?_
            refine opsF_skip gb idleB rfl (by rfl) rfl ?_
            refine opsF_val gb idleB rfl (by rfl) rfl (x := .bool false) (y_pick (t := false) rfl rfl) ?_
            refine opsF_val gb idleB rfl (by rfl) rfl (x := .bool false) (y_pick (t := false) rfl rfl) ?_
            refine opsF_val gb idleB rfl (by rfl) rfl (x := .bool false) (y_move rfl) ?_
            refine opsF_val gb idleB rfl (by rfl) rfl (x := .int .u8 c) (y_move rfl) ?_
            refine opsF_val gb idleB rfl (by rfl) rfl (x := .bool ((c : Int) == 95)) (y_eql_u8 rfl rfl rfl) ?_
            cases hc6 : ((c : Int) == 95)
            · refine opsF_val gb idleB rfl (by rfl) rfl (x := .bool false) (y_pick (t := false) rfl rfl) ?_
              refine opsF_val gb idleB rfl (by rfl) rfl (x := .bool false) (y_assign rfl) ?_
              refine opsG_nil gb idleB ?_
              refine wpG_ret gb idleB ?_
              exact ⟨.inr rfl, rfl, _, resultsC_tmp (by rfl) _, (fr_ret (x := .bool false) (by decide) rfl).trans (by simp [refWord, hc1, hc2, hc3, hc4, hc5, hc6]), rfl⟩
            · refine opsF_val gb idleB rfl (by rfl) rfl (x := .bool true) (y_pick (t := false) rfl rfl) ?_
              refine opsF_val gb idleB rfl (by rfl) rfl (x := .bool true) (y_assign rfl) ?_
              refine opsG_nil gb idleB ?_
              refine wpG_ret gb idleB ?_
              exact ⟨.inr rfl, rfl, _, resultsC_tmp (by rfl) _, (fr_ret (x := .bool true) (by decide) rfl).trans (by simp [refWord, hc1, hc2, hc3, hc4, hc5, hc6]), rfl⟩
          · refine opsF_val gb idleB rfl (by rfl) rfl (x := .bool true) (y_move rfl) ?_
            refine opsF_val gb idleB rfl (by rfl) rfl (x := .int .u8 c) (y_move rfl) ?_
            refine opsF_val gb idleB rfl (by rfl) rfl (x := .bool (decide ((c : Int) ≤ 57))) (y_leq_u8 rfl rfl rfl) ?_
            cases hc6 : decide ((c : Int) ≤ 57)
            · refine opsF_val gb idleB rfl (by rfl) rfl (x := .bool false) (y_pick (t := true) rfl rfl) ?_
              refine opsF_val gb idleB rfl (by rfl) rfl (x := .bool false) (y_pick (t := false) rfl rfl) ?_
              refine opsF_val gb idleB rfl (by rfl) rfl (x := .bool false) (y_move rfl) ?_
              refine opsF_val gb idleB rfl (by rfl) rfl (x := .int .u8 c) (y_move rfl) ?_
              refine opsF_val gb idleB rfl (by rfl) rfl (x := .bool ((c : Int) == 95)) (y_eql_u8 rfl rfl rfl) ?_
              cases hc7 : ((c : Int) == 95)
              · refine opsF_val gb idleB rfl (by rfl) rfl (x := .bool false) (y_pick (t := false) rfl rfl) ?_
                refine opsF_val gb idleB rfl (by rfl) rfl (x := .bool false) (y_assign rfl) ?_
                refine opsG_nil gb idleB ?_
                refine wpG_ret gb idleB ?_
                exact ⟨.inr rfl, rfl, _, resultsC_tmp (by rfl) _, (fr_ret (x := .bool false) (by decide) rfl).trans (by simp [refWord, hc1, hc2, hc3, hc4, hc5, hc6, hc7]), rfl⟩
              · refine opsF_val gb idleB rfl (by rfl) rfl (x := .bool true) (y_pick (t := false) rfl rfl) ?_
                refine opsF_val gb idleB rfl (by rfl) rfl (x := .bool true) (y_assign rfl) ?_
                refine opsG_nil gb idleB ?_
                refine wpG_ret gb idleB ?_
                exact ⟨.inr rfl, rfl, _, resultsC_tmp (by rfl) _, (fr_ret (x := .bool true) (by decide) rfl).trans (by simp [refWord, hc1, hc2, hc3, hc4, hc5, hc6, hc7]), rfl⟩
            · refine opsF_val gb idleB rfl (by rfl) rfl (x := .bool true) (y_pick (t := true) rfl rfl) ?_
              refine opsF_val gb idleB rfl (by rfl) rfl (x := .bool true) (y_pick (t := false) rfl rfl) ?_
              refine opsF_val gb idleB rfl (by rfl) rfl (x := .bool true) (y_move rfl) ?_
              refine opsF_skip gb idleB rfl (by rfl) rfl ?_
              refine opsF_skip gb idleB rfl (by rfl) rfl ?_
              refine opsF_val gb idleB rfl (by rfl) rfl (x := .bool true) (y_pick (t := true) rfl rfl) ?_
              refine opsF_val gb idleB rfl (by rfl) rfl (x := .bool true) (y_assign rfl) ?_
              refine opsG_nil gb idleB ?_
              refine wpG_ret gb idleB ?_
              exact ⟨.inr rfl, rfl, _, resultsC_tmp (by rfl) _, (fr_ret (x := .bool true) (by decide) rfl).trans (by simp [refWord, hc1, hc2, hc3, hc4, hc5, hc6]), rfl⟩
        · refine opsF_val gb idleB rfl (by rfl) rfl (x := .bool true) (y_pick (t := true) rfl rfl) ?_
          refine opsF_val gb idleB rfl (by rfl) rfl (x := .bool true) (y_pick (t := false) rfl rfl) ?_
          refine opsF_val gb idleB rfl (by rfl) rfl (x := .bool true) (y_move rfl) ?_
          refine opsF_skip gb idleB rfl (by rfl) rfl ?_
          refine opsF_skip gb idleB rfl (by rfl) rfl ?_
          refine opsF_skip gb idleB rfl (by rfl) rfl ?_
          refine opsF_skip gb idleB rfl (by rfl) rfl ?_
          refine opsF_skip gb idleB rfl (by rfl) rfl ?_
          refine opsF_skip gb idleB rfl (by rfl) rfl ?_
          refine opsF_val gb idleB rfl (by rfl) rfl (x := .bool true) (y_pick (t := true) rfl rfl) ?_
          refine opsF_val gb idleB rfl (by rfl) rfl (x := .bool true) (y_move rfl) ?_
          refine opsF_skip gb idleB rfl (by rfl) rfl ?_
          refine opsF_skip gb idleB rfl (by rfl) rfl ?_
          refine opsF_val gb idleB rfl (by rfl) rfl (x := .bool true) (y_pick (t := true) rfl rfl) ?_
          refine opsF_val gb idleB rfl (by rfl) rfl (x := .bool true) (y_assign rfl) ?_
          refine opsG_nil gb idleB ?_
          refine wpG_ret gb idleB ?_
          exact ⟨.inr rfl, rfl, _, resultsC_tmp (by rfl) _, (fr_ret (x := .bool true) (by decide) rfl).trans (by simp [refWord, hc1, hc2, hc3, hc4]), rfl⟩
    · refine opsF_val gb idleB rfl (by rfl) rfl (x := .bool true) (y_pick (t := true) rfl rfl) ?_
      refine opsF_val gb idleB rfl (by rfl) rfl (x := .bool true) (y_move rfl) ?_
      refine opsF_skip gb idleB rfl (by rfl) rfl ?_
      refine opsF_skip gb idleB rfl (by rfl) rfl ?_
      refine opsF_skip gb idleB rfl (by rfl) rfl ?_
      refine opsF_skip gb idleB rfl (by rfl) rfl ?_
      refine opsF_skip gb idleB rfl (by rfl) rfl ?_
      refine opsF_skip gb idleB rfl (by rfl) rfl ?_
      refine opsF_val gb idleB rfl (by rfl) rfl (x := .bool true) (y_pick (t := true) rfl rfl) ?_
      refine opsF_val gb idleB rfl (by rfl) rfl (x := .bool true) (y_move rfl) ?_
      refine opsF_skip gb idleB rfl (by rfl) rfl ?_
      refine opsF_skip gb idleB rfl (by rfl) rfl ?_
      refine opsF_skip gb idleB rfl (by rfl) rfl ?_
      refine opsF_skip gb idleB rfl (by rfl) rfl ?_
      refine opsF_skip gb idleB rfl (by rfl) rfl ?_
      refine opsF_skip gb idleB rfl (by rfl) rfl ?_
      refine opsF_val gb idleB rfl (by rfl) rfl (x := .bool true) (y_pick (t := true) rfl rfl) ?_
      refine opsF_val gb idleB rfl (by rfl) rfl (x := .bool true) (y_move rfl) ?_
      refine opsF_skip gb idleB rfl (by rfl) rfl ?_
      refine opsF_skip gb idleB rfl (by rfl) rfl ?_
      refine opsF_val gb idleB rfl (by rfl) rfl (x := .bool true) (y_pick (t := true) rfl rfl) ?_
      refine opsF_val gb idleB rfl (by rfl) rfl (x := .bool true) (y_assign rfl) ?_
      refine opsG_nil gb idleB ?_
      refine wpG_ret gb idleB ?_
      exact ⟨.inr rfl, rfl, _, resultsC_tmp (by rfl) _, (fr_ret (x := .bool true) (by decide) rfl).trans (by simp [refWord, hc1, hc2]), rfl⟩

end Go.Proofs.Ytfaadjmglboaoaa
