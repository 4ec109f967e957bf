/-
  SurfaceDeep: the walk of the law's text.
-/
import Derived.Test.YtfaadjmglboaoaaParens
namespace Go.Proofs.Ytfaadjmglboaoaa
open Go.Conc Go.RowKit

theorem equal_bool_ev (D : Nat) (m k : Bool) (w : World) : Sem.events Try.prog (Op.equalIn (D + 1) 4 (.bool m) (.bool k)) w #[] = #[] := by
  have ht := Try.underlying4
  unfold Op.equalIn
  simp [underlying, ht, go_sem]
section ylds
variable {ρ : Operand → Value} {d : Option Tmp} {ty : TypeId} {pos : String} {af : Array Edge} {gu : Option (Nat × Bool)}
theorem y_mul {x y : Operand} {m k : Int} (hx : ρ x = .int .i64 m) (hy : ρ y = .int .i64 k) {r : Int} (hr : IntKind.i64.wrap (m * k) = r) : Ylds ρ ⟨d, .binOp .mul 3 x y 3, ty, pos, af, gu⟩ (.int .i64 r) := fun w =>
  ⟨eq_of_K fun K hK => by subst hr; go_simp; exact hK, by simp [go_sem, hx, hy]⟩
theorem y_eql_bool {x y : Operand} {m k : Bool} (hx : ρ x = .bool m) (hy : ρ y = .bool k) {r : Bool} (hr : (m == k) = r) : Ylds ρ ⟨d, .binOp .eql 4 x y 4, ty, pos, af, gu⟩ (.bool r) := fun w => by
  refine ⟨eq_of_K fun K hK => by subst hr; go_simp; exact hK, ?_⟩
  simp [go_sem, hx, hy]
  simp [binOp, Op.equal, go_sem]
  exact equal_bool_ev 9999 m k w
end ylds

section
variable {W : World}
theorem readEven (h : PH) (k : Nat) (hk : k < 100) : CallsG Try.prog (GLB W) 35 #[.string (op k k)] h fun r h' => Ext h h' ∧ ((60 < k ∧ r = .tuple #[.slice none 0 0, .int .i64 60, .int .i64 22]) ∨ (k ≤ 60 ∧ ∃ p q, r = .tuple #[.slice p k q, .int .i64 0, .int .i64 0])) := by
  refine (readP h k k (by omega) (by omega)).mono ?_
  rintro r h' ⟨e, h1 | ⟨h1, _, h2⟩ | ⟨_, h1, _⟩ | ⟨_, h1, _⟩⟩
  · exact ⟨e, .inl h1⟩
  · exact ⟨e, .inr ⟨h1, h2⟩⟩
  · omega
  · omega
theorem readCut (h : PH) (k c : Nat) (hk : k ≤ 60) (hc : c ≤ k) : CallsG Try.prog (GLB W) 35 #[.string (op k c)] h fun r h' => Ext h h' ∧ ((c = k ∧ ∃ p q, r = .tuple #[.slice p k q, .int .i64 0, .int .i64 0]) ∨ (c < k ∧ r = .tuple #[.slice none 0 0, .int .i64 (k - c - 1 : Nat), .int .i64 70])) := by
  refine (readP h k c (by omega) (by omega)).mono ?_
  rintro r h' ⟨e, ⟨h1, _⟩ | ⟨_, h1, h2⟩ | ⟨_, h1, h2⟩ | ⟨_, h1, _⟩⟩
  · omega
  · exact ⟨e, .inl ⟨h1, h2⟩⟩
  · exact ⟨e, .inr ⟨h1, h2⟩⟩
  · omega
theorem readMore (h : PH) (k : Nat) (hk : k ≤ 60) : CallsG Try.prog (GLB W) 35 #[.string (op k (k + 1))] h fun r h' => Ext h h' ∧ r = .tuple #[.slice none 0 0, .int .i64 (2 * k : Nat), .int .i64 70] := by
  refine (readP h k (k + 1) (by omega) (by omega)).mono ?_
  rintro r h' ⟨e, ⟨h1, _⟩ | ⟨_, h1, _⟩ | ⟨_, h1, _⟩ | ⟨_, _, h2⟩⟩
  · omega
  · omega
  · omega
  · exact ⟨e, h2⟩
end

namespace surfaceDeep
set_option maxHeartbeats 4000000 in
theorem walk (a b : Nat) (ha : a < 256) (hb : b < 256) (W : World) (hcl : Cl Try.prog W) (Post : Value → World → Prop) (hP : ∀ u, Grew W u → ∀ τ d, Post (.bool true) (tap u τ d)) :
    Ends Try.prog Post (G (Frame.enter Try.prog 10 #[.int .u8 a, .int .u8 b] .normal) []) W := by
  refine ends_of_wpB hcl (c := Try.f10.body.getD .skip) Try.func10 rfl (by kernel_rfl) ?_
  rw [Try.ntmps10]
  rw [fr_of (n := 119) (by simp) [(0, .int .u8 a), (1, .int .u8 b)] ⟨by simp, by simp, trivial⟩]
  generalize (fun j => (#[Value.int .u8 a, Value.int .u8 b] ++ Array.replicate (119 - #[Value.int .u8 a, Value.int .u8 b].size) undef).getD j undef) = σ
  have hE0 : Ext (mine Try.prog W) (mine Try.prog W) := Ext.refl _
  refine wpG_seq glb idleB ?_
  refine wpG_region glb idleB ?_
  refine opsF_val glb idleB rfl (by rfl) rfl (x := .bool false) (y_assign rfl) ?_
  refine opsG_nil glb idleB ?_
  refine wpG_seq glb idleB ?_
  refine wpG_seq glb idleB ?_
  refine wpG_region glb idleB ?_
  refine opsF_call glb idleB rfl (by rfl) rfl (run_call rfl Try.func30 (by rfl) rfl (by simp)) (shown30 _) ?_
  rintro _ h1 ⟨e1, rfl⟩
  refine opsF_val glb idleB rfl (by rfl) rfl (x := .bool false) (y_not (b := true) rfl) ?_
  refine opsG_nil glb idleB ?_
  refine wpG_cond glb idleB (t := false) (by rw [fr_eval]; rfl) ?_
  refine wpG_skip glb idleB ?_
  refine wpG_seq glb idleB ?_
  refine wpG_region glb idleB ?_
  refine opsF_val glb idleB rfl (by rfl) rfl (x := .int .u8 (a : Nat)) (y_move rfl) ?_
  refine opsF_val glb idleB rfl (by rfl) rfl (x := .int .i64 (a : Nat)) (y_conv5 rfl (by omega) (by omega)) ?_
  refine opsF_val glb idleB rfl (by rfl) rfl (x := .int .i64 (a % 100 : Nat)) (y_rem (k := 100) rfl rfl (by omega)) ?_
  refine opsF_val glb idleB rfl (by rfl) rfl (x := .int .i64 (a % 100 : Nat)) (y_assign rfl) ?_
  refine opsG_nil glb idleB ?_
  refine wpG_seq glb idleB ?_
  have hk : a % 100 < 100 := Nat.mod_lt _ (by decide)
  generalize a % 100 = k at hk ⊢
  refine wpG_region glb idleB ?_
  refine opsF_val glb idleB rfl (by rfl) rfl (x := .string { data := #[] }) (y_assign rfl) ?_
  refine opsG_nil glb idleB ?_
  refine wpG_seq glb idleB ?_
  refine wpG_seq glb idleB ?_
  refine wpG_region glb idleB ?_
  refine opsF_val glb idleB rfl (by rfl) rfl (x := .int .i64 0) (y_assign rfl) ?_
  refine opsG_nil glb idleB ?_
  refine wpG_block glb idleB ?_
  refine wpG_loopN glb idleB (fun m q v => ∃ (i : Nat) (τ : Nat → Value), m = k - i ∧ i ≤ k ∧ q = fr 119 τ [(1, .int .u8 (b : Nat)), (4, .bool false), (5, .int .i64 (k : Nat)), (6, .string (op i 0)), (7, .int .i64 (i : Nat))] [] ∧ h1 = v) k ⟨0, _, rfl, Nat.zero_le _, fr_says _ ⟨rfl, rfl, rfl, rfl, rfl, trivial⟩, rfl⟩ ?_
  rintro m _ _ ⟨i, τ, rfl, hi, rfl, rfl⟩
  clear σ
  rcases (show i < k ∨ k = i by omega) with hlt | rfl
  · refine wpG_seq glb idleB ?_
    refine wpG_seq glb idleB ?_
    refine wpG_region glb idleB ?_
    refine opsF_val glb idleB rfl (by rfl) rfl (x := .int .i64 (i : Nat)) (y_move rfl) ?_
    refine opsF_val glb idleB rfl (by rfl) rfl (x := .int .i64 (k : Nat)) (y_move rfl) ?_
    refine opsF_val glb idleB rfl (by rfl) rfl (x := .bool true) (y_lss rfl rfl (by simp; omega)) ?_
    refine opsG_nil glb idleB ?_
    refine wpG_cond glb idleB (t := true) (by rw [fr_eval]; rfl) ?_
    refine wpG_skip glb idleB ?_
    refine wpG_seq glb idleB ?_
    refine wpG_block glb idleB ?_
    refine wpG_region glb idleB ?_
    refine opsF_val glb idleB rfl (by rfl) rfl (x := .string (op i 0)) (y_move rfl) ?_
    refine opsF_val glb idleB rfl (by rfl) rfl (x := .string (op (i + 1) 0)) (by rw [← op_open]; exact y_cat rfl rfl (by rw [op_size]; show i + 0 + 1 ≤ 2 ^ 62; omega)) ?_
    refine opsF_val glb idleB rfl (by rfl) rfl (x := .string (op (i + 1) 0)) (y_assign rfl) ?_
    refine opsG_nil glb idleB ?_
    refine wpG_region glb idleB ?_
    refine opsF_val glb idleB rfl (by rfl) rfl (x := .int .i64 (i : Nat)) (y_move rfl) ?_
    refine opsF_val glb idleB rfl (by rfl) rfl (x := .int .i64 (i + 1 : Nat)) (y_add rfl rfl (by rw [IntKind.wrap_i64]; omega)) ?_
    refine opsF_val glb idleB rfl (by rfl) rfl (x := .int .i64 (i + 1 : Nat)) (y_assign rfl) ?_
    refine opsG_nil glb idleB ?_
    exact ⟨k - (i + 1), by omega, i + 1, _, rfl, by omega, fr_says _ ⟨rfl, rfl, rfl, rfl, rfl, trivial⟩, rfl⟩
  · refine wpG_seq glb idleB ?_
    refine wpG_seq glb idleB ?_
    refine wpG_region glb idleB ?_
    refine opsF_val glb idleB rfl (by rfl) rfl (x := .int .i64 (k : Nat)) (y_move rfl) ?_
    refine opsF_val glb idleB rfl (by rfl) rfl (x := .int .i64 (k : Nat)) (y_move rfl) ?_
    refine opsF_val glb idleB rfl (by rfl) rfl (x := .bool false) (y_lss rfl rfl (by simp)) ?_
    refine opsG_nil glb idleB ?_
    refine wpG_cond glb idleB (t := false) (by rw [fr_eval]; rfl) ?_
    refine wpG_exit glb idleB ?_
    refine wpG_seq glb idleB ?_
    refine wpG_region glb idleB ?_
    refine opsF_val glb idleB rfl (by rfl) rfl (x := .string (op k 0)) (y_move rfl) ?_
    refine opsF_val glb idleB rfl (by rfl) rfl (x := .string (op k 0)) (y_assign rfl) ?_
    refine opsG_nil glb idleB ?_
    refine wpG_seq glb idleB ?_
    refine wpG_seq glb idleB ?_
    refine wpG_region glb idleB ?_
    refine opsF_val glb idleB rfl (by rfl) rfl (x := .int .i64 0) (y_assign rfl) ?_
    refine opsG_nil glb idleB ?_
    refine wpG_block glb idleB ?_
    refine wpG_loopN glb idleB (fun m q v => ∃ (j : Nat) (τ : Nat → Value), m = k - j ∧ j ≤ k ∧ q = fr 119 τ [(1, .int .u8 (b : Nat)), (4, .bool false), (5, .int .i64 (k : Nat)), (8, .string (op k j)), (9, .int .i64 (j : Nat))] [] ∧ h1 = v) k ⟨0, _, rfl, Nat.zero_le _, fr_says _ ⟨rfl, rfl, rfl, rfl, rfl, trivial⟩, rfl⟩ ?_
    rintro m _ _ ⟨j, τ2, rfl, hj, rfl, rfl⟩
    clear τ
    rcases (show j < k ∨ k = j by omega) with hlt | rfl
    · refine wpG_seq glb idleB ?_
      refine wpG_seq glb idleB ?_
      refine wpG_region glb idleB ?_
      refine opsF_val glb idleB rfl (by rfl) rfl (x := .int .i64 (j : Nat)) (y_move rfl) ?_
      refine opsF_val glb idleB rfl (by rfl) rfl (x := .int .i64 (k : Nat)) (y_move rfl) ?_
      refine opsF_val glb idleB rfl (by rfl) rfl (x := .bool true) (y_lss rfl rfl (by simp; omega)) ?_
      refine opsG_nil glb idleB ?_
      refine wpG_cond glb idleB (t := true) (by rw [fr_eval]; rfl) ?_
      refine wpG_skip glb idleB ?_
      refine wpG_seq glb idleB ?_
      refine wpG_block glb idleB ?_
      refine wpG_region glb idleB ?_
      refine opsF_val glb idleB rfl (by rfl) rfl (x := .string (op k j)) (y_move rfl) ?_
      refine opsF_val glb idleB rfl (by rfl) rfl (x := .string (op k (j + 1))) (by rw [← op_shut]; exact y_cat rfl rfl (by rw [op_size]; show k + j + 1 ≤ 2 ^ 62; omega)) ?_
      refine opsF_val glb idleB rfl (by rfl) rfl (x := .string (op k (j + 1))) (y_assign rfl) ?_
      refine opsG_nil glb idleB ?_
      refine wpG_region glb idleB ?_
      refine opsF_val glb idleB rfl (by rfl) rfl (x := .int .i64 (j : Nat)) (y_move rfl) ?_
      refine opsF_val glb idleB rfl (by rfl) rfl (x := .int .i64 (j + 1 : Nat)) (y_add rfl rfl (by rw [IntKind.wrap_i64]; omega)) ?_
      refine opsF_val glb idleB rfl (by rfl) rfl (x := .int .i64 (j + 1 : Nat)) (y_assign rfl) ?_
      refine opsG_nil glb idleB ?_
      exact ⟨k - (j + 1), by omega, j + 1, _, rfl, by omega, fr_says _ ⟨rfl, rfl, rfl, rfl, rfl, trivial⟩, rfl⟩
    · refine wpG_seq glb idleB ?_
      refine wpG_seq glb idleB ?_
      refine wpG_region glb idleB ?_
      refine opsF_val glb idleB rfl (by rfl) rfl (x := .int .i64 (k : Nat)) (y_move rfl) ?_
      refine opsF_val glb idleB rfl (by rfl) rfl (x := .int .i64 (k : Nat)) (y_move rfl) ?_
      refine opsF_val glb idleB rfl (by rfl) rfl (x := .bool false) (y_lss rfl rfl (by simp)) ?_
      refine opsG_nil glb idleB ?_
      refine wpG_cond glb idleB (t := false) (by rw [fr_eval]; rfl) ?_
      refine wpG_exit glb idleB ?_
      refine wpG_seq glb idleB ?_
      refine wpG_region glb idleB ?_
      refine opsF_val glb idleB rfl (by rfl) rfl (x := .string (op k k)) (y_move rfl) ?_
      refine opsF_call glb idleB rfl (by rfl) rfl (run_call (args := #[.string (op k k)]) rfl Try.func35 (by rfl) rfl (by simp only [List.map_toArray, List.map_cons, List.map_nil]; rfl)) (readEven h1 k hk) ?_
      rintro _ h2 ⟨e2, ⟨h6, rfl⟩ | ⟨h6, p, q, rfl⟩⟩
      · refine opsF_val glb idleB rfl (by rfl) rfl (x := .tuple #[.slice none 0 0, .int .i64 60, .int .i64 22]) (y_move rfl) ?_
        refine opsF_val glb idleB rfl (by rfl) rfl (x := .slice none 0 0) (y_extract rfl rfl) ?_
        refine opsF_val glb idleB rfl (by rfl) rfl (x := .int .i64 60) (y_extract rfl rfl) ?_
        refine opsF_val glb idleB rfl (by rfl) rfl (x := .int .i64 22) (y_extract rfl rfl) ?_
        refine opsF_val glb idleB rfl (by rfl) rfl (x := .slice none 0 0) (y_assign rfl) ?_
        refine opsF_val glb idleB rfl (by rfl) rfl (x := .int .i64 60) (y_assign rfl) ?_
        refine opsF_val glb idleB rfl (by rfl) rfl (x := .int .i64 22) (y_assign rfl) ?_
        refine opsG_nil glb idleB ?_
        refine wpG_seq glb idleB ?_
        refine wpG_seq glb idleB ?_
        refine wpG_region glb idleB ?_
        refine opsF_val glb idleB rfl (by rfl) rfl (x := .int .i64 (k : Nat)) (y_move rfl) ?_
        refine opsF_val glb idleB rfl (by rfl) rfl (x := .bool true) (y_gtr rfl rfl (by simp; omega)) ?_
        refine opsG_nil glb idleB ?_
        refine wpG_cond glb idleB (t := true) (by rw [fr_eval]; rfl) ?_
        refine wpG_seq glb idleB ?_
        refine wpG_region glb idleB ?_
        refine opsF_val glb idleB rfl (by rfl) rfl (x := .int .i64 22) (y_move rfl) ?_
        refine opsF_val glb idleB rfl (by rfl) rfl (x := .bool true) (y_eql (.inr rfl) rfl rfl (rfl)) ?_
        refine opsF_val glb idleB rfl (by rfl) rfl (x := .bool true) (y_move rfl) ?_
        refine opsF_val glb idleB rfl (by rfl) rfl (x := .int .i64 60) (y_move rfl) ?_
        refine opsF_val glb idleB rfl (by rfl) rfl (x := .bool true) (y_eql (.inl rfl) rfl rfl (rfl)) ?_
        refine opsF_val glb idleB rfl (by rfl) rfl (x := .bool true) (y_pick (t := true) rfl rfl) ?_
        refine opsF_val glb idleB rfl (by rfl) rfl (x := .bool true) (y_move rfl) ?_
        refine opsF_val glb idleB rfl (by rfl) rfl (x := .slice none 0 0) (y_move rfl) ?_
        refine opsF_val glb idleB rfl (by rfl) rfl (x := .int .i64 (0 : Nat)) (y_len_slice Try.underlying44 rfl) ?_
        refine opsF_val glb idleB rfl (by rfl) rfl (x := .bool true) (y_eql (.inl rfl) rfl rfl (rfl)) ?_
        refine opsF_val glb idleB rfl (by rfl) rfl (x := .bool true) (y_pick (t := true) rfl rfl) ?_
        refine opsF_val glb idleB rfl (by rfl) rfl (x := .bool true) (y_assign rfl) ?_
        refine opsG_nil glb idleB ?_
        refine wpG_ret glb idleB ?_
        exact ⟨.inr rfl, rfl, _, resultsC_tmp (by rfl) _, fun u hu τ d => by rw [fr_ret (by decide) rfl]; exact hP u (grew_of_mine hu (e1.trans e2)) τ d⟩
      · refine opsF_val glb idleB rfl (by rfl) rfl (x := .tuple #[.slice p k q, .int .i64 0, .int .i64 0]) (y_move rfl) ?_
        refine opsF_val glb idleB rfl (by rfl) rfl (x := .slice p k q) (y_extract rfl rfl) ?_
        refine opsF_val glb idleB rfl (by rfl) rfl (x := .int .i64 0) (y_extract rfl rfl) ?_
        refine opsF_val glb idleB rfl (by rfl) rfl (x := .int .i64 0) (y_extract rfl rfl) ?_
        refine opsF_val glb idleB rfl (by rfl) rfl (x := .slice p k q) (y_assign rfl) ?_
        refine opsF_val glb idleB rfl (by rfl) rfl (x := .int .i64 0) (y_assign rfl) ?_
        refine opsF_val glb idleB rfl (by rfl) rfl (x := .int .i64 0) (y_assign rfl) ?_
        refine opsG_nil glb idleB ?_
        refine wpG_seq glb idleB ?_
        refine wpG_seq glb idleB ?_
        refine wpG_region glb idleB ?_
        refine opsF_val glb idleB rfl (by rfl) rfl (x := .int .i64 (k : Nat)) (y_move rfl) ?_
        refine opsF_val glb idleB rfl (by rfl) rfl (x := .bool false) (y_gtr rfl rfl (by simp; omega)) ?_
        refine opsG_nil glb idleB ?_
        refine wpG_cond glb idleB (t := false) (by rw [fr_eval]; rfl) ?_
        refine wpG_skip glb idleB ?_
        refine wpG_seq glb idleB ?_
        refine wpG_seq glb idleB ?_
        refine wpG_region glb idleB ?_
        refine opsF_val glb idleB rfl (by rfl) rfl (x := .int .i64 0) (y_move rfl) ?_
        refine opsF_val glb idleB rfl (by rfl) rfl (x := .bool false) (y_neq (.inr rfl) rfl rfl (rfl)) ?_
        refine opsF_val glb idleB rfl (by rfl) rfl (x := .bool false) (y_move rfl) ?_
        refine opsF_val glb idleB rfl (by rfl) rfl (x := .slice p k q) (y_move rfl) ?_
        refine opsF_val glb idleB rfl (by rfl) rfl (x := .int .i64 (k : Nat)) (y_len_slice Try.underlying44 rfl) ?_
        refine opsF_val glb idleB rfl (by rfl) rfl (x := .int .i64 (k : Nat)) (y_move rfl) ?_
        refine opsF_val glb idleB rfl (by rfl) rfl (x := .bool false) (y_neq (.inl rfl) rfl rfl (by simp)) ?_
        refine opsF_val glb idleB rfl (by rfl) rfl (x := .bool false) (y_pick (t := false) rfl rfl) ?_
        refine opsG_nil glb idleB ?_
        refine wpG_cond glb idleB (t := false) (by rw [fr_eval]; rfl) ?_
        refine wpG_skip glb idleB ?_
        refine wpG_seq glb idleB ?_
        refine wpG_region glb idleB ?_
        refine opsF_val glb idleB rfl (by rfl) rfl (x := .int .u8 (b : Nat)) (y_move rfl) ?_
        refine opsF_val glb idleB rfl (by rfl) rfl (x := .int .i64 (b : Nat)) (y_conv5 rfl (by omega) (by omega)) ?_
        refine opsF_val glb idleB rfl (by rfl) rfl (x := .int .i64 (k : Nat)) (y_move rfl) ?_
        refine opsF_val glb idleB rfl (by rfl) rfl (x := .int .i64 (k + 1 : Nat)) (y_add rfl rfl (by rw [IntKind.wrap_i64]; omega)) ?_
        refine opsF_val glb idleB rfl (by rfl) rfl (x := .int .i64 (b % (k + 1) : Nat)) (y_rem rfl rfl (by omega)) ?_
        refine opsF_val glb idleB rfl (by rfl) rfl (x := .int .i64 (b % (k + 1) : Nat)) (y_assign rfl) ?_
        refine opsG_nil glb idleB ?_
        refine wpG_seq glb idleB ?_
        have hc : b % (k + 1) ≤ k := Nat.lt_succ_iff.1 (Nat.mod_lt _ (by omega))
        generalize b % (k + 1) = c at hc ⊢
        refine wpG_region glb idleB ?_
        refine opsF_val glb idleB rfl (by rfl) rfl (x := .string (op k k)) (y_move rfl) ?_
        refine opsF_val glb idleB rfl (by rfl) rfl (x := .int .i64 (k : Nat)) (y_move rfl) ?_
        refine opsF_val glb idleB rfl (by rfl) rfl (x := .int .i64 (c : Nat)) (y_move rfl) ?_
        refine opsF_val glb idleB rfl (by rfl) rfl (x := .int .i64 (k + c : Nat)) (y_add rfl rfl (by rw [IntKind.wrap_i64]; omega)) ?_
        refine opsF_val glb idleB rfl (by rfl) rfl (x := .string (op k c)) (by rw [← op_extract k k c hc]; exact y_slice_hi rfl rfl (by rw [op_size]; omega)) ?_
        refine opsF_call glb idleB rfl (by rfl) rfl (run_call (args := #[.string (op k c)]) rfl Try.func35 (by rfl) rfl (by simp only [List.map_toArray, List.map_cons, List.map_nil]; rfl)) (readCut h2 k c h6 hc) ?_
        rintro _ h3 ⟨e3, ⟨rfl, p2, q2, rfl⟩ | ⟨hlt, rfl⟩⟩
        · refine opsF_val glb idleB rfl (by rfl) rfl (x := .tuple #[.slice p2 c q2, .int .i64 0, .int .i64 0]) (y_move rfl) ?_
          refine opsF_val glb idleB rfl (by rfl) rfl (x := .slice p2 c q2) (y_extract rfl rfl) ?_
          refine opsF_val glb idleB rfl (by rfl) rfl (x := .int .i64 0) (y_extract rfl rfl) ?_
          refine opsF_val glb idleB rfl (by rfl) rfl (x := .int .i64 0) (y_extract rfl rfl) ?_
          refine opsF_val glb idleB rfl (by rfl) rfl (x := .int .i64 0) (y_assign rfl) ?_
          refine opsF_val glb idleB rfl (by rfl) rfl (x := .int .i64 0) (y_assign rfl) ?_
          refine opsG_nil glb idleB ?_
          refine wpG_seq glb idleB ?_
          refine wpG_region glb idleB ?_
          refine opsF_val glb idleB rfl (by rfl) rfl (x := .string (op c c)) (y_move rfl) ?_
          refine opsF_val glb idleB rfl (by rfl) rfl (x := .string (op c (c + 1))) (by rw [← op_shut]; exact y_cat rfl rfl (by rw [op_size]; show c + c + 1 ≤ 2 ^ 62; omega)) ?_
          refine opsF_call glb idleB rfl (by rfl) rfl (run_call (args := #[.string (op c (c + 1))]) rfl Try.func35 (by rfl) rfl (by simp only [List.map_toArray, List.map_cons, List.map_nil]; rfl)) (readMore h3 c h6) ?_
          rintro _ h4 ⟨e4, rfl⟩
          refine opsF_val glb idleB rfl (by rfl) rfl (x := .tuple #[.slice none 0 0, .int .i64 (2 * c : Nat), .int .i64 70]) (y_move rfl) ?_
          refine opsF_val glb idleB rfl (by rfl) rfl (x := .slice none 0 0) (y_extract rfl rfl) ?_
          refine opsF_val glb idleB rfl (by rfl) rfl (x := .int .i64 (2 * c : Nat)) (y_extract rfl rfl) ?_
          refine opsF_val glb idleB rfl (by rfl) rfl (x := .int .i64 70) (y_extract rfl rfl) ?_
          refine opsF_val glb idleB rfl (by rfl) rfl (x := .slice none 0 0) (y_assign rfl) ?_
          refine opsF_val glb idleB rfl (by rfl) rfl (x := .int .i64 (2 * c : Nat)) (y_assign rfl) ?_
          refine opsF_val glb idleB rfl (by rfl) rfl (x := .int .i64 70) (y_assign rfl) ?_
          refine opsG_nil glb idleB ?_
          refine wpG_seq glb idleB ?_
          refine wpG_region glb idleB ?_
          refine opsF_val glb idleB rfl (by rfl) rfl (x := .int .i64 70) (y_move rfl) ?_
          refine opsF_val glb idleB rfl (by rfl) rfl (x := .bool true) (y_eql (.inr rfl) rfl rfl (by simp)) ?_
          refine opsF_val glb idleB rfl (by rfl) rfl (x := .bool true) (y_move rfl) ?_
          refine opsF_val glb idleB rfl (by rfl) rfl (x := .int .i64 (2 * c : Nat)) (y_move rfl) ?_
          refine opsF_val glb idleB rfl (by rfl) rfl (x := .int .i64 (c : Nat)) (y_move rfl) ?_
          refine opsF_val glb idleB rfl (by rfl) rfl (x := .int .i64 (2 * c : Nat)) (y_mul rfl rfl (by rw [IntKind.wrap_i64]; omega)) ?_
          refine opsF_val glb idleB rfl (by rfl) rfl (x := .bool true) (y_eql (.inl rfl) rfl rfl (by simp)) ?_
          refine opsF_val glb idleB rfl (by rfl) rfl (x := .bool true) (y_pick (t := true) rfl rfl) ?_
          refine opsF_val glb idleB rfl (by rfl) rfl (x := .bool true) (y_move rfl) ?_
          refine opsF_val glb idleB rfl (by rfl) rfl (x := .int .i64 0) (y_move rfl) ?_
          refine opsF_val glb idleB rfl (by rfl) rfl (x := .bool true) (y_eql (.inr rfl) rfl rfl (rfl)) ?_
          refine opsF_val glb idleB rfl (by rfl) rfl (x := .int .i64 (c : Nat)) (y_move rfl) ?_
          refine opsF_val glb idleB rfl (by rfl) rfl (x := .int .i64 (c : Nat)) (y_move rfl) ?_
          refine opsF_val glb idleB rfl (by rfl) rfl (x := .bool true) (y_eql (.inl rfl) rfl rfl (by simp)) ?_
          refine opsF_val glb idleB rfl (by rfl) rfl (x := .bool true) (y_eql_bool rfl rfl rfl) ?_
          refine opsF_val glb idleB rfl (by rfl) rfl (x := .bool true) (y_pick (t := true) rfl rfl) ?_
          refine opsF_val glb idleB rfl (by rfl) rfl (x := .bool true) (y_move rfl) ?_
          refine opsF_val glb idleB rfl (by rfl) rfl (x := .int .i64 (c : Nat)) (y_move rfl) ?_
          refine opsF_val glb idleB rfl (by rfl) rfl (x := .int .i64 (c : Nat)) (y_move rfl) ?_
          refine opsF_val glb idleB rfl (by rfl) rfl (x := .bool true) (y_eql (.inl rfl) rfl rfl (by simp)) ?_
          refine opsF_val glb idleB rfl (by rfl) rfl (x := .bool true) (y_move rfl) ?_
          refine opsF_skip glb idleB rfl (by rfl) rfl ?_
          refine opsF_skip glb idleB rfl (by rfl) rfl ?_
          refine opsF_skip glb idleB rfl (by rfl) rfl ?_
          refine opsF_skip glb idleB rfl (by rfl) rfl ?_
          refine opsF_skip glb idleB rfl (by rfl) rfl ?_
          refine opsF_skip glb idleB rfl (by rfl) rfl ?_
          refine opsF_skip glb idleB rfl (by rfl) rfl ?_
          refine opsF_skip glb idleB rfl (by rfl) rfl ?_
          refine opsF_skip glb idleB rfl (by rfl) rfl ?_
          refine opsF_skip glb idleB rfl (by rfl) rfl ?_
          refine opsF_val glb idleB rfl (by rfl) rfl (x := .bool true) (y_pick (t := true) rfl rfl) ?_
          refine opsF_val glb idleB rfl (by rfl) rfl (x := .bool true) (y_pick (t := true) rfl rfl) ?_
          refine opsF_val glb idleB rfl (by rfl) rfl (x := .bool true) (y_assign rfl) ?_
          refine opsG_nil glb idleB ?_
          refine wpG_ret glb idleB ?_
          exact ⟨.inr rfl, rfl, _, resultsC_tmp (by rfl) _, fun u hu τ d => by rw [fr_ret (by decide) rfl]; exact hP u (grew_of_mine hu (((e1.trans e2).trans e3).trans e4)) τ d⟩
        · refine opsF_val glb idleB rfl (by rfl) rfl (x := .tuple #[.slice none 0 0, .int .i64 (k - c - 1 : Nat), .int .i64 70]) (y_move rfl) ?_
          refine opsF_val glb idleB rfl (by rfl) rfl (x := .slice none 0 0) (y_extract rfl rfl) ?_
          refine opsF_val glb idleB rfl (by rfl) rfl (x := .int .i64 (k - c - 1 : Nat)) (y_extract rfl rfl) ?_
          refine opsF_val glb idleB rfl (by rfl) rfl (x := .int .i64 70) (y_extract rfl rfl) ?_
          refine opsF_val glb idleB rfl (by rfl) rfl (x := .int .i64 (k - c - 1 : Nat)) (y_assign rfl) ?_
          refine opsF_val glb idleB rfl (by rfl) rfl (x := .int .i64 70) (y_assign rfl) ?_
          refine opsG_nil glb idleB ?_
          refine wpG_seq glb idleB ?_
          refine wpG_region glb idleB ?_
          refine opsF_val glb idleB rfl (by rfl) rfl (x := .string (op k k)) (y_move rfl) ?_
          refine opsF_val glb idleB rfl (by rfl) rfl (x := .string (op k (k + 1))) (by rw [← op_shut]; exact y_cat rfl rfl (by rw [op_size]; show k + k + 1 ≤ 2 ^ 62; omega)) ?_
          refine opsF_call glb idleB rfl (by rfl) rfl (run_call (args := #[.string (op k (k + 1))]) rfl Try.func35 (by rfl) rfl (by simp only [List.map_toArray, List.map_cons, List.map_nil]; rfl)) (readMore h3 k h6) ?_
          rintro _ h4 ⟨e4, rfl⟩
          refine opsF_val glb idleB rfl (by rfl) rfl (x := .tuple #[.slice none 0 0, .int .i64 (2 * k : Nat), .int .i64 70]) (y_move rfl) ?_
          refine opsF_val glb idleB rfl (by rfl) rfl (x := .slice none 0 0) (y_extract rfl rfl) ?_
          refine opsF_val glb idleB rfl (by rfl) rfl (x := .int .i64 (2 * k : Nat)) (y_extract rfl rfl) ?_
          refine opsF_val glb idleB rfl (by rfl) rfl (x := .int .i64 70) (y_extract rfl rfl) ?_
          refine opsF_val glb idleB rfl (by rfl) rfl (x := .slice none 0 0) (y_assign rfl) ?_
          refine opsF_val glb idleB rfl (by rfl) rfl (x := .int .i64 (2 * k : Nat)) (y_assign rfl) ?_
          refine opsF_val glb idleB rfl (by rfl) rfl (x := .int .i64 70) (y_assign rfl) ?_
          refine opsG_nil glb idleB ?_
          refine wpG_seq glb idleB ?_
          refine wpG_region glb idleB ?_
          refine opsF_val glb idleB rfl (by rfl) rfl (x := .int .i64 70) (y_move rfl) ?_
          refine opsF_val glb idleB rfl (by rfl) rfl (x := .bool true) (y_eql (.inr rfl) rfl rfl (by simp)) ?_
          refine opsF_val glb idleB rfl (by rfl) rfl (x := .bool true) (y_move rfl) ?_
          refine opsF_val glb idleB rfl (by rfl) rfl (x := .int .i64 (2 * k : Nat)) (y_move rfl) ?_
          refine opsF_val glb idleB rfl (by rfl) rfl (x := .int .i64 (k : Nat)) (y_move rfl) ?_
          refine opsF_val glb idleB rfl (by rfl) rfl (x := .int .i64 (2 * k : Nat)) (y_mul rfl rfl (by rw [IntKind.wrap_i64]; omega)) ?_
          refine opsF_val glb idleB rfl (by rfl) rfl (x := .bool true) (y_eql (.inl rfl) rfl rfl (by simp)) ?_
          refine opsF_val glb idleB rfl (by rfl) rfl (x := .bool true) (y_pick (t := true) rfl rfl) ?_
          refine opsF_val glb idleB rfl (by rfl) rfl (x := .bool true) (y_move rfl) ?_
          refine opsF_val glb idleB rfl (by rfl) rfl (x := .int .i64 70) (y_move rfl) ?_
          refine opsF_val glb idleB rfl (by rfl) rfl (x := .bool false) (y_eql (.inr rfl) rfl rfl (rfl)) ?_
          refine opsF_val glb idleB rfl (by rfl) rfl (x := .int .i64 (c : Nat)) (y_move rfl) ?_
          refine opsF_val glb idleB rfl (by rfl) rfl (x := .int .i64 (k : Nat)) (y_move rfl) ?_
          refine opsF_val glb idleB rfl (by rfl) rfl (x := .bool false) (y_eql (.inl rfl) rfl rfl (by simp; omega)) ?_
          refine opsF_val glb idleB rfl (by rfl) rfl (x := .bool true) (y_eql_bool rfl rfl rfl) ?_
          refine opsF_val glb idleB rfl (by rfl) rfl (x := .bool true) (y_pick (t := true) rfl rfl) ?_
          refine opsF_val glb idleB rfl (by rfl) rfl (x := .bool true) (y_move rfl) ?_
          refine opsF_val glb idleB rfl (by rfl) rfl (x := .int .i64 (c : Nat)) (y_move rfl) ?_
          refine opsF_val glb idleB rfl (by rfl) rfl (x := .int .i64 (k : Nat)) (y_move rfl) ?_
          refine opsF_val glb idleB rfl (by rfl) rfl (x := .bool false) (y_eql (.inl rfl) rfl rfl (by simp; omega)) ?_
          refine opsF_val glb idleB rfl (by rfl) rfl (x := .bool false) (y_move rfl) ?_
          refine opsF_val glb idleB rfl (by rfl) rfl (x := .int .i64 70) (y_move rfl) ?_
          refine opsF_val glb idleB rfl (by rfl) rfl (x := .bool true) (y_eql (.inr rfl) rfl rfl (by simp)) ?_
          refine opsF_val glb idleB rfl (by rfl) rfl (x := .bool true) (y_move rfl) ?_
          refine opsF_val glb idleB rfl (by rfl) rfl (x := .int .i64 (k - c - 1 : Nat)) (y_move rfl) ?_
          refine opsF_val glb idleB rfl (by rfl) rfl (x := .int .i64 (k : Nat)) (y_move rfl) ?_
          refine opsF_val glb idleB rfl (by rfl) rfl (x := .int .i64 (c : Nat)) (y_move rfl) ?_
          refine opsF_val glb idleB rfl (by rfl) rfl (x := .int .i64 (k - c : Nat)) (y_sub rfl rfl (by rw [IntKind.wrap_i64]; omega)) ?_
          refine opsF_val glb idleB rfl (by rfl) rfl (x := .int .i64 (k - c - 1 : Nat)) (y_sub rfl rfl (by rw [IntKind.wrap_i64]; omega)) ?_
          refine opsF_val glb idleB rfl (by rfl) rfl (x := .bool true) (y_eql (.inl rfl) rfl rfl (by simp)) ?_
          refine opsF_val glb idleB rfl (by rfl) rfl (x := .bool true) (y_pick (t := true) rfl rfl) ?_
          refine opsF_val glb idleB rfl (by rfl) rfl (x := .bool true) (y_pick (t := false) rfl rfl) ?_
          refine opsF_val glb idleB rfl (by rfl) rfl (x := .bool true) (y_pick (t := true) rfl rfl) ?_
          refine opsF_val glb idleB rfl (by rfl) rfl (x := .bool true) (y_assign rfl) ?_
          refine opsG_nil glb idleB ?_
          refine wpG_ret glb idleB ?_
          exact ⟨.inr rfl, rfl, _, resultsC_tmp (by rfl) _, fun u hu τ d => by rw [fr_ret (by decide) rfl]; exact hP u (grew_of_mine hu (((e1.trans e2).trans e3).trans e4)) τ d⟩
end surfaceDeep
end Go.Proofs.Ytfaadjmglboaoaa
