/-
  cornicelaw07.theirs, corniceref07.Same (of equal rows).
-/
import Derived.Test.YtfaadjmglboaoaaPLem
namespace Go.Proofs.Ytfaadjmglboaoaa
open Go.Conc Go.RowKit

/-- A row that is being made. -/
structure RInv (E : TypeId) (h h' : PH) (v : Value) (row : List T3) : Prop where
  ext : Ext h h'
  own : OwnK h' E 3 v row.length (flat row)
  new : ∀ g, v.ownBlock = some g → h g = none

section rinv
variable {E : TypeId} {h h' : PH} {v : Value} {row : List T3}
theorem RInv.grow (I : RInv E h h' v row) {h2 : PH} (e : Ext h' h2) : RInv E h h2 v row := ⟨I.ext.trans e, I.own.ext fun g _ o ho => e g o ho, I.new⟩
theorem RInv.add (I : RInv E h h' v row) {h2 : PH} {v' : Value} {x : T3} (hO : OwnK h2 E 3 v' (row.length + 1) (flat row ++ x.cells)) (hold : ∀ r o, h' r = some o → some r ≠ v.ownBlock → h2 r = some o) (hb : v'.ownBlock = v.ownBlock ∨ ∀ g, v'.ownBlock = some g → h' g = none) : RInv E h h2 v' (row ++ [x]) := by
  refine ⟨fun r o hr => hold r o (I.ext r o hr) fun e => ?_, ?_, fun g hg => ?_⟩
  · have := I.new r e.symm
    rw [this] at hr; cases hr
  · have e1 : (row ++ [x]).length = row.length + 1 := by simp
    have e2 : flat (row ++ [x]) = flat row ++ x.cells := by rw [flat_append]; simp [flat]
    rw [e1, e2]; exact hO
  · rcases hb with e | e
    · exact I.new g (e ▸ hg)
    · cases hx : h g with
      | none => rfl
      | some o => have := I.ext g o hx; rw [e g hg] at this; cases this
theorem rinv_init {g : Nat} (hg : h g = none) : RInv E h (put h g (.cells #[] E)) (.slice (some ⟨g, 0, none⟩) 0 0) [] :=
  ⟨ext_put hg, ⟨rfl, .inr ⟨g, 0, #[], rfl, put_self _ _ _, Nat.le_refl _, by decide, by simp, rfl⟩⟩, fun g' hg' => by rw [← Option.some.inj hg']; exact hg⟩
end rinv

section ylds
variable {ρ : Operand → Value} {d : Option Tmp} {ty : TypeId} {pos : String} {af : Array Edge} {gu : Option (Nat × Bool)}
theorem y_neq_str {x y : Operand} {s : ByteArray} (hx : ρ x = .string s) (hy : ρ y = .string s) : Ylds ρ ⟨d, .binOp .neq 9 x y 9, ty, pos, af, gu⟩ (.bool false) := fun w =>
  ⟨eq_of_K fun K hK => by go_simp; exact hK, by simp [go_sem, hx, hy]⟩
theorem y_eql_str {x y : Operand} {s t : ByteArray} (hx : ρ x = .string s) (hy : ρ y = .string t) {r : Bool} (hr : decide (s = t) = r) : Ylds ρ ⟨d, .binOp .eql 9 x y 9, ty, pos, af, gu⟩ (.bool r) := fun w => by
  subst hr
  have e : (s.toList == t.toList) = decide (s = t) := by
    rw [ByteArray.toList_eq, ByteArray.toList_eq]
    by_cases h : s = t
    · subst h; simp
    · rw [decide_eq_false h]
      refine beq_eq_false_iff_ne.2 fun e => h ?_
      exact ByteArray.ext (Array.toList_inj.1 e)
  exact ⟨eq_of_K fun K hK => by simp [go_sem, hx, hy, e]; exact hK, by simp [go_sem, hx, hy]⟩
end ylds

set_option maxHeartbeats 1000000 in
theorem theirs34 {main : Bool} (h : PH) (l : List T3) (p : Option Addr) (c : Nat) (hR : RSl h 3 (.slice p l.length c) l.length (flat l)) (hlen : l.length ≤ 2 ^ 20) :
    CallsG Try.prog (GB main) 34 #[.slice p l.length c] h (fun r h' => RInv 84 h h' r l) := by
  refine callsG_of_wp (c := Try.f34.body.getD .skip) gb idleB Try.func34 rfl ?_
  rw [Try.ntmps34]
  rw [fr_of (n := 20) (by simp) [(0, .slice p l.length c)] ⟨by simp, trivial⟩]
  generalize (fun j => (#[Value.slice p l.length c] ++ Array.replicate (20 - #[Value.slice p l.length c].size) undef).getD j undef) = σ
  refine wpG_seq gb idleB ?_
  refine wpG_region gb idleB ?_
  refine opsF_val gb idleB rfl (by rfl) rfl (x := .slice none 0 0) (y_assign rfl) ?_
  refine opsG_nil gb idleB ?_
  refine wpG_seq gb idleB ?_
  refine wpG_region gb idleB ?_
  refine opsF_new gb (lensB2 _) rfl (by rfl) rfl (.cells #[] 84) (fun M => .slice (some ⟨M, 0, none⟩) 0 0) (run_bs0 (by decide)) fun g5 hg5 => ?_
  refine opsF_val gb idleB rfl (by rfl) rfl (x := .slice (some ⟨g5, 0, none⟩) 0 0) (y_assign rfl) ?_
  refine opsG_nil gb idleB ?_
  refine wpG_seq gb idleB ?_
  refine wpG_seq gb idleB ?_
  refine wpG_region gb idleB ?_
  refine opsF_val gb idleB rfl (by rfl) rfl (x := .int .i64 0) (y_assign rfl) ?_
  refine opsG_nil gb idleB ?_
  refine wpG_block gb idleB ?_
  refine wpG_loopN gb idleB (fun m a v => ∃ (dn rest : List T3) (v5 : Value) (τ : Nat → Value) (h' : PH), m = rest.length ∧ l = dn ++ rest ∧ a = fr 20 τ [(0, .slice p l.length c), (3, v5), (4, .int .i64 (dn.length : Nat))] [] ∧ h' = v ∧ RInv 84 h h' v5 dn) l.length ⟨[], l, _, _, _, rfl, rfl, fr_says _ ⟨rfl, rfl, rfl, trivial⟩, rfl, rinv_init hg5⟩ ?_
  rintro m _ _ ⟨dn, rest, v5, τ, h', rfl, htk, rfl, rfl, I⟩
  clear hg5 σ
  have hdn : dn.length + rest.length = l.length := by rw [htk, List.length_append]
  rcases rest with _ | ⟨t, ts⟩
  · refine wpG_seq gb idleB ?_
    refine wpG_seq gb idleB ?_
    refine wpG_region gb idleB ?_
    refine opsF_val gb idleB rfl (by rfl) rfl (x := .int .i64 (dn.length : Nat)) (y_move rfl) ?_
    refine opsF_val gb idleB rfl (by rfl) rfl (x := .slice p l.length c) (y_move rfl) ?_
    refine opsF_val gb idleB rfl (by rfl) rfl (x := .int .i64 (l.length : Nat)) (y_len_slice Try.underlying44 rfl) ?_
    refine opsF_val gb idleB rfl (by rfl) rfl (x := .bool false) (y_lss rfl rfl (by simp at hdn ⊢; omega)) ?_
    refine opsG_nil gb idleB ?_
    refine wpG_cond gb idleB (t := false) (by rw [fr_eval]; rfl) ?_
    refine wpG_exit gb idleB ?_
    refine wpG_seq gb idleB ?_
    refine wpG_region gb idleB ?_
    refine opsF_val gb idleB rfl (by rfl) rfl (x := v5) (y_move rfl) ?_
    refine opsF_val gb idleB rfl (by rfl) rfl (x := v5) (y_assign rfl) ?_
    refine opsG_nil gb idleB ?_
    refine wpG_ret gb idleB ?_
    rw [List.append_nil] at htk
    subst htk
    exact ⟨.inr rfl, rfl, _, resultsC_tmp (by rfl) _, by rw [fr_ret (by decide) rfl]; exact I⟩
  · simp only [List.length_cons] at hdn
    obtain ⟨B, o, rfl, hS0⟩ := hR.pos (by omega)
    rw [show flat l = flat (dn ++ t :: ts) by rw [htk]] at hS0
    have hS := hS0.mono I.ext
    obtain ⟨hga, hgb, hgs⟩ := flat_get dn ts t
    refine wpG_seq gb idleB ?_
    refine wpG_seq gb idleB ?_
    refine wpG_region gb idleB ?_
    refine opsF_val gb idleB rfl (by rfl) rfl (x := .int .i64 (dn.length : Nat)) (y_move rfl) ?_
    refine opsF_val gb idleB rfl (by rfl) rfl (x := .slice (some ⟨B, o, none⟩) l.length c) (y_move rfl) ?_
    refine opsF_val gb idleB rfl (by rfl) rfl (x := .int .i64 (l.length : Nat)) (y_len_slice Try.underlying44 rfl) ?_
    refine opsF_val gb idleB rfl (by rfl) rfl (x := .bool true) (y_lss rfl rfl (by simp at hdn ⊢; omega)) ?_
    refine opsG_nil gb idleB ?_
    refine wpG_cond gb idleB (t := true) (by rw [fr_eval]; rfl) ?_
    refine wpG_skip gb idleB ?_
    refine wpG_seq gb idleB ?_
    refine wpG_block gb idleB ?_
    refine wpG_region gb idleB ?_
    refine opsF_val gb idleB rfl (by rfl) rfl (x := v5) (y_move rfl) ?_
    refine opsF_val gb idleB rfl (by rfl) rfl (x := .slice (some ⟨B, o, none⟩) l.length c) (y_move rfl) ?_
    refine opsF_val gb idleB rfl (by rfl) rfl (x := .int .i64 (dn.length : Nat)) (y_move rfl) ?_
    refine opsF_val gb idleB rfl (by rfl) rfl (x := .pointer (some ⟨B, o + dn.length * 3, none⟩)) (y_ix ty44 rfl rfl (by omega)) ?_
    refine opsF_rd gb (lensB2 _) rfl (by rfl) rfl (x := .agg #[.int .i64 t.a, .int .i64 t.b, .string t.s]) (rd_threeq (by decide) hS hga hgb hgs (by omega) rfl) ?_
    refine opsF_new gb (lensB2 _) rfl (by rfl) rfl (.cells #[.int .i64 t.a, .int .i64 t.b, .string t.s] 84) (fun M => .slice (some ⟨M, 0, none⟩) 1 1) (run_bs3 (by decide) rfl) fun M hM => ?_
    have I3 := I.grow (ext_put (o := .cells #[.int .i64 t.a, .int .i64 t.b, .string t.s] 84) hM)
    have hSM := slAt_new h' M #[.int .i64 t.a, .int .i64 t.b, .string t.s] 84
    refine opsB_append gb ty47 (c := 1) rfl (by rfl) rfl rfl rfl rfl I3.own hSM rfl (by decide) (by simp [Value.oneCell']) (by omega) fun v5' h4 hO hold hb => ?_
    have I4 := I3.add (x := t) hO hold hb
    refine opsF_val gb idleB rfl (by rfl) rfl (x := v5') (y_assign rfl) ?_
    refine opsG_nil gb idleB ?_
    refine wpG_region gb idleB ?_
    refine opsF_val gb idleB rfl (by rfl) rfl (x := .int .i64 (dn.length : Nat)) (y_move rfl) ?_
    refine opsF_val gb idleB rfl (by rfl) rfl (x := .int .i64 (dn.length + 1 : Nat)) (y_add rfl rfl (by rw [IntKind.wrap_i64]; omega)) ?_
    refine opsF_val gb idleB rfl (by rfl) rfl (x := .int .i64 (dn.length + 1 : Nat)) (y_assign rfl) ?_
    refine opsG_nil gb idleB ?_
    exact ⟨ts.length, by rw [List.length_cons]; omega, dn ++ [t], ts, _, _, _, rfl, by rw [htk]; simp, fr_says _ ⟨rfl, rfl, by rw [List.length_append]; rfl, trivial⟩, rfl, I4⟩

set_option maxHeartbeats 1000000 in
theorem same33 {main : Bool} (h : PH) (l : List T3) (p q : Option Addr) (c e : Nat) (hR : RSl h 3 (.slice p l.length c) l.length (flat l)) (hR2 : RSl h 3 (.slice q l.length e) l.length (flat l)) (hlen : l.length ≤ 2 ^ 20) :
    CallsG Try.prog (GB main) 33 #[.slice p l.length c, .slice q l.length e, .bool true] h (fun r h' => r = .bool true ∧ h' = h) := by
  refine callsG_of_wp (c := Try.f33.body.getD .skip) gb idleB Try.func33 rfl ?_
  rw [Try.ntmps33]
  rw [fr_of (n := 59) (by simp) [(0, .slice p l.length c), (1, .slice q l.length e), (2, .bool true)] ⟨by simp, by simp, by simp, trivial⟩]
  generalize (fun j => (#[Value.slice p l.length c, Value.slice q l.length e, Value.bool true] ++ Array.replicate (59 - #[Value.slice p l.length c, Value.slice q l.length e, Value.bool true].size) undef).getD j undef) = σ
  refine wpG_seq gb idleB ?_
  refine wpG_region gb idleB ?_
  refine opsF_val gb idleB rfl (by rfl) rfl (x := .bool false) (y_assign rfl) ?_
  refine opsG_nil gb idleB ?_
  refine wpG_seq gb idleB ?_
  refine wpG_seq gb idleB ?_
  refine wpG_region gb idleB ?_
  refine opsF_val gb idleB rfl (by rfl) rfl (x := .slice p l.length c) (y_move rfl) ?_
  refine opsF_val gb idleB rfl (by rfl) rfl (x := .int .i64 (l.length : Nat)) (y_len_slice Try.underlying47 rfl) ?_
  refine opsF_val gb idleB rfl (by rfl) rfl (x := .slice q l.length e) (y_move rfl) ?_
  refine opsF_val gb idleB rfl (by rfl) rfl (x := .int .i64 (l.length : Nat)) (y_len_slice Try.underlying47 rfl) ?_
  refine opsF_val gb idleB rfl (by rfl) rfl (x := .bool false) (y_neq (.inl rfl) rfl rfl (by simp)) ?_
  refine opsG_nil gb idleB ?_
  refine wpG_cond gb idleB (t := false) (by rw [fr_eval]; rfl) ?_
  refine wpG_skip gb idleB ?_
  refine wpG_seq gb idleB ?_
  refine wpG_seq gb idleB ?_
  refine wpG_region gb idleB ?_
  refine opsF_val gb idleB rfl (by rfl) rfl (x := .int .i64 0) (y_assign rfl) ?_
  refine opsG_nil gb idleB ?_
  refine wpG_block gb idleB ?_
  refine wpG_loopN gb idleB (fun m a v => ∃ (dn rest : List T3) (τ : Nat → Value), m = rest.length ∧ l = dn ++ rest ∧ a = fr 59 τ [(0, .slice p l.length c), (1, .slice q l.length e), (2, .bool true), (7, .int .i64 (dn.length : Nat))] [] ∧ v = h) l.length ⟨[], l, _, rfl, rfl, fr_says _ ⟨rfl, rfl, rfl, rfl, trivial⟩, rfl⟩ ?_
  rintro m _ v ⟨dn, rest, τ, rfl, htk, rfl, hv⟩
  obtain rfl : h = v := hv.symm
  clear σ
  have hdn : dn.length + rest.length = l.length := by rw [htk, List.length_append]
  rcases rest with _ | ⟨t, ts⟩
  · refine wpG_seq gb idleB ?_
    refine wpG_seq gb idleB ?_
    refine wpG_region gb idleB ?_
    refine opsF_val gb idleB rfl (by rfl) rfl (x := .int .i64 (dn.length : Nat)) (y_move rfl) ?_
    refine opsF_val gb idleB rfl (by rfl) rfl (x := .slice p l.length c) (y_move rfl) ?_
    refine opsF_val gb idleB rfl (by rfl) rfl (x := .int .i64 (l.length : Nat)) (y_len_slice Try.underlying47 rfl) ?_
    refine opsF_val gb idleB rfl (by rfl) rfl (x := .bool false) (y_lss rfl rfl (by simp at hdn ⊢; omega)) ?_
    refine opsG_nil gb idleB ?_
    refine wpG_cond gb idleB (t := false) (by rw [fr_eval]; rfl) ?_
    refine wpG_exit gb idleB ?_
    refine wpG_seq gb idleB ?_
    refine wpG_region gb idleB ?_
    refine opsF_val gb idleB rfl (by rfl) rfl (x := .bool true) (y_assign rfl) ?_
    refine opsG_nil gb idleB ?_
    refine wpG_ret gb idleB ?_
    exact ⟨.inr rfl, rfl, _, resultsC_tmp (by rfl) _, fr_ret (by decide) rfl, rfl⟩
  · simp only [List.length_cons] at hdn
    obtain ⟨B, o, rfl, hS⟩ := hR.pos (by omega)
    obtain ⟨B2, o2, rfl, hS2⟩ := hR2.pos (by omega)
    rw [show flat l = flat (dn ++ t :: ts) by rw [htk]] at hS hS2
    obtain ⟨hga, hgb, hgs⟩ := flat_get dn ts t
    refine wpG_seq gb idleB ?_
    refine wpG_seq gb idleB ?_
    refine wpG_region gb idleB ?_
    refine opsF_val gb idleB rfl (by rfl) rfl (x := .int .i64 (dn.length : Nat)) (y_move rfl) ?_
    refine opsF_val gb idleB rfl (by rfl) rfl (x := .slice (some ⟨B, o, none⟩) l.length c) (y_move rfl) ?_
    refine opsF_val gb idleB rfl (by rfl) rfl (x := .int .i64 (l.length : Nat)) (y_len_slice Try.underlying47 rfl) ?_
    refine opsF_val gb idleB rfl (by rfl) rfl (x := .bool true) (y_lss rfl rfl (by simp at hdn ⊢; omega)) ?_
    refine opsG_nil gb idleB ?_
    refine wpG_cond gb idleB (t := true) (by rw [fr_eval]; rfl) ?_
    refine wpG_skip gb idleB ?_
    refine wpG_seq gb idleB ?_
    refine wpG_block gb idleB ?_
    refine wpG_seq gb idleB ?_
    refine wpG_region_held (S := fun u => u = h) gb idleB drawsB (by kernel_rfl) ?_
    show AnyV _ _ _ _ .any _ _ _ 40 (Array.replicate 40 false) _ _
    refine anyF_rd (lensB2 _) (i := 0) rfl (by first | kernel_rfl | decide +kernel) (by first | kernel_rfl | decide +kernel) (by first | kernel_rfl | decide +kernel) (by rfl) rfl (x := .slice (some ⟨B, o, none⟩) l.length c) (Ylds.rds (y_move rfl)) ?_
    refine anyF_rd (lensB2 _) (i := 1) rfl (by first | kernel_rfl | decide +kernel) (by first | kernel_rfl | decide +kernel) (by first | kernel_rfl | decide +kernel) (by rfl) rfl (x := .int .i64 (dn.length : Nat)) (Ylds.rds (y_move rfl)) ?_
    refine anyF_rd (lensB2 _) (i := 2) rfl (by first | kernel_rfl | decide +kernel) (by first | kernel_rfl | decide +kernel) (by first | kernel_rfl | decide +kernel) (by rfl) rfl (x := .pointer (some ⟨B, o + dn.length * 3, none⟩)) (Ylds.rds (y_ix ty47 rfl rfl (by omega))) ?_
    refine anyF_rd (lensB2 _) (i := 3) rfl (by first | kernel_rfl | decide +kernel) (by first | kernel_rfl | decide +kernel) (by first | kernel_rfl | decide +kernel) (by rfl) rfl (x := .pointer (some ⟨B, o + dn.length * 3 + 0, none⟩)) (Ylds.rds (y_fld (by decide) rfl)) ?_
    refine anyF_rd (lensB2 _) (i := 4) rfl (by first | kernel_rfl | decide +kernel) (by first | kernel_rfl | decide +kernel) (by first | kernel_rfl | decide +kernel) (by rfl) rfl (x := .int .i64 t.a) (rd_cellq (by decide) hS hga (by omega) rfl) ?_
    refine anyF_rd (lensB2 _) (i := 5) rfl (by first | kernel_rfl | decide +kernel) (by first | kernel_rfl | decide +kernel) (by first | kernel_rfl | decide +kernel) (by rfl) rfl (x := .slice (some ⟨B2, o2, none⟩) l.length e) (Ylds.rds (y_move rfl)) ?_
    refine anyF_rd (lensB2 _) (i := 6) rfl (by first | kernel_rfl | decide +kernel) (by first | kernel_rfl | decide +kernel) (by first | kernel_rfl | decide +kernel) (by rfl) rfl (x := .int .i64 (dn.length : Nat)) (Ylds.rds (y_move rfl)) ?_
    refine anyF_rd (lensB2 _) (i := 7) rfl (by first | kernel_rfl | decide +kernel) (by first | kernel_rfl | decide +kernel) (by first | kernel_rfl | decide +kernel) (by rfl) rfl (x := .pointer (some ⟨B2, o2 + dn.length * 3, none⟩)) (Ylds.rds (y_ix ty47 rfl rfl (by omega))) ?_
    refine anyF_rd (lensB2 _) (i := 8) rfl (by first | kernel_rfl | decide +kernel) (by first | kernel_rfl | decide +kernel) (by first | kernel_rfl | decide +kernel) (by rfl) rfl (x := .pointer (some ⟨B2, o2 + dn.length * 3 + 0, none⟩)) (Ylds.rds (y_fld (by decide) rfl)) ?_
    refine anyF_rd (lensB2 _) (i := 9) rfl (by first | kernel_rfl | decide +kernel) (by first | kernel_rfl | decide +kernel) (by first | kernel_rfl | decide +kernel) (by rfl) rfl (x := .int .i64 t.a) (rd_cellq (by decide) hS2 hga (by omega) rfl) ?_
    refine anyF_rd (lensB2 _) (i := 10) rfl (by first | kernel_rfl | decide +kernel) (by first | kernel_rfl | decide +kernel) (by first | kernel_rfl | decide +kernel) (by rfl) rfl (x := .bool false) (Ylds.rds (y_neq (.inl rfl) rfl rfl (by simp))) ?_
    refine anyF_rd (lensB2 _) (i := 11) rfl (by first | kernel_rfl | decide +kernel) (by first | kernel_rfl | decide +kernel) (by first | kernel_rfl | decide +kernel) (by rfl) rfl (x := .bool false) (Ylds.rds (y_move rfl)) ?_
    refine anyF_rd (lensB2 _) (i := 12) rfl (by first | kernel_rfl | decide +kernel) (by first | kernel_rfl | decide +kernel) (by first | kernel_rfl | decide +kernel) (by rfl) rfl (x := .slice (some ⟨B, o, none⟩) l.length c) (Ylds.rds (y_move rfl)) ?_
    refine anyF_rd (lensB2 _) (i := 13) rfl (by first | kernel_rfl | decide +kernel) (by first | kernel_rfl | decide +kernel) (by first | kernel_rfl | decide +kernel) (by rfl) rfl (x := .int .i64 (dn.length : Nat)) (Ylds.rds (y_move rfl)) ?_
    refine anyF_rd (lensB2 _) (i := 14) rfl (by first | kernel_rfl | decide +kernel) (by first | kernel_rfl | decide +kernel) (by first | kernel_rfl | decide +kernel) (by rfl) rfl (x := .pointer (some ⟨B, o + dn.length * 3, none⟩)) (Ylds.rds (y_ix ty47 rfl rfl (by omega))) ?_
    refine anyF_rd (lensB2 _) (i := 15) rfl (by first | kernel_rfl | decide +kernel) (by first | kernel_rfl | decide +kernel) (by first | kernel_rfl | decide +kernel) (by rfl) rfl (x := .pointer (some ⟨B, o + dn.length * 3 + 2, none⟩)) (Ylds.rds (y_fld (by decide) rfl)) ?_
    refine anyF_rd (lensB2 _) (i := 16) rfl (by first | kernel_rfl | decide +kernel) (by first | kernel_rfl | decide +kernel) (by first | kernel_rfl | decide +kernel) (by rfl) rfl (x := .string t.s) (rd_cellq (by decide) hS hgs (by omega) rfl) ?_
    refine anyF_rd (lensB2 _) (i := 17) rfl (by first | kernel_rfl | decide +kernel) (by first | kernel_rfl | decide +kernel) (by first | kernel_rfl | decide +kernel) (by rfl) rfl (x := .slice (some ⟨B2, o2, none⟩) l.length e) (Ylds.rds (y_move rfl)) ?_
    refine anyF_rd (lensB2 _) (i := 18) rfl (by first | kernel_rfl | decide +kernel) (by first | kernel_rfl | decide +kernel) (by first | kernel_rfl | decide +kernel) (by rfl) rfl (x := .int .i64 (dn.length : Nat)) (Ylds.rds (y_move rfl)) ?_
    refine anyF_rd (lensB2 _) (i := 19) rfl (by first | kernel_rfl | decide +kernel) (by first | kernel_rfl | decide +kernel) (by first | kernel_rfl | decide +kernel) (by rfl) rfl (x := .pointer (some ⟨B2, o2 + dn.length * 3, none⟩)) (Ylds.rds (y_ix ty47 rfl rfl (by omega))) ?_
    refine anyF_rd (lensB2 _) (i := 20) rfl (by first | kernel_rfl | decide +kernel) (by first | kernel_rfl | decide +kernel) (by first | kernel_rfl | decide +kernel) (by rfl) rfl (x := .pointer (some ⟨B2, o2 + dn.length * 3 + 2, none⟩)) (Ylds.rds (y_fld (by decide) rfl)) ?_
    refine anyF_rd (lensB2 _) (i := 21) rfl (by first | kernel_rfl | decide +kernel) (by first | kernel_rfl | decide +kernel) (by first | kernel_rfl | decide +kernel) (by rfl) rfl (x := .string t.s) (rd_cellq (by decide) hS2 hgs (by omega) rfl) ?_
    refine anyF_rd (lensB2 _) (i := 22) rfl (by first | kernel_rfl | decide +kernel) (by first | kernel_rfl | decide +kernel) (by first | kernel_rfl | decide +kernel) (by rfl) rfl (x := .bool false) (Ylds.rds (y_neq_str rfl rfl)) ?_
    refine anyF_rd (lensB2 _) (i := 23) rfl (by first | kernel_rfl | decide +kernel) (by first | kernel_rfl | decide +kernel) (by first | kernel_rfl | decide +kernel) (by rfl) rfl (x := .bool false) (Ylds.rds (y_pick (t := false) rfl rfl)) ?_
    refine anyF_rd (lensB2 _) (i := 24) rfl (by first | kernel_rfl | decide +kernel) (by first | kernel_rfl | decide +kernel) (by first | kernel_rfl | decide +kernel) (by rfl) rfl (x := .bool false) (Ylds.rds (y_move rfl)) ?_
    refine anyF_rd (lensB2 _) (i := 25) rfl (by first | kernel_rfl | decide +kernel) (by first | kernel_rfl | decide +kernel) (by first | kernel_rfl | decide +kernel) (by rfl) rfl (x := .bool true) (Ylds.rds (y_move rfl)) ?_
    refine anyF_rd (lensB2 _) (i := 26) rfl (by first | kernel_rfl | decide +kernel) (by first | kernel_rfl | decide +kernel) (by first | kernel_rfl | decide +kernel) (by rfl) rfl (x := .bool true) (Ylds.rds (y_move rfl)) ?_
    refine anyF_rd (lensB2 _) (i := 27) rfl (by first | kernel_rfl | decide +kernel) (by first | kernel_rfl | decide +kernel) (by first | kernel_rfl | decide +kernel) (by rfl) rfl (x := .slice (some ⟨B, o, none⟩) l.length c) (Ylds.rds (y_move rfl)) ?_
    refine anyF_rd (lensB2 _) (i := 28) rfl (by first | kernel_rfl | decide +kernel) (by first | kernel_rfl | decide +kernel) (by first | kernel_rfl | decide +kernel) (by rfl) rfl (x := .int .i64 (dn.length : Nat)) (Ylds.rds (y_move rfl)) ?_
    refine anyF_rd (lensB2 _) (i := 29) rfl (by first | kernel_rfl | decide +kernel) (by first | kernel_rfl | decide +kernel) (by first | kernel_rfl | decide +kernel) (by rfl) rfl (x := .pointer (some ⟨B, o + dn.length * 3, none⟩)) (Ylds.rds (y_ix ty47 rfl rfl (by omega))) ?_
    refine anyF_rd (lensB2 _) (i := 30) rfl (by first | kernel_rfl | decide +kernel) (by first | kernel_rfl | decide +kernel) (by first | kernel_rfl | decide +kernel) (by rfl) rfl (x := .pointer (some ⟨B, o + dn.length * 3 + 1, none⟩)) (Ylds.rds (y_fld (by decide) rfl)) ?_
    refine anyF_rd (lensB2 _) (i := 31) rfl (by first | kernel_rfl | decide +kernel) (by first | kernel_rfl | decide +kernel) (by first | kernel_rfl | decide +kernel) (by rfl) rfl (x := .int .i64 t.b) (rd_cellq (by decide) hS hgb (by omega) rfl) ?_
    refine anyF_rd (lensB2 _) (i := 32) rfl (by first | kernel_rfl | decide +kernel) (by first | kernel_rfl | decide +kernel) (by first | kernel_rfl | decide +kernel) (by rfl) rfl (x := .slice (some ⟨B2, o2, none⟩) l.length e) (Ylds.rds (y_move rfl)) ?_
    refine anyF_rd (lensB2 _) (i := 33) rfl (by first | kernel_rfl | decide +kernel) (by first | kernel_rfl | decide +kernel) (by first | kernel_rfl | decide +kernel) (by rfl) rfl (x := .int .i64 (dn.length : Nat)) (Ylds.rds (y_move rfl)) ?_
    refine anyF_rd (lensB2 _) (i := 34) rfl (by first | kernel_rfl | decide +kernel) (by first | kernel_rfl | decide +kernel) (by first | kernel_rfl | decide +kernel) (by rfl) rfl (x := .pointer (some ⟨B2, o2 + dn.length * 3, none⟩)) (Ylds.rds (y_ix ty47 rfl rfl (by omega))) ?_
    refine anyF_rd (lensB2 _) (i := 35) rfl (by first | kernel_rfl | decide +kernel) (by first | kernel_rfl | decide +kernel) (by first | kernel_rfl | decide +kernel) (by rfl) rfl (x := .pointer (some ⟨B2, o2 + dn.length * 3 + 1, none⟩)) (Ylds.rds (y_fld (by decide) rfl)) ?_
    refine anyF_rd (lensB2 _) (i := 36) rfl (by first | kernel_rfl | decide +kernel) (by first | kernel_rfl | decide +kernel) (by first | kernel_rfl | decide +kernel) (by rfl) rfl (x := .int .i64 t.b) (rd_cellq (by decide) hS2 hgb (by omega) rfl) ?_
    refine anyF_rd (lensB2 _) (i := 37) rfl (by first | kernel_rfl | decide +kernel) (by first | kernel_rfl | decide +kernel) (by first | kernel_rfl | decide +kernel) (by rfl) rfl (x := .bool false) (Ylds.rds (y_neq (.inl rfl) rfl rfl (by simp))) ?_
    refine anyF_rd (lensB2 _) (i := 38) rfl (by first | kernel_rfl | decide +kernel) (by first | kernel_rfl | decide +kernel) (by first | kernel_rfl | decide +kernel) (by rfl) rfl (x := .bool false) (Ylds.rds (y_pick (t := true) rfl rfl)) ?_
    refine anyF_rd (lensB2 _) (i := 39) rfl (by first | kernel_rfl | decide +kernel) (by first | kernel_rfl | decide +kernel) (by first | kernel_rfl | decide +kernel) (by rfl) rfl (x := .bool false) (Ylds.rds (y_pick (t := false) rfl rfl)) ?_
    refine anyV_done (by first | kernel_rfl | decide +kernel) ?_ _
    refine wpG_cond gb idleB (t := false) (by rw [fr_eval]; rfl) ?_
    refine wpG_skip gb idleB ?_
    refine wpG_region gb idleB ?_
    refine opsF_val gb idleB rfl (by rfl) rfl (x := .int .i64 (dn.length : Nat)) (y_move rfl) ?_
    refine opsF_val gb idleB rfl (by rfl) rfl (x := .int .i64 (dn.length + 1 : Nat)) (y_add rfl rfl (by rw [IntKind.wrap_i64]; omega)) ?_
    refine opsF_val gb idleB rfl (by rfl) rfl (x := .int .i64 (dn.length + 1 : Nat)) (y_assign rfl) ?_
    refine opsG_nil gb idleB ?_
    exact ⟨ts.length, by rw [List.length_cons]; omega, dn ++ [t], ts, _, rfl, by rw [htk]; simp, fr_says _ ⟨rfl, rfl, rfl, by rw [List.length_append]; rfl, trivial⟩, rfl⟩

end Go.Proofs.Ytfaadjmglboaoaa
