/-
  surface.Parse: its contract.
-/
import Derived.Test.YtfaadjmglboaoaaPLem
namespace Go.Proofs.Ytfaadjmglboaoaa
open Go.Conc Go.RowKit

theorem results31 : Try.f31.results = #[.tmp 2, .tmp 3, .tmp 4] := by rfl

set_option maxHeartbeats 8000000 in
theorem parse31 {main : Bool} (h : PH) (toks : List T3) (p : Option Addr) (c : Nat) (hR : RSl h 3 (.slice p toks.length c) toks.length (flat toks)) (hlen : toks.length ≤ 20000) :
    CallsG Try.prog (GB main) 31 #[.slice p toks.length c] h (ParsePost 63 h toks) := by
  refine callsG_of_wp (c := Try.f31.body.getD .skip) gb idleB Try.func31 rfl ?_
  rw [Try.ntmps31]
  rw [fr_of (n := 112) (by simp) [(0, .slice p toks.length c)] ⟨by simp, trivial⟩]
  generalize (fun j => (#[Value.slice p toks.length c] ++ Array.replicate (112 - #[Value.slice p toks.length c].size) undef).getD j undef) = σ
  refine wpG_seq gb idleB ?_
  refine wpG_region gb idleB ?_
  refine opsF_val gb idleB rfl (by rfl) rfl (x := .slice none 0 0) (y_assign rfl) ?_
  refine opsF_val gb idleB rfl (by rfl) rfl (x := .int .i64 0) (y_assign rfl) ?_
  refine opsF_val gb idleB rfl (by rfl) rfl (x := .int .i64 0) (y_assign rfl) ?_
  refine opsG_nil gb idleB ?_
  refine wpG_seq gb idleB ?_
  refine wpG_region gb idleB ?_
  refine opsF_val gb idleB rfl (by rfl) rfl (x := .slice none 0 0) (y_assign rfl) ?_
  refine opsG_nil gb idleB ?_
  refine wpG_seq gb idleB ?_
  refine wpG_region gb idleB ?_
  refine opsF_val gb idleB rfl (by rfl) rfl (x := .agg #[.int .i64 0, .int .i64 0, .string { data := #[] }]) (y_b3_none (by decide)) ?_
  refine opsF_new gb (lensB2 _) rfl (by rfl) rfl (.cells #[.int .i64 0, .int .i64 0, .string { data := #[] }] 63) (fun M => .slice (some ⟨M, 0, none⟩) 1 1) (run_bs3 (by decide) rfl) fun g0 hg0 => ?_
  refine opsF_val gb idleB rfl (by rfl) rfl (x := .slice (some ⟨g0, 0, none⟩) 1 1) (y_assign rfl) ?_
  refine opsG_nil gb idleB ?_
  refine wpG_seq gb idleB ?_
  refine wpG_seq gb idleB ?_
  refine wpG_region gb idleB ?_
  refine opsF_val gb idleB rfl (by rfl) rfl (x := .slice p toks.length c) (y_move rfl) ?_
  refine opsF_val gb idleB rfl (by rfl) rfl (x := .int .i64 (toks.length : Nat)) (y_len_slice Try.underlying36 rfl) ?_
  refine opsF_val gb idleB rfl (by rfl) rfl (x := .int .i64 0) (y_move rfl) ?_
  refine opsG_nil gb idleB ?_
  refine wpG_block gb idleB ?_
  have I0 : PInv 63 63 3 0 f3 h (put h g0 (.cells #[.int .i64 0, .int .i64 0, .string { data := #[] }] 63)) (.slice none 0 0) [] g0 1 [] (0, 0) 0 := pinv_init lay3 (Ext.refl h) hg0 rfl (ownK_nil _ _ _) (fun g hg => by cases hg)
  refine wpG_loopN gb idleB (fun m a v => ∃ (dn rest row : List T3) (ri : List (Int × Int)) (top : Int × Int) (v5 : Value) (g6 cap6 : Nat) (τ : Nat → Value) (h' : PH), m = rest.length ∧ toks = dn ++ rest ∧ pgo rest row ri top = parse toks ∧ a = fr 112 τ [(13, .slice p toks.length c), (14, .int .i64 (toks.length : Nat)), (15, .int .i64 (dn.length : Nat)), (5, v5), (6, .slice (some ⟨g6, 0, none⟩) (ri.length + 1) cap6)] [] ∧ h' = v ∧ PInv 63 63 3 0 f3 h h' v5 row g6 cap6 ri top dn.length) toks.length ⟨[], toks, [], [], (0, 0), _, g0, 1, _, _, rfl, rfl, rfl, fr_says _ ⟨rfl, rfl, rfl, rfl, rfl, trivial⟩, rfl, I0⟩ ?_
  rintro m _ _ ⟨dn, rest, row, ri, top, v5, g6, cap6, τ, h', rfl, htk, hgo, rfl, rfl, I⟩
  clear I0 hg0 σ
  have hdn : dn.length + rest.length = toks.length := by rw [htk, List.length_append]
  have hrib := I.rib
  rcases pcases rest ri with ⟨rfl, rfl⟩ | ⟨rfl, u, r, rfl⟩ | ⟨t, ts, rfl, ka⟩ | ⟨t, ts, rfl, ka, k6⟩ | ⟨t, ts, rfl, ka, k6⟩ | ⟨t, ts, rfl, ka, rfl⟩ | ⟨t, ts, rfl, ka, u, r, rfl⟩ | ⟨t, ts, rfl, k1, k2, k3⟩
  · simp only [List.length_nil, Nat.zero_add] at *
    refine wpG_seq gb idleB ?_
    refine wpG_region gb idleB ?_
    refine opsF_val gb idleB rfl (by rfl) rfl (x := .bool false) (y_lss rfl rfl (by simp at hdn ⊢; omega)) ?_
    refine opsG_nil gb idleB ?_
    refine wpG_seq gb idleB ?_
    refine wpG_cond gb idleB (t := false) (by rw [fr_eval]; rfl) ?_
    refine wpG_exit gb idleB ?_
    refine wpG_seq gb idleB ?_
    refine wpG_seq gb idleB ?_
    refine wpG_region gb idleB ?_
    refine opsF_val gb idleB rfl (by rfl) rfl (x := .slice (some ⟨g6, 0, none⟩) 1 cap6) (y_move rfl) ?_
    refine opsF_val gb idleB rfl (by rfl) rfl (x := .int .i64 (1 : Nat)) (y_len_slice Try.underlying44 rfl) ?_
    refine opsF_val gb idleB rfl (by rfl) rfl (x := .int .i64 (1 : Nat)) (y_assign rfl) ?_
    refine opsG_nil gb idleB ?_
    refine wpG_seq gb idleB ?_
    refine wpG_region gb idleB ?_
    refine opsF_val gb idleB rfl (by rfl) rfl (x := .int .i64 (1 : Nat)) (y_move rfl) ?_
    refine opsF_val gb idleB rfl (by rfl) rfl (x := .bool false) (y_gtr rfl rfl (rfl)) ?_
    refine opsG_nil gb idleB ?_
    refine wpG_cond gb idleB (t := false) (by rw [fr_eval]; rfl) ?_
    refine wpG_skip gb idleB ?_
    refine wpG_seq gb idleB ?_
    refine wpG_region gb idleB ?_
    refine opsF_val gb idleB rfl (by rfl) rfl (x := v5) (y_move rfl) ?_
    refine opsF_val gb idleB rfl (by rfl) rfl (x := v5) (y_assign rfl) ?_
    refine opsF_val gb idleB rfl (by rfl) rfl (x := .int .i64 0) (y_assign rfl) ?_
    refine opsF_val gb idleB rfl (by rfl) rfl (x := .int .i64 0) (y_assign rfl) ?_
    refine opsG_nil gb idleB ?_
    refine wpG_ret gb idleB ?_
    refine ⟨.inr rfl, rfl, _, resultsC_tmp3 results31 _, ?_⟩
    rw [fr_ret (by decide) rfl, fr_ret (by decide) rfl, fr_ret (by decide) rfl]
    refine ⟨I.ext, ?_⟩
    rw [← hgo, pgo_nil]
    exact ⟨v5, rfl, I.own5, I.new5, by have := I.rowb; omega⟩
  · refine wpG_seq gb idleB ?_
    refine wpG_region gb idleB ?_
    refine opsF_val gb idleB rfl (by rfl) rfl (x := .bool false) (y_lss rfl rfl (by simp at hdn ⊢; omega)) ?_
    refine opsG_nil gb idleB ?_
    refine wpG_seq gb idleB ?_
    refine wpG_cond gb idleB (t := false) (by rw [fr_eval]; rfl) ?_
    refine wpG_exit gb idleB ?_
    refine wpG_seq gb idleB ?_
    refine wpG_seq gb idleB ?_
    refine wpG_region gb idleB ?_
    refine opsF_val gb idleB rfl (by rfl) rfl (x := .slice (some ⟨g6, 0, none⟩) (r.length + 2) cap6) (y_move rfl) ?_
    refine opsF_val gb idleB rfl (by rfl) rfl (x := .int .i64 ((r.length + 2) : Nat)) (y_len_slice Try.underlying44 rfl) ?_
    refine opsF_val gb idleB rfl (by rfl) rfl (x := .int .i64 ((r.length + 2) : Nat)) (y_assign rfl) ?_
    refine opsG_nil gb idleB ?_
    refine wpG_seq gb idleB ?_
    refine wpG_region gb idleB ?_
    refine opsF_val gb idleB rfl (by rfl) rfl (x := .int .i64 ((r.length + 2) : Nat)) (y_move rfl) ?_
    refine opsF_val gb idleB rfl (by rfl) rfl (x := .bool true) (y_gtr rfl rfl (by simp; omega)) ?_
    refine opsG_nil gb idleB ?_
    refine wpG_cond gb idleB (t := true) (by rw [fr_eval]; rfl) ?_
    refine wpG_seq gb idleB ?_
    refine wpG_region_held (S := fun u => u = h') gb idleB drawsB (by kernel_rfl) ?_
    show AnyV _ _ _ _ .any _ _ _ 9 (Array.replicate 9 false) _ _
    refine anyF_rd (lensB2 _) (i := 0) rfl (by first | kernel_rfl | decide +kernel) (by first | kernel_rfl | decide +kernel) (by first | kernel_rfl | decide +kernel) (by rfl) rfl (x := .slice (some ⟨g6, 0, none⟩) (r.length + 2) cap6) (Ylds.rds (y_move rfl)) ?_
    refine anyF_rd (lensB2 _) (i := 1) rfl (by first | kernel_rfl | decide +kernel) (by first | kernel_rfl | decide +kernel) (by first | kernel_rfl | decide +kernel) (by rfl) rfl (x := .int .i64 ((r.length + 2) : Nat)) (Ylds.rds (y_move rfl)) ?_
    refine anyF_rd (lensB2 _) (i := 2) rfl (by first | kernel_rfl | decide +kernel) (by first | kernel_rfl | decide +kernel) (by first | kernel_rfl | decide +kernel) (by rfl) rfl (x := .int .i64 ((r.length + 1) : Nat)) (Ylds.rds (y_sub rfl rfl (by rw [IntKind.wrap_i64]; (try rw [List.length_cons] at hrib); omega))) ?_
    refine anyF_rd (lensB2 _) (i := 3) rfl (by first | kernel_rfl | decide +kernel) (by first | kernel_rfl | decide +kernel) (by first | kernel_rfl | decide +kernel) (by rfl) rfl (x := .pointer (some ⟨g6, (r.length + 1) * 3, none⟩)) (Ylds.rds (cast_y (y_ix ty44 rfl rfl (by omega)) (by rw [Nat.zero_add]))) ?_
    refine anyF_rd (lensB2 _) (i := 4) rfl (by first | kernel_rfl | decide +kernel) (by first | kernel_rfl | decide +kernel) (by first | kernel_rfl | decide +kernel) (by rfl) rfl (x := .pointer (some ⟨g6, (r.length + 1) * 3 + 1, none⟩)) (Ylds.rds (y_fld (by decide) rfl)) ?_
    refine anyF_rd (lensB2 _) (i := 5) rfl (by first | kernel_rfl | decide +kernel) (by first | kernel_rfl | decide +kernel) (by first | kernel_rfl | decide +kernel) (by rfl) rfl (x := .int .i64 top.2) (rd_cellq (by decide) I.slAt (stk_at lay3 (u :: r) top 1 _ rfl) (by simp only [List.length_cons]; omega) rfl) ?_
    refine anyF_rd (lensB2 _) (i := 6) rfl (by first | kernel_rfl | decide +kernel) (by first | kernel_rfl | decide +kernel) (by first | kernel_rfl | decide +kernel) (by rfl) rfl (x := .slice none 0 0) (Ylds.rds (y_assign rfl)) ?_
    refine anyF_rd (lensB2 _) (i := 7) rfl (by first | kernel_rfl | decide +kernel) (by first | kernel_rfl | decide +kernel) (by first | kernel_rfl | decide +kernel) (by rfl) rfl (x := .int .i64 top.2) (Ylds.rds (y_assign rfl)) ?_
    refine anyF_rd (lensB2 _) (i := 8) rfl (by first | kernel_rfl | decide +kernel) (by first | kernel_rfl | decide +kernel) (by first | kernel_rfl | decide +kernel) (by rfl) rfl (x := .int .i64 70) (Ylds.rds (y_assign rfl)) ?_
    refine anyV_done (by first | kernel_rfl | decide +kernel) ?_ _
    refine wpG_ret gb idleB ?_
    refine ⟨.inr rfl, rfl, _, resultsC_tmp3 results31 _, ?_⟩
    rw [fr_ret (by decide) rfl, fr_ret (by decide) rfl, fr_ret (by decide) rfl]
    refine ⟨I.ext, ?_⟩
    rw [← hgo, pgo_open]
    rfl
  · simp only [List.length_cons] at hdn
    obtain ⟨B, o, rfl, hS0⟩ := hR.pos (by omega)
    rw [show flat toks = flat (dn ++ t :: ts) by rw [htk]] at hS0
    have hS := hS0.mono I.ext
    obtain ⟨hga, hgb, hgs⟩ := flat_get dn ts t
    refine wpG_seq gb idleB ?_
    refine wpG_region gb idleB ?_
    refine opsF_val gb idleB rfl (by rfl) rfl (x := .bool true) (y_lss rfl rfl (by simp at hdn ⊢; omega)) ?_
    refine opsG_nil gb idleB ?_
    refine wpG_seq gb idleB ?_
    refine wpG_cond gb idleB (t := true) (by rw [fr_eval]; rfl) ?_
    refine wpG_skip gb idleB ?_
    refine wpG_seq gb idleB ?_
    refine wpG_block gb idleB ?_
    refine wpG_seq gb idleB ?_
    refine wpG_region gb idleB ?_
    refine opsF_val gb idleB rfl (by rfl) rfl (x := .pointer (some ⟨B, o + dn.length * 3, none⟩)) (y_ix ty36 rfl rfl (by omega)) ?_
    refine opsF_rd gb (lensB2 _) rfl (by rfl) rfl (x := .agg #[.int .i64 t.a, .int .i64 t.b, .string t.s]) (rd_three (by decide) hS hga hgb hgs rfl) ?_
    refine opsF_new gb (lensB2 _) rfl (by rfl) rfl (.cells #[.int .i64 0, .int .i64 0, .string { data := #[] }] 40) (fun M => .pointer (some ⟨M, 0, none⟩)) (fun w => ⟨eq_of_K fun K hK => by go_simp; exact hK, by simp [Instr.alloc, newVar, newRow, go_sem]⟩) fun N hN => ?_
    refine opsF_store gb (lensB2 _) rfl (by rfl) rfl (wr_store rfl rfl (put_self _ _ _) (by kernel_rfl) rfl (by simp [Value.oneCell'])) ?_
    refine opsG_nil gb idleB ?_
    refine wpG_seq gb idleB ?_
    have hext := ext_put2 (o1 := .cells #[.int .i64 0, .int .i64 0, .string { data := #[] }] 40) (o2 := .cells #[.int .i64 t.a, .int .i64 t.b, .string t.s] 40) hN
    have hN2 : put (put h' N (.cells #[.int .i64 0, .int .i64 0, .string { data := #[] }] 40)) N (.cells #[.int .i64 t.a, .int .i64 t.b, .string t.s] 40) N = some (.cells #[.int .i64 t.a, .int .i64 t.b, .string t.s] 40) := put_self _ _ _
    have I2 := I.grow hext
    clear hN
    show WpG _ _ _ _ _ _ (put (put h' N (.cells #[.int .i64 0, .int .i64 0, .string { data := #[] }] 40)) N (.cells #[.int .i64 t.a, .int .i64 t.b, .string t.s] 40))
    generalize put (put h' N (.cells #[.int .i64 0, .int .i64 0, .string { data := #[] }] 40)) N (.cells #[.int .i64 t.a, .int .i64 t.b, .string t.s] 40) = h2 at *
    refine wpG_region gb idleB ?_
    refine opsF_val gb idleB rfl (by rfl) rfl (x := .slice (some ⟨g6, 0, none⟩) (ri.length + 1) cap6) (y_move rfl) ?_
    refine opsF_val gb idleB rfl (by rfl) rfl (x := .slice (some ⟨g6, 0, none⟩) (ri.length + 1) cap6) (y_move rfl) ?_
    refine opsF_val gb idleB rfl (by rfl) rfl (x := .int .i64 ((ri.length + 1) : Nat)) (y_len_slice Try.underlying44 rfl) ?_
    refine opsF_val gb idleB rfl (by rfl) rfl (x := .int .i64 (ri.length : Nat)) (y_sub rfl rfl (by rw [IntKind.wrap_i64]; (try rw [List.length_cons] at hrib); omega)) ?_
    refine opsF_val gb idleB rfl (by rfl) rfl (x := .pointer (some ⟨g6, ri.length * 3, none⟩)) (cast_y (y_ix ty44 rfl rfl (by omega)) (by rw [Nat.zero_add])) ?_
    refine opsF_val gb idleB rfl (by rfl) rfl (x := .pointer (some ⟨g6, ri.length * 3, none⟩)) (y_assign rfl) ?_
    refine opsG_nil gb idleB ?_
    refine wpG_block gb idleB ?_
    refine wpG_seq gb idleB ?_
    refine wpG_region gb idleB ?_
    refine opsF_val gb idleB rfl (by rfl) rfl (x := .pointer (some ⟨N, 0 + 0, none⟩)) (y_fld (by decide) rfl) ?_
    refine opsF_rd gb (lensB2 _) rfl (by rfl) rfl (x := .int .i64 t.a) (rd_load (by decide) rfl hN2 rfl) ?_
    refine opsF_val gb idleB rfl (by rfl) rfl (x := .bool true) (y_eql (.inl rfl) rfl rfl (by simp [ka])) ?_
    refine opsF_val gb idleB rfl (by rfl) rfl (x := .bool true) (y_assign rfl) ?_
    refine opsG_nil gb idleB ?_
    refine wpG_cond gb idleB (t := true) (by rw [fr_eval]; rfl) ?_
    refine wpG_seq gb idleB ?_
    refine wpG_region gb idleB ?_
    refine opsF_val gb idleB rfl (by rfl) rfl (x := v5) (y_move rfl) ?_
    refine opsF_val gb idleB rfl (by rfl) rfl (x := .pointer (some ⟨N, 0 + 1, none⟩)) (y_fld (by decide) rfl) ?_
    refine opsF_rd gb (lensB2 _) rfl (by rfl) rfl (x := .int .i64 t.b) (rd_load (by decide) rfl hN2 rfl) ?_
    refine opsF_val gb idleB rfl (by rfl) rfl (x := .pointer (some ⟨N, 0 + 2, none⟩)) (y_fld (by decide) rfl) ?_
    refine opsF_rd gb (lensB2 _) rfl (by rfl) rfl (x := .string t.s) (rd_load (by decide) rfl hN2 rfl) ?_
    refine opsF_val gb idleB rfl (by rfl) rfl (x := .agg #[.int .i64 0, .int .i64 t.b, .string t.s]) (y_b3 (by decide) rfl rfl rfl) ?_
    refine opsF_new gb (lensB2 _) rfl (by rfl) rfl (.cells #[.int .i64 0, .int .i64 t.b, .string t.s] 63) (fun M => .slice (some ⟨M, 0, none⟩) 1 1) (run_bs3 (by decide) rfl) fun M hM => ?_
    have I3 := I2.grow (ext_put (o := .cells #[.int .i64 0, .int .i64 t.b, .string t.s] 63) hM)
    have hSM := slAt_new h2 M #[.int .i64 0, .int .i64 t.b, .string t.s] 63
    refine opsB_append gb ty44 (c := 1) rfl (by rfl) rfl rfl rfl rfl I3.own5 hSM rfl (by decide) (by simp [Value.oneCell']) (by have := I3.rowb; omega) fun v5' h4 hO hold hb => ?_
    have I4 := I3.addRow (x := ⟨0, t.b, t.s⟩) hO hold hb
    refine opsF_val gb idleB rfl (by rfl) rfl (x := v5') (y_assign rfl) ?_
    refine opsG_nil gb idleB ?_
    refine wpG_region gb idleB ?_
    refine opsF_val gb idleB rfl (by rfl) rfl (x := .pointer (some ⟨g6, ri.length * 3, none⟩)) (y_move rfl) ?_
    refine opsF_val gb idleB rfl (by rfl) rfl (x := .pointer (some ⟨g6, ri.length * 3, none⟩)) (y_nilCheck rfl) ?_
    refine opsF_val gb idleB rfl (by rfl) rfl (x := .pointer (some ⟨g6, ri.length * 3 + 0, none⟩)) (y_fld (by decide) rfl) ?_
    have hmb := I4.mb top (List.mem_cons_self ..)
    refine opsF_rd gb (lensB2 _) rfl (by rfl) rfl (x := .int .i64 top.1) (rd_cellq (by decide) I4.slAt (stk_at lay3 ri top 0 _ rfl) (by omega) rfl) ?_
    refine opsF_val gb idleB rfl (by rfl) rfl (x := .int .i64 (top.1 + 1)) (y_add rfl rfl (by rw [IntKind.wrap_i64]; omega)) ?_
    refine opsF_val gb idleB rfl (by rfl) rfl (x := .pointer (some ⟨g6, ri.length * 3, none⟩)) (y_nilCheck rfl) ?_
    refine opsF_val gb idleB rfl (by rfl) rfl (x := .pointer (some ⟨g6, ri.length * 3 + 0, none⟩)) (y_fld (by decide) rfl) ?_
    obtain ⟨cur, hcur, -⟩ := I4.cur
    obtain ⟨hlt2, I5⟩ := I4.bump lay3 (by have := (I.mb top (List.mem_cons_self ..)).2; omega) hcur
    refine opsF_store gb (lensB2 _) rfl (by rfl) rfl (wr_int rfl rfl hcur hlt2) ?_
    refine opsG_nil gb idleB ?_
    refine wpG_region gb idleB ?_
    refine opsF_val gb idleB rfl (by rfl) rfl (x := .int .i64 (dn.length + 1 : Nat)) (y_add rfl rfl (by rw [IntKind.wrap_i64]; omega)) ?_
    refine opsF_val gb idleB rfl (by rfl) rfl (x := .int .i64 (dn.length + 1 : Nat)) (y_move rfl) ?_
    refine opsG_nil gb idleB ?_
    exact ⟨ts.length, by rw [List.length_cons]; omega, dn ++ [t], ts, row ++ [⟨0, t.b, t.s⟩], ri, (top.1 + 1, top.2), v5', g6, cap6, _, _, rfl, by rw [htk]; simp, by rw [← hgo, pgo_word ka], fr_says _ ⟨rfl, rfl, by rw [List.length_append]; rfl, rfl, rfl, trivial⟩, rfl, (I5.more (by rw [List.length_append]; simp))⟩
  · simp only [List.length_cons] at hdn
    obtain ⟨B, o, rfl, hS0⟩ := hR.pos (by omega)
    rw [show flat toks = flat (dn ++ t :: ts) by rw [htk]] at hS0
    have hS := hS0.mono I.ext
    obtain ⟨hga, hgb, hgs⟩ := flat_get dn ts t
    refine wpG_seq gb idleB ?_
    refine wpG_region gb idleB ?_
    refine opsF_val gb idleB rfl (by rfl) rfl (x := .bool true) (y_lss rfl rfl (by simp at hdn ⊢; omega)) ?_
    refine opsG_nil gb idleB ?_
    refine wpG_seq gb idleB ?_
    refine wpG_cond gb idleB (t := true) (by rw [fr_eval]; rfl) ?_
    refine wpG_skip gb idleB ?_
    refine wpG_seq gb idleB ?_
    refine wpG_block gb idleB ?_
    refine wpG_seq gb idleB ?_
    refine wpG_region gb idleB ?_
    refine opsF_val gb idleB rfl (by rfl) rfl (x := .pointer (some ⟨B, o + dn.length * 3, none⟩)) (y_ix ty36 rfl rfl (by omega)) ?_
    refine opsF_rd gb (lensB2 _) rfl (by rfl) rfl (x := .agg #[.int .i64 t.a, .int .i64 t.b, .string t.s]) (rd_three (by decide) hS hga hgb hgs rfl) ?_
    refine opsF_new gb (lensB2 _) rfl (by rfl) rfl (.cells #[.int .i64 0, .int .i64 0, .string { data := #[] }] 40) (fun M => .pointer (some ⟨M, 0, none⟩)) (fun w => ⟨eq_of_K fun K hK => by go_simp; exact hK, by simp [Instr.alloc, newVar, newRow, go_sem]⟩) fun N hN => ?_
    refine opsF_store gb (lensB2 _) rfl (by rfl) rfl (wr_store rfl rfl (put_self _ _ _) (by kernel_rfl) rfl (by simp [Value.oneCell'])) ?_
    refine opsG_nil gb idleB ?_
    refine wpG_seq gb idleB ?_
    have hext := ext_put2 (o1 := .cells #[.int .i64 0, .int .i64 0, .string { data := #[] }] 40) (o2 := .cells #[.int .i64 t.a, .int .i64 t.b, .string t.s] 40) hN
    have hN2 : put (put h' N (.cells #[.int .i64 0, .int .i64 0, .string { data := #[] }] 40)) N (.cells #[.int .i64 t.a, .int .i64 t.b, .string t.s] 40) N = some (.cells #[.int .i64 t.a, .int .i64 t.b, .string t.s] 40) := put_self _ _ _
    have I2 := I.grow hext
    clear hN
    show WpG _ _ _ _ _ _ (put (put h' N (.cells #[.int .i64 0, .int .i64 0, .string { data := #[] }] 40)) N (.cells #[.int .i64 t.a, .int .i64 t.b, .string t.s] 40))
    generalize put (put h' N (.cells #[.int .i64 0, .int .i64 0, .string { data := #[] }] 40)) N (.cells #[.int .i64 t.a, .int .i64 t.b, .string t.s] 40) = h2 at *
    refine wpG_region gb idleB ?_
    refine opsF_val gb idleB rfl (by rfl) rfl (x := .slice (some ⟨g6, 0, none⟩) (ri.length + 1) cap6) (y_move rfl) ?_
    refine opsF_val gb idleB rfl (by rfl) rfl (x := .slice (some ⟨g6, 0, none⟩) (ri.length + 1) cap6) (y_move rfl) ?_
    refine opsF_val gb idleB rfl (by rfl) rfl (x := .int .i64 ((ri.length + 1) : Nat)) (y_len_slice Try.underlying44 rfl) ?_
    refine opsF_val gb idleB rfl (by rfl) rfl (x := .int .i64 (ri.length : Nat)) (y_sub rfl rfl (by rw [IntKind.wrap_i64]; (try rw [List.length_cons] at hrib); omega)) ?_
    refine opsF_val gb idleB rfl (by rfl) rfl (x := .pointer (some ⟨g6, ri.length * 3, none⟩)) (cast_y (y_ix ty44 rfl rfl (by omega)) (by rw [Nat.zero_add])) ?_
    refine opsF_val gb idleB rfl (by rfl) rfl (x := .pointer (some ⟨g6, ri.length * 3, none⟩)) (y_assign rfl) ?_
    refine opsG_nil gb idleB ?_
    refine wpG_block gb idleB ?_
    refine wpG_seq gb idleB ?_
    refine wpG_region gb idleB ?_
    refine opsF_val gb idleB rfl (by rfl) rfl (x := .pointer (some ⟨N, 0 + 0, none⟩)) (y_fld (by decide) rfl) ?_
    refine opsF_rd gb (lensB2 _) rfl (by rfl) rfl (x := .int .i64 t.a) (rd_load (by decide) rfl hN2 rfl) ?_
    refine opsF_val gb idleB rfl (by rfl) rfl (x := .bool false) (y_eql (.inl rfl) rfl rfl (by simp [ka])) ?_
    refine opsF_val gb idleB rfl (by rfl) rfl (x := .bool false) (y_assign rfl) ?_
    refine opsG_nil gb idleB ?_
    refine wpG_cond gb idleB (t := false) (by rw [fr_eval]; rfl) ?_
    refine wpG_seq gb idleB ?_
    refine wpG_region gb idleB ?_
    refine opsF_val gb idleB rfl (by rfl) rfl (x := .pointer (some ⟨N, 0 + 0, none⟩)) (y_fld (by decide) rfl) ?_
    refine opsF_rd gb (lensB2 _) rfl (by rfl) rfl (x := .int .i64 t.a) (rd_load (by decide) rfl hN2 rfl) ?_
    refine opsF_val gb idleB rfl (by rfl) rfl (x := .bool true) (y_eql (.inl rfl) rfl rfl (by simp [ka])) ?_
    refine opsF_val gb idleB rfl (by rfl) rfl (x := .bool true) (y_move rfl) ?_
    refine opsF_val gb idleB rfl (by rfl) rfl (x := .slice (some ⟨g6, 0, none⟩) (ri.length + 1) cap6) (y_move rfl) ?_
    refine opsF_val gb idleB rfl (by rfl) rfl (x := .int .i64 ((ri.length + 1) : Nat)) (y_len_slice Try.underlying44 rfl) ?_
    refine opsF_val gb idleB rfl (by rfl) rfl (x := .bool true) (y_gtr rfl rfl (by simp; omega)) ?_
    refine opsF_val gb idleB rfl (by rfl) rfl (x := .bool true) (y_pick (t := true) rfl rfl) ?_
    refine opsF_val gb idleB rfl (by rfl) rfl (x := .bool true) (y_assign rfl) ?_
    refine opsG_nil gb idleB ?_
    refine wpG_cond gb idleB (t := true) (by rw [fr_eval]; rfl) ?_
    refine wpG_seq gb idleB ?_
    refine wpG_region_held (S := fun u => u = h2) gb idleB drawsB (by kernel_rfl) ?_
    show AnyV _ _ _ _ .any _ _ _ 5 (Array.replicate 5 false) _ _
    refine anyF_rd (lensB2 _) (i := 0) rfl (by first | kernel_rfl | decide +kernel) (by first | kernel_rfl | decide +kernel) (by first | kernel_rfl | decide +kernel) (by rfl) rfl (x := .pointer (some ⟨N, 0 + 1, none⟩)) (Ylds.rds (y_fld (by decide) rfl)) ?_
    refine anyF_rd (lensB2 _) (i := 1) rfl (by first | kernel_rfl | decide +kernel) (by first | kernel_rfl | decide +kernel) (by first | kernel_rfl | decide +kernel) (by rfl) rfl (x := .int .i64 t.b) (rd_load (by decide) rfl hN2 rfl) ?_
    refine anyF_rd (lensB2 _) (i := 2) rfl (by first | kernel_rfl | decide +kernel) (by first | kernel_rfl | decide +kernel) (by first | kernel_rfl | decide +kernel) (by rfl) rfl (x := .slice none 0 0) (Ylds.rds (y_assign rfl)) ?_
    refine anyF_rd (lensB2 _) (i := 3) rfl (by first | kernel_rfl | decide +kernel) (by first | kernel_rfl | decide +kernel) (by first | kernel_rfl | decide +kernel) (by rfl) rfl (x := .int .i64 t.b) (Ylds.rds (y_assign rfl)) ?_
    refine anyF_rd (lensB2 _) (i := 4) rfl (by first | kernel_rfl | decide +kernel) (by first | kernel_rfl | decide +kernel) (by first | kernel_rfl | decide +kernel) (by rfl) rfl (x := .int .i64 22) (Ylds.rds (y_assign rfl)) ?_
    refine anyV_done (by first | kernel_rfl | decide +kernel) ?_ _
    refine wpG_ret gb idleB ?_
    refine ⟨.inr rfl, rfl, _, resultsC_tmp3 results31 _, ?_⟩
    rw [fr_ret (by decide) rfl, fr_ret (by decide) rfl, fr_ret (by decide) rfl]
    refine ⟨I2.ext, ?_⟩
    rw [← hgo, pgo_deep ka k6]
    rfl
  · simp only [List.length_cons] at hdn
    obtain ⟨B, o, rfl, hS0⟩ := hR.pos (by omega)
    rw [show flat toks = flat (dn ++ t :: ts) by rw [htk]] at hS0
    have hS := hS0.mono I.ext
    obtain ⟨hga, hgb, hgs⟩ := flat_get dn ts t
    refine wpG_seq gb idleB ?_
    refine wpG_region gb idleB ?_
    refine opsF_val gb idleB rfl (by rfl) rfl (x := .bool true) (y_lss rfl rfl (by simp at hdn ⊢; omega)) ?_
    refine opsG_nil gb idleB ?_
    refine wpG_seq gb idleB ?_
    refine wpG_cond gb idleB (t := true) (by rw [fr_eval]; rfl) ?_
    refine wpG_skip gb idleB ?_
    refine wpG_seq gb idleB ?_
    refine wpG_block gb idleB ?_
    refine wpG_seq gb idleB ?_
    refine wpG_region gb idleB ?_
    refine opsF_val gb idleB rfl (by rfl) rfl (x := .pointer (some ⟨B, o + dn.length * 3, none⟩)) (y_ix ty36 rfl rfl (by omega)) ?_
    refine opsF_rd gb (lensB2 _) rfl (by rfl) rfl (x := .agg #[.int .i64 t.a, .int .i64 t.b, .string t.s]) (rd_three (by decide) hS hga hgb hgs rfl) ?_
    refine opsF_new gb (lensB2 _) rfl (by rfl) rfl (.cells #[.int .i64 0, .int .i64 0, .string { data := #[] }] 40) (fun M => .pointer (some ⟨M, 0, none⟩)) (fun w => ⟨eq_of_K fun K hK => by go_simp; exact hK, by simp [Instr.alloc, newVar, newRow, go_sem]⟩) fun N hN => ?_
    refine opsF_store gb (lensB2 _) rfl (by rfl) rfl (wr_store rfl rfl (put_self _ _ _) (by kernel_rfl) rfl (by simp [Value.oneCell'])) ?_
    refine opsG_nil gb idleB ?_
    refine wpG_seq gb idleB ?_
    have hext := ext_put2 (o1 := .cells #[.int .i64 0, .int .i64 0, .string { data := #[] }] 40) (o2 := .cells #[.int .i64 t.a, .int .i64 t.b, .string t.s] 40) hN
    have hN2 : put (put h' N (.cells #[.int .i64 0, .int .i64 0, .string { data := #[] }] 40)) N (.cells #[.int .i64 t.a, .int .i64 t.b, .string t.s] 40) N = some (.cells #[.int .i64 t.a, .int .i64 t.b, .string t.s] 40) := put_self _ _ _
    have I2 := I.grow hext
    clear hN
    show WpG _ _ _ _ _ _ (put (put h' N (.cells #[.int .i64 0, .int .i64 0, .string { data := #[] }] 40)) N (.cells #[.int .i64 t.a, .int .i64 t.b, .string t.s] 40))
    generalize put (put h' N (.cells #[.int .i64 0, .int .i64 0, .string { data := #[] }] 40)) N (.cells #[.int .i64 t.a, .int .i64 t.b, .string t.s] 40) = h2 at *
    refine wpG_region gb idleB ?_
    refine opsF_val gb idleB rfl (by rfl) rfl (x := .slice (some ⟨g6, 0, none⟩) (ri.length + 1) cap6) (y_move rfl) ?_
    refine opsF_val gb idleB rfl (by rfl) rfl (x := .slice (some ⟨g6, 0, none⟩) (ri.length + 1) cap6) (y_move rfl) ?_
    refine opsF_val gb idleB rfl (by rfl) rfl (x := .int .i64 ((ri.length + 1) : Nat)) (y_len_slice Try.underlying44 rfl) ?_
    refine opsF_val gb idleB rfl (by rfl) rfl (x := .int .i64 (ri.length : Nat)) (y_sub rfl rfl (by rw [IntKind.wrap_i64]; (try rw [List.length_cons] at hrib); omega)) ?_
    refine opsF_val gb idleB rfl (by rfl) rfl (x := .pointer (some ⟨g6, ri.length * 3, none⟩)) (cast_y (y_ix ty44 rfl rfl (by omega)) (by rw [Nat.zero_add])) ?_
    refine opsF_val gb idleB rfl (by rfl) rfl (x := .pointer (some ⟨g6, ri.length * 3, none⟩)) (y_assign rfl) ?_
    refine opsG_nil gb idleB ?_
    refine wpG_block gb idleB ?_
    refine wpG_seq gb idleB ?_
    refine wpG_region gb idleB ?_
    refine opsF_val gb idleB rfl (by rfl) rfl (x := .pointer (some ⟨N, 0 + 0, none⟩)) (y_fld (by decide) rfl) ?_
    refine opsF_rd gb (lensB2 _) rfl (by rfl) rfl (x := .int .i64 t.a) (rd_load (by decide) rfl hN2 rfl) ?_
    refine opsF_val gb idleB rfl (by rfl) rfl (x := .bool false) (y_eql (.inl rfl) rfl rfl (by simp [ka])) ?_
    refine opsF_val gb idleB rfl (by rfl) rfl (x := .bool false) (y_assign rfl) ?_
    refine opsG_nil gb idleB ?_
    refine wpG_cond gb idleB (t := false) (by rw [fr_eval]; rfl) ?_
    refine wpG_seq gb idleB ?_
    refine wpG_region gb idleB ?_
    refine opsF_val gb idleB rfl (by rfl) rfl (x := .pointer (some ⟨N, 0 + 0, none⟩)) (y_fld (by decide) rfl) ?_
    refine opsF_rd gb (lensB2 _) rfl (by rfl) rfl (x := .int .i64 t.a) (rd_load (by decide) rfl hN2 rfl) ?_
    refine opsF_val gb idleB rfl (by rfl) rfl (x := .bool true) (y_eql (.inl rfl) rfl rfl (by simp [ka])) ?_
    refine opsF_val gb idleB rfl (by rfl) rfl (x := .bool true) (y_move rfl) ?_
    refine opsF_val gb idleB rfl (by rfl) rfl (x := .slice (some ⟨g6, 0, none⟩) (ri.length + 1) cap6) (y_move rfl) ?_
    refine opsF_val gb idleB rfl (by rfl) rfl (x := .int .i64 ((ri.length + 1) : Nat)) (y_len_slice Try.underlying44 rfl) ?_
    refine opsF_val gb idleB rfl (by rfl) rfl (x := .bool false) (y_gtr rfl rfl (by simp; omega)) ?_
    refine opsF_val gb idleB rfl (by rfl) rfl (x := .bool false) (y_pick (t := true) rfl rfl) ?_
    refine opsF_val gb idleB rfl (by rfl) rfl (x := .bool false) (y_assign rfl) ?_
    refine opsG_nil gb idleB ?_
    refine wpG_cond gb idleB (t := false) (by rw [fr_eval]; rfl) ?_
    refine wpG_seq gb idleB ?_
    refine wpG_region gb idleB ?_
    refine opsF_val gb idleB rfl (by rfl) rfl (x := .pointer (some ⟨N, 0 + 0, none⟩)) (y_fld (by decide) rfl) ?_
    refine opsF_rd gb (lensB2 _) rfl (by rfl) rfl (x := .int .i64 t.a) (rd_load (by decide) rfl hN2 rfl) ?_
    refine opsF_val gb idleB rfl (by rfl) rfl (x := .bool true) (y_eql (.inl rfl) rfl rfl (by simp [ka])) ?_
    refine opsF_val gb idleB rfl (by rfl) rfl (x := .bool true) (y_assign rfl) ?_
    refine opsG_nil gb idleB ?_
    refine wpG_cond gb idleB (t := true) (by rw [fr_eval]; rfl) ?_
    refine wpG_region gb idleB ?_
    refine opsF_val gb idleB rfl (by rfl) rfl (x := .slice (some ⟨g6, 0, none⟩) (ri.length + 1) cap6) (y_move rfl) ?_
    refine opsF_val gb idleB rfl (by rfl) rfl (x := .pointer (some ⟨N, 0 + 1, none⟩)) (y_fld (by decide) rfl) ?_
    refine opsF_rd gb (lensB2 _) rfl (by rfl) rfl (x := .int .i64 t.b) (rd_load (by decide) rfl hN2 rfl) ?_
    refine opsF_val gb idleB rfl (by rfl) rfl (x := .agg #[.int .i64 0, .int .i64 t.b, .string { data := #[] }]) (y_b3_1 (by decide) rfl) ?_
    refine opsF_new gb (lensB2 _) rfl (by rfl) rfl (.cells #[.int .i64 0, .int .i64 t.b, .string { data := #[] }] 63) (fun M => .slice (some ⟨M, 0, none⟩) 1 1) (run_bs3 (by decide) rfl) fun M hM => ?_
    have I3 := I2.grow (ext_put (o := .cells #[.int .i64 0, .int .i64 t.b, .string { data := #[] }] 63) hM)
    have hSM := slAt_new h2 M #[.int .i64 0, .int .i64 t.b, .string { data := #[] }] 63
    refine opsB_append gb ty44 (c := 1) rfl (by rfl) rfl rfl rfl rfl I3.own6 hSM rfl (by decide) (by simp [Value.oneCell']) (by omega) fun v6' h4 hO hold hb => ?_
    obtain ⟨g6', cap6', rfl, I4⟩ := I3.push (p := t.b) hO hold hb
    refine opsF_val gb idleB rfl (by rfl) rfl (x := .slice (some ⟨g6', 0, none⟩) (ri.length + 1 + 1) cap6') (y_assign rfl) ?_
    refine opsG_nil gb idleB ?_
    refine wpG_region gb idleB ?_
    refine opsF_val gb idleB rfl (by rfl) rfl (x := .int .i64 (dn.length + 1 : Nat)) (y_add rfl rfl (by rw [IntKind.wrap_i64]; omega)) ?_
    refine opsF_val gb idleB rfl (by rfl) rfl (x := .int .i64 (dn.length + 1 : Nat)) (y_move rfl) ?_
    refine opsG_nil gb idleB ?_
    exact ⟨ts.length, by rw [List.length_cons]; omega, dn ++ [t], ts, row, top :: ri, (0, t.b), v5, g6', cap6', _, _, rfl, by rw [htk]; simp, by rw [← hgo, pgo_push ka k6], fr_says _ ⟨rfl, rfl, by rw [List.length_append]; rfl, rfl, rfl, trivial⟩, rfl, (by rw [List.length_append]; exact I4)⟩
  · simp only [List.length_cons] at hdn
    obtain ⟨B, o, rfl, hS0⟩ := hR.pos (by omega)
    rw [show flat toks = flat (dn ++ t :: ts) by rw [htk]] at hS0
    have hS := hS0.mono I.ext
    obtain ⟨hga, hgb, hgs⟩ := flat_get dn ts t
    refine wpG_seq gb idleB ?_
    refine wpG_region gb idleB ?_
    refine opsF_val gb idleB rfl (by rfl) rfl (x := .bool true) (y_lss rfl rfl (by simp at hdn ⊢; omega)) ?_
    refine opsG_nil gb idleB ?_
    refine wpG_seq gb idleB ?_
    refine wpG_cond gb idleB (t := true) (by rw [fr_eval]; rfl) ?_
    refine wpG_skip gb idleB ?_
    refine wpG_seq gb idleB ?_
    refine wpG_block gb idleB ?_
    refine wpG_seq gb idleB ?_
    refine wpG_region gb idleB ?_
    refine opsF_val gb idleB rfl (by rfl) rfl (x := .pointer (some ⟨B, o + dn.length * 3, none⟩)) (y_ix ty36 rfl rfl (by omega)) ?_
    refine opsF_rd gb (lensB2 _) rfl (by rfl) rfl (x := .agg #[.int .i64 t.a, .int .i64 t.b, .string t.s]) (rd_three (by decide) hS hga hgb hgs rfl) ?_
    refine opsF_new gb (lensB2 _) rfl (by rfl) rfl (.cells #[.int .i64 0, .int .i64 0, .string { data := #[] }] 40) (fun M => .pointer (some ⟨M, 0, none⟩)) (fun w => ⟨eq_of_K fun K hK => by go_simp; exact hK, by simp [Instr.alloc, newVar, newRow, go_sem]⟩) fun N hN => ?_
    refine opsF_store gb (lensB2 _) rfl (by rfl) rfl (wr_store rfl rfl (put_self _ _ _) (by kernel_rfl) rfl (by simp [Value.oneCell'])) ?_
    refine opsG_nil gb idleB ?_
    refine wpG_seq gb idleB ?_
    have hext := ext_put2 (o1 := .cells #[.int .i64 0, .int .i64 0, .string { data := #[] }] 40) (o2 := .cells #[.int .i64 t.a, .int .i64 t.b, .string t.s] 40) hN
    have hN2 : put (put h' N (.cells #[.int .i64 0, .int .i64 0, .string { data := #[] }] 40)) N (.cells #[.int .i64 t.a, .int .i64 t.b, .string t.s] 40) N = some (.cells #[.int .i64 t.a, .int .i64 t.b, .string t.s] 40) := put_self _ _ _
    have I2 := I.grow hext
    clear hN
    show WpG _ _ _ _ _ _ (put (put h' N (.cells #[.int .i64 0, .int .i64 0, .string { data := #[] }] 40)) N (.cells #[.int .i64 t.a, .int .i64 t.b, .string t.s] 40))
    generalize put (put h' N (.cells #[.int .i64 0, .int .i64 0, .string { data := #[] }] 40)) N (.cells #[.int .i64 t.a, .int .i64 t.b, .string t.s] 40) = h2 at *
    refine wpG_region gb idleB ?_
    refine opsF_val gb idleB rfl (by rfl) rfl (x := .slice (some ⟨g6, 0, none⟩) 1 cap6) (y_move rfl) ?_
    refine opsF_val gb idleB rfl (by rfl) rfl (x := .slice (some ⟨g6, 0, none⟩) 1 cap6) (y_move rfl) ?_
    refine opsF_val gb idleB rfl (by rfl) rfl (x := .int .i64 (1 : Nat)) (y_len_slice Try.underlying44 rfl) ?_
    refine opsF_val gb idleB rfl (by rfl) rfl (x := .int .i64 (0 : Nat)) (y_sub rfl rfl (by rw [IntKind.wrap_i64]; (try rw [List.length_cons] at hrib); omega)) ?_
    refine opsF_val gb idleB rfl (by rfl) rfl (x := .pointer (some ⟨g6, 0 * 3, none⟩)) (cast_y (y_ix ty44 rfl rfl (by omega)) (by rw [Nat.zero_add])) ?_
    refine opsF_val gb idleB rfl (by rfl) rfl (x := .pointer (some ⟨g6, 0 * 3, none⟩)) (y_assign rfl) ?_
    refine opsG_nil gb idleB ?_
    refine wpG_block gb idleB ?_
    refine wpG_seq gb idleB ?_
    refine wpG_region gb idleB ?_
    refine opsF_val gb idleB rfl (by rfl) rfl (x := .pointer (some ⟨N, 0 + 0, none⟩)) (y_fld (by decide) rfl) ?_
    refine opsF_rd gb (lensB2 _) rfl (by rfl) rfl (x := .int .i64 t.a) (rd_load (by decide) rfl hN2 rfl) ?_
    refine opsF_val gb idleB rfl (by rfl) rfl (x := .bool false) (y_eql (.inl rfl) rfl rfl (by simp [ka])) ?_
    refine opsF_val gb idleB rfl (by rfl) rfl (x := .bool false) (y_assign rfl) ?_
    refine opsG_nil gb idleB ?_
    refine wpG_cond gb idleB (t := false) (by rw [fr_eval]; rfl) ?_
    refine wpG_seq gb idleB ?_
    refine wpG_region gb idleB ?_
    refine opsF_val gb idleB rfl (by rfl) rfl (x := .pointer (some ⟨N, 0 + 0, none⟩)) (y_fld (by decide) rfl) ?_
    refine opsF_rd gb (lensB2 _) rfl (by rfl) rfl (x := .int .i64 t.a) (rd_load (by decide) rfl hN2 rfl) ?_
    refine opsF_val gb idleB rfl (by rfl) rfl (x := .bool false) (y_eql (.inl rfl) rfl rfl (by simp [ka])) ?_
    refine opsF_val gb idleB rfl (by rfl) rfl (x := .bool false) (y_move rfl) ?_
    refine opsF_skip gb idleB rfl (by rfl) rfl ?_
    refine opsF_skip gb idleB rfl (by rfl) rfl ?_
    refine opsF_skip gb idleB rfl (by rfl) rfl ?_
    refine opsF_val gb idleB rfl (by rfl) rfl (x := .bool false) (y_pick (t := false) rfl rfl) ?_
    refine opsF_val gb idleB rfl (by rfl) rfl (x := .bool false) (y_assign rfl) ?_
    refine opsG_nil gb idleB ?_
    refine wpG_cond gb idleB (t := false) (by rw [fr_eval]; rfl) ?_
    refine wpG_seq gb idleB ?_
    refine wpG_region gb idleB ?_
    refine opsF_val gb idleB rfl (by rfl) rfl (x := .pointer (some ⟨N, 0 + 0, none⟩)) (y_fld (by decide) rfl) ?_
    refine opsF_rd gb (lensB2 _) rfl (by rfl) rfl (x := .int .i64 t.a) (rd_load (by decide) rfl hN2 rfl) ?_
    refine opsF_val gb idleB rfl (by rfl) rfl (x := .bool false) (y_eql (.inl rfl) rfl rfl (by simp [ka])) ?_
    refine opsF_val gb idleB rfl (by rfl) rfl (x := .bool false) (y_assign rfl) ?_
    refine opsG_nil gb idleB ?_
    refine wpG_cond gb idleB (t := false) (by rw [fr_eval]; rfl) ?_
    refine wpG_seq gb idleB ?_
    refine wpG_region gb idleB ?_
    refine opsF_val gb idleB rfl (by rfl) rfl (x := .pointer (some ⟨N, 0 + 0, none⟩)) (y_fld (by decide) rfl) ?_
    refine opsF_rd gb (lensB2 _) rfl (by rfl) rfl (x := .int .i64 t.a) (rd_load (by decide) rfl hN2 rfl) ?_
    refine opsF_val gb idleB rfl (by rfl) rfl (x := .bool true) (y_eql (.inl rfl) rfl rfl (by simp [ka])) ?_
    refine opsF_val gb idleB rfl (by rfl) rfl (x := .bool true) (y_move rfl) ?_
    refine opsF_val gb idleB rfl (by rfl) rfl (x := .slice (some ⟨g6, 0, none⟩) 1 cap6) (y_move rfl) ?_
    refine opsF_val gb idleB rfl (by rfl) rfl (x := .int .i64 (1 : Nat)) (y_len_slice Try.underlying44 rfl) ?_
    refine opsF_val gb idleB rfl (by rfl) rfl (x := .bool true) (y_eql (.inl rfl) rfl rfl (rfl)) ?_
    refine opsF_val gb idleB rfl (by rfl) rfl (x := .bool true) (y_pick (t := true) rfl rfl) ?_
    refine opsF_val gb idleB rfl (by rfl) rfl (x := .bool true) (y_assign rfl) ?_
    refine opsG_nil gb idleB ?_
    refine wpG_cond gb idleB (t := true) (by rw [fr_eval]; rfl) ?_
    refine wpG_seq gb idleB ?_
    refine wpG_region_held (S := fun u => u = h2) gb idleB drawsB (by kernel_rfl) ?_
    show AnyV _ _ _ _ .any _ _ _ 5 (Array.replicate 5 false) _ _
    refine anyF_rd (lensB2 _) (i := 0) rfl (by first | kernel_rfl | decide +kernel) (by first | kernel_rfl | decide +kernel) (by first | kernel_rfl | decide +kernel) (by rfl) rfl (x := .pointer (some ⟨N, 0 + 1, none⟩)) (Ylds.rds (y_fld (by decide) rfl)) ?_
    refine anyF_rd (lensB2 _) (i := 1) rfl (by first | kernel_rfl | decide +kernel) (by first | kernel_rfl | decide +kernel) (by first | kernel_rfl | decide +kernel) (by rfl) rfl (x := .int .i64 t.b) (rd_load (by decide) rfl hN2 rfl) ?_
    refine anyF_rd (lensB2 _) (i := 2) rfl (by first | kernel_rfl | decide +kernel) (by first | kernel_rfl | decide +kernel) (by first | kernel_rfl | decide +kernel) (by rfl) rfl (x := .slice none 0 0) (Ylds.rds (y_assign rfl)) ?_
    refine anyF_rd (lensB2 _) (i := 3) rfl (by first | kernel_rfl | decide +kernel) (by first | kernel_rfl | decide +kernel) (by first | kernel_rfl | decide +kernel) (by rfl) rfl (x := .int .i64 t.b) (Ylds.rds (y_assign rfl)) ?_
    refine anyF_rd (lensB2 _) (i := 4) rfl (by first | kernel_rfl | decide +kernel) (by first | kernel_rfl | decide +kernel) (by first | kernel_rfl | decide +kernel) (by rfl) rfl (x := .int .i64 70) (Ylds.rds (y_assign rfl)) ?_
    refine anyV_done (by first | kernel_rfl | decide +kernel) ?_ _
    refine wpG_ret gb idleB ?_
    refine ⟨.inr rfl, rfl, _, resultsC_tmp3 results31 _, ?_⟩
    rw [fr_ret (by decide) rfl, fr_ret (by decide) rfl, fr_ret (by decide) rfl]
    refine ⟨I2.ext, ?_⟩
    rw [← hgo, pgo_shut ka]
    rfl
  · simp only [List.length_cons] at hdn
    obtain ⟨B, o, rfl, hS0⟩ := hR.pos (by omega)
    rw [show flat toks = flat (dn ++ t :: ts) by rw [htk]] at hS0
    have hS := hS0.mono I.ext
    obtain ⟨hga, hgb, hgs⟩ := flat_get dn ts t
    refine wpG_seq gb idleB ?_
    refine wpG_region gb idleB ?_
    refine opsF_val gb idleB rfl (by rfl) rfl (x := .bool true) (y_lss rfl rfl (by simp at hdn ⊢; omega)) ?_
    refine opsG_nil gb idleB ?_
    refine wpG_seq gb idleB ?_
    refine wpG_cond gb idleB (t := true) (by rw [fr_eval]; rfl) ?_
    refine wpG_skip gb idleB ?_
    refine wpG_seq gb idleB ?_
    refine wpG_block gb idleB ?_
    refine wpG_seq gb idleB ?_
    refine wpG_region gb idleB ?_
    refine opsF_val gb idleB rfl (by rfl) rfl (x := .pointer (some ⟨B, o + dn.length * 3, none⟩)) (y_ix ty36 rfl rfl (by omega)) ?_
    refine opsF_rd gb (lensB2 _) rfl (by rfl) rfl (x := .agg #[.int .i64 t.a, .int .i64 t.b, .string t.s]) (rd_three (by decide) hS hga hgb hgs rfl) ?_
    refine opsF_new gb (lensB2 _) rfl (by rfl) rfl (.cells #[.int .i64 0, .int .i64 0, .string { data := #[] }] 40) (fun M => .pointer (some ⟨M, 0, none⟩)) (fun w => ⟨eq_of_K fun K hK => by go_simp; exact hK, by simp [Instr.alloc, newVar, newRow, go_sem]⟩) fun N hN => ?_
    refine opsF_store gb (lensB2 _) rfl (by rfl) rfl (wr_store rfl rfl (put_self _ _ _) (by kernel_rfl) rfl (by simp [Value.oneCell'])) ?_
    refine opsG_nil gb idleB ?_
    refine wpG_seq gb idleB ?_
    have hext := ext_put2 (o1 := .cells #[.int .i64 0, .int .i64 0, .string { data := #[] }] 40) (o2 := .cells #[.int .i64 t.a, .int .i64 t.b, .string t.s] 40) hN
    have hN2 : put (put h' N (.cells #[.int .i64 0, .int .i64 0, .string { data := #[] }] 40)) N (.cells #[.int .i64 t.a, .int .i64 t.b, .string t.s] 40) N = some (.cells #[.int .i64 t.a, .int .i64 t.b, .string t.s] 40) := put_self _ _ _
    have I2 := I.grow hext
    clear hN
    show WpG _ _ _ _ _ _ (put (put h' N (.cells #[.int .i64 0, .int .i64 0, .string { data := #[] }] 40)) N (.cells #[.int .i64 t.a, .int .i64 t.b, .string t.s] 40))
    generalize put (put h' N (.cells #[.int .i64 0, .int .i64 0, .string { data := #[] }] 40)) N (.cells #[.int .i64 t.a, .int .i64 t.b, .string t.s] 40) = h2 at *
    refine wpG_region gb idleB ?_
    refine opsF_val gb idleB rfl (by rfl) rfl (x := .slice (some ⟨g6, 0, none⟩) (r.length + 2) cap6) (y_move rfl) ?_
    refine opsF_val gb idleB rfl (by rfl) rfl (x := .slice (some ⟨g6, 0, none⟩) (r.length + 2) cap6) (y_move rfl) ?_
    refine opsF_val gb idleB rfl (by rfl) rfl (x := .int .i64 ((r.length + 2) : Nat)) (y_len_slice Try.underlying44 rfl) ?_
    refine opsF_val gb idleB rfl (by rfl) rfl (x := .int .i64 ((r.length + 1) : Nat)) (y_sub rfl rfl (by rw [IntKind.wrap_i64]; (try rw [List.length_cons] at hrib); omega)) ?_
    refine opsF_val gb idleB rfl (by rfl) rfl (x := .pointer (some ⟨g6, (r.length + 1) * 3, none⟩)) (cast_y (y_ix ty44 rfl rfl (by omega)) (by rw [Nat.zero_add])) ?_
    refine opsF_val gb idleB rfl (by rfl) rfl (x := .pointer (some ⟨g6, (r.length + 1) * 3, none⟩)) (y_assign rfl) ?_
    refine opsG_nil gb idleB ?_
    refine wpG_block gb idleB ?_
    refine wpG_seq gb idleB ?_
    refine wpG_region gb idleB ?_
    refine opsF_val gb idleB rfl (by rfl) rfl (x := .pointer (some ⟨N, 0 + 0, none⟩)) (y_fld (by decide) rfl) ?_
    refine opsF_rd gb (lensB2 _) rfl (by rfl) rfl (x := .int .i64 t.a) (rd_load (by decide) rfl hN2 rfl) ?_
    refine opsF_val gb idleB rfl (by rfl) rfl (x := .bool false) (y_eql (.inl rfl) rfl rfl (by simp [ka])) ?_
    refine opsF_val gb idleB rfl (by rfl) rfl (x := .bool false) (y_assign rfl) ?_
    refine opsG_nil gb idleB ?_
    refine wpG_cond gb idleB (t := false) (by rw [fr_eval]; rfl) ?_
    refine wpG_seq gb idleB ?_
    refine wpG_region gb idleB ?_
    refine opsF_val gb idleB rfl (by rfl) rfl (x := .pointer (some ⟨N, 0 + 0, none⟩)) (y_fld (by decide) rfl) ?_
    refine opsF_rd gb (lensB2 _) rfl (by rfl) rfl (x := .int .i64 t.a) (rd_load (by decide) rfl hN2 rfl) ?_
    refine opsF_val gb idleB rfl (by rfl) rfl (x := .bool false) (y_eql (.inl rfl) rfl rfl (by simp [ka])) ?_
    refine opsF_val gb idleB rfl (by rfl) rfl (x := .bool false) (y_move rfl) ?_
    refine opsF_skip gb idleB rfl (by rfl) rfl ?_
    refine opsF_skip gb idleB rfl (by rfl) rfl ?_
    refine opsF_skip gb idleB rfl (by rfl) rfl ?_
    refine opsF_val gb idleB rfl (by rfl) rfl (x := .bool false) (y_pick (t := false) rfl rfl) ?_
    refine opsF_val gb idleB rfl (by rfl) rfl (x := .bool false) (y_assign rfl) ?_
    refine opsG_nil gb idleB ?_
    refine wpG_cond gb idleB (t := false) (by rw [fr_eval]; rfl) ?_
    refine wpG_seq gb idleB ?_
    refine wpG_region gb idleB ?_
    refine opsF_val gb idleB rfl (by rfl) rfl (x := .pointer (some ⟨N, 0 + 0, none⟩)) (y_fld (by decide) rfl) ?_
    refine opsF_rd gb (lensB2 _) rfl (by rfl) rfl (x := .int .i64 t.a) (rd_load (by decide) rfl hN2 rfl) ?_
    refine opsF_val gb idleB rfl (by rfl) rfl (x := .bool false) (y_eql (.inl rfl) rfl rfl (by simp [ka])) ?_
    refine opsF_val gb idleB rfl (by rfl) rfl (x := .bool false) (y_assign rfl) ?_
    refine opsG_nil gb idleB ?_
    refine wpG_cond gb idleB (t := false) (by rw [fr_eval]; rfl) ?_
    refine wpG_seq gb idleB ?_
    refine wpG_region gb idleB ?_
    refine opsF_val gb idleB rfl (by rfl) rfl (x := .pointer (some ⟨N, 0 + 0, none⟩)) (y_fld (by decide) rfl) ?_
    refine opsF_rd gb (lensB2 _) rfl (by rfl) rfl (x := .int .i64 t.a) (rd_load (by decide) rfl hN2 rfl) ?_
    refine opsF_val gb idleB rfl (by rfl) rfl (x := .bool true) (y_eql (.inl rfl) rfl rfl (by simp [ka])) ?_
    refine opsF_val gb idleB rfl (by rfl) rfl (x := .bool true) (y_move rfl) ?_
    refine opsF_val gb idleB rfl (by rfl) rfl (x := .slice (some ⟨g6, 0, none⟩) (r.length + 2) cap6) (y_move rfl) ?_
    refine opsF_val gb idleB rfl (by rfl) rfl (x := .int .i64 ((r.length + 2) : Nat)) (y_len_slice Try.underlying44 rfl) ?_
    refine opsF_val gb idleB rfl (by rfl) rfl (x := .bool false) (y_eql (.inl rfl) rfl rfl (by simp; omega)) ?_
    refine opsF_val gb idleB rfl (by rfl) rfl (x := .bool false) (y_pick (t := true) rfl rfl) ?_
    refine opsF_val gb idleB rfl (by rfl) rfl (x := .bool false) (y_assign rfl) ?_
    refine opsG_nil gb idleB ?_
    refine wpG_cond gb idleB (t := false) (by rw [fr_eval]; rfl) ?_
    refine wpG_seq gb idleB ?_
    refine wpG_region gb idleB ?_
    refine opsF_val gb idleB rfl (by rfl) rfl (x := .pointer (some ⟨N, 0 + 0, none⟩)) (y_fld (by decide) rfl) ?_
    refine opsF_rd gb (lensB2 _) rfl (by rfl) rfl (x := .int .i64 t.a) (rd_load (by decide) rfl hN2 rfl) ?_
    refine opsF_val gb idleB rfl (by rfl) rfl (x := .bool true) (y_eql (.inl rfl) rfl rfl (by simp [ka])) ?_
    refine opsF_val gb idleB rfl (by rfl) rfl (x := .bool true) (y_assign rfl) ?_
    refine opsG_nil gb idleB ?_
    refine wpG_cond gb idleB (t := true) (by rw [fr_eval]; rfl) ?_
    refine wpG_seq gb idleB ?_
    refine wpG_region gb idleB ?_
    refine opsF_val gb idleB rfl (by rfl) rfl (x := v5) (y_move rfl) ?_
    refine opsF_val gb idleB rfl (by rfl) rfl (x := .pointer (some ⟨g6, (r.length + 1) * 3, none⟩)) (y_move rfl) ?_
    refine opsF_val gb idleB rfl (by rfl) rfl (x := .pointer (some ⟨g6, (r.length + 1) * 3, none⟩)) (y_nilCheck rfl) ?_
    refine opsF_rd gb (lensB2 _) rfl (by rfl) rfl (x := .agg #[.int .i64 top.1, .int .i64 top.2, .string { data := #[] }]) (rd_threeq (by decide) I2.slAt (stk_at lay3 (u :: r) top 0 _ rfl) (stk_at lay3 (u :: r) top 1 _ rfl) (stk_at lay3 (u :: r) top 2 _ rfl) (by simp only [List.length_cons]; omega) rfl) ?_
    refine opsF_new gb (lensB2 _) rfl (by rfl) rfl (.cells #[.int .i64 top.1, .int .i64 top.2, .string { data := #[] }] 63) (fun M => .slice (some ⟨M, 0, none⟩) 1 1) (run_bs3 (by decide) rfl) fun M hM => ?_
    have I3 := I2.grow (ext_put (o := .cells #[.int .i64 top.1, .int .i64 top.2, .string { data := #[] }] 63) hM)
    have hSM := slAt_new h2 M #[.int .i64 top.1, .int .i64 top.2, .string { data := #[] }] 63
    refine opsB_append gb ty44 (c := 1) rfl (by rfl) rfl rfl rfl rfl I3.own5 hSM rfl (by decide) (by simp [Value.oneCell']) (by have := I3.rowb; omega) fun v5' h4 hO hold hb => ?_
    have I4 := I3.addRow (x := ⟨top.1, top.2, { data := #[] }⟩) hO hold hb
    refine opsF_val gb idleB rfl (by rfl) rfl (x := v5') (y_assign rfl) ?_
    refine opsG_nil gb idleB ?_
    refine wpG_seq gb idleB ?_
    refine wpG_region gb idleB ?_
    refine opsF_val gb idleB rfl (by rfl) rfl (x := .slice (some ⟨g6, 0, none⟩) (r.length + 2) cap6) (y_move rfl) ?_
    refine opsF_val gb idleB rfl (by rfl) rfl (x := .slice (some ⟨g6, 0, none⟩) (r.length + 2) cap6) (y_move rfl) ?_
    refine opsF_val gb idleB rfl (by rfl) rfl (x := .int .i64 ((r.length + 2) : Nat)) (y_len_slice Try.underlying44 rfl) ?_
    refine opsF_val gb idleB rfl (by rfl) rfl (x := .int .i64 ((r.length + 1) : Nat)) (y_sub rfl rfl (by rw [IntKind.wrap_i64]; (try rw [List.length_cons] at hrib); omega)) ?_
    have hcap := I4.capb
    have I4p := I4.pop lay3
    refine opsF_val gb idleB rfl (by rfl) rfl (x := .slice (some ⟨g6, 0, none⟩) (r.length + 1) cap6) (y_slice_arr ty44 rfl rfl (by simp only [List.length_cons] at hcap; omega)) ?_
    refine opsF_val gb idleB rfl (by rfl) rfl (x := .slice (some ⟨g6, 0, none⟩) (r.length + 1) cap6) (y_assign rfl) ?_
    refine opsG_nil gb idleB ?_
    refine wpG_region gb idleB ?_
    refine opsF_val gb idleB rfl (by rfl) rfl (x := .slice (some ⟨g6, 0, none⟩) (r.length + 1) cap6) (y_move rfl) ?_
    refine opsF_val gb idleB rfl (by rfl) rfl (x := .slice (some ⟨g6, 0, none⟩) (r.length + 1) cap6) (y_move rfl) ?_
    refine opsF_val gb idleB rfl (by rfl) rfl (x := .int .i64 ((r.length + 1) : Nat)) (y_len_slice Try.underlying44 rfl) ?_
    refine opsF_val gb idleB rfl (by rfl) rfl (x := .int .i64 (r.length : Nat)) (y_sub rfl rfl (by rw [IntKind.wrap_i64]; (try rw [List.length_cons] at hrib); omega)) ?_
    refine opsF_val gb idleB rfl (by rfl) rfl (x := .pointer (some ⟨g6, r.length * 3, none⟩)) (cast_y (y_ix ty44 rfl rfl (by omega)) (by rw [Nat.zero_add])) ?_
    refine opsF_val gb idleB rfl (by rfl) rfl (x := .pointer (some ⟨g6, r.length * 3 + 0, none⟩)) (y_fld (by decide) rfl) ?_
    have hmb := I4p.mb u (List.mem_cons_self ..)
    refine opsF_rd gb (lensB2 _) rfl (by rfl) rfl (x := .int .i64 u.1) (rd_cellq (by decide) I4p.slAt (stk_at lay3 r u 0 _ rfl) (by omega) rfl) ?_
    refine opsF_val gb idleB rfl (by rfl) rfl (x := .int .i64 (u.1 + 1)) (y_add rfl rfl (by rw [IntKind.wrap_i64]; omega)) ?_
    refine opsF_val gb idleB rfl (by rfl) rfl (x := .pointer (some ⟨g6, r.length * 3, none⟩)) (cast_y (y_ix ty44 rfl rfl (by omega)) (by rw [Nat.zero_add])) ?_
    refine opsF_val gb idleB rfl (by rfl) rfl (x := .pointer (some ⟨g6, r.length * 3 + 0, none⟩)) (y_fld (by decide) rfl) ?_
    obtain ⟨cur, hcur, -⟩ := I4p.cur
    obtain ⟨hlt2, I5⟩ := I4p.bump lay3 (by have := (I.mb u (List.mem_cons_of_mem _ (List.mem_cons_self ..))).2; omega) hcur
    refine opsF_store gb (lensB2 _) rfl (by rfl) rfl (wr_int rfl rfl hcur hlt2) ?_
    refine opsG_nil gb idleB ?_
    refine wpG_region gb idleB ?_
    refine opsF_val gb idleB rfl (by rfl) rfl (x := .int .i64 (dn.length + 1 : Nat)) (y_add rfl rfl (by rw [IntKind.wrap_i64]; omega)) ?_
    refine opsF_val gb idleB rfl (by rfl) rfl (x := .int .i64 (dn.length + 1 : Nat)) (y_move rfl) ?_
    refine opsG_nil gb idleB ?_
    exact ⟨ts.length, by rw [List.length_cons]; omega, dn ++ [t], ts, row ++ [⟨top.1, top.2, { data := #[] }⟩], r, (u.1 + 1, u.2), v5', g6, cap6, _, _, rfl, by rw [htk]; simp, by rw [← hgo, pgo_pop ka], fr_says _ ⟨rfl, rfl, by rw [List.length_append]; rfl, rfl, rfl, trivial⟩, rfl, (I5.more (by rw [List.length_append]; simp))⟩
  · simp only [List.length_cons] at hdn
    obtain ⟨B, o, rfl, hS0⟩ := hR.pos (by omega)
    rw [show flat toks = flat (dn ++ t :: ts) by rw [htk]] at hS0
    have hS := hS0.mono I.ext
    obtain ⟨hga, hgb, hgs⟩ := flat_get dn ts t
    refine wpG_seq gb idleB ?_
    refine wpG_region gb idleB ?_
    refine opsF_val gb idleB rfl (by rfl) rfl (x := .bool true) (y_lss rfl rfl (by simp at hdn ⊢; omega)) ?_
    refine opsG_nil gb idleB ?_
    refine wpG_seq gb idleB ?_
    refine wpG_cond gb idleB (t := true) (by rw [fr_eval]; rfl) ?_
    refine wpG_skip gb idleB ?_
    refine wpG_seq gb idleB ?_
    refine wpG_block gb idleB ?_
    refine wpG_seq gb idleB ?_
    refine wpG_region gb idleB ?_
    refine opsF_val gb idleB rfl (by rfl) rfl (x := .pointer (some ⟨B, o + dn.length * 3, none⟩)) (y_ix ty36 rfl rfl (by omega)) ?_
    refine opsF_rd gb (lensB2 _) rfl (by rfl) rfl (x := .agg #[.int .i64 t.a, .int .i64 t.b, .string t.s]) (rd_three (by decide) hS hga hgb hgs rfl) ?_
    refine opsF_new gb (lensB2 _) rfl (by rfl) rfl (.cells #[.int .i64 0, .int .i64 0, .string { data := #[] }] 40) (fun M => .pointer (some ⟨M, 0, none⟩)) (fun w => ⟨eq_of_K fun K hK => by go_simp; exact hK, by simp [Instr.alloc, newVar, newRow, go_sem]⟩) fun N hN => ?_
    refine opsF_store gb (lensB2 _) rfl (by rfl) rfl (wr_store rfl rfl (put_self _ _ _) (by kernel_rfl) rfl (by simp [Value.oneCell'])) ?_
    refine opsG_nil gb idleB ?_
    refine wpG_seq gb idleB ?_
    have hext := ext_put2 (o1 := .cells #[.int .i64 0, .int .i64 0, .string { data := #[] }] 40) (o2 := .cells #[.int .i64 t.a, .int .i64 t.b, .string t.s] 40) hN
    have hN2 : put (put h' N (.cells #[.int .i64 0, .int .i64 0, .string { data := #[] }] 40)) N (.cells #[.int .i64 t.a, .int .i64 t.b, .string t.s] 40) N = some (.cells #[.int .i64 t.a, .int .i64 t.b, .string t.s] 40) := put_self _ _ _
    have I2 := I.grow hext
    clear hN
    show WpG _ _ _ _ _ _ (put (put h' N (.cells #[.int .i64 0, .int .i64 0, .string { data := #[] }] 40)) N (.cells #[.int .i64 t.a, .int .i64 t.b, .string t.s] 40))
    generalize put (put h' N (.cells #[.int .i64 0, .int .i64 0, .string { data := #[] }] 40)) N (.cells #[.int .i64 t.a, .int .i64 t.b, .string t.s] 40) = h2 at *
    refine wpG_region gb idleB ?_
    refine opsF_val gb idleB rfl (by rfl) rfl (x := .slice (some ⟨g6, 0, none⟩) (ri.length + 1) cap6) (y_move rfl) ?_
    refine opsF_val gb idleB rfl (by rfl) rfl (x := .slice (some ⟨g6, 0, none⟩) (ri.length + 1) cap6) (y_move rfl) ?_
    refine opsF_val gb idleB rfl (by rfl) rfl (x := .int .i64 ((ri.length + 1) : Nat)) (y_len_slice Try.underlying44 rfl) ?_
    refine opsF_val gb idleB rfl (by rfl) rfl (x := .int .i64 (ri.length : Nat)) (y_sub rfl rfl (by rw [IntKind.wrap_i64]; (try rw [List.length_cons] at hrib); omega)) ?_
    refine opsF_val gb idleB rfl (by rfl) rfl (x := .pointer (some ⟨g6, ri.length * 3, none⟩)) (cast_y (y_ix ty44 rfl rfl (by omega)) (by rw [Nat.zero_add])) ?_
    refine opsF_val gb idleB rfl (by rfl) rfl (x := .pointer (some ⟨g6, ri.length * 3, none⟩)) (y_assign rfl) ?_
    refine opsG_nil gb idleB ?_
    refine wpG_block gb idleB ?_
    refine wpG_seq gb idleB ?_
    refine wpG_region gb idleB ?_
    refine opsF_val gb idleB rfl (by rfl) rfl (x := .pointer (some ⟨N, 0 + 0, none⟩)) (y_fld (by decide) rfl) ?_
    refine opsF_rd gb (lensB2 _) rfl (by rfl) rfl (x := .int .i64 t.a) (rd_load (by decide) rfl hN2 rfl) ?_
    refine opsF_val gb idleB rfl (by rfl) rfl (x := .bool false) (y_eql (.inl rfl) rfl rfl (by simp [k1])) ?_
    refine opsF_val gb idleB rfl (by rfl) rfl (x := .bool false) (y_assign rfl) ?_
    refine opsG_nil gb idleB ?_
    refine wpG_cond gb idleB (t := false) (by rw [fr_eval]; rfl) ?_
    refine wpG_seq gb idleB ?_
    refine wpG_region gb idleB ?_
    refine opsF_val gb idleB rfl (by rfl) rfl (x := .pointer (some ⟨N, 0 + 0, none⟩)) (y_fld (by decide) rfl) ?_
    refine opsF_rd gb (lensB2 _) rfl (by rfl) rfl (x := .int .i64 t.a) (rd_load (by decide) rfl hN2 rfl) ?_
    refine opsF_val gb idleB rfl (by rfl) rfl (x := .bool false) (y_eql (.inl rfl) rfl rfl (by simp [k2])) ?_
    refine opsF_val gb idleB rfl (by rfl) rfl (x := .bool false) (y_move rfl) ?_
    refine opsF_skip gb idleB rfl (by rfl) rfl ?_
    refine opsF_skip gb idleB rfl (by rfl) rfl ?_
    refine opsF_skip gb idleB rfl (by rfl) rfl ?_
    refine opsF_val gb idleB rfl (by rfl) rfl (x := .bool false) (y_pick (t := false) rfl rfl) ?_
    refine opsF_val gb idleB rfl (by rfl) rfl (x := .bool false) (y_assign rfl) ?_
    refine opsG_nil gb idleB ?_
    refine wpG_cond gb idleB (t := false) (by rw [fr_eval]; rfl) ?_
    refine wpG_seq gb idleB ?_
    refine wpG_region gb idleB ?_
    refine opsF_val gb idleB rfl (by rfl) rfl (x := .pointer (some ⟨N, 0 + 0, none⟩)) (y_fld (by decide) rfl) ?_
    refine opsF_rd gb (lensB2 _) rfl (by rfl) rfl (x := .int .i64 t.a) (rd_load (by decide) rfl hN2 rfl) ?_
    refine opsF_val gb idleB rfl (by rfl) rfl (x := .bool false) (y_eql (.inl rfl) rfl rfl (by simp [k2])) ?_
    refine opsF_val gb idleB rfl (by rfl) rfl (x := .bool false) (y_assign rfl) ?_
    refine opsG_nil gb idleB ?_
    refine wpG_cond gb idleB (t := false) (by rw [fr_eval]; rfl) ?_
    refine wpG_seq gb idleB ?_
    refine wpG_region gb idleB ?_
    refine opsF_val gb idleB rfl (by rfl) rfl (x := .pointer (some ⟨N, 0 + 0, none⟩)) (y_fld (by decide) rfl) ?_
    refine opsF_rd gb (lensB2 _) rfl (by rfl) rfl (x := .int .i64 t.a) (rd_load (by decide) rfl hN2 rfl) ?_
    refine opsF_val gb idleB rfl (by rfl) rfl (x := .bool false) (y_eql (.inl rfl) rfl rfl (by simp [k3])) ?_
    refine opsF_val gb idleB rfl (by rfl) rfl (x := .bool false) (y_move rfl) ?_
    refine opsF_skip gb idleB rfl (by rfl) rfl ?_
    refine opsF_skip gb idleB rfl (by rfl) rfl ?_
    refine opsF_skip gb idleB rfl (by rfl) rfl ?_
    refine opsF_val gb idleB rfl (by rfl) rfl (x := .bool false) (y_pick (t := false) rfl rfl) ?_
    refine opsF_val gb idleB rfl (by rfl) rfl (x := .bool false) (y_assign rfl) ?_
    refine opsG_nil gb idleB ?_
    refine wpG_cond gb idleB (t := false) (by rw [fr_eval]; rfl) ?_
    refine wpG_seq gb idleB ?_
    refine wpG_region gb idleB ?_
    refine opsF_val gb idleB rfl (by rfl) rfl (x := .pointer (some ⟨N, 0 + 0, none⟩)) (y_fld (by decide) rfl) ?_
    refine opsF_rd gb (lensB2 _) rfl (by rfl) rfl (x := .int .i64 t.a) (rd_load (by decide) rfl hN2 rfl) ?_
    refine opsF_val gb idleB rfl (by rfl) rfl (x := .bool false) (y_eql (.inl rfl) rfl rfl (by simp [k3])) ?_
    refine opsF_val gb idleB rfl (by rfl) rfl (x := .bool false) (y_assign rfl) ?_
    refine opsG_nil gb idleB ?_
    refine wpG_cond gb idleB (t := false) (by rw [fr_eval]; rfl) ?_
    refine wpG_skip gb idleB ?_
    refine wpG_region gb idleB ?_
    refine opsF_val gb idleB rfl (by rfl) rfl (x := .int .i64 (dn.length + 1 : Nat)) (y_add rfl rfl (by rw [IntKind.wrap_i64]; omega)) ?_
    refine opsF_val gb idleB rfl (by rfl) rfl (x := .int .i64 (dn.length + 1 : Nat)) (y_move rfl) ?_
    refine opsG_nil gb idleB ?_
    exact ⟨ts.length, by rw [List.length_cons]; omega, dn ++ [t], ts, row, ri, top, v5, g6, cap6, _, _, rfl, by rw [htk]; simp, by rw [← hgo, pgo_other k1 k2 k3], fr_says _ ⟨rfl, rfl, by rw [List.length_append]; rfl, rfl, rfl, trivial⟩, rfl, (I2.more (by rw [List.length_append]; simp))⟩

end Go.Proofs.Ytfaadjmglboaoaa
