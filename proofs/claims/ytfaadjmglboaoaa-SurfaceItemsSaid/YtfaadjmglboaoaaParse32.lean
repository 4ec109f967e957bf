/-
  corniceref07.Parse: its contract.
-/
import Derived.Test.YtfaadjmglboaoaaPLem
namespace Go.Proofs.Ytfaadjmglboaoaa
open Go.Conc Go.RowKit

theorem results32 : Try.f32.results = #[.tmp 2, .tmp 3, .tmp 4] := by rfl

set_option maxHeartbeats 8000000 in
theorem parse32 {main : Bool} (h : PH) (toks : List T3) (p : Option Addr) (c : Nat) (hR : RSl h 3 (.slice p toks.length c) toks.length (flat toks)) (hlen : toks.length ≤ 20000) :
    CallsG Try.prog (GB main) 32 #[.slice p toks.length c] h (ParsePost 84 h toks) := by
  refine callsG_of_wp (c := Try.f32.body.getD .skip) gb idleB Try.func32 rfl ?_
  rw [Try.ntmps32]
  rw [fr_of (n := 114) (by simp) [(0, .slice p toks.length c)] ⟨by simp, trivial⟩]
  generalize (fun j => (#[Value.slice p toks.length c] ++ Array.replicate (114 - #[Value.slice p toks.length c].size) undef).getD j undef) = σ
  refine wpG_seq gb idleB ?_
  refine wpG_region gb idleB ?_
  refine opsF_val gb idleB rfl (by rfl) rfl (x := .slice none 0 0) (y_assign rfl) ?_
  refine opsF_val gb idleB rfl (by rfl) rfl (x := .int .i64 0) (y_assign rfl) ?_
  refine opsF_val gb idleB rfl (by rfl) rfl (x := .int .i64 0) (y_assign rfl) ?_
  refine opsG_nil gb idleB ?_
  refine wpG_seq gb idleB ?_
  refine wpG_region gb idleB ?_
  refine opsF_new gb (lensB2 _) rfl (by rfl) rfl (.cells #[] 84) (fun M => .slice (some ⟨M, 0, none⟩) 0 0) (run_bs0 (by decide)) fun g5 hg5 => ?_
  refine opsF_val gb idleB rfl (by rfl) rfl (x := .slice (some ⟨g5, 0, none⟩) 0 0) (y_assign rfl) ?_
  refine opsG_nil gb idleB ?_
  refine wpG_seq gb idleB ?_
  refine wpG_region gb idleB ?_
  refine opsF_val gb idleB rfl (by rfl) rfl (x := .agg #[.int .i64 0, .int .i64 0]) (y_b2_none) ?_
  refine opsF_new gb (lensB2 _) rfl (by rfl) rfl (.cells #[.int .i64 0, .int .i64 0] 82) (fun M => .slice (some ⟨M, 0, none⟩) 1 1) (run_bs2 rfl) fun g0 hg0 => ?_
  refine opsF_val gb idleB rfl (by rfl) rfl (x := .slice (some ⟨g0, 0, none⟩) 1 1) (y_assign rfl) ?_
  refine opsG_nil gb idleB ?_
  refine wpG_seq gb idleB ?_
  refine wpG_seq gb idleB ?_
  refine wpG_region gb idleB ?_
  refine opsF_val gb idleB rfl (by rfl) rfl (x := .int .i64 0) (y_assign rfl) ?_
  refine opsG_nil gb idleB ?_
  refine wpG_block gb idleB ?_
  have I0 : PInv 84 82 2 1 f2 h (put (put h g5 (.cells #[] 84)) g0 (.cells #[.int .i64 0, .int .i64 0] 82)) (.slice (some ⟨g5, 0, none⟩) 0 0) [] g0 1 [] (0, 0) 0 := pinv_init lay2 (ext_put hg5) hg0 rfl ⟨rfl, .inr ⟨g5, 0, #[], rfl, put_self _ _ _, Nat.le_refl _, by decide, rfl, rfl⟩⟩ (fun g hg => by rw [← Option.some.inj hg]; exact hg5)
  refine wpG_loopN gb idleB (fun m a v => ∃ (dn rest row : List T3) (ri : List (Int × Int)) (top : Int × Int) (v5 : Value) (g6 cap6 : Nat) (τ : Nat → Value) (h' : PH), m = rest.length ∧ toks = dn ++ rest ∧ pgo rest row ri top = parse toks ∧ a = fr 114 τ [(0, .slice p toks.length c), (5, v5), (6, .slice (some ⟨g6, 0, none⟩) (ri.length + 1) cap6), (7, .int .i64 (dn.length : Nat))] [] ∧ h' = v ∧ PInv 84 82 2 1 f2 h h' v5 row g6 cap6 ri top dn.length) toks.length ⟨[], toks, [], [], (0, 0), _, g0, 1, _, _, rfl, rfl, rfl, fr_says _ ⟨rfl, rfl, rfl, rfl, trivial⟩, rfl, I0⟩ ?_
  rintro m _ _ ⟨dn, rest, row, ri, top, v5, g6, cap6, τ, h', rfl, htk, hgo, rfl, rfl, I⟩
  clear I0 hg0 hg5 σ
  have hdn : dn.length + rest.length = toks.length := by rw [htk, List.length_append]
  have hrib := I.rib
  rcases pcases rest ri with ⟨rfl, rfl⟩ | ⟨rfl, u, r, rfl⟩ | ⟨t, ts, rfl, ka⟩ | ⟨t, ts, rfl, ka, k6⟩ | ⟨t, ts, rfl, ka, k6⟩ | ⟨t, ts, rfl, ka, rfl⟩ | ⟨t, ts, rfl, ka, u, r, rfl⟩ | ⟨t, ts, rfl, k1, k2, k3⟩
  · simp only [List.length_nil, Nat.zero_add] at *
    refine wpG_seq gb idleB ?_
    refine wpG_seq gb idleB ?_
    refine wpG_region gb idleB ?_
    refine opsF_val gb idleB rfl (by rfl) rfl (x := .int .i64 (dn.length : Nat)) (y_move rfl) ?_
    refine opsF_val gb idleB rfl (by rfl) rfl (x := .slice p toks.length c) (y_move rfl) ?_
    refine opsF_val gb idleB rfl (by rfl) rfl (x := .int .i64 (toks.length : Nat)) (y_len_slice Try.underlying42 rfl) ?_
    refine opsF_val gb idleB rfl (by rfl) rfl (x := .bool false) (y_lss rfl rfl (by simp at hdn ⊢; omega)) ?_
    refine opsG_nil gb idleB ?_
    refine wpG_cond gb idleB (t := false) (by rw [fr_eval]; rfl) ?_
    refine wpG_exit gb idleB ?_
    refine wpG_seq gb idleB ?_
    refine wpG_seq gb idleB ?_
    refine wpG_region gb idleB ?_
    refine opsF_val gb idleB rfl (by rfl) rfl (x := .slice (some ⟨g6, 0, none⟩) 1 cap6) (y_move rfl) ?_
    refine opsF_val gb idleB rfl (by rfl) rfl (x := .int .i64 (1 : Nat)) (y_len_slice Try.underlying83 rfl) ?_
    refine opsF_val gb idleB rfl (by rfl) rfl (x := .bool false) (y_gtr rfl rfl (rfl)) ?_
    refine opsG_nil gb idleB ?_
    refine wpG_cond gb idleB (t := false) (by rw [fr_eval]; rfl) ?_
    refine wpG_skip gb idleB ?_
    refine wpG_seq gb idleB ?_
    refine wpG_region gb idleB ?_
    refine opsF_val gb idleB rfl (by rfl) rfl (x := v5) (y_move rfl) ?_
    refine opsF_val gb idleB rfl (by rfl) rfl (x := v5) (y_assign rfl) ?_
    refine opsF_val gb idleB rfl (by rfl) rfl (x := .int .i64 0) (y_assign rfl) ?_
    refine opsF_val gb idleB rfl (by rfl) rfl (x := .int .i64 0) (y_assign rfl) ?_
    refine opsG_nil gb idleB ?_
    refine wpG_ret gb idleB ?_
    refine ⟨.inr rfl, rfl, _, resultsC_tmp3 results32 _, ?_⟩
    rw [fr_ret (by decide) rfl, fr_ret (by decide) rfl, fr_ret (by decide) rfl]
    refine ⟨I.ext, ?_⟩
    rw [← hgo, pgo_nil]
    exact ⟨v5, rfl, I.own5, I.new5, by have := I.rowb; omega⟩
  · refine wpG_seq gb idleB ?_
    refine wpG_seq gb idleB ?_
    refine wpG_region gb idleB ?_
    refine opsF_val gb idleB rfl (by rfl) rfl (x := .int .i64 (dn.length : Nat)) (y_move rfl) ?_
    refine opsF_val gb idleB rfl (by rfl) rfl (x := .slice p toks.length c) (y_move rfl) ?_
    refine opsF_val gb idleB rfl (by rfl) rfl (x := .int .i64 (toks.length : Nat)) (y_len_slice Try.underlying42 rfl) ?_
    refine opsF_val gb idleB rfl (by rfl) rfl (x := .bool false) (y_lss rfl rfl (by simp at hdn ⊢; omega)) ?_
    refine opsG_nil gb idleB ?_
    refine wpG_cond gb idleB (t := false) (by rw [fr_eval]; rfl) ?_
    refine wpG_exit gb idleB ?_
    refine wpG_seq gb idleB ?_
    refine wpG_seq gb idleB ?_
    refine wpG_region gb idleB ?_
    refine opsF_val gb idleB rfl (by rfl) rfl (x := .slice (some ⟨g6, 0, none⟩) (r.length + 2) cap6) (y_move rfl) ?_
    refine opsF_val gb idleB rfl (by rfl) rfl (x := .int .i64 ((r.length + 2) : Nat)) (y_len_slice Try.underlying83 rfl) ?_
    refine opsF_val gb idleB rfl (by rfl) rfl (x := .bool true) (y_gtr rfl rfl (by simp; omega)) ?_
    refine opsG_nil gb idleB ?_
    refine wpG_cond gb idleB (t := true) (by rw [fr_eval]; rfl) ?_
    refine wpG_seq gb idleB ?_
    refine wpG_region_held (S := fun y => SlAt y g6 0 (stk f2 (u :: r) top)) gb idleB drawsB (by kernel_rfl) ?_
    show AnyV _ _ _ _ .any _ _ _ 10 (Array.replicate 10 false) _ _
    refine anyF_rdS (by exact I.slAt) (i := 0) rfl (by first | kernel_rfl | decide +kernel) (by first | kernel_rfl | decide +kernel) (by first | kernel_rfl | decide +kernel) (by rfl) rfl (x := .slice (some ⟨g6, 0, none⟩) (r.length + 2) cap6) (fun y hu => ⟨y, _, lensB2 y, Ylds.rds (y_move rfl)⟩) ?_
    refine anyF_rdS (by exact I.slAt) (i := 1) rfl (by first | kernel_rfl | decide +kernel) (by first | kernel_rfl | decide +kernel) (by first | kernel_rfl | decide +kernel) (by rfl) rfl (x := .slice (some ⟨g6, 0, none⟩) (r.length + 2) cap6) (fun y hu => ⟨y, _, lensB2 y, Ylds.rds (y_move rfl)⟩) ?_
    refine anyF_rdS (by exact I.slAt) (i := 2) rfl (by first | kernel_rfl | decide +kernel) (by first | kernel_rfl | decide +kernel) (by first | kernel_rfl | decide +kernel) (by rfl) rfl (x := .int .i64 ((r.length + 2) : Nat)) (fun y hu => ⟨y, _, lensB2 y, Ylds.rds (y_len_slice Try.underlying83 rfl)⟩) ?_
    refine anyF_rdS (by exact I.slAt) (i := 3) rfl (by first | kernel_rfl | decide +kernel) (by first | kernel_rfl | decide +kernel) (by first | kernel_rfl | decide +kernel) (by rfl) rfl (x := .int .i64 ((r.length + 1) : Nat)) (fun y hu => ⟨y, _, lensB2 y, Ylds.rds (y_sub rfl rfl (by rw [IntKind.wrap_i64]; (try rw [List.length_cons] at hrib); omega))⟩) ?_
    refine anyF_rdS (by exact I.slAt) (i := 4) rfl (by first | kernel_rfl | decide +kernel) (by first | kernel_rfl | decide +kernel) (by first | kernel_rfl | decide +kernel) (by rfl) rfl (x := .pointer (some ⟨g6, (r.length + 1) * 2, none⟩)) (fun y hu => ⟨y, _, lensB2 y, Ylds.rds (cast_y (y_ix ty83 rfl rfl (by omega)) (by rw [Nat.zero_add]))⟩) ?_
    refine anyF_rdS (by exact I.slAt) (i := 5) rfl (by first | kernel_rfl | decide +kernel) (by first | kernel_rfl | decide +kernel) (by first | kernel_rfl | decide +kernel) (by rfl) rfl (x := .pointer (some ⟨g6, (r.length + 1) * 2 + 0, none⟩)) (fun y hu => ⟨y, _, lensB2 y, Ylds.rds (y_fld82 (by decide) rfl)⟩) ?_
    refine anyF_rdS (by exact I.slAt) (i := 6) rfl (by first | kernel_rfl | decide +kernel) (by first | kernel_rfl | decide +kernel) (by first | kernel_rfl | decide +kernel) (by rfl) rfl (x := .int .i64 top.2) (fun y hu => ⟨y, _, lensB2 y, rd_cellq (by decide) hu (stk_at lay2 (u :: r) top 0 _ rfl) (by (try rw [List.length_cons]); omega) rfl⟩) ?_
    refine anyF_rdS (by exact I.slAt) (i := 7) rfl (by first | kernel_rfl | decide +kernel) (by first | kernel_rfl | decide +kernel) (by first | kernel_rfl | decide +kernel) (by rfl) rfl (x := .slice none 0 0) (fun y hu => ⟨y, _, lensB2 y, Ylds.rds (y_assign rfl)⟩) ?_
    refine anyF_rdS (by exact I.slAt) (i := 8) rfl (by first | kernel_rfl | decide +kernel) (by first | kernel_rfl | decide +kernel) (by first | kernel_rfl | decide +kernel) (by rfl) rfl (x := .int .i64 top.2) (fun y hu => ⟨y, _, lensB2 y, Ylds.rds (y_assign rfl)⟩) ?_
    refine anyF_rdS (by exact I.slAt) (i := 9) rfl (by first | kernel_rfl | decide +kernel) (by first | kernel_rfl | decide +kernel) (by first | kernel_rfl | decide +kernel) (by rfl) rfl (x := .int .i64 70) (fun y hu => ⟨y, _, lensB2 y, Ylds.rds (y_assign rfl)⟩) ?_
    refine anyV_done (by first | kernel_rfl | decide +kernel) ?_ _
    refine wpG_ret gb idleB ?_
    refine ⟨.inr rfl, rfl, _, resultsC_tmp3 results32 _, ?_⟩
    rw [fr_ret (by decide) rfl, fr_ret (by decide) rfl, fr_ret (by decide) rfl]
    refine ⟨I.ext, ?_⟩
    rw [← hgo, pgo_open]
    rfl
  · simp only [List.length_cons] at hdn
    obtain ⟨B, o, rfl, hS0⟩ := hR.pos (by omega)
    rw [show flat toks = flat (dn ++ t :: ts) by rw [htk]] at hS0
    have hS := hS0.mono I.ext
    obtain ⟨hga, hgb, hgs⟩ := flat_get dn ts t
    refine wpG_seq gb idleB ?_
    refine wpG_seq gb idleB ?_
    refine wpG_region gb idleB ?_
    refine opsF_val gb idleB rfl (by rfl) rfl (x := .int .i64 (dn.length : Nat)) (y_move rfl) ?_
    refine opsF_val gb idleB rfl (by rfl) rfl (x := .slice (some ⟨B, o, none⟩) toks.length c) (y_move rfl) ?_
    refine opsF_val gb idleB rfl (by rfl) rfl (x := .int .i64 (toks.length : Nat)) (y_len_slice Try.underlying42 rfl) ?_
    refine opsF_val gb idleB rfl (by rfl) rfl (x := .bool true) (y_lss rfl rfl (by simp at hdn ⊢; omega)) ?_
    refine opsG_nil gb idleB ?_
    refine wpG_cond gb idleB (t := true) (by rw [fr_eval]; rfl) ?_
    refine wpG_skip gb idleB ?_
    refine wpG_seq gb idleB ?_
    refine wpG_block gb idleB ?_
    refine wpG_seq gb idleB ?_
    refine wpG_region gb idleB ?_
    refine opsF_val gb idleB rfl (by rfl) rfl (x := .slice (some ⟨g6, 0, none⟩) (ri.length + 1) cap6) (y_move rfl) ?_
    refine opsF_val gb idleB rfl (by rfl) rfl (x := .int .i64 ((ri.length + 1) : Nat)) (y_len_slice Try.underlying83 rfl) ?_
    refine opsF_val gb idleB rfl (by rfl) rfl (x := .int .i64 (ri.length : Nat)) (y_sub rfl rfl (by rw [IntKind.wrap_i64]; (try rw [List.length_cons] at hrib); omega)) ?_
    refine opsF_val gb idleB rfl (by rfl) rfl (x := .int .i64 (ri.length : Nat)) (y_assign rfl) ?_
    refine opsG_nil gb idleB ?_
    refine wpG_seq gb idleB ?_
    refine wpG_region gb idleB ?_
    refine opsF_val gb idleB rfl (by rfl) rfl (x := .slice (some ⟨B, o, none⟩) toks.length c) (y_move rfl) ?_
    refine opsF_val gb idleB rfl (by rfl) rfl (x := .int .i64 (dn.length : Nat)) (y_move rfl) ?_
    refine opsF_val gb idleB rfl (by rfl) rfl (x := .pointer (some ⟨B, o + dn.length * 3, none⟩)) (y_ix ty42 rfl rfl (by omega)) ?_
    refine opsF_val gb idleB rfl (by rfl) rfl (x := .pointer (some ⟨B, o + dn.length * 3 + 0, none⟩)) (y_fld (by decide) rfl) ?_
    refine opsF_rd gb (lensB2 _) rfl (by rfl) rfl (x := .int .i64 t.a) (rd_cellq (by decide) hS hga (by omega) rfl) ?_
    refine opsG_nil gb idleB ?_
    refine wpG_block gb idleB ?_
    refine wpG_seq gb idleB ?_
    refine wpG_region gb idleB ?_
    refine opsF_val gb idleB rfl (by rfl) rfl (x := .bool true) (y_eql (.inl rfl) rfl rfl (by simp [ka])) ?_
    refine opsF_val gb idleB rfl (by rfl) rfl (x := .bool true) (y_assign rfl) ?_
    refine opsG_nil gb idleB ?_
    refine wpG_cond gb idleB (t := true) (by rw [fr_eval]; rfl) ?_
    refine wpG_seq gb idleB ?_
    refine wpG_region_held (S := fun u => SlAt u B o (flat (dn ++ t :: ts))) gb idleB drawsB (by kernel_rfl) ?_
    show AnyV _ _ _ _ .any _ _ _ 15 (Array.replicate 15 false) _ _
    refine anyF_rdS (by exact hS) (i := 0) rfl (by first | kernel_rfl | decide +kernel) (by first | kernel_rfl | decide +kernel) (by first | kernel_rfl | decide +kernel) (by rfl) rfl (x := v5) (fun u hu => ⟨u, _, lensB2 u, Ylds.rds (y_move rfl)⟩) ?_
    refine anyF_rdS (by exact hS) (i := 1) rfl (by first | kernel_rfl | decide +kernel) (by first | kernel_rfl | decide +kernel) (by first | kernel_rfl | decide +kernel) (by rfl) rfl (x := .slice (some ⟨B, o, none⟩) toks.length c) (fun u hu => ⟨u, _, lensB2 u, Ylds.rds (y_move rfl)⟩) ?_
    refine anyF_rdS (by exact hS) (i := 2) rfl (by first | kernel_rfl | decide +kernel) (by first | kernel_rfl | decide +kernel) (by first | kernel_rfl | decide +kernel) (by rfl) rfl (x := .int .i64 (dn.length : Nat)) (fun u hu => ⟨u, _, lensB2 u, Ylds.rds (y_move rfl)⟩) ?_
    refine anyF_rdS (by exact hS) (i := 3) rfl (by first | kernel_rfl | decide +kernel) (by first | kernel_rfl | decide +kernel) (by first | kernel_rfl | decide +kernel) (by rfl) rfl (x := .pointer (some ⟨B, o + dn.length * 3, none⟩)) (fun u hu => ⟨u, _, lensB2 u, Ylds.rds (y_ix ty42 rfl rfl (by omega))⟩) ?_
    refine anyF_rdS (by exact hS) (i := 4) rfl (by first | kernel_rfl | decide +kernel) (by first | kernel_rfl | decide +kernel) (by first | kernel_rfl | decide +kernel) (by rfl) rfl (x := .pointer (some ⟨B, o + dn.length * 3 + 1, none⟩)) (fun u hu => ⟨u, _, lensB2 u, Ylds.rds (y_fld (by decide) rfl)⟩) ?_
    refine anyF_rdS (by exact hS) (i := 5) rfl (by first | kernel_rfl | decide +kernel) (by first | kernel_rfl | decide +kernel) (by first | kernel_rfl | decide +kernel) (by rfl) rfl (x := .int .i64 t.b) (fun u hu => ⟨u, _, lensB2 u, rd_cellq (by decide) hu hgb (by omega) rfl⟩) ?_
    refine anyF_rdS (by exact hS) (i := 6) rfl (by first | kernel_rfl | decide +kernel) (by first | kernel_rfl | decide +kernel) (by first | kernel_rfl | decide +kernel) (by rfl) rfl (x := .slice (some ⟨B, o, none⟩) toks.length c) (fun u hu => ⟨u, _, lensB2 u, Ylds.rds (y_move rfl)⟩) ?_
    refine anyF_rdS (by exact hS) (i := 7) rfl (by first | kernel_rfl | decide +kernel) (by first | kernel_rfl | decide +kernel) (by first | kernel_rfl | decide +kernel) (by rfl) rfl (x := .int .i64 (dn.length : Nat)) (fun u hu => ⟨u, _, lensB2 u, Ylds.rds (y_move rfl)⟩) ?_
    refine anyF_rdS (by exact hS) (i := 8) rfl (by first | kernel_rfl | decide +kernel) (by first | kernel_rfl | decide +kernel) (by first | kernel_rfl | decide +kernel) (by rfl) rfl (x := .pointer (some ⟨B, o + dn.length * 3, none⟩)) (fun u hu => ⟨u, _, lensB2 u, Ylds.rds (y_ix ty42 rfl rfl (by omega))⟩) ?_
    refine anyF_rdS (by exact hS) (i := 9) rfl (by first | kernel_rfl | decide +kernel) (by first | kernel_rfl | decide +kernel) (by first | kernel_rfl | decide +kernel) (by rfl) rfl (x := .pointer (some ⟨B, o + dn.length * 3 + 2, none⟩)) (fun u hu => ⟨u, _, lensB2 u, Ylds.rds (y_fld (by decide) rfl)⟩) ?_
    refine anyF_rdS (by exact hS) (i := 10) rfl (by first | kernel_rfl | decide +kernel) (by first | kernel_rfl | decide +kernel) (by first | kernel_rfl | decide +kernel) (by rfl) rfl (x := .string t.s) (fun u hu => ⟨u, _, lensB2 u, rd_cellq (by decide) hu hgs (by omega) rfl⟩) ?_
    refine anyF_rdS (by exact hS) (i := 11) rfl (by first | kernel_rfl | decide +kernel) (by first | kernel_rfl | decide +kernel) (by first | kernel_rfl | decide +kernel) (by rfl) rfl (x := .agg #[.int .i64 0, .int .i64 t.b, .string t.s]) (fun u hu => ⟨u, _, lensB2 u, Ylds.rds (y_b3_12 (by decide) rfl rfl)⟩) ?_
    refine anyB_new (i := 12) rfl (by first | kernel_rfl | decide +kernel) (by rfl) rfl (.cells #[.int .i64 0, .int .i64 t.b, .string t.s] 84) (fun M => .slice (some ⟨M, 0, none⟩) 1 1) (run_bs3 (by decide) rfl) fun M hM => ⟨hS.mono (ext_put hM), ?_⟩
    have I3 := I.grow (ext_put (o := .cells #[.int .i64 0, .int .i64 t.b, .string t.s] 84) hM)
    have hSM := slAt_new h' M #[.int .i64 0, .int .i64 t.b, .string t.s] 84
    refine anyB_append ty47 (c := 1) (i := 13) rfl (by first | kernel_rfl | decide +kernel) (by rfl) rfl rfl rfl rfl I3.own5 hSM rfl (by decide) (by simp [Value.oneCell']) (by have := I3.rowb; omega) fun v5' h4 hO hold hb => ?_
    have I4 := I3.addRow (x := ⟨0, t.b, t.s⟩) hO hold hb
    refine ⟨(hS0.mono I4.ext), ?_⟩
    refine anyF_rdS (by exact (hS0.mono I4.ext)) (i := 14) rfl (by first | kernel_rfl | decide +kernel) (by first | kernel_rfl | decide +kernel) (by first | kernel_rfl | decide +kernel) (by rfl) rfl (x := v5') (fun u hu => ⟨u, _, lensB2 u, Ylds.rds (y_assign rfl)⟩) ?_
    refine anyV_done (by first | kernel_rfl | decide +kernel) ?_ _
    refine wpG_region gb idleB ?_
    refine opsF_val gb idleB rfl (by rfl) rfl (x := .slice (some ⟨g6, 0, none⟩) (ri.length + 1) cap6) (y_move rfl) ?_
    refine opsF_val gb idleB rfl (by rfl) rfl (x := .int .i64 (ri.length : Nat)) (y_move rfl) ?_
    refine opsF_val gb idleB rfl (by rfl) rfl (x := .pointer (some ⟨g6, ri.length * 2, none⟩)) (cast_y (y_ix ty83 rfl rfl (by omega)) (by rw [Nat.zero_add])) ?_
    refine opsF_val gb idleB rfl (by rfl) rfl (x := .pointer (some ⟨g6, ri.length * 2 + 1, none⟩)) (y_fld82 (by decide) rfl) ?_
    have hmb := I4.mb top (List.mem_cons_self ..)
    refine opsF_rd gb (lensB2 _) rfl (by rfl) rfl (x := .int .i64 top.1) (rd_cellq (by decide) I4.slAt (stk_at lay2 ri top 1 _ rfl) (by (try rw [List.length_cons]); omega) rfl) ?_
    refine opsF_val gb idleB rfl (by rfl) rfl (x := .int .i64 (top.1 + 1)) (y_add rfl rfl (by rw [IntKind.wrap_i64]; omega)) ?_
    refine opsF_val gb idleB rfl (by rfl) rfl (x := .pointer (some ⟨g6, ri.length * 2, none⟩)) (cast_y (y_ix ty83 rfl rfl (by omega)) (by rw [Nat.zero_add])) ?_
    refine opsF_val gb idleB rfl (by rfl) rfl (x := .pointer (some ⟨g6, ri.length * 2 + 1, none⟩)) (y_fld82 (by decide) rfl) ?_
    obtain ⟨cur, hcur, -⟩ := I4.cur
    obtain ⟨hlt2, I5⟩ := I4.bump lay2 (by have := (I.mb top (List.mem_cons_self ..)).2; omega) hcur
    refine opsF_store gb (lensB2 _) rfl (by rfl) rfl (wr_int rfl rfl hcur hlt2) ?_
    refine opsG_nil gb idleB ?_
    refine wpG_region gb idleB ?_
    refine opsF_val gb idleB rfl (by rfl) rfl (x := .int .i64 (dn.length : Nat)) (y_move rfl) ?_
    refine opsF_val gb idleB rfl (by rfl) rfl (x := .int .i64 (dn.length + 1 : Nat)) (y_add rfl rfl (by rw [IntKind.wrap_i64]; omega)) ?_
    refine opsF_val gb idleB rfl (by rfl) rfl (x := .int .i64 (dn.length + 1 : Nat)) (y_assign rfl) ?_
    refine opsG_nil gb idleB ?_
    exact ⟨ts.length, by rw [List.length_cons]; omega, dn ++ [t], ts, row ++ [⟨0, t.b, t.s⟩], ri, (top.1 + 1, top.2), v5', g6, cap6, _, _, rfl, by rw [htk]; simp, by rw [← hgo, pgo_word ka], fr_says _ ⟨rfl, rfl, rfl, by rw [List.length_append]; rfl, trivial⟩, rfl, (I5.more (by rw [List.length_append]; simp))⟩
  · simp only [List.length_cons] at hdn
    obtain ⟨B, o, rfl, hS0⟩ := hR.pos (by omega)
    rw [show flat toks = flat (dn ++ t :: ts) by rw [htk]] at hS0
    have hS := hS0.mono I.ext
    obtain ⟨hga, hgb, hgs⟩ := flat_get dn ts t
    refine wpG_seq gb idleB ?_
    refine wpG_seq gb idleB ?_
    refine wpG_region gb idleB ?_
    refine opsF_val gb idleB rfl (by rfl) rfl (x := .int .i64 (dn.length : Nat)) (y_move rfl) ?_
    refine opsF_val gb idleB rfl (by rfl) rfl (x := .slice (some ⟨B, o, none⟩) toks.length c) (y_move rfl) ?_
    refine opsF_val gb idleB rfl (by rfl) rfl (x := .int .i64 (toks.length : Nat)) (y_len_slice Try.underlying42 rfl) ?_
    refine opsF_val gb idleB rfl (by rfl) rfl (x := .bool true) (y_lss rfl rfl (by simp at hdn ⊢; omega)) ?_
    refine opsG_nil gb idleB ?_
    refine wpG_cond gb idleB (t := true) (by rw [fr_eval]; rfl) ?_
    refine wpG_skip gb idleB ?_
    refine wpG_seq gb idleB ?_
    refine wpG_block gb idleB ?_
    refine wpG_seq gb idleB ?_
    refine wpG_region gb idleB ?_
    refine opsF_val gb idleB rfl (by rfl) rfl (x := .slice (some ⟨g6, 0, none⟩) (ri.length + 1) cap6) (y_move rfl) ?_
    refine opsF_val gb idleB rfl (by rfl) rfl (x := .int .i64 ((ri.length + 1) : Nat)) (y_len_slice Try.underlying83 rfl) ?_
    refine opsF_val gb idleB rfl (by rfl) rfl (x := .int .i64 (ri.length : Nat)) (y_sub rfl rfl (by rw [IntKind.wrap_i64]; (try rw [List.length_cons] at hrib); omega)) ?_
    refine opsF_val gb idleB rfl (by rfl) rfl (x := .int .i64 (ri.length : Nat)) (y_assign rfl) ?_
    refine opsG_nil gb idleB ?_
    refine wpG_seq gb idleB ?_
    refine wpG_region gb idleB ?_
    refine opsF_val gb idleB rfl (by rfl) rfl (x := .slice (some ⟨B, o, none⟩) toks.length c) (y_move rfl) ?_
    refine opsF_val gb idleB rfl (by rfl) rfl (x := .int .i64 (dn.length : Nat)) (y_move rfl) ?_
    refine opsF_val gb idleB rfl (by rfl) rfl (x := .pointer (some ⟨B, o + dn.length * 3, none⟩)) (y_ix ty42 rfl rfl (by omega)) ?_
    refine opsF_val gb idleB rfl (by rfl) rfl (x := .pointer (some ⟨B, o + dn.length * 3 + 0, none⟩)) (y_fld (by decide) rfl) ?_
    refine opsF_rd gb (lensB2 _) rfl (by rfl) rfl (x := .int .i64 t.a) (rd_cellq (by decide) hS hga (by omega) rfl) ?_
    refine opsG_nil gb idleB ?_
    refine wpG_block gb idleB ?_
    refine wpG_seq gb idleB ?_
    refine wpG_region gb idleB ?_
    refine opsF_val gb idleB rfl (by rfl) rfl (x := .bool false) (y_eql (.inl rfl) rfl rfl (by simp [ka])) ?_
    refine opsF_val gb idleB rfl (by rfl) rfl (x := .bool false) (y_assign rfl) ?_
    refine opsG_nil gb idleB ?_
    refine wpG_cond gb idleB (t := false) (by rw [fr_eval]; rfl) ?_
    refine wpG_seq gb idleB ?_
    refine wpG_region gb idleB ?_
    refine opsF_val gb idleB rfl (by rfl) rfl (x := .bool true) (y_eql (.inl rfl) rfl rfl (by simp [ka])) ?_
    refine opsF_val gb idleB rfl (by rfl) rfl (x := .bool true) (y_assign rfl) ?_
    refine opsG_nil gb idleB ?_
    refine wpG_cond gb idleB (t := true) (by rw [fr_eval]; rfl) ?_
    refine wpG_seq gb idleB ?_
    refine wpG_seq gb idleB ?_
    refine wpG_region gb idleB ?_
    refine opsF_val gb idleB rfl (by rfl) rfl (x := .int .i64 (ri.length : Nat)) (y_move rfl) ?_
    refine opsF_val gb idleB rfl (by rfl) rfl (x := .bool true) (y_geq rfl rfl (by simp; omega)) ?_
    refine opsG_nil gb idleB ?_
    refine wpG_cond gb idleB (t := true) (by rw [fr_eval]; rfl) ?_
    refine wpG_seq gb idleB ?_
    refine wpG_region_held (S := fun u => SlAt u B o (flat (dn ++ t :: ts))) gb idleB drawsB (by kernel_rfl) ?_
    show AnyV _ _ _ _ .any _ _ _ 8 (Array.replicate 8 false) _ _
    refine anyF_rdS (by exact hS) (i := 0) rfl (by first | kernel_rfl | decide +kernel) (by first | kernel_rfl | decide +kernel) (by first | kernel_rfl | decide +kernel) (by rfl) rfl (x := .slice (some ⟨B, o, none⟩) toks.length c) (fun u hu => ⟨u, _, lensB2 u, Ylds.rds (y_move rfl)⟩) ?_
    refine anyF_rdS (by exact hS) (i := 1) rfl (by first | kernel_rfl | decide +kernel) (by first | kernel_rfl | decide +kernel) (by first | kernel_rfl | decide +kernel) (by rfl) rfl (x := .int .i64 (dn.length : Nat)) (fun u hu => ⟨u, _, lensB2 u, Ylds.rds (y_move rfl)⟩) ?_
    refine anyF_rdS (by exact hS) (i := 2) rfl (by first | kernel_rfl | decide +kernel) (by first | kernel_rfl | decide +kernel) (by first | kernel_rfl | decide +kernel) (by rfl) rfl (x := .pointer (some ⟨B, o + dn.length * 3, none⟩)) (fun u hu => ⟨u, _, lensB2 u, Ylds.rds (y_ix ty42 rfl rfl (by omega))⟩) ?_
    refine anyF_rdS (by exact hS) (i := 3) rfl (by first | kernel_rfl | decide +kernel) (by first | kernel_rfl | decide +kernel) (by first | kernel_rfl | decide +kernel) (by rfl) rfl (x := .pointer (some ⟨B, o + dn.length * 3 + 1, none⟩)) (fun u hu => ⟨u, _, lensB2 u, Ylds.rds (y_fld (by decide) rfl)⟩) ?_
    refine anyF_rdS (by exact hS) (i := 4) rfl (by first | kernel_rfl | decide +kernel) (by first | kernel_rfl | decide +kernel) (by first | kernel_rfl | decide +kernel) (by rfl) rfl (x := .int .i64 t.b) (fun u hu => ⟨u, _, lensB2 u, rd_cellq (by decide) hu hgb (by omega) rfl⟩) ?_
    refine anyF_rdS (by exact hS) (i := 5) rfl (by first | kernel_rfl | decide +kernel) (by first | kernel_rfl | decide +kernel) (by first | kernel_rfl | decide +kernel) (by rfl) rfl (x := .slice none 0 0) (fun u hu => ⟨u, _, lensB2 u, Ylds.rds (y_assign rfl)⟩) ?_
    refine anyF_rdS (by exact hS) (i := 6) rfl (by first | kernel_rfl | decide +kernel) (by first | kernel_rfl | decide +kernel) (by first | kernel_rfl | decide +kernel) (by rfl) rfl (x := .int .i64 t.b) (fun u hu => ⟨u, _, lensB2 u, Ylds.rds (y_assign rfl)⟩) ?_
    refine anyF_rdS (by exact hS) (i := 7) rfl (by first | kernel_rfl | decide +kernel) (by first | kernel_rfl | decide +kernel) (by first | kernel_rfl | decide +kernel) (by rfl) rfl (x := .int .i64 22) (fun u hu => ⟨u, _, lensB2 u, Ylds.rds (y_assign rfl)⟩) ?_
    refine anyV_done (by first | kernel_rfl | decide +kernel) ?_ _
    refine wpG_ret gb idleB ?_
    refine ⟨.inr rfl, rfl, _, resultsC_tmp3 results32 _, ?_⟩
    rw [fr_ret (by decide) rfl, fr_ret (by decide) rfl, fr_ret (by decide) rfl]
    refine ⟨I.ext, ?_⟩
    rw [← hgo, pgo_deep ka k6]
    rfl
  · simp only [List.length_cons] at hdn
    obtain ⟨B, o, rfl, hS0⟩ := hR.pos (by omega)
    rw [show flat toks = flat (dn ++ t :: ts) by rw [htk]] at hS0
    have hS := hS0.mono I.ext
    obtain ⟨hga, hgb, hgs⟩ := flat_get dn ts t
    refine wpG_seq gb idleB ?_
    refine wpG_seq gb idleB ?_
    refine wpG_region gb idleB ?_
    refine opsF_val gb idleB rfl (by rfl) rfl (x := .int .i64 (dn.length : Nat)) (y_move rfl) ?_
    refine opsF_val gb idleB rfl (by rfl) rfl (x := .slice (some ⟨B, o, none⟩) toks.length c) (y_move rfl) ?_
    refine opsF_val gb idleB rfl (by rfl) rfl (x := .int .i64 (toks.length : Nat)) (y_len_slice Try.underlying42 rfl) ?_
    refine opsF_val gb idleB rfl (by rfl) rfl (x := .bool true) (y_lss rfl rfl (by simp at hdn ⊢; omega)) ?_
    refine opsG_nil gb idleB ?_
    refine wpG_cond gb idleB (t := true) (by rw [fr_eval]; rfl) ?_
    refine wpG_skip gb idleB ?_
    refine wpG_seq gb idleB ?_
    refine wpG_block gb idleB ?_
    refine wpG_seq gb idleB ?_
    refine wpG_region gb idleB ?_
    refine opsF_val gb idleB rfl (by rfl) rfl (x := .slice (some ⟨g6, 0, none⟩) (ri.length + 1) cap6) (y_move rfl) ?_
    refine opsF_val gb idleB rfl (by rfl) rfl (x := .int .i64 ((ri.length + 1) : Nat)) (y_len_slice Try.underlying83 rfl) ?_
    refine opsF_val gb idleB rfl (by rfl) rfl (x := .int .i64 (ri.length : Nat)) (y_sub rfl rfl (by rw [IntKind.wrap_i64]; (try rw [List.length_cons] at hrib); omega)) ?_
    refine opsF_val gb idleB rfl (by rfl) rfl (x := .int .i64 (ri.length : Nat)) (y_assign rfl) ?_
    refine opsG_nil gb idleB ?_
    refine wpG_seq gb idleB ?_
    refine wpG_region gb idleB ?_
    refine opsF_val gb idleB rfl (by rfl) rfl (x := .slice (some ⟨B, o, none⟩) toks.length c) (y_move rfl) ?_
    refine opsF_val gb idleB rfl (by rfl) rfl (x := .int .i64 (dn.length : Nat)) (y_move rfl) ?_
    refine opsF_val gb idleB rfl (by rfl) rfl (x := .pointer (some ⟨B, o + dn.length * 3, none⟩)) (y_ix ty42 rfl rfl (by omega)) ?_
    refine opsF_val gb idleB rfl (by rfl) rfl (x := .pointer (some ⟨B, o + dn.length * 3 + 0, none⟩)) (y_fld (by decide) rfl) ?_
    refine opsF_rd gb (lensB2 _) rfl (by rfl) rfl (x := .int .i64 t.a) (rd_cellq (by decide) hS hga (by omega) rfl) ?_
    refine opsG_nil gb idleB ?_
    refine wpG_block gb idleB ?_
    refine wpG_seq gb idleB ?_
    refine wpG_region gb idleB ?_
    refine opsF_val gb idleB rfl (by rfl) rfl (x := .bool false) (y_eql (.inl rfl) rfl rfl (by simp [ka])) ?_
    refine opsF_val gb idleB rfl (by rfl) rfl (x := .bool false) (y_assign rfl) ?_
    refine opsG_nil gb idleB ?_
    refine wpG_cond gb idleB (t := false) (by rw [fr_eval]; rfl) ?_
    refine wpG_seq gb idleB ?_
    refine wpG_region gb idleB ?_
    refine opsF_val gb idleB rfl (by rfl) rfl (x := .bool true) (y_eql (.inl rfl) rfl rfl (by simp [ka])) ?_
    refine opsF_val gb idleB rfl (by rfl) rfl (x := .bool true) (y_assign rfl) ?_
    refine opsG_nil gb idleB ?_
    refine wpG_cond gb idleB (t := true) (by rw [fr_eval]; rfl) ?_
    refine wpG_seq gb idleB ?_
    refine wpG_seq gb idleB ?_
    refine wpG_region gb idleB ?_
    refine opsF_val gb idleB rfl (by rfl) rfl (x := .int .i64 (ri.length : Nat)) (y_move rfl) ?_
    refine opsF_val gb idleB rfl (by rfl) rfl (x := .bool false) (y_geq rfl rfl (by simp; omega)) ?_
    refine opsG_nil gb idleB ?_
    refine wpG_cond gb idleB (t := false) (by rw [fr_eval]; rfl) ?_
    refine wpG_skip gb idleB ?_
    refine wpG_region gb idleB ?_
    refine opsF_val gb idleB rfl (by rfl) rfl (x := .slice (some ⟨g6, 0, none⟩) (ri.length + 1) cap6) (y_move rfl) ?_
    refine opsF_val gb idleB rfl (by rfl) rfl (x := .slice (some ⟨B, o, none⟩) toks.length c) (y_move rfl) ?_
    refine opsF_val gb idleB rfl (by rfl) rfl (x := .int .i64 (dn.length : Nat)) (y_move rfl) ?_
    refine opsF_val gb idleB rfl (by rfl) rfl (x := .pointer (some ⟨B, o + dn.length * 3, none⟩)) (y_ix ty42 rfl rfl (by omega)) ?_
    refine opsF_val gb idleB rfl (by rfl) rfl (x := .pointer (some ⟨B, o + dn.length * 3 + 1, none⟩)) (y_fld (by decide) rfl) ?_
    refine opsF_rd gb (lensB2 _) rfl (by rfl) rfl (x := .int .i64 t.b) (rd_cellq (by decide) hS hgb (by omega) rfl) ?_
    refine opsF_val gb idleB rfl (by rfl) rfl (x := .agg #[.int .i64 t.b, .int .i64 0]) (y_b2_0 rfl) ?_
    refine opsF_new gb (lensB2 _) rfl (by rfl) rfl (.cells #[.int .i64 t.b, .int .i64 0] 82) (fun M => .slice (some ⟨M, 0, none⟩) 1 1) (run_bs2 rfl) fun M hM => ?_
    have I3 := I.grow (ext_put (o := .cells #[.int .i64 t.b, .int .i64 0] 82) hM)
    have hSM := slAt_new h' M #[.int .i64 t.b, .int .i64 0] 82
    refine opsB_append gb ty83 (c := 1) rfl (by rfl) rfl rfl rfl rfl I3.own6 hSM rfl (by decide) (by simp [Value.oneCell']) (by omega) fun v6' h4 hO hold hb => ?_
    obtain ⟨g6', cap6', rfl, I4⟩ := I3.push (p := t.b) hO hold hb
    refine opsF_val gb idleB rfl (by rfl) rfl (x := .slice (some ⟨g6', 0, none⟩) (ri.length + 1 + 1) cap6') (y_assign rfl) ?_
    refine opsG_nil gb idleB ?_
    refine wpG_region gb idleB ?_
    refine opsF_val gb idleB rfl (by rfl) rfl (x := .int .i64 (dn.length : Nat)) (y_move rfl) ?_
    refine opsF_val gb idleB rfl (by rfl) rfl (x := .int .i64 (dn.length + 1 : Nat)) (y_add rfl rfl (by rw [IntKind.wrap_i64]; omega)) ?_
    refine opsF_val gb idleB rfl (by rfl) rfl (x := .int .i64 (dn.length + 1 : Nat)) (y_assign rfl) ?_
    refine opsG_nil gb idleB ?_
    exact ⟨ts.length, by rw [List.length_cons]; omega, dn ++ [t], ts, row, top :: ri, (0, t.b), v5, g6', cap6', _, _, rfl, by rw [htk]; simp, by rw [← hgo, pgo_push ka k6], fr_says _ ⟨rfl, rfl, rfl, by rw [List.length_append]; rfl, trivial⟩, rfl, (I4.more (by rw [List.length_append]; simp))⟩
  · simp only [List.length_cons] at hdn
    obtain ⟨B, o, rfl, hS0⟩ := hR.pos (by omega)
    rw [show flat toks = flat (dn ++ t :: ts) by rw [htk]] at hS0
    have hS := hS0.mono I.ext
    obtain ⟨hga, hgb, hgs⟩ := flat_get dn ts t
    refine wpG_seq gb idleB ?_
    refine wpG_seq gb idleB ?_
    refine wpG_region gb idleB ?_
    refine opsF_val gb idleB rfl (by rfl) rfl (x := .int .i64 (dn.length : Nat)) (y_move rfl) ?_
    refine opsF_val gb idleB rfl (by rfl) rfl (x := .slice (some ⟨B, o, none⟩) toks.length c) (y_move rfl) ?_
    refine opsF_val gb idleB rfl (by rfl) rfl (x := .int .i64 (toks.length : Nat)) (y_len_slice Try.underlying42 rfl) ?_
    refine opsF_val gb idleB rfl (by rfl) rfl (x := .bool true) (y_lss rfl rfl (by simp at hdn ⊢; omega)) ?_
    refine opsG_nil gb idleB ?_
    refine wpG_cond gb idleB (t := true) (by rw [fr_eval]; rfl) ?_
    refine wpG_skip gb idleB ?_
    refine wpG_seq gb idleB ?_
    refine wpG_block gb idleB ?_
    refine wpG_seq gb idleB ?_
    refine wpG_region gb idleB ?_
    refine opsF_val gb idleB rfl (by rfl) rfl (x := .slice (some ⟨g6, 0, none⟩) 1 cap6) (y_move rfl) ?_
    refine opsF_val gb idleB rfl (by rfl) rfl (x := .int .i64 (1 : Nat)) (y_len_slice Try.underlying83 rfl) ?_
    refine opsF_val gb idleB rfl (by rfl) rfl (x := .int .i64 (0 : Nat)) (y_sub rfl rfl (by rw [IntKind.wrap_i64]; (try rw [List.length_cons] at hrib); omega)) ?_
    refine opsF_val gb idleB rfl (by rfl) rfl (x := .int .i64 (0 : Nat)) (y_assign rfl) ?_
    refine opsG_nil gb idleB ?_
    refine wpG_seq gb idleB ?_
    refine wpG_region gb idleB ?_
    refine opsF_val gb idleB rfl (by rfl) rfl (x := .slice (some ⟨B, o, none⟩) toks.length c) (y_move rfl) ?_
    refine opsF_val gb idleB rfl (by rfl) rfl (x := .int .i64 (dn.length : Nat)) (y_move rfl) ?_
    refine opsF_val gb idleB rfl (by rfl) rfl (x := .pointer (some ⟨B, o + dn.length * 3, none⟩)) (y_ix ty42 rfl rfl (by omega)) ?_
    refine opsF_val gb idleB rfl (by rfl) rfl (x := .pointer (some ⟨B, o + dn.length * 3 + 0, none⟩)) (y_fld (by decide) rfl) ?_
    refine opsF_rd gb (lensB2 _) rfl (by rfl) rfl (x := .int .i64 t.a) (rd_cellq (by decide) hS hga (by omega) rfl) ?_
    refine opsG_nil gb idleB ?_
    refine wpG_block gb idleB ?_
    refine wpG_seq gb idleB ?_
    refine wpG_region gb idleB ?_
    refine opsF_val gb idleB rfl (by rfl) rfl (x := .bool false) (y_eql (.inl rfl) rfl rfl (by simp [ka])) ?_
    refine opsF_val gb idleB rfl (by rfl) rfl (x := .bool false) (y_assign rfl) ?_
    refine opsG_nil gb idleB ?_
    refine wpG_cond gb idleB (t := false) (by rw [fr_eval]; rfl) ?_
    refine wpG_seq gb idleB ?_
    refine wpG_region gb idleB ?_
    refine opsF_val gb idleB rfl (by rfl) rfl (x := .bool false) (y_eql (.inl rfl) rfl rfl (by simp [ka])) ?_
    refine opsF_val gb idleB rfl (by rfl) rfl (x := .bool false) (y_assign rfl) ?_
    refine opsG_nil gb idleB ?_
    refine wpG_cond gb idleB (t := false) (by rw [fr_eval]; rfl) ?_
    refine wpG_seq gb idleB ?_
    refine wpG_region gb idleB ?_
    refine opsF_val gb idleB rfl (by rfl) rfl (x := .bool true) (y_eql (.inl rfl) rfl rfl (by simp [ka])) ?_
    refine opsF_val gb idleB rfl (by rfl) rfl (x := .bool true) (y_assign rfl) ?_
    refine opsG_nil gb idleB ?_
    refine wpG_cond gb idleB (t := true) (by rw [fr_eval]; rfl) ?_
    refine wpG_seq gb idleB ?_
    refine wpG_seq gb idleB ?_
    refine wpG_region gb idleB ?_
    refine opsF_val gb idleB rfl (by rfl) rfl (x := .int .i64 (0 : Nat)) (y_move rfl) ?_
    refine opsF_val gb idleB rfl (by rfl) rfl (x := .bool true) (y_eql (.inl rfl) rfl rfl (rfl)) ?_
    refine opsG_nil gb idleB ?_
    refine wpG_cond gb idleB (t := true) (by rw [fr_eval]; rfl) ?_
    refine wpG_seq gb idleB ?_
    refine wpG_region_held (S := fun u => SlAt u B o (flat (dn ++ t :: ts))) gb idleB drawsB (by kernel_rfl) ?_
    show AnyV _ _ _ _ .any _ _ _ 8 (Array.replicate 8 false) _ _
    refine anyF_rdS (by exact hS) (i := 0) rfl (by first | kernel_rfl | decide +kernel) (by first | kernel_rfl | decide +kernel) (by first | kernel_rfl | decide +kernel) (by rfl) rfl (x := .slice (some ⟨B, o, none⟩) toks.length c) (fun u hu => ⟨u, _, lensB2 u, Ylds.rds (y_move rfl)⟩) ?_
    refine anyF_rdS (by exact hS) (i := 1) rfl (by first | kernel_rfl | decide +kernel) (by first | kernel_rfl | decide +kernel) (by first | kernel_rfl | decide +kernel) (by rfl) rfl (x := .int .i64 (dn.length : Nat)) (fun u hu => ⟨u, _, lensB2 u, Ylds.rds (y_move rfl)⟩) ?_
    refine anyF_rdS (by exact hS) (i := 2) rfl (by first | kernel_rfl | decide +kernel) (by first | kernel_rfl | decide +kernel) (by first | kernel_rfl | decide +kernel) (by rfl) rfl (x := .pointer (some ⟨B, o + dn.length * 3, none⟩)) (fun u hu => ⟨u, _, lensB2 u, Ylds.rds (y_ix ty42 rfl rfl (by omega))⟩) ?_
    refine anyF_rdS (by exact hS) (i := 3) rfl (by first | kernel_rfl | decide +kernel) (by first | kernel_rfl | decide +kernel) (by first | kernel_rfl | decide +kernel) (by rfl) rfl (x := .pointer (some ⟨B, o + dn.length * 3 + 1, none⟩)) (fun u hu => ⟨u, _, lensB2 u, Ylds.rds (y_fld (by decide) rfl)⟩) ?_
    refine anyF_rdS (by exact hS) (i := 4) rfl (by first | kernel_rfl | decide +kernel) (by first | kernel_rfl | decide +kernel) (by first | kernel_rfl | decide +kernel) (by rfl) rfl (x := .int .i64 t.b) (fun u hu => ⟨u, _, lensB2 u, rd_cellq (by decide) hu hgb (by omega) rfl⟩) ?_
    refine anyF_rdS (by exact hS) (i := 5) rfl (by first | kernel_rfl | decide +kernel) (by first | kernel_rfl | decide +kernel) (by first | kernel_rfl | decide +kernel) (by rfl) rfl (x := .slice none 0 0) (fun u hu => ⟨u, _, lensB2 u, Ylds.rds (y_assign rfl)⟩) ?_
    refine anyF_rdS (by exact hS) (i := 6) rfl (by first | kernel_rfl | decide +kernel) (by first | kernel_rfl | decide +kernel) (by first | kernel_rfl | decide +kernel) (by rfl) rfl (x := .int .i64 t.b) (fun u hu => ⟨u, _, lensB2 u, Ylds.rds (y_assign rfl)⟩) ?_
    refine anyF_rdS (by exact hS) (i := 7) rfl (by first | kernel_rfl | decide +kernel) (by first | kernel_rfl | decide +kernel) (by first | kernel_rfl | decide +kernel) (by rfl) rfl (x := .int .i64 70) (fun u hu => ⟨u, _, lensB2 u, Ylds.rds (y_assign rfl)⟩) ?_
    refine anyV_done (by first | kernel_rfl | decide +kernel) ?_ _
    refine wpG_ret gb idleB ?_
    refine ⟨.inr rfl, rfl, _, resultsC_tmp3 results32 _, ?_⟩
    rw [fr_ret (by decide) rfl, fr_ret (by decide) rfl, fr_ret (by decide) rfl]
    refine ⟨I.ext, ?_⟩
    rw [← hgo, pgo_shut ka]
    rfl
  · simp only [List.length_cons] at hdn
    obtain ⟨B, o, rfl, hS0⟩ := hR.pos (by omega)
    rw [show flat toks = flat (dn ++ t :: ts) by rw [htk]] at hS0
    have hS := hS0.mono I.ext
    obtain ⟨hga, hgb, hgs⟩ := flat_get dn ts t
    refine wpG_seq gb idleB ?_
    refine wpG_seq gb idleB ?_
    refine wpG_region gb idleB ?_
    refine opsF_val gb idleB rfl (by rfl) rfl (x := .int .i64 (dn.length : Nat)) (y_move rfl) ?_
    refine opsF_val gb idleB rfl (by rfl) rfl (x := .slice (some ⟨B, o, none⟩) toks.length c) (y_move rfl) ?_
    refine opsF_val gb idleB rfl (by rfl) rfl (x := .int .i64 (toks.length : Nat)) (y_len_slice Try.underlying42 rfl) ?_
    refine opsF_val gb idleB rfl (by rfl) rfl (x := .bool true) (y_lss rfl rfl (by simp at hdn ⊢; omega)) ?_
    refine opsG_nil gb idleB ?_
    refine wpG_cond gb idleB (t := true) (by rw [fr_eval]; rfl) ?_
    refine wpG_skip gb idleB ?_
    refine wpG_seq gb idleB ?_
    refine wpG_block gb idleB ?_
    refine wpG_seq gb idleB ?_
    refine wpG_region gb idleB ?_
    refine opsF_val gb idleB rfl (by rfl) rfl (x := .slice (some ⟨g6, 0, none⟩) (r.length + 2) cap6) (y_move rfl) ?_
    refine opsF_val gb idleB rfl (by rfl) rfl (x := .int .i64 ((r.length + 2) : Nat)) (y_len_slice Try.underlying83 rfl) ?_
    refine opsF_val gb idleB rfl (by rfl) rfl (x := .int .i64 ((r.length + 1) : Nat)) (y_sub rfl rfl (by rw [IntKind.wrap_i64]; (try rw [List.length_cons] at hrib); omega)) ?_
    refine opsF_val gb idleB rfl (by rfl) rfl (x := .int .i64 ((r.length + 1) : Nat)) (y_assign rfl) ?_
    refine opsG_nil gb idleB ?_
    refine wpG_seq gb idleB ?_
    refine wpG_region gb idleB ?_
    refine opsF_val gb idleB rfl (by rfl) rfl (x := .slice (some ⟨B, o, none⟩) toks.length c) (y_move rfl) ?_
    refine opsF_val gb idleB rfl (by rfl) rfl (x := .int .i64 (dn.length : Nat)) (y_move rfl) ?_
    refine opsF_val gb idleB rfl (by rfl) rfl (x := .pointer (some ⟨B, o + dn.length * 3, none⟩)) (y_ix ty42 rfl rfl (by omega)) ?_
    refine opsF_val gb idleB rfl (by rfl) rfl (x := .pointer (some ⟨B, o + dn.length * 3 + 0, none⟩)) (y_fld (by decide) rfl) ?_
    refine opsF_rd gb (lensB2 _) rfl (by rfl) rfl (x := .int .i64 t.a) (rd_cellq (by decide) hS hga (by omega) rfl) ?_
    refine opsG_nil gb idleB ?_
    refine wpG_block gb idleB ?_
    refine wpG_seq gb idleB ?_
    refine wpG_region gb idleB ?_
    refine opsF_val gb idleB rfl (by rfl) rfl (x := .bool false) (y_eql (.inl rfl) rfl rfl (by simp [ka])) ?_
    refine opsF_val gb idleB rfl (by rfl) rfl (x := .bool false) (y_assign rfl) ?_
    refine opsG_nil gb idleB ?_
    refine wpG_cond gb idleB (t := false) (by rw [fr_eval]; rfl) ?_
    refine wpG_seq gb idleB ?_
    refine wpG_region gb idleB ?_
    refine opsF_val gb idleB rfl (by rfl) rfl (x := .bool false) (y_eql (.inl rfl) rfl rfl (by simp [ka])) ?_
    refine opsF_val gb idleB rfl (by rfl) rfl (x := .bool false) (y_assign rfl) ?_
    refine opsG_nil gb idleB ?_
    refine wpG_cond gb idleB (t := false) (by rw [fr_eval]; rfl) ?_
    refine wpG_seq gb idleB ?_
    refine wpG_region gb idleB ?_
    refine opsF_val gb idleB rfl (by rfl) rfl (x := .bool true) (y_eql (.inl rfl) rfl rfl (by simp [ka])) ?_
    refine opsF_val gb idleB rfl (by rfl) rfl (x := .bool true) (y_assign rfl) ?_
    refine opsG_nil gb idleB ?_
    refine wpG_cond gb idleB (t := true) (by rw [fr_eval]; rfl) ?_
    refine wpG_seq gb idleB ?_
    refine wpG_seq gb idleB ?_
    refine wpG_region gb idleB ?_
    refine opsF_val gb idleB rfl (by rfl) rfl (x := .int .i64 ((r.length + 1) : Nat)) (y_move rfl) ?_
    refine opsF_val gb idleB rfl (by rfl) rfl (x := .bool false) (y_eql (.inl rfl) rfl rfl (by simp; omega)) ?_
    refine opsG_nil gb idleB ?_
    refine wpG_cond gb idleB (t := false) (by rw [fr_eval]; rfl) ?_
    refine wpG_skip gb idleB ?_
    refine wpG_seq gb idleB ?_
    refine wpG_region_held (S := fun y => SlAt y g6 0 (stk f2 (u :: r) top)) gb idleB drawsB (by kernel_rfl) ?_
    show AnyV _ _ _ _ .any _ _ _ 15 (Array.replicate 15 false) _ _
    refine anyF_rdS (by exact I.slAt) (i := 0) rfl (by first | kernel_rfl | decide +kernel) (by first | kernel_rfl | decide +kernel) (by first | kernel_rfl | decide +kernel) (by rfl) rfl (x := v5) (fun y hu => ⟨y, _, lensB2 y, Ylds.rds (y_move rfl)⟩) ?_
    refine anyF_rdS (by exact I.slAt) (i := 1) rfl (by first | kernel_rfl | decide +kernel) (by first | kernel_rfl | decide +kernel) (by first | kernel_rfl | decide +kernel) (by rfl) rfl (x := .slice (some ⟨g6, 0, none⟩) (r.length + 2) cap6) (fun y hu => ⟨y, _, lensB2 y, Ylds.rds (y_move rfl)⟩) ?_
    refine anyF_rdS (by exact I.slAt) (i := 2) rfl (by first | kernel_rfl | decide +kernel) (by first | kernel_rfl | decide +kernel) (by first | kernel_rfl | decide +kernel) (by rfl) rfl (x := .int .i64 ((r.length + 1) : Nat)) (fun y hu => ⟨y, _, lensB2 y, Ylds.rds (y_move rfl)⟩) ?_
    refine anyF_rdS (by exact I.slAt) (i := 3) rfl (by first | kernel_rfl | decide +kernel) (by first | kernel_rfl | decide +kernel) (by first | kernel_rfl | decide +kernel) (by rfl) rfl (x := .pointer (some ⟨g6, (r.length + 1) * 2, none⟩)) (fun y hu => ⟨y, _, lensB2 y, Ylds.rds (cast_y (y_ix ty83 rfl rfl (by omega)) (by rw [Nat.zero_add]))⟩) ?_
    refine anyF_rdS (by exact I.slAt) (i := 4) rfl (by first | kernel_rfl | decide +kernel) (by first | kernel_rfl | decide +kernel) (by first | kernel_rfl | decide +kernel) (by rfl) rfl (x := .pointer (some ⟨g6, (r.length + 1) * 2 + 1, none⟩)) (fun y hu => ⟨y, _, lensB2 y, Ylds.rds (y_fld82 (by decide) rfl)⟩) ?_
    refine anyF_rdS (by exact I.slAt) (i := 5) rfl (by first | kernel_rfl | decide +kernel) (by first | kernel_rfl | decide +kernel) (by first | kernel_rfl | decide +kernel) (by rfl) rfl (x := .int .i64 top.1) (fun y hu => ⟨y, _, lensB2 y, rd_cellq (by decide) hu (stk_at lay2 (u :: r) top 1 _ rfl) (by (try rw [List.length_cons]); omega) rfl⟩) ?_
    refine anyF_rdS (by exact I.slAt) (i := 6) rfl (by first | kernel_rfl | decide +kernel) (by first | kernel_rfl | decide +kernel) (by first | kernel_rfl | decide +kernel) (by rfl) rfl (x := .slice (some ⟨g6, 0, none⟩) (r.length + 2) cap6) (fun y hu => ⟨y, _, lensB2 y, Ylds.rds (y_move rfl)⟩) ?_
    refine anyF_rdS (by exact I.slAt) (i := 7) rfl (by first | kernel_rfl | decide +kernel) (by first | kernel_rfl | decide +kernel) (by first | kernel_rfl | decide +kernel) (by rfl) rfl (x := .int .i64 ((r.length + 1) : Nat)) (fun y hu => ⟨y, _, lensB2 y, Ylds.rds (y_move rfl)⟩) ?_
    refine anyF_rdS (by exact I.slAt) (i := 8) rfl (by first | kernel_rfl | decide +kernel) (by first | kernel_rfl | decide +kernel) (by first | kernel_rfl | decide +kernel) (by rfl) rfl (x := .pointer (some ⟨g6, (r.length + 1) * 2, none⟩)) (fun y hu => ⟨y, _, lensB2 y, Ylds.rds (cast_y (y_ix ty83 rfl rfl (by omega)) (by rw [Nat.zero_add]))⟩) ?_
    refine anyF_rdS (by exact I.slAt) (i := 9) rfl (by first | kernel_rfl | decide +kernel) (by first | kernel_rfl | decide +kernel) (by first | kernel_rfl | decide +kernel) (by rfl) rfl (x := .pointer (some ⟨g6, (r.length + 1) * 2 + 0, none⟩)) (fun y hu => ⟨y, _, lensB2 y, Ylds.rds (y_fld82 (by decide) rfl)⟩) ?_
    refine anyF_rdS (by exact I.slAt) (i := 10) rfl (by first | kernel_rfl | decide +kernel) (by first | kernel_rfl | decide +kernel) (by first | kernel_rfl | decide +kernel) (by rfl) rfl (x := .int .i64 top.2) (fun y hu => ⟨y, _, lensB2 y, rd_cellq (by decide) hu (stk_at lay2 (u :: r) top 0 _ rfl) (by (try rw [List.length_cons]); omega) rfl⟩) ?_
    refine anyF_rdS (by exact I.slAt) (i := 11) rfl (by first | kernel_rfl | decide +kernel) (by first | kernel_rfl | decide +kernel) (by first | kernel_rfl | decide +kernel) (by rfl) rfl (x := .agg #[.int .i64 top.1, .int .i64 top.2, .string { data := #[] }]) (fun y hu => ⟨y, _, lensB2 y, Ylds.rds (y_b3_01 (by decide) rfl rfl)⟩) ?_
    refine anyB_new (i := 12) rfl (by first | kernel_rfl | decide +kernel) (by rfl) rfl (.cells #[.int .i64 top.1, .int .i64 top.2, .string { data := #[] }] 84) (fun M => .slice (some ⟨M, 0, none⟩) 1 1) (run_bs3 (by decide) rfl) fun M hM => ⟨I.slAt.mono (ext_put hM), ?_⟩
    have I3 := I.grow (ext_put (o := .cells #[.int .i64 top.1, .int .i64 top.2, .string { data := #[] }] 84) hM)
    have hSM := slAt_new h' M #[.int .i64 top.1, .int .i64 top.2, .string { data := #[] }] 84
    refine anyB_append ty47 (c := 1) (i := 13) rfl (by first | kernel_rfl | decide +kernel) (by rfl) rfl rfl rfl rfl I3.own5 hSM rfl (by decide) (by simp [Value.oneCell']) (by have := I3.rowb; omega) fun v5' h4 hO hold hb => ?_
    have I4 := I3.addRow (x := ⟨top.1, top.2, { data := #[] }⟩) hO hold hb
    refine ⟨I4.slAt, ?_⟩
    refine anyF_rdS (by exact I4.slAt) (i := 14) rfl (by first | kernel_rfl | decide +kernel) (by first | kernel_rfl | decide +kernel) (by first | kernel_rfl | decide +kernel) (by rfl) rfl (x := v5') (fun y hu => ⟨y, _, lensB2 y, Ylds.rds (y_assign rfl)⟩) ?_
    refine anyV_done (by first | kernel_rfl | decide +kernel) ?_ _
    refine wpG_seq gb idleB ?_
    refine wpG_region gb idleB ?_
    refine opsF_val gb idleB rfl (by rfl) rfl (x := .slice (some ⟨g6, 0, none⟩) (r.length + 2) cap6) (y_move rfl) ?_
    refine opsF_val gb idleB rfl (by rfl) rfl (x := .int .i64 ((r.length + 1) : Nat)) (y_move rfl) ?_
    have hcap := I4.capb
    have I4p := I4.pop lay2
    refine opsF_val gb idleB rfl (by rfl) rfl (x := .slice (some ⟨g6, 0, none⟩) (r.length + 1) cap6) (y_slice_arr ty83 rfl rfl (by rw [List.length_cons] at hcap; omega)) ?_
    refine opsF_val gb idleB rfl (by rfl) rfl (x := .slice (some ⟨g6, 0, none⟩) (r.length + 1) cap6) (y_assign rfl) ?_
    refine opsG_nil gb idleB ?_
    refine wpG_region gb idleB ?_
    refine opsF_val gb idleB rfl (by rfl) rfl (x := .slice (some ⟨g6, 0, none⟩) (r.length + 1) cap6) (y_move rfl) ?_
    refine opsF_val gb idleB rfl (by rfl) rfl (x := .int .i64 ((r.length + 1) : Nat)) (y_move rfl) ?_
    refine opsF_val gb idleB rfl (by rfl) rfl (x := .int .i64 (r.length : Nat)) (y_sub rfl rfl (by rw [IntKind.wrap_i64]; (try rw [List.length_cons] at hrib); omega)) ?_
    refine opsF_val gb idleB rfl (by rfl) rfl (x := .pointer (some ⟨g6, r.length * 2, none⟩)) (cast_y (y_ix ty83 rfl rfl (by omega)) (by rw [Nat.zero_add])) ?_
    refine opsF_val gb idleB rfl (by rfl) rfl (x := .pointer (some ⟨g6, r.length * 2 + 1, none⟩)) (y_fld82 (by decide) rfl) ?_
    have hmb := I4p.mb u (List.mem_cons_self ..)
    refine opsF_rd gb (lensB2 _) rfl (by rfl) rfl (x := .int .i64 u.1) (rd_cellq (by decide) I4p.slAt (stk_at lay2 r u 1 _ rfl) (by (try rw [List.length_cons]); omega) rfl) ?_
    refine opsF_val gb idleB rfl (by rfl) rfl (x := .int .i64 (u.1 + 1)) (y_add rfl rfl (by rw [IntKind.wrap_i64]; omega)) ?_
    refine opsF_val gb idleB rfl (by rfl) rfl (x := .pointer (some ⟨g6, r.length * 2, none⟩)) (cast_y (y_ix ty83 rfl rfl (by omega)) (by rw [Nat.zero_add])) ?_
    refine opsF_val gb idleB rfl (by rfl) rfl (x := .pointer (some ⟨g6, r.length * 2 + 1, none⟩)) (y_fld82 (by decide) rfl) ?_
    obtain ⟨cur, hcur, -⟩ := I4p.cur
    obtain ⟨hlt2, I5⟩ := I4p.bump lay2 (by have := (I.mb u (List.mem_cons_of_mem _ (List.mem_cons_self ..))).2; omega) hcur
    refine opsF_store gb (lensB2 _) rfl (by rfl) rfl (wr_int rfl rfl hcur hlt2) ?_
    refine opsG_nil gb idleB ?_
    refine wpG_region gb idleB ?_
    refine opsF_val gb idleB rfl (by rfl) rfl (x := .int .i64 (dn.length : Nat)) (y_move rfl) ?_
    refine opsF_val gb idleB rfl (by rfl) rfl (x := .int .i64 (dn.length + 1 : Nat)) (y_add rfl rfl (by rw [IntKind.wrap_i64]; omega)) ?_
    refine opsF_val gb idleB rfl (by rfl) rfl (x := .int .i64 (dn.length + 1 : Nat)) (y_assign rfl) ?_
    refine opsG_nil gb idleB ?_
    exact ⟨ts.length, by rw [List.length_cons]; omega, dn ++ [t], ts, row ++ [⟨top.1, top.2, { data := #[] }⟩], r, (u.1 + 1, u.2), v5', g6, cap6, _, _, rfl, by rw [htk]; simp, by rw [← hgo, pgo_pop ka], fr_says _ ⟨rfl, rfl, rfl, by rw [List.length_append]; rfl, trivial⟩, rfl, (I5.more (by rw [List.length_append]; simp))⟩
  · simp only [List.length_cons] at hdn
    obtain ⟨B, o, rfl, hS0⟩ := hR.pos (by omega)
    rw [show flat toks = flat (dn ++ t :: ts) by rw [htk]] at hS0
    have hS := hS0.mono I.ext
    obtain ⟨hga, hgb, hgs⟩ := flat_get dn ts t
    refine wpG_seq gb idleB ?_
    refine wpG_seq gb idleB ?_
    refine wpG_region gb idleB ?_
    refine opsF_val gb idleB rfl (by rfl) rfl (x := .int .i64 (dn.length : Nat)) (y_move rfl) ?_
    refine opsF_val gb idleB rfl (by rfl) rfl (x := .slice (some ⟨B, o, none⟩) toks.length c) (y_move rfl) ?_
    refine opsF_val gb idleB rfl (by rfl) rfl (x := .int .i64 (toks.length : Nat)) (y_len_slice Try.underlying42 rfl) ?_
    refine opsF_val gb idleB rfl (by rfl) rfl (x := .bool true) (y_lss rfl rfl (by simp at hdn ⊢; omega)) ?_
    refine opsG_nil gb idleB ?_
    refine wpG_cond gb idleB (t := true) (by rw [fr_eval]; rfl) ?_
    refine wpG_skip gb idleB ?_
    refine wpG_seq gb idleB ?_
    refine wpG_block gb idleB ?_
    refine wpG_seq gb idleB ?_
    refine wpG_region gb idleB ?_
    refine opsF_val gb idleB rfl (by rfl) rfl (x := .slice (some ⟨g6, 0, none⟩) (ri.length + 1) cap6) (y_move rfl) ?_
    refine opsF_val gb idleB rfl (by rfl) rfl (x := .int .i64 ((ri.length + 1) : Nat)) (y_len_slice Try.underlying83 rfl) ?_
    refine opsF_val gb idleB rfl (by rfl) rfl (x := .int .i64 (ri.length : Nat)) (y_sub rfl rfl (by rw [IntKind.wrap_i64]; (try rw [List.length_cons] at hrib); omega)) ?_
    refine opsF_val gb idleB rfl (by rfl) rfl (x := .int .i64 (ri.length : Nat)) (y_assign rfl) ?_
    refine opsG_nil gb idleB ?_
    refine wpG_seq gb idleB ?_
    refine wpG_region gb idleB ?_
    refine opsF_val gb idleB rfl (by rfl) rfl (x := .slice (some ⟨B, o, none⟩) toks.length c) (y_move rfl) ?_
    refine opsF_val gb idleB rfl (by rfl) rfl (x := .int .i64 (dn.length : Nat)) (y_move rfl) ?_
    refine opsF_val gb idleB rfl (by rfl) rfl (x := .pointer (some ⟨B, o + dn.length * 3, none⟩)) (y_ix ty42 rfl rfl (by omega)) ?_
    refine opsF_val gb idleB rfl (by rfl) rfl (x := .pointer (some ⟨B, o + dn.length * 3 + 0, none⟩)) (y_fld (by decide) rfl) ?_
    refine opsF_rd gb (lensB2 _) rfl (by rfl) rfl (x := .int .i64 t.a) (rd_cellq (by decide) hS hga (by omega) rfl) ?_
    refine opsG_nil gb idleB ?_
    refine wpG_block gb idleB ?_
    refine wpG_seq gb idleB ?_
    refine wpG_region gb idleB ?_
    refine opsF_val gb idleB rfl (by rfl) rfl (x := .bool false) (y_eql (.inl rfl) rfl rfl (by simp [k1])) ?_
    refine opsF_val gb idleB rfl (by rfl) rfl (x := .bool false) (y_assign rfl) ?_
    refine opsG_nil gb idleB ?_
    refine wpG_cond gb idleB (t := false) (by rw [fr_eval]; rfl) ?_
    refine wpG_seq gb idleB ?_
    refine wpG_region gb idleB ?_
    refine opsF_val gb idleB rfl (by rfl) rfl (x := .bool false) (y_eql (.inl rfl) rfl rfl (by simp [k2])) ?_
    refine opsF_val gb idleB rfl (by rfl) rfl (x := .bool false) (y_assign rfl) ?_
    refine opsG_nil gb idleB ?_
    refine wpG_cond gb idleB (t := false) (by rw [fr_eval]; rfl) ?_
    refine wpG_seq gb idleB ?_
    refine wpG_region gb idleB ?_
    refine opsF_val gb idleB rfl (by rfl) rfl (x := .bool false) (y_eql (.inl rfl) rfl rfl (by simp [k3])) ?_
    refine opsF_val gb idleB rfl (by rfl) rfl (x := .bool false) (y_assign rfl) ?_
    refine opsG_nil gb idleB ?_
    refine wpG_cond gb idleB (t := false) (by rw [fr_eval]; rfl) ?_
    refine wpG_skip gb idleB ?_
    refine wpG_region gb idleB ?_
    refine opsF_val gb idleB rfl (by rfl) rfl (x := .int .i64 (dn.length : Nat)) (y_move rfl) ?_
    refine opsF_val gb idleB rfl (by rfl) rfl (x := .int .i64 (dn.length + 1 : Nat)) (y_add rfl rfl (by rw [IntKind.wrap_i64]; omega)) ?_
    refine opsF_val gb idleB rfl (by rfl) rfl (x := .int .i64 (dn.length + 1 : Nat)) (y_assign rfl) ?_
    refine opsG_nil gb idleB ?_
    exact ⟨ts.length, by rw [List.length_cons]; omega, dn ++ [t], ts, row, ri, top, v5, g6, cap6, _, _, rfl, by rw [htk]; simp, by rw [← hgo, pgo_other k1 k2 k3], fr_says _ ⟨rfl, rfl, rfl, by rw [List.length_append]; rfl, trivial⟩, rfl, (I.more (by rw [List.length_append]; simp))⟩

end Go.Proofs.Ytfaadjmglboaoaa
