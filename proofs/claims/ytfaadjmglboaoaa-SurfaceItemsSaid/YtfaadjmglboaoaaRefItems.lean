/-
  corniceref07.Begin, corniceref07.Items.
-/
import Derived.Test.YtfaadjmglboaoaaItems
namespace Go.Proofs.Ytfaadjmglboaoaa
open Go.Conc Go.RowKit

/-- Where the thing begins that ends where so much of the row does. -/
def begv (q : List T3) : Int := match bg q.reverse with
  | none => -1
  | some r => (r.length : Nat)
theorem begv_none {q : List T3} (h : bg q.reverse = none) : begv q = -1 := by unfold begv; rw [h]
theorem begv_some {q r : List T3} (h : bg q.reverse = some r) : begv q = (r.length : Nat) := by unfold begv; rw [h]
/-- What is left ahead is the row's beginning. -/
theorem bg_take {l r : List T3} {q : Nat} (hq : q ≤ l.length) (h : bg (l.take q).reverse = some r) : r.length < q ∧ r = (l.take r.length).reverse ∧ ∃ t, Thing t ∧ l.take q = l.take r.length ++ t := by
  obtain ⟨t, h1, h2⟩ := bg_thing _ _ _ (Nat.le_refl _) h
  rw [List.reverse_reverse] at h2
  have hlt := bg_lt h
  rw [List.length_reverse, List.length_take, Nat.min_eq_left hq] at hlt
  have e : l.take r.length = r.reverse := by
    have := congrArg (List.take r.reverse.length) h2
    rw [List.take_left, List.length_reverse, List.take_take, Nat.min_eq_left (by omega)] at this
    exact this
  exact ⟨hlt, by rw [e, List.reverse_reverse], t, h1, by rw [e]; exact h2⟩
theorem take_snoc {l dn ts : List T3} {t : T3} (h : l = dn ++ t :: ts) : l.take (dn.length + 1) = dn ++ [t] ∧ l.take dn.length = dn := by
  subst h
  constructor
  · rw [show dn ++ t :: ts = (dn ++ [t]) ++ ts by simp, show dn.length + 1 = (dn ++ [t]).length by simp, List.take_left]
  · rw [List.take_left]

set_option maxHeartbeats 2000000 in
theorem begin52 {main : Bool} (h : PH) (l : List T3) (p : Option Addr) (c : Nat) (hR : RSl h 3 (.slice p l.length c) l.length (flat l)) (hlen : l.length ≤ 2 ^ 20) :
    ∀ m, m ≤ l.length → CallsG Try.prog (GB main) 52 #[.slice p l.length c, .int .i64 ((m : Int) - 1)] h (fun r h' => h' = h ∧ r = .int .i64 (begv (l.take m))) := by
  intro m
  induction m using Nat.strongRecOn with
  | _ m IH =>
  intro hm
  refine callsG_of_wp (c := Try.f52.body.getD .skip) gb idleB Try.func52 rfl ?_
  rw [Try.ntmps52]
  rw [fr_of (n := 50) (by simp) [(0, .slice p l.length c), (1, .int .i64 ((m : Int) - 1))] ⟨by simp, by simp, trivial⟩]
  generalize (fun j => (#[Value.slice p l.length c, Value.int .i64 ((m : Int) - 1)] ++ Array.replicate (50 - #[Value.slice p l.length c, Value.int .i64 ((m : Int) - 1)].size) undef).getD j undef) = σ
  refine wpG_seq gb idleB ?_
  refine wpG_region gb idleB ?_
  refine opsF_val gb idleB rfl (by rfl) rfl (x := .int .i64 0) (y_assign rfl) ?_
  refine opsG_nil gb idleB ?_
  refine wpG_seq gb idleB ?_
  refine wpG_seq gb idleB ?_
  refine wpG_region gb idleB ?_
  refine opsF_val gb idleB rfl (by rfl) rfl (x := .int .i64 ((m : Int) - 1)) (y_move rfl) ?_
  refine opsF_val gb idleB rfl (by rfl) rfl (x := .bool (decide (((m : Int) - 1) < 0))) (y_lss rfl rfl rfl) ?_
  rcases Nat.eq_zero_or_pos m with hm0 | hm0
  · rw [decide_eq_true (by omega)]
    refine opsF_val gb idleB rfl (by rfl) rfl (x := .bool true) (y_move rfl) ?_
    refine opsF_skip gb idleB rfl (by rfl) rfl ?_
    refine opsF_skip gb idleB rfl (by rfl) rfl ?_
    refine opsF_skip gb idleB rfl (by rfl) rfl ?_
    refine opsF_skip gb idleB rfl (by rfl) rfl ?_
    refine opsF_skip gb idleB rfl (by rfl) rfl ?_
    refine opsF_skip gb idleB rfl (by rfl) rfl ?_
    refine opsF_val gb idleB rfl (by rfl) rfl (x := .bool true) (y_pick (t := true) rfl rfl) ?_
    refine opsF_val gb idleB rfl (by rfl) rfl (x := .bool true) (y_move rfl) ?_
    refine opsF_skip gb idleB rfl (by rfl) rfl ?_
    refine opsF_skip gb idleB rfl (by rfl) rfl ?_
    refine opsF_skip gb idleB rfl (by rfl) rfl ?_
    refine opsF_skip gb idleB rfl (by rfl) rfl ?_
    refine opsF_skip gb idleB rfl (by rfl) rfl ?_
    refine opsF_skip gb idleB rfl (by rfl) rfl ?_
    refine opsF_skip gb idleB rfl (by rfl) rfl ?_
    refine opsF_skip gb idleB rfl (by rfl) rfl ?_
    refine opsF_skip gb idleB rfl (by rfl) rfl ?_
    refine opsF_skip gb idleB rfl (by rfl) rfl ?_
    refine opsF_skip gb idleB rfl (by rfl) rfl ?_
    refine opsF_skip gb idleB rfl (by rfl) rfl ?_
    refine opsF_skip gb idleB rfl (by rfl) rfl ?_
    refine opsF_skip gb idleB rfl (by rfl) rfl ?_
    refine opsF_val gb idleB rfl (by rfl) rfl (x := .bool true) (y_pick (t := true) rfl rfl) ?_
    refine opsG_nil gb idleB ?_
    refine wpG_cond gb idleB (t := true) (by rw [fr_eval]; rfl) ?_
    refine wpG_seq gb idleB ?_
    refine wpG_region gb idleB ?_
    refine opsF_val gb idleB rfl (by rfl) rfl (x := .int .i64 (-1)) (y_assign rfl) ?_
    refine opsG_nil gb idleB ?_
    refine wpG_ret gb idleB ?_
    exact ⟨.inr rfl, rfl, _, resultsC_tmp (by rfl) _, rfl, (fr_ret (x := .int .i64 (-1)) (by decide) rfl).trans (by rw [hm0]; rfl)⟩
  · rw [decide_eq_false (by omega)]
    obtain ⟨dn, t, ts, hl, rfl⟩ : ∃ dn t ts, l = dn ++ t :: ts ∧ m = dn.length + 1 := by
      refine ⟨l.take (m - 1), l[m - 1]'(by omega), l.drop (m - 1 + 1), by simp, by rw [List.length_take]; omega⟩
    obtain ⟨htk, htk2⟩ := take_snoc hl
    have hdn : dn.length + (ts.length + 1) = l.length := by rw [hl, List.length_append, List.length_cons]
    have hsub : ((dn.length + 1 : Nat) : Int) - 1 = (dn.length : Nat) := by omega
    simp only [hsub]
    obtain ⟨B, o, rfl, hS⟩ := hR.pos (by omega)
    rw [show flat l = flat (dn ++ t :: ts) by rw [← hl]] at hS
    obtain ⟨hga, hgb, hgs⟩ := flat_get dn ts t
    refine opsF_val gb idleB rfl (by rfl) rfl (x := .bool false) (y_move rfl) ?_
    refine opsF_val gb idleB rfl (by rfl) rfl (x := .slice (some ⟨B, o, none⟩) l.length c) (y_move rfl) ?_
    refine opsF_val gb idleB rfl (by rfl) rfl (x := .int .i64 (dn.length : Nat)) (y_move rfl) ?_
    refine opsF_val gb idleB rfl (by rfl) rfl (x := .pointer (some ⟨B, o + dn.length * 3, none⟩)) (y_ix ty47 rfl rfl (by omega)) ?_
    refine opsF_val gb idleB rfl (by rfl) rfl (x := .pointer (some ⟨B, o + dn.length * 3 + 0, none⟩)) (y_fld (by decide) rfl) ?_
    refine opsF_rd gb (lensB2 _) rfl (by rfl) rfl (x := .int .i64 t.a) (rd_cellq (by decide) hS hga (by omega) rfl) ?_
    refine opsF_val gb idleB rfl (by rfl) rfl (x := .bool (decide (t.a < 0))) (y_lss rfl rfl rfl) ?_
    rcases Int.lt_or_le t.a 0 with hneg | hpos
    · rw [decide_eq_true hneg]
      refine opsF_val gb idleB rfl (by rfl) rfl (x := .bool true) (y_pick (t := false) rfl rfl) ?_
      refine opsF_val gb idleB rfl (by rfl) rfl (x := .bool true) (y_move rfl) ?_
      refine opsF_skip gb idleB rfl (by rfl) rfl ?_
      refine opsF_skip gb idleB rfl (by rfl) rfl ?_
      refine opsF_skip gb idleB rfl (by rfl) rfl ?_
      refine opsF_skip gb idleB rfl (by rfl) rfl ?_
      refine opsF_skip gb idleB rfl (by rfl) rfl ?_
      refine opsF_skip gb idleB rfl (by rfl) rfl ?_
      refine opsF_skip gb idleB rfl (by rfl) rfl ?_
      refine opsF_skip gb idleB rfl (by rfl) rfl ?_
      refine opsF_skip gb idleB rfl (by rfl) rfl ?_
      refine opsF_skip gb idleB rfl (by rfl) rfl ?_
      refine opsF_skip gb idleB rfl (by rfl) rfl ?_
      refine opsF_skip gb idleB rfl (by rfl) rfl ?_
      refine opsF_skip gb idleB rfl (by rfl) rfl ?_
      refine opsF_skip gb idleB rfl (by rfl) rfl ?_
      refine opsF_val gb idleB rfl (by rfl) rfl (x := .bool true) (y_pick (t := true) rfl rfl) ?_
      refine opsG_nil gb idleB ?_
      refine wpG_cond gb idleB (t := true) (by rw [fr_eval]; rfl) ?_
      refine wpG_seq gb idleB ?_
      refine wpG_region gb idleB ?_
      refine opsF_val gb idleB rfl (by rfl) rfl (x := .int .i64 (-1)) (y_assign rfl) ?_
      refine opsG_nil gb idleB ?_
      refine wpG_ret gb idleB ?_
      exact ⟨.inr rfl, rfl, _, resultsC_tmp (by rfl) _, rfl, (fr_ret (x := .int .i64 (-1)) (by decide) rfl).trans (by rw [htk, begv_none (by rw [List.reverse_append]; show bg (t :: dn.reverse) = none; rw [bg_cons, if_pos (.inl hneg)])])⟩
    · rw [decide_eq_false (by omega)]
      obtain ⟨k, hk⟩ : ∃ k : Nat, t.a = k := ⟨t.a.toNat, by omega⟩
      refine opsF_val gb idleB rfl (by rfl) rfl (x := .bool false) (y_pick (t := false) rfl rfl) ?_
      refine opsF_val gb idleB rfl (by rfl) rfl (x := .bool false) (y_move rfl) ?_
      refine opsF_val gb idleB rfl (by rfl) rfl (x := .slice (some ⟨B, o, none⟩) l.length c) (y_move rfl) ?_
      refine opsF_val gb idleB rfl (by rfl) rfl (x := .int .i64 (dn.length : Nat)) (y_move rfl) ?_
      refine opsF_val gb idleB rfl (by rfl) rfl (x := .pointer (some ⟨B, o + dn.length * 3, none⟩)) (y_ix ty47 rfl rfl (by omega)) ?_
      refine opsF_val gb idleB rfl (by rfl) rfl (x := .pointer (some ⟨B, o + dn.length * 3 + 2, none⟩)) (y_fld (by decide) rfl) ?_
      refine opsF_rd gb (lensB2 _) rfl (by rfl) rfl (x := .string t.s) (rd_cellq (by decide) hS hgs (by omega) rfl) ?_
      refine opsF_val gb idleB rfl (by rfl) rfl (x := .bool (!decide (t.s = { data := #[] }))) (y_neq_strg rfl rfl rfl) ?_
      by_cases hs : t.s = { data := #[] }
      · rw [decide_eq_true hs]
        have hnb : ¬ t.bad := by unfold T3.bad; rintro (h | ⟨h, _⟩); omega; exact h hs
        show OpsG _ _ _ _ _ _ (fr _ _ ((_, Value.bool false) :: _) _) _
        refine opsF_val gb idleB rfl (by rfl) rfl (x := .bool false) (y_move rfl) ?_
        refine opsF_skip gb idleB rfl (by rfl) rfl ?_
        refine opsF_skip gb idleB rfl (by rfl) rfl ?_
        refine opsF_skip gb idleB rfl (by rfl) rfl ?_
        refine opsF_skip gb idleB rfl (by rfl) rfl ?_
        refine opsF_skip gb idleB rfl (by rfl) rfl ?_
        refine opsF_skip gb idleB rfl (by rfl) rfl ?_
        refine opsF_val gb idleB rfl (by rfl) rfl (x := .bool false) (y_pick (t := false) rfl rfl) ?_
        refine opsF_val gb idleB rfl (by rfl) rfl (x := .bool false) (y_pick (t := false) rfl rfl) ?_
        refine opsG_nil gb idleB ?_
        refine wpG_cond gb idleB (t := false) (by rw [fr_eval]; rfl) ?_
        refine wpG_skip gb idleB ?_
        refine wpG_seq gb idleB ?_
        refine wpG_region gb idleB ?_
        refine opsF_val gb idleB rfl (by rfl) rfl (x := .int .i64 (dn.length : Nat)) (y_move rfl) ?_
        refine opsF_val gb idleB rfl (by rfl) rfl (x := .int .i64 (dn.length : Nat)) (y_assign rfl) ?_
        refine opsG_nil gb idleB ?_
        refine wpG_seq gb idleB ?_
        refine wpG_seq gb idleB ?_
        refine wpG_region gb idleB ?_
        refine opsF_val gb idleB rfl (by rfl) rfl (x := .int .i64 0) (y_assign rfl) ?_
        refine opsG_nil gb idleB ?_
        refine wpG_block gb idleB ?_
        have hbg : bg (t :: dn.reverse) = iter bg k dn.reverse := by rw [bg_cons, if_neg hnb, hk]; rfl
        refine wpG_loopN gb idleB (fun n a v => ∃ (q j : Nat) (τ : Nat → Value), q = n ∧ j + q ≤ dn.length ∧ j ≤ k ∧ iter bg (k - j) (l.take q).reverse = iter bg k dn.reverse ∧ a = fr 50 τ [(0, .slice (some ⟨B, o, none⟩) l.length c), (1, .int .i64 (dn.length : Nat)), (5, .int .i64 (q : Nat)), (6, .int .i64 (j : Nat))] [] ∧ v = h) dn.length ⟨dn.length, 0, _, rfl, by omega, Nat.zero_le _, by rw [htk2, Nat.sub_zero], fr_says _ ⟨rfl, rfl, rfl, rfl, trivial⟩, rfl⟩ ?_
        rintro n _ v ⟨q, j, τ, rfl, hq, hj, hit, rfl, hv⟩
        obtain rfl : h = v := hv.symm
        clear σ
        rcases (show j < k ∨ j = k by omega) with hlt | rfl
        · obtain ⟨k, rfl⟩ : ∃ k2, k = j + k2 + 1 := ⟨k - j - 1, by omega⟩
          rw [show j + k + 1 - j = k + 1 by omega, iter] at hit
          refine wpG_seq gb idleB ?_
          refine wpG_seq gb idleB ?_
          refine wpG_region gb idleB ?_
          refine opsF_val gb idleB rfl (by rfl) rfl (x := .int .i64 (j : Nat)) (y_move rfl) ?_
          refine opsF_val gb idleB rfl (by rfl) rfl (x := .slice (some ⟨B, o, none⟩) l.length c) (y_move rfl) ?_
          refine opsF_val gb idleB rfl (by rfl) rfl (x := .int .i64 (dn.length : Nat)) (y_move rfl) ?_
          refine opsF_val gb idleB rfl (by rfl) rfl (x := .pointer (some ⟨B, o + dn.length * 3, none⟩)) (y_ix ty47 rfl rfl (by omega)) ?_
          refine opsF_val gb idleB rfl (by rfl) rfl (x := .pointer (some ⟨B, o + dn.length * 3 + 0, none⟩)) (y_fld (by decide) rfl) ?_
          refine opsF_rd gb (lensB2 _) rfl (by rfl) rfl (x := .int .i64 t.a) (rd_cellq (by decide) hS hga (by omega) rfl) ?_
          refine opsF_val gb idleB rfl (by rfl) rfl (x := .bool true) (y_lss rfl rfl (by rw [hk]; simp; omega)) ?_
          refine opsG_nil gb idleB ?_
          refine wpG_cond gb idleB (t := true) (by rw [fr_eval]; rfl) ?_
          refine wpG_skip gb idleB ?_
          refine wpG_seq gb idleB ?_
          refine wpG_block gb idleB ?_
          refine wpG_seq gb idleB ?_
          refine wpG_region gb idleB ?_
          refine opsF_val gb idleB rfl (by rfl) rfl (x := .slice (some ⟨B, o, none⟩) l.length c) (y_move rfl) ?_
          refine opsF_val gb idleB rfl (by rfl) rfl (x := .int .i64 (q : Nat)) (y_move rfl) ?_
          refine opsF_val gb idleB rfl (by rfl) rfl (x := .int .i64 ((q : Int) - 1)) (y_sub rfl rfl (by rw [IntKind.wrap_i64]; omega)) ?_
          refine opsF_call gb idleB rfl (by rfl) rfl (run_call (args := #[.slice (some ⟨B, o, none⟩) l.length c, .int .i64 ((q : Int) - 1)]) rfl Try.func52 (by rfl) rfl (by simp only [List.map_toArray, List.map_cons, List.map_nil]; rfl)) (IH q (by omega) (by omega)) ?_
          rintro _ _ ⟨rfl, rfl⟩
          by_cases hb : bg (l.take q).reverse = none
          · rw [begv_none hb]
            rw [hb] at hit
            refine opsF_val gb idleB rfl (by rfl) rfl (x := .int .i64 (-1)) (y_assign rfl) ?_
            refine opsG_nil gb idleB ?_
            refine wpG_seq gb idleB ?_
            refine wpG_region gb idleB ?_
            refine opsF_val gb idleB rfl (by rfl) rfl (x := .int .i64 (-1)) (y_move rfl) ?_
            refine opsF_val gb idleB rfl (by rfl) rfl (x := .bool true) (y_lss rfl rfl (rfl)) ?_
            refine opsG_nil gb idleB ?_
            refine wpG_cond gb idleB (t := true) (by rw [fr_eval]; rfl) ?_
            refine wpG_seq gb idleB ?_
            refine wpG_region gb idleB ?_
            refine opsF_val gb idleB rfl (by rfl) rfl (x := .int .i64 (-1)) (y_assign rfl) ?_
            refine opsG_nil gb idleB ?_
            refine wpG_ret gb idleB ?_
            exact ⟨.inr rfl, rfl, _, resultsC_tmp (by rfl) _, rfl, (fr_ret (x := .int .i64 (-1)) (by decide) rfl).trans (by rw [htk, begv_none (by rw [List.reverse_append]; show bg (t :: dn.reverse) = none; rw [hbg, ← hit]; rfl)])⟩
          · obtain ⟨r', hb⟩ := Option.ne_none_iff_exists'.1 hb
            rw [begv_some hb]
            obtain ⟨hlt2, hr', _⟩ := bg_take (by omega) hb
            refine opsF_val gb idleB rfl (by rfl) rfl (x := .int .i64 (r'.length : Nat)) (y_assign rfl) ?_
            refine opsG_nil gb idleB ?_
            refine wpG_seq gb idleB ?_
            refine wpG_region gb idleB ?_
            refine opsF_val gb idleB rfl (by rfl) rfl (x := .int .i64 (r'.length : Nat)) (y_move rfl) ?_
            refine opsF_val gb idleB rfl (by rfl) rfl (x := .bool false) (y_lss rfl rfl (by simp)) ?_
            refine opsG_nil gb idleB ?_
            refine wpG_cond gb idleB (t := false) (by rw [fr_eval]; rfl) ?_
            refine wpG_skip gb idleB ?_
            refine wpG_region gb idleB ?_
            refine opsF_val gb idleB rfl (by rfl) rfl (x := .int .i64 (j : Nat)) (y_move rfl) ?_
            refine opsF_val gb idleB rfl (by rfl) rfl (x := .int .i64 (j + 1 : Nat)) (y_add rfl rfl (by rw [IntKind.wrap_i64]; omega)) ?_
            refine opsF_val gb idleB rfl (by rfl) rfl (x := .int .i64 (j + 1 : Nat)) (y_assign rfl) ?_
            refine opsG_nil gb idleB ?_
            exact ⟨r'.length, hlt2, r'.length, j + 1, _, rfl, by omega, by omega, by rw [← hr']; rw [show j + k + 1 - (j + 1) = k by omega]; rw [hb] at hit; exact hit, fr_says _ ⟨rfl, rfl, rfl, rfl, trivial⟩, rfl⟩
        · refine wpG_seq gb idleB ?_
          refine wpG_seq gb idleB ?_
          refine wpG_region gb idleB ?_
          refine opsF_val gb idleB rfl (by rfl) rfl (x := .int .i64 (j : Nat)) (y_move rfl) ?_
          refine opsF_val gb idleB rfl (by rfl) rfl (x := .slice (some ⟨B, o, none⟩) l.length c) (y_move rfl) ?_
          refine opsF_val gb idleB rfl (by rfl) rfl (x := .int .i64 (dn.length : Nat)) (y_move rfl) ?_
          refine opsF_val gb idleB rfl (by rfl) rfl (x := .pointer (some ⟨B, o + dn.length * 3, none⟩)) (y_ix ty47 rfl rfl (by omega)) ?_
          refine opsF_val gb idleB rfl (by rfl) rfl (x := .pointer (some ⟨B, o + dn.length * 3 + 0, none⟩)) (y_fld (by decide) rfl) ?_
          refine opsF_rd gb (lensB2 _) rfl (by rfl) rfl (x := .int .i64 t.a) (rd_cellq (by decide) hS hga (by omega) rfl) ?_
          refine opsF_val gb idleB rfl (by rfl) rfl (x := .bool false) (y_lss rfl rfl (by rw [hk]; simp)) ?_
          refine opsG_nil gb idleB ?_
          refine wpG_cond gb idleB (t := false) (by rw [fr_eval]; rfl) ?_
          refine wpG_exit gb idleB ?_
          refine wpG_seq gb idleB ?_
          refine wpG_region gb idleB ?_
          refine opsF_val gb idleB rfl (by rfl) rfl (x := .int .i64 (q : Nat)) (y_move rfl) ?_
          refine opsF_val gb idleB rfl (by rfl) rfl (x := .int .i64 (q : Nat)) (y_assign rfl) ?_
          refine opsG_nil gb idleB ?_
          refine wpG_ret gb idleB ?_
          exact ⟨.inr rfl, rfl, _, resultsC_tmp (by rfl) _, rfl, (fr_ret (x := .int .i64 (q : Nat)) (by decide) rfl).trans (by rw [htk, begv_some (r := (l.take q).reverse) (by rw [List.reverse_append]; show bg (t :: dn.reverse) = _; rw [hbg, ← hit, Nat.sub_self]; rfl)]; rw [List.length_reverse, List.length_take, Nat.min_eq_left (by omega)])⟩
      · rw [decide_eq_false hs]
        show OpsG _ _ _ _ _ _ (fr _ _ ((_, Value.bool true) :: _) _) _
        refine opsF_val gb idleB rfl (by rfl) rfl (x := .bool true) (y_move rfl) ?_
        refine opsF_val gb idleB rfl (by rfl) rfl (x := .slice (some ⟨B, o, none⟩) l.length c) (y_move rfl) ?_
        refine opsF_val gb idleB rfl (by rfl) rfl (x := .int .i64 (dn.length : Nat)) (y_move rfl) ?_
        refine opsF_val gb idleB rfl (by rfl) rfl (x := .pointer (some ⟨B, o + dn.length * 3, none⟩)) (y_ix ty47 rfl rfl (by omega)) ?_
        refine opsF_val gb idleB rfl (by rfl) rfl (x := .pointer (some ⟨B, o + dn.length * 3 + 0, none⟩)) (y_fld (by decide) rfl) ?_
        refine opsF_rd gb (lensB2 _) rfl (by rfl) rfl (x := .int .i64 t.a) (rd_cellq (by decide) hS hga (by omega) rfl) ?_
        refine opsF_val gb idleB rfl (by rfl) rfl (x := .bool (t.a != 0)) (y_neq (.inl rfl) rfl rfl rfl) ?_
        by_cases ha : t.a = 0
        · rw [show (t.a != 0) = false by simp [ha]]
          have hnb : ¬ t.bad := by unfold T3.bad; rintro (h | ⟨_, h⟩); omega; exact h ha
          refine opsF_val gb idleB rfl (by rfl) rfl (x := .bool false) (y_pick (t := true) rfl rfl) ?_
          refine opsF_val gb idleB rfl (by rfl) rfl (x := .bool false) (y_pick (t := false) rfl rfl) ?_
          refine opsG_nil gb idleB ?_
          refine wpG_cond gb idleB (t := false) (by rw [fr_eval]; rfl) ?_
          refine wpG_skip gb idleB ?_
          refine wpG_seq gb idleB ?_
          refine wpG_region gb idleB ?_
          refine opsF_val gb idleB rfl (by rfl) rfl (x := .int .i64 (dn.length : Nat)) (y_move rfl) ?_
          refine opsF_val gb idleB rfl (by rfl) rfl (x := .int .i64 (dn.length : Nat)) (y_assign rfl) ?_
          refine opsG_nil gb idleB ?_
          refine wpG_seq gb idleB ?_
          refine wpG_seq gb idleB ?_
          refine wpG_region gb idleB ?_
          refine opsF_val gb idleB rfl (by rfl) rfl (x := .int .i64 0) (y_assign rfl) ?_
          refine opsG_nil gb idleB ?_
          refine wpG_block gb idleB ?_
          have hbg : bg (t :: dn.reverse) = iter bg k dn.reverse := by rw [bg_cons, if_neg hnb, hk]; rfl
          refine wpG_loopN gb idleB (fun n a v => ∃ (q j : Nat) (τ : Nat → Value), q = n ∧ j + q ≤ dn.length ∧ j ≤ k ∧ iter bg (k - j) (l.take q).reverse = iter bg k dn.reverse ∧ a = fr 50 τ [(0, .slice (some ⟨B, o, none⟩) l.length c), (1, .int .i64 (dn.length : Nat)), (5, .int .i64 (q : Nat)), (6, .int .i64 (j : Nat))] [] ∧ v = h) dn.length ⟨dn.length, 0, _, rfl, by omega, Nat.zero_le _, by rw [htk2, Nat.sub_zero], fr_says _ ⟨rfl, rfl, rfl, rfl, trivial⟩, rfl⟩ ?_
          rintro n _ v ⟨q, j, τ, rfl, hq, hj, hit, rfl, hv⟩
          obtain rfl : h = v := hv.symm
          clear σ
          rcases (show j < k ∨ j = k by omega) with hlt | rfl
          · obtain ⟨k, rfl⟩ : ∃ k2, k = j + k2 + 1 := ⟨k - j - 1, by omega⟩
            rw [show j + k + 1 - j = k + 1 by omega, iter] at hit
            refine wpG_seq gb idleB ?_
            refine wpG_seq gb idleB ?_
            refine wpG_region gb idleB ?_
            refine opsF_val gb idleB rfl (by rfl) rfl (x := .int .i64 (j : Nat)) (y_move rfl) ?_
            refine opsF_val gb idleB rfl (by rfl) rfl (x := .slice (some ⟨B, o, none⟩) l.length c) (y_move rfl) ?_
            refine opsF_val gb idleB rfl (by rfl) rfl (x := .int .i64 (dn.length : Nat)) (y_move rfl) ?_
            refine opsF_val gb idleB rfl (by rfl) rfl (x := .pointer (some ⟨B, o + dn.length * 3, none⟩)) (y_ix ty47 rfl rfl (by omega)) ?_
            refine opsF_val gb idleB rfl (by rfl) rfl (x := .pointer (some ⟨B, o + dn.length * 3 + 0, none⟩)) (y_fld (by decide) rfl) ?_
            refine opsF_rd gb (lensB2 _) rfl (by rfl) rfl (x := .int .i64 t.a) (rd_cellq (by decide) hS hga (by omega) rfl) ?_
            refine opsF_val gb idleB rfl (by rfl) rfl (x := .bool true) (y_lss rfl rfl (by rw [hk]; simp; omega)) ?_
            refine opsG_nil gb idleB ?_
            refine wpG_cond gb idleB (t := true) (by rw [fr_eval]; rfl) ?_
            refine wpG_skip gb idleB ?_
            refine wpG_seq gb idleB ?_
            refine wpG_block gb idleB ?_
            refine wpG_seq gb idleB ?_
            refine wpG_region gb idleB ?_
            refine opsF_val gb idleB rfl (by rfl) rfl (x := .slice (some ⟨B, o, none⟩) l.length c) (y_move rfl) ?_
            refine opsF_val gb idleB rfl (by rfl) rfl (x := .int .i64 (q : Nat)) (y_move rfl) ?_
            refine opsF_val gb idleB rfl (by rfl) rfl (x := .int .i64 ((q : Int) - 1)) (y_sub rfl rfl (by rw [IntKind.wrap_i64]; omega)) ?_
            refine opsF_call gb idleB rfl (by rfl) rfl (run_call (args := #[.slice (some ⟨B, o, none⟩) l.length c, .int .i64 ((q : Int) - 1)]) rfl Try.func52 (by rfl) rfl (by simp only [List.map_toArray, List.map_cons, List.map_nil]; rfl)) (IH q (by omega) (by omega)) ?_
            rintro _ _ ⟨rfl, rfl⟩
            by_cases hb : bg (l.take q).reverse = none
            · rw [begv_none hb]
              rw [hb] at hit
              refine opsF_val gb idleB rfl (by rfl) rfl (x := .int .i64 (-1)) (y_assign rfl) ?_
              refine opsG_nil gb idleB ?_
              refine wpG_seq gb idleB ?_
              refine wpG_region gb idleB ?_
              refine opsF_val gb idleB rfl (by rfl) rfl (x := .int .i64 (-1)) (y_move rfl) ?_
              refine opsF_val gb idleB rfl (by rfl) rfl (x := .bool true) (y_lss rfl rfl (rfl)) ?_
              refine opsG_nil gb idleB ?_
              refine wpG_cond gb idleB (t := true) (by rw [fr_eval]; rfl) ?_
              refine wpG_seq gb idleB ?_
              refine wpG_region gb idleB ?_
              refine opsF_val gb idleB rfl (by rfl) rfl (x := .int .i64 (-1)) (y_assign rfl) ?_
              refine opsG_nil gb idleB ?_
              refine wpG_ret gb idleB ?_
              exact ⟨.inr rfl, rfl, _, resultsC_tmp (by rfl) _, rfl, (fr_ret (x := .int .i64 (-1)) (by decide) rfl).trans (by rw [htk, begv_none (by rw [List.reverse_append]; show bg (t :: dn.reverse) = none; rw [hbg, ← hit]; rfl)])⟩
            · obtain ⟨r', hb⟩ := Option.ne_none_iff_exists'.1 hb
              rw [begv_some hb]
              obtain ⟨hlt2, hr', _⟩ := bg_take (by omega) hb
              refine opsF_val gb idleB rfl (by rfl) rfl (x := .int .i64 (r'.length : Nat)) (y_assign rfl) ?_
              refine opsG_nil gb idleB ?_
              refine wpG_seq gb idleB ?_
              refine wpG_region gb idleB ?_
              refine opsF_val gb idleB rfl (by rfl) rfl (x := .int .i64 (r'.length : Nat)) (y_move rfl) ?_
              refine opsF_val gb idleB rfl (by rfl) rfl (x := .bool false) (y_lss rfl rfl (by simp)) ?_
              refine opsG_nil gb idleB ?_
              refine wpG_cond gb idleB (t := false) (by rw [fr_eval]; rfl) ?_
              refine wpG_skip gb idleB ?_
              refine wpG_region gb idleB ?_
              refine opsF_val gb idleB rfl (by rfl) rfl (x := .int .i64 (j : Nat)) (y_move rfl) ?_
              refine opsF_val gb idleB rfl (by rfl) rfl (x := .int .i64 (j + 1 : Nat)) (y_add rfl rfl (by rw [IntKind.wrap_i64]; omega)) ?_
              refine opsF_val gb idleB rfl (by rfl) rfl (x := .int .i64 (j + 1 : Nat)) (y_assign rfl) ?_
              refine opsG_nil gb idleB ?_
              exact ⟨r'.length, hlt2, r'.length, j + 1, _, rfl, by omega, by omega, by rw [← hr']; rw [show j + k + 1 - (j + 1) = k by omega]; rw [hb] at hit; exact hit, fr_says _ ⟨rfl, rfl, rfl, rfl, trivial⟩, rfl⟩
          · refine wpG_seq gb idleB ?_
            refine wpG_seq gb idleB ?_
            refine wpG_region gb idleB ?_
            refine opsF_val gb idleB rfl (by rfl) rfl (x := .int .i64 (j : Nat)) (y_move rfl) ?_
            refine opsF_val gb idleB rfl (by rfl) rfl (x := .slice (some ⟨B, o, none⟩) l.length c) (y_move rfl) ?_
            refine opsF_val gb idleB rfl (by rfl) rfl (x := .int .i64 (dn.length : Nat)) (y_move rfl) ?_
            refine opsF_val gb idleB rfl (by rfl) rfl (x := .pointer (some ⟨B, o + dn.length * 3, none⟩)) (y_ix ty47 rfl rfl (by omega)) ?_
            refine opsF_val gb idleB rfl (by rfl) rfl (x := .pointer (some ⟨B, o + dn.length * 3 + 0, none⟩)) (y_fld (by decide) rfl) ?_
            refine opsF_rd gb (lensB2 _) rfl (by rfl) rfl (x := .int .i64 t.a) (rd_cellq (by decide) hS hga (by omega) rfl) ?_
            refine opsF_val gb idleB rfl (by rfl) rfl (x := .bool false) (y_lss rfl rfl (by rw [hk]; simp)) ?_
            refine opsG_nil gb idleB ?_
            refine wpG_cond gb idleB (t := false) (by rw [fr_eval]; rfl) ?_
            refine wpG_exit gb idleB ?_
            refine wpG_seq gb idleB ?_
            refine wpG_region gb idleB ?_
            refine opsF_val gb idleB rfl (by rfl) rfl (x := .int .i64 (q : Nat)) (y_move rfl) ?_
            refine opsF_val gb idleB rfl (by rfl) rfl (x := .int .i64 (q : Nat)) (y_assign rfl) ?_
            refine opsG_nil gb idleB ?_
            refine wpG_ret gb idleB ?_
            exact ⟨.inr rfl, rfl, _, resultsC_tmp (by rfl) _, rfl, (fr_ret (x := .int .i64 (q : Nat)) (by decide) rfl).trans (by rw [htk, begv_some (r := (l.take q).reverse) (by rw [List.reverse_append]; show bg (t :: dn.reverse) = _; rw [hbg, ← hit, Nat.sub_self]; rfl)]; rw [List.length_reverse, List.length_take, Nat.min_eq_left (by omega)])⟩
        · rw [show (t.a != 0) = true by simp [ha]]
          refine opsF_val gb idleB rfl (by rfl) rfl (x := .bool true) (y_pick (t := true) rfl rfl) ?_
          refine opsF_val gb idleB rfl (by rfl) rfl (x := .bool true) (y_pick (t := false) rfl rfl) ?_
          refine opsG_nil gb idleB ?_
          refine wpG_cond gb idleB (t := true) (by rw [fr_eval]; rfl) ?_
          refine wpG_seq gb idleB ?_
          refine wpG_region gb idleB ?_
          refine opsF_val gb idleB rfl (by rfl) rfl (x := .int .i64 (-1)) (y_assign rfl) ?_
          refine opsG_nil gb idleB ?_
          refine wpG_ret gb idleB ?_
          exact ⟨.inr rfl, rfl, _, resultsC_tmp (by rfl) _, rfl, (fr_ret (x := .int .i64 (-1)) (by decide) rfl).trans (by rw [htk, begv_none (by rw [List.reverse_append]; show bg (t :: dn.reverse) = none; rw [bg_cons, if_pos (.inr ⟨hs, ha⟩)])])⟩

theorem rgo_step {n : Nat} {r : List T3} {out : List (List T3)} (hr : r ≠ []) : rgo (n + 1) r out = match bg r with
    | none => none
    | some r' => rgo n r' (r.reverse.drop r'.length :: out) := by
  cases r with
  | nil => exact absurd rfl hr
  | cons x r => rw [rgo]; cases bg (x :: r) <;> rfl
theorem rgo_nil (n : Nat) (out : List (List T3)) : rgo n [] out = some out := by cases n <;> rfl
theorem oinv_one {E : TypeId} {h h' : PH} {M : Nat} {v : Value} (e : Ext h h') (hM : h' M = none) : OInv E 1 h (put h' M (.cells #[v] E)) (.slice (some ⟨M, 0, none⟩) 1 1) 1 [v] := by
  refine ⟨e.trans (ext_put hM), ⟨rfl, .inr ⟨M, 1, #[v], rfl, put_self _ _ _, Nat.le_refl _, by decide, by simp, by simp⟩⟩, fun g hg => ?_⟩
  obtain rfl : M = g := Option.some.inj hg
  cases hx : h M with
  | none => rfl
  | some o => have := e M o hx; rw [hM] at this; cases this
theorem results38 : Try.f38.results = #[.tmp 2, .tmp 3] := by rfl

set_option maxHeartbeats 2000000 in
theorem refItems38 {main : Bool} (h : PH) (l : List T3) (p : Option Addr) (c : Nat) (hR : RSl h 3 (.slice p l.length c) l.length (flat l)) (hcap : l.length ≤ c) (hlen : l.length ≤ 2 ^ 20) :
    CallsG Try.prog (GB main) 38 #[.slice p l.length c] h (ItemsPost 47 h (tgo l [])) := by
  refine callsG_of_wp (c := Try.f38.body.getD .skip) gb idleB Try.func38 rfl ?_
  rw [Try.ntmps38]
  rw [fr_of (n := 29) (by simp) [(0, .slice p l.length c)] ⟨by simp, trivial⟩]
  generalize (fun j => (#[Value.slice p l.length c] ++ Array.replicate (29 - #[Value.slice p l.length c].size) undef).getD j undef) = σ
  refine wpG_seq gb idleB ?_
  refine wpG_region gb idleB ?_
  refine opsF_val gb idleB rfl (by rfl) rfl (x := .slice none 0 0) (y_assign rfl) ?_
  refine opsF_val gb idleB rfl (by rfl) rfl (x := .bool false) (y_assign rfl) ?_
  refine opsG_nil gb idleB ?_
  refine wpG_seq gb idleB ?_
  refine wpG_region gb idleB ?_
  refine opsF_new gb (lensB2 _) rfl (by rfl) rfl (.cells #[] 47) (fun M => .slice (some ⟨M, 0, none⟩) 0 0) (run_bs0 (by decide)) fun g8 hg8 => ?_
  refine opsF_val gb idleB rfl (by rfl) rfl (x := .slice (some ⟨g8, 0, none⟩) 0 0) (y_assign rfl) ?_
  refine opsG_nil gb idleB ?_
  refine wpG_seq gb idleB ?_
  refine wpG_region gb idleB ?_
  refine opsF_val gb idleB rfl (by rfl) rfl (x := .slice p l.length c) (y_move rfl) ?_
  refine opsF_val gb idleB rfl (by rfl) rfl (x := .int .i64 (l.length : Nat)) (y_len_slice Try.underlying47 rfl) ?_
  refine opsF_val gb idleB rfl (by rfl) rfl (x := .int .i64 (l.length : Nat)) (y_assign rfl) ?_
  refine opsG_nil gb idleB ?_
  refine wpG_seq gb idleB ?_
  refine wpG_block gb idleB ?_
  refine wpG_loopN gb idleB (fun n a v => ∃ (q f : Nat) (out : List (List T3)) (v4 : Value) (vs : List Value) (τ : Nat → Value) (h' : PH), q = n ∧ q ≤ l.length ∧ q ≤ f ∧ rgo f (l.take q).reverse out = tgo l [] ∧ out.length + q ≤ l.length ∧ a = fr 29 τ [(0, .slice p l.length c), (4, v4), (5, .int .i64 (q : Nat))] [] ∧ h' = v ∧ OInv 47 1 h h' v4 out.length vs ∧ RowsAt h vs out) l.length ⟨l.length, l.length, [], _, [], _, _, rfl, Nat.le_refl _, Nat.le_refl _, by rw [List.take_length]; exact rgo_eq l _ (Nat.le_refl _), by simp, fr_says _ ⟨rfl, rfl, rfl, trivial⟩, rfl, oinv_new hg8, RowsAt.nil _⟩ ?_
  rintro n _ _ ⟨q, f, out, v4, vs, τ, h', rfl, hq, hf, hgo, hol, rfl, rfl, I, J⟩
  clear hg8 σ
  obtain ⟨p4, c4, rfl, hc4⟩ := I.own.shape2
  rcases Nat.eq_zero_or_pos q with rfl | hq0
  · refine wpG_seq gb idleB ?_
    refine wpG_seq gb idleB ?_
    refine wpG_region gb idleB ?_
    refine opsF_val gb idleB rfl (by rfl) rfl (x := .int .i64 (0 : Nat)) (y_move rfl) ?_
    refine opsF_val gb idleB rfl (by rfl) rfl (x := .bool false) (y_gtr rfl rfl (rfl)) ?_
    refine opsG_nil gb idleB ?_
    refine wpG_cond gb idleB (t := false) (by rw [fr_eval]; rfl) ?_
    refine wpG_exit gb idleB ?_
    refine wpG_seq gb idleB ?_
    refine wpG_region gb idleB ?_
    refine opsF_val gb idleB rfl (by rfl) rfl (x := .slice p4 out.length c4) (y_move rfl) ?_
    refine opsF_val gb idleB rfl (by rfl) rfl (x := .slice p4 out.length c4) (y_assign rfl) ?_
    refine opsF_val gb idleB rfl (by rfl) rfl (x := .bool true) (y_assign rfl) ?_
    refine opsG_nil gb idleB ?_
    refine wpG_ret gb idleB ?_
    refine ⟨.inr rfl, rfl, _, resultsC_tmp2 results38 _, ?_⟩
    rw [fr_ret (by decide) rfl, fr_ret (by decide) rfl]
    rw [List.take_zero, List.reverse_nil, rgo_nil] at hgo
    rw [← hgo]
    exact ⟨_, vs, rfl, I, J.ext I.ext, fun hE => by cases hE⟩
  · obtain ⟨f, rfl⟩ : ∃ f2, f = f2 + 1 := ⟨f - 1, by omega⟩
    rw [rgo_step (by intro e; have := congrArg List.length e; rw [List.length_reverse, List.length_take, Nat.min_eq_left hq] at this; simp at this; omega)] at hgo
    refine wpG_seq gb idleB ?_
    refine wpG_seq gb idleB ?_
    refine wpG_region gb idleB ?_
    refine opsF_val gb idleB rfl (by rfl) rfl (x := .int .i64 (q : Nat)) (y_move rfl) ?_
    refine opsF_val gb idleB rfl (by rfl) rfl (x := .bool true) (y_gtr rfl rfl (by simp; omega)) ?_
    refine opsG_nil gb idleB ?_
    refine wpG_cond gb idleB (t := true) (by rw [fr_eval]; rfl) ?_
    refine wpG_skip gb idleB ?_
    refine wpG_block gb idleB ?_
    refine wpG_seq gb idleB ?_
    refine wpG_region gb idleB ?_
    refine opsF_val gb idleB rfl (by rfl) rfl (x := .slice p l.length c) (y_move rfl) ?_
    refine opsF_val gb idleB rfl (by rfl) rfl (x := .int .i64 (q : Nat)) (y_move rfl) ?_
    refine opsF_val gb idleB rfl (by rfl) rfl (x := .int .i64 ((q : Int) - 1)) (y_sub rfl rfl (by rw [IntKind.wrap_i64]; omega)) ?_
    refine opsF_call gb idleB rfl (by rfl) rfl (run_call (args := #[.slice p l.length c, .int .i64 ((q : Int) - 1)]) rfl Try.func52 (by rfl) rfl (by simp only [List.map_toArray, List.map_cons, List.map_nil]; rfl)) (begin52 h' l p c (hR.ext I.ext) hlen q hq) ?_
    rintro _ h2 ⟨rfl, rfl⟩
    by_cases hb : bg (l.take q).reverse = none
    · rw [begv_none hb]
      rw [hb] at hgo
      refine opsF_val gb idleB rfl (by rfl) rfl (x := .int .i64 (-1)) (y_assign rfl) ?_
      refine opsG_nil gb idleB ?_
      refine wpG_seq gb idleB ?_
      refine wpG_seq gb idleB ?_
      refine wpG_region gb idleB ?_
      refine opsF_val gb idleB rfl (by rfl) rfl (x := .int .i64 (-1)) (y_move rfl) ?_
      refine opsF_val gb idleB rfl (by rfl) rfl (x := .bool true) (y_lss rfl rfl (rfl)) ?_
      refine opsG_nil gb idleB ?_
      refine wpG_cond gb idleB (t := true) (by rw [fr_eval]; rfl) ?_
      refine wpG_seq gb idleB ?_
      refine wpG_region gb idleB ?_
      refine opsF_val gb idleB rfl (by rfl) rfl (x := .slice none 0 0) (y_assign rfl) ?_
      refine opsF_val gb idleB rfl (by rfl) rfl (x := .bool false) (y_assign rfl) ?_
      refine opsG_nil gb idleB ?_
      refine wpG_ret gb idleB ?_
      refine ⟨.inr rfl, rfl, _, resultsC_tmp2 results38 _, ?_⟩
      rw [fr_ret (by decide) rfl, fr_ret (by decide) rfl]
      rw [← hgo]
      exact ⟨I.ext, rfl⟩
    · obtain ⟨r', hb⟩ := Option.ne_none_iff_exists'.1 hb
      rw [begv_some hb]
      obtain ⟨hlt2, hr', t, hth, htq⟩ := bg_take (by omega) hb
      have htl : t.length = q - r'.length := by
        have := congrArg List.length htq
        rw [List.length_append, List.length_take, List.length_take] at this
        omega
      have hdr : (l.take q).drop r'.length = t := by
        have e : (l.take r'.length).length = r'.length := by rw [List.length_take]; omega
        rw [htq]
        exact List.drop_left' e
      have hll : l = l.take r'.length ++ (t ++ l.drop q) := by rw [← List.append_assoc, ← htq, List.take_append_drop]
      obtain ⟨B, o, rfl, hS⟩ := hR.pos (by omega)
      have hseg : RowAt h (.slice (some ⟨B, o + r'.length * 3, none⟩) (q - r'.length) (c - r'.length)) t := by
        rw [hll] at hS
        have h1 := hS.seg
        rw [List.length_take, Nat.min_eq_left (by omega)] at h1
        rw [← htl]
        exact ⟨_, _, rfl, by omega, flat_length t, .inr ⟨_, _, _, rfl, h1⟩⟩
      refine opsF_val gb idleB rfl (by rfl) rfl (x := .int .i64 (r'.length : Nat)) (y_assign rfl) ?_
      refine opsG_nil gb idleB ?_
      refine wpG_seq gb idleB ?_
      refine wpG_seq gb idleB ?_
      refine wpG_region gb idleB ?_
      refine opsF_val gb idleB rfl (by rfl) rfl (x := .int .i64 (r'.length : Nat)) (y_move rfl) ?_
      refine opsF_val gb idleB rfl (by rfl) rfl (x := .bool false) (y_lss rfl rfl (by simp)) ?_
      refine opsG_nil gb idleB ?_
      refine wpG_cond gb idleB (t := false) (by rw [fr_eval]; rfl) ?_
      refine wpG_skip gb idleB ?_
      refine wpG_seq gb idleB ?_
      refine wpG_region gb idleB ?_
      refine opsF_val gb idleB rfl (by rfl) rfl (x := .slice (some ⟨B, o, none⟩) l.length c) (y_move rfl) ?_
      refine opsF_val gb idleB rfl (by rfl) rfl (x := .int .i64 (r'.length : Nat)) (y_move rfl) ?_
      refine opsF_val gb idleB rfl (by rfl) rfl (x := .int .i64 (q : Nat)) (y_move rfl) ?_
      refine opsF_val gb idleB rfl (by rfl) rfl (x := .slice (some ⟨B, o + r'.length * 3, none⟩) (q - r'.length) (c - r'.length)) (y_slice_mid ty47 rfl rfl rfl hlt2 (by omega)) ?_
      refine opsF_new gb (lensB2 _) rfl (by rfl) rfl (.cells #[.slice (some ⟨B, o + r'.length * 3, none⟩) (q - r'.length) (c - r'.length)] 47) (fun M => .slice (some ⟨M, 0, none⟩) 1 1) (run_bs1 (by decide) rfl (.inr ⟨_, _, _, rfl, by decide⟩)) fun M hM => ?_
      refine opsF_val gb idleB rfl (by rfl) rfl (x := .slice (some ⟨M, 0, none⟩) 1 1) (y_assign rfl) ?_
      refine opsG_nil gb idleB ?_
      refine wpG_seq gb idleB ?_
      refine wpG_region gb idleB ?_
      refine opsF_val gb idleB rfl (by rfl) rfl (x := .slice (some ⟨M, 0, none⟩) 1 1) (y_move rfl) ?_
      refine opsF_val gb idleB rfl (by rfl) rfl (x := .slice p4 out.length c4) (y_move rfl) ?_
      have I0 := oinv_one (E := 47) (v := .slice (some ⟨B, o + r'.length * 3, none⟩) (q - r'.length) (c - r'.length)) I.ext hM
      rcases out with _ | ⟨u, us⟩
      · refine opsF_val gb idleB rfl (by rfl) rfl (x := .slice (some ⟨M, 0, none⟩) 1 1) (y_append0 ty59 rfl rfl (Nat.le_refl _)) ?_
        refine opsF_val gb idleB rfl (by rfl) rfl (x := .slice (some ⟨M, 0, none⟩) 1 1) (y_assign rfl) ?_
        refine opsG_nil gb idleB ?_
        refine wpG_region gb idleB ?_
        refine opsF_val gb idleB rfl (by rfl) rfl (x := .int .i64 (r'.length : Nat)) (y_move rfl) ?_
        refine opsF_val gb idleB rfl (by rfl) rfl (x := .int .i64 (r'.length : Nat)) (y_assign rfl) ?_
        refine opsG_nil gb idleB ?_
        exact ⟨r'.length, hlt2, r'.length, f, t :: [], _, _, _, _, rfl, by omega, by omega, by rw [← hr']; rw [hb] at hgo; simp only [List.reverse_reverse, hdr] at hgo; exact hgo, by have e : (t :: []).length = ([] : List (List T3)).length + 1 := rfl; omega, fr_says _ ⟨rfl, rfl, rfl, trivial⟩, rfl, I0, ((RowsAt.nil h).cons hseg)⟩
      · obtain ⟨g4, rfl, hS4⟩ := (I.grow (ext_put (o := .cells #[.slice (some ⟨B, o + r'.length * 3, none⟩) (q - r'.length) (c - r'.length)] 47) hM)).own.pos (by simp)
        have hvl : vs.length = (u :: us).length * 1 := by rw [J.1, Nat.mul_one]
        refine opsB_append gb ty59 (c := c4) rfl (by rfl) rfl rfl rfl rfl I0.own hS4 hvl (by simp) J.one (by simp only [List.length_cons] at hol ⊢; omega) fun v' h4 hO hold hb2 => ?_
        have I4 := I0.add hO hold hb2
        rw [show 1 + (u :: us).length = (t :: u :: us).length by simp only [List.length_cons]; omega] at I4
        refine opsF_val gb idleB rfl (by rfl) rfl (x := v') (y_assign rfl) ?_
        refine opsG_nil gb idleB ?_
        refine wpG_region gb idleB ?_
        refine opsF_val gb idleB rfl (by rfl) rfl (x := .int .i64 (r'.length : Nat)) (y_move rfl) ?_
        refine opsF_val gb idleB rfl (by rfl) rfl (x := .int .i64 (r'.length : Nat)) (y_assign rfl) ?_
        refine opsG_nil gb idleB ?_
        exact ⟨r'.length, hlt2, r'.length, f, t :: (u :: us), _, _, _, _, rfl, by omega, by omega, by rw [← hr']; rw [hb] at hgo; simp only [List.reverse_reverse, hdr] at hgo; exact hgo, by have e : (t :: (u :: us)).length = ((u :: us) : List (List T3)).length + 1 := rfl; omega, fr_says _ ⟨rfl, rfl, rfl, trivial⟩, rfl, I4, (J.cons hseg)⟩

end Go.Proofs.Ytfaadjmglboaoaa
