/-
  SurfaceItems returns true for every row, on every schedule: whether any Sxs are a row, which things it has, what a list has, and how it is printed, is the document's. Conditions: none.
-/
import Derived.Test.YtfaadjmglboaoaaPrint
import Derived.Test.YtfaadjmglboaoaaOpenT3
namespace Go.Proofs.Ytfaadjmglboaoaa
open Go.Conc Go.RowKit
theorem results41 : Try.f41.results = #[.tmp 2, .tmp 3] := by rfl

set_option maxHeartbeats 2000000 in
theorem refParts41 {main : Bool} (h : PH) (l : List T3) (p : Option Addr) (c : Nat) (hR : RSl h 3 (.slice p l.length c) l.length (flat l)) (hcap : l.length ≤ c) (hlen : l.length ≤ 2 ^ 20) :
    CallsG Try.prog (GB main) 41 #[.slice p l.length c] h (ItemsPost 47 h (partsOf l)) := by
  refine callsG_of_wp (c := Try.f41.body.getD .skip) gb idleB Try.func41 rfl ?_
  rw [Try.ntmps41]
  rw [fr_of (n := 36) (by simp) [(0, .slice p l.length c)] ⟨by simp, trivial⟩]
  generalize (fun j => (#[Value.slice p l.length c] ++ Array.replicate (36 - #[Value.slice p l.length c].size) undef).getD j undef) = σ
  refine wpG_seq gb idleB ?_
  refine wpG_region gb idleB ?_
  refine opsF_val gb idleB rfl (by rfl) rfl (x := .slice none 0 0) (y_assign rfl) ?_
  refine opsF_val gb idleB rfl (by rfl) rfl (x := .bool false) (y_assign rfl) ?_
  refine opsG_nil gb idleB ?_
  refine wpG_seq gb idleB ?_
  refine wpG_region gb idleB ?_
  refine opsF_val gb idleB rfl (by rfl) rfl (x := .slice p l.length c) (y_move rfl) ?_
  refine opsF_call gb idleB rfl (by rfl) rfl (run_call (args := #[.slice p l.length c]) rfl Try.func38 (by rfl) rfl (by simp only [List.map_toArray, List.map_cons, List.map_nil]; rfl)) (refItems38 h l p c hR hcap hlen) ?_
  intro r h1 hpost
  rcases hpost.cases with ⟨htg, e1, rfl⟩ | ⟨st, p4, c4, vs, htg, rfl, hc4, I1, J1, -⟩
  · refine opsF_val gb idleB rfl (by rfl) rfl (x := .tuple #[.slice none 0 0, .bool false]) (y_move rfl) ?_
    refine opsF_val gb idleB rfl (by rfl) rfl (x := .slice none 0 0) (y_extract rfl rfl) ?_
    refine opsF_val gb idleB rfl (by rfl) rfl (x := .bool false) (y_extract rfl rfl) ?_
    refine opsF_val gb idleB rfl (by rfl) rfl (x := .slice none 0 0) (y_assign rfl) ?_
    refine opsF_val gb idleB rfl (by rfl) rfl (x := .bool false) (y_assign rfl) ?_
    refine opsG_nil gb idleB ?_
    refine wpG_seq gb idleB ?_
    refine wpG_seq gb idleB ?_
    refine wpG_region gb idleB ?_
    refine opsF_val gb idleB rfl (by rfl) rfl (x := .bool false) (y_move rfl) ?_
    refine opsF_val gb idleB rfl (by rfl) rfl (x := .bool true) (y_not (b := false) rfl) ?_
    refine opsF_val gb idleB rfl (by rfl) rfl (x := .bool true) (y_move rfl) ?_
    refine opsF_skip gb idleB rfl (by rfl) rfl ?_
    refine opsF_skip gb idleB rfl (by rfl) rfl ?_
    refine opsF_skip gb idleB rfl (by rfl) rfl ?_
    refine opsF_val gb idleB rfl (by rfl) rfl (x := .bool true) (y_pick (t := true) rfl rfl) ?_
    refine opsF_val gb idleB rfl (by rfl) rfl (x := .bool true) (y_move rfl) ?_
    refine opsF_skip gb idleB rfl (by rfl) rfl ?_
    refine opsF_skip gb idleB rfl (by rfl) rfl ?_
    refine opsF_skip gb idleB rfl (by rfl) rfl ?_
    refine opsF_skip gb idleB rfl (by rfl) rfl ?_
    refine opsF_skip gb idleB rfl (by rfl) rfl ?_
    refine opsF_skip gb idleB rfl (by rfl) rfl ?_
    refine opsF_skip gb idleB rfl (by rfl) rfl ?_
    refine opsF_skip gb idleB rfl (by rfl) rfl ?_
    refine opsF_val gb idleB rfl (by rfl) rfl (x := .bool true) (y_pick (t := true) rfl rfl) ?_
    refine opsG_nil gb idleB ?_
    refine wpG_cond gb idleB (t := true) (by rw [fr_eval]; rfl) ?_
    refine wpG_seq gb idleB ?_
    refine wpG_region gb idleB ?_
    refine opsF_val gb idleB rfl (by rfl) rfl (x := .slice none 0 0) (y_assign rfl) ?_
    refine opsF_val gb idleB rfl (by rfl) rfl (x := .bool false) (y_assign rfl) ?_
    refine opsG_nil gb idleB ?_
    refine wpG_ret gb idleB ?_
    refine ⟨.inr rfl, rfl, _, resultsC_tmp2 results41 _, ?_⟩
    rw [fr_ret (by decide) rfl, fr_ret (by decide) rfl]
    rw [parts_none htg]
    exact ⟨e1, rfl⟩
  · have e1 := I1.ext
    have hsl : st.length ≤ l.length := by obtain ⟨a, b⟩ := tgo_some l [] st tgo_none htg; have := things_le a; rw [b, List.flatten_nil, List.nil_append] at this; exact this
    refine opsF_val gb idleB rfl (by rfl) rfl (x := .tuple #[.slice p4 st.length c4, .bool true]) (y_move rfl) ?_
    refine opsF_val gb idleB rfl (by rfl) rfl (x := .slice p4 st.length c4) (y_extract rfl rfl) ?_
    refine opsF_val gb idleB rfl (by rfl) rfl (x := .bool true) (y_extract rfl rfl) ?_
    refine opsF_val gb idleB rfl (by rfl) rfl (x := .slice p4 st.length c4) (y_assign rfl) ?_
    refine opsF_val gb idleB rfl (by rfl) rfl (x := .bool true) (y_assign rfl) ?_
    refine opsG_nil gb idleB ?_
    refine wpG_seq gb idleB ?_
    refine wpG_seq gb idleB ?_
    refine wpG_region gb idleB ?_
    refine opsF_val gb idleB rfl (by rfl) rfl (x := .bool true) (y_move rfl) ?_
    refine opsF_val gb idleB rfl (by rfl) rfl (x := .bool false) (y_not (b := true) rfl) ?_
    refine opsF_val gb idleB rfl (by rfl) rfl (x := .bool false) (y_move rfl) ?_
    refine opsF_val gb idleB rfl (by rfl) rfl (x := .slice p4 st.length c4) (y_move rfl) ?_
    refine opsF_val gb idleB rfl (by rfl) rfl (x := .int .i64 (st.length : Nat)) (y_len_slice Try.underlying59 rfl) ?_
    refine opsF_val gb idleB rfl (by rfl) rfl (x := .bool (((st.length : Nat) : Int) != 1)) (y_neq (.inl rfl) rfl rfl rfl) ?_
    by_cases h2 : st.length = 1
    · rw [show (((st.length : Nat) : Int) != 1) = false by rw [h2]; rfl]
      obtain ⟨t, rfl⟩ := one_of h2
      obtain ⟨hth, hfl⟩ := tgo_some l [] [t] tgo_none htg
      have hl : l = t := by simpa using hfl.symm
      obtain ⟨dn, x, rfl⟩ := snoc_of (show l ≠ [] by rw [hl]; exact (hth t (by simp)).ne)
      have hln : (dn ++ [x]).length = dn.length + 1 := by simp
      obtain ⟨B, o, rfl, hS0⟩ := hR.pos (by rw [hln]; omega)
      have hS := hS0.mono e1
      obtain ⟨hga, hgb, hgs⟩ := flat_get dn [] x
      refine opsF_val gb idleB rfl (by rfl) rfl (x := .bool false) (y_pick (t := false) rfl rfl) ?_
      refine opsF_val gb idleB rfl (by rfl) rfl (x := .bool false) (y_move rfl) ?_
      refine opsF_val gb idleB rfl (by rfl) rfl (x := .slice (some ⟨B, o, none⟩) (dn ++ [x]).length c) (y_move rfl) ?_
      refine opsF_val gb idleB rfl (by rfl) rfl (x := .slice (some ⟨B, o, none⟩) (dn ++ [x]).length c) (y_move rfl) ?_
      refine opsF_val gb idleB rfl (by rfl) rfl (x := .int .i64 ((dn ++ [x]).length : Nat)) (y_len_slice Try.underlying47 rfl) ?_
      refine opsF_val gb idleB rfl (by rfl) rfl (x := .int .i64 (dn.length : Nat)) (y_sub rfl rfl (by rw [IntKind.wrap_i64]; omega)) ?_
      refine opsF_val gb idleB rfl (by rfl) rfl (x := .pointer (some ⟨B, o + dn.length * 3, none⟩)) (y_ix ty47 rfl rfl (by omega)) ?_
      refine opsF_val gb idleB rfl (by rfl) rfl (x := .pointer (some ⟨B, o + dn.length * 3 + 2, none⟩)) (y_fld (by decide) rfl) ?_
      refine opsF_rd gb (lensB2 _) rfl (by rfl) rfl (x := .string x.s) (rd_cellq (by decide) hS hgs (by omega) rfl) ?_
      refine opsF_val gb idleB rfl (by rfl) rfl (x := .bool (!decide (x.s = { data := #[] }))) (y_neq_strg rfl rfl rfl) ?_
      by_cases hs : x.s = { data := #[] }
      · rw [decide_eq_true hs]
        show OpsG _ _ _ _ _ _ (fr _ _ ((_, Value.bool false) :: _) _) _
        refine opsF_val gb idleB rfl (by rfl) rfl (x := .bool false) (y_pick (t := false) rfl rfl) ?_
        refine opsG_nil gb idleB ?_
        refine wpG_cond gb idleB (t := false) (by rw [fr_eval]; rfl) ?_
        refine wpG_skip gb idleB ?_
        refine wpG_seq gb idleB ?_
        refine wpG_region gb idleB ?_
        refine opsF_val gb idleB rfl (by rfl) rfl (x := .slice (some ⟨B, o, none⟩) (dn ++ [x]).length c) (y_move rfl) ?_
        refine opsF_val gb idleB rfl (by rfl) rfl (x := .slice (some ⟨B, o, none⟩) (dn ++ [x]).length c) (y_move rfl) ?_
        refine opsF_val gb idleB rfl (by rfl) rfl (x := .int .i64 ((dn ++ [x]).length : Nat)) (y_len_slice Try.underlying47 rfl) ?_
        refine opsF_val gb idleB rfl (by rfl) rfl (x := .int .i64 (dn.length : Nat)) (y_sub rfl rfl (by rw [IntKind.wrap_i64]; omega)) ?_
        refine opsF_val gb idleB rfl (by rfl) rfl (x := .slice (some ⟨B, o, none⟩) dn.length c) (y_slice_arr ty47 rfl rfl (by omega)) ?_
        have hSd : SlAt h1 B o (flat dn) := by
          have := SlAt.seg (a := []) (t := dn) (b := [x]) (h := h1) (B := B) (o := o) hS
          simpa using this
        refine opsF_call gb idleB rfl (by rfl) rfl (run_call (args := #[.slice (some ⟨B, o, none⟩) dn.length c]) rfl Try.func38 (by rfl) rfl (by simp only [List.map_toArray, List.map_cons, List.map_nil]; rfl)) (refItems38 h1 dn (some ⟨B, o, none⟩) c ⟨flat_length dn, .inr ⟨B, o, c, rfl, hSd⟩⟩ (by omega) (by omega)) ?_
        intro r h2 hpost2
        have hit := ItemsPost.of e1 hpost2
        rcases hpost2.cases with ⟨ht2, e2, rfl⟩ | ⟨st2, p6, c6, vs, ht2, rfl, hc6, I2, J2, -⟩
        · refine opsF_val gb idleB rfl (by rfl) rfl (x := .slice none 0 0) (y_extract rfl rfl) ?_
          refine opsF_val gb idleB rfl (by rfl) rfl (x := .bool false) (y_extract rfl rfl) ?_
          refine opsF_val gb idleB rfl (by rfl) rfl (x := .slice none 0 0) (y_assign rfl) ?_
          refine opsF_val gb idleB rfl (by rfl) rfl (x := .bool false) (y_assign rfl) ?_
          refine opsG_nil gb idleB ?_
          refine wpG_ret gb idleB ?_
          refine ⟨.inr rfl, rfl, _, resultsC_tmp2 results41 _, ?_⟩
          rw [fr_ret (by decide) rfl, fr_ret (by decide) rfl]
          rw [parts_list htg hs]
          exact hit
        · refine opsF_val gb idleB rfl (by rfl) rfl (x := .slice p6 st2.length c6) (y_extract rfl rfl) ?_
          refine opsF_val gb idleB rfl (by rfl) rfl (x := .bool true) (y_extract rfl rfl) ?_
          refine opsF_val gb idleB rfl (by rfl) rfl (x := .slice p6 st2.length c6) (y_assign rfl) ?_
          refine opsF_val gb idleB rfl (by rfl) rfl (x := .bool true) (y_assign rfl) ?_
          refine opsG_nil gb idleB ?_
          refine wpG_ret gb idleB ?_
          refine ⟨.inr rfl, rfl, _, resultsC_tmp2 results41 _, ?_⟩
          rw [fr_ret (by decide) rfl, fr_ret (by decide) rfl]
          rw [parts_list htg hs]
          exact hit
      · rw [decide_eq_false hs]
        show OpsG _ _ _ _ _ _ (fr _ _ ((_, Value.bool true) :: _) _) _
        refine opsF_val gb idleB rfl (by rfl) rfl (x := .bool true) (y_pick (t := false) rfl rfl) ?_
        refine opsG_nil gb idleB ?_
        refine wpG_cond gb idleB (t := true) (by rw [fr_eval]; rfl) ?_
        refine wpG_seq gb idleB ?_
        refine wpG_region gb idleB ?_
        refine opsF_val gb idleB rfl (by rfl) rfl (x := .slice none 0 0) (y_assign rfl) ?_
        refine opsF_val gb idleB rfl (by rfl) rfl (x := .bool false) (y_assign rfl) ?_
        refine opsG_nil gb idleB ?_
        refine wpG_ret gb idleB ?_
        refine ⟨.inr rfl, rfl, _, resultsC_tmp2 results41 _, ?_⟩
        rw [fr_ret (by decide) rfl, fr_ret (by decide) rfl]
        rw [parts_word htg hs]
        exact ⟨e1, rfl⟩
    · rw [show (((st.length : Nat) : Int) != 1) = true by simp; omega]
      refine opsF_val gb idleB rfl (by rfl) rfl (x := .bool true) (y_pick (t := false) rfl rfl) ?_
      refine opsF_val gb idleB rfl (by rfl) rfl (x := .bool true) (y_move rfl) ?_
      refine opsF_skip gb idleB rfl (by rfl) rfl ?_
      refine opsF_skip gb idleB rfl (by rfl) rfl ?_
      refine opsF_skip gb idleB rfl (by rfl) rfl ?_
      refine opsF_skip gb idleB rfl (by rfl) rfl ?_
      refine opsF_skip gb idleB rfl (by rfl) rfl ?_
      refine opsF_skip gb idleB rfl (by rfl) rfl ?_
      refine opsF_skip gb idleB rfl (by rfl) rfl ?_
      refine opsF_skip gb idleB rfl (by rfl) rfl ?_
      refine opsF_val gb idleB rfl (by rfl) rfl (x := .bool true) (y_pick (t := true) rfl rfl) ?_
      refine opsG_nil gb idleB ?_
      refine wpG_cond gb idleB (t := true) (by rw [fr_eval]; rfl) ?_
      refine wpG_seq gb idleB ?_
      refine wpG_region gb idleB ?_
      refine opsF_val gb idleB rfl (by rfl) rfl (x := .slice none 0 0) (y_assign rfl) ?_
      refine opsF_val gb idleB rfl (by rfl) rfl (x := .bool false) (y_assign rfl) ?_
      refine opsG_nil gb idleB ?_
      refine wpG_ret gb idleB ?_
      refine ⟨.inr rfl, rfl, _, resultsC_tmp2 results41 _, ?_⟩
      rw [fr_ret (by decide) rfl, fr_ret (by decide) rfl]
      rw [parts_not htg h2]
      exact ⟨e1, rfl⟩

set_option maxHeartbeats 2000000 in
theorem lists44 {main : Bool} (h : PH) (st : List (List T3)) (p q : Option Addr) (c e : Nat) (vs vs2 : List Value) (hR : RSl h 1 (.slice p st.length c) st.length vs) (hR2 : RSl h 1 (.slice q st.length e) st.length vs2) (hJ : RowsAt h vs st) (hJ2 : RowsAt h vs2 st) (hlen : st.length ≤ 2 ^ 20) (hbd : ∀ t ∈ st, t.length ≤ 2 ^ 20) :
    CallsG Try.prog (GB main) 44 #[.slice p st.length c, .slice q st.length e] h fun r h' => Ext h h' ∧ r = .bool true := by
  refine callsG_of_wp (c := Try.f44.body.getD .skip) gb idleB Try.func44 rfl ?_
  rw [Try.ntmps44]
  rw [fr_of (n := 28) (by simp) [(0, .slice p st.length c), (1, .slice q st.length e)] ⟨by simp, by simp, trivial⟩]
  generalize (fun j => (#[Value.slice p st.length c, Value.slice q st.length e] ++ Array.replicate (28 - #[Value.slice p st.length c, Value.slice q st.length e].size) undef).getD j undef) = σ
  refine wpG_seq gb idleB ?_
  refine wpG_region gb idleB ?_
  refine opsF_val gb idleB rfl (by rfl) rfl (x := .bool false) (y_assign rfl) ?_
  refine opsG_nil gb idleB ?_
  refine wpG_seq gb idleB ?_
  refine wpG_seq gb idleB ?_
  refine wpG_region gb idleB ?_
  refine opsF_val gb idleB rfl (by rfl) rfl (x := .slice p st.length c) (y_move rfl) ?_
  refine opsF_val gb idleB rfl (by rfl) rfl (x := .int .i64 (st.length : Nat)) (y_len_slice Try.underlying56 rfl) ?_
  refine opsF_val gb idleB rfl (by rfl) rfl (x := .slice q st.length e) (y_move rfl) ?_
  refine opsF_val gb idleB rfl (by rfl) rfl (x := .int .i64 (st.length : Nat)) (y_len_slice Try.underlying59 rfl) ?_
  refine opsF_val gb idleB rfl (by rfl) rfl (x := .bool false) (y_neq (.inl rfl) rfl rfl (by simp)) ?_
  refine opsG_nil gb idleB ?_
  refine wpG_cond gb idleB (t := false) (by rw [fr_eval]; rfl) ?_
  refine wpG_skip gb idleB ?_
  refine wpG_seq gb idleB ?_
  refine wpG_seq gb idleB ?_
  refine wpG_region gb idleB ?_
  refine opsF_val gb idleB rfl (by rfl) rfl (x := .int .i64 0) (y_assign rfl) ?_
  refine opsG_nil gb idleB ?_
  refine wpG_block gb idleB ?_
  refine wpG_loopN gb idleB (fun m a v => ∃ (dn rest : List (List T3)) (τ : Nat → Value) (h' : PH), m = rest.length ∧ st = dn ++ rest ∧ a = fr 28 τ [(0, .slice p st.length c), (1, .slice q st.length e), (5, .int .i64 (dn.length : Nat))] [] ∧ h' = v ∧ Ext h h') st.length ⟨[], st, _, _, rfl, rfl, fr_says _ ⟨rfl, rfl, rfl, trivial⟩, rfl, Ext.refl _⟩ ?_
  rintro m _ _ ⟨dn, rest, τ, h', rfl, hst, rfl, rfl, eL⟩
  clear σ
  have hdn : dn.length + rest.length = st.length := by rw [hst, List.length_append]
  rcases rest with _ | ⟨t, ts⟩
  · refine wpG_seq gb idleB ?_
    refine wpG_seq gb idleB ?_
    refine wpG_region gb idleB ?_
    refine opsF_val gb idleB rfl (by rfl) rfl (x := .int .i64 (dn.length : Nat)) (y_move rfl) ?_
    refine opsF_val gb idleB rfl (by rfl) rfl (x := .slice p st.length c) (y_move rfl) ?_
    refine opsF_val gb idleB rfl (by rfl) rfl (x := .int .i64 (st.length : Nat)) (y_len_slice Try.underlying56 rfl) ?_
    refine opsF_val gb idleB rfl (by rfl) rfl (x := .bool false) (y_lss rfl rfl (by simp at hdn ⊢; omega)) ?_
    refine opsG_nil gb idleB ?_
    refine wpG_cond gb idleB (t := false) (by rw [fr_eval]; rfl) ?_
    refine wpG_exit gb idleB ?_
    refine wpG_seq gb idleB ?_
    refine wpG_region gb idleB ?_
    refine opsF_val gb idleB rfl (by rfl) rfl (x := .bool true) (y_assign rfl) ?_
    refine opsG_nil gb idleB ?_
    refine wpG_ret gb idleB ?_
    exact ⟨.inr rfl, rfl, _, resultsC_tmp (by rfl) _, eL, fr_ret (by decide) rfl⟩
  · simp only [List.length_cons] at hdn
    have htl := hbd t (by rw [hst]; simp)
    obtain ⟨B, o, rfl, hS1⟩ := hR.pos (by omega)
    obtain ⟨B2, o2, rfl, hS2⟩ := hR2.pos (by omega)
    obtain ⟨pa, ca, hva, hca, hRa⟩ := RowsAt.get (hst ▸ hJ)
    obtain ⟨pb, cb, hvb, hcb, hRb⟩ := RowsAt.get (hst ▸ hJ2)
    have T1 := hS1.mono eL
    have T2 := hS2.mono eL
    refine wpG_seq gb idleB ?_
    refine wpG_seq gb idleB ?_
    refine wpG_region gb idleB ?_
    refine opsF_val gb idleB rfl (by rfl) rfl (x := .int .i64 (dn.length : Nat)) (y_move rfl) ?_
    refine opsF_val gb idleB rfl (by rfl) rfl (x := .slice (some ⟨B, o, none⟩) st.length c) (y_move rfl) ?_
    refine opsF_val gb idleB rfl (by rfl) rfl (x := .int .i64 (st.length : Nat)) (y_len_slice Try.underlying56 rfl) ?_
    refine opsF_val gb idleB rfl (by rfl) rfl (x := .bool true) (y_lss rfl rfl (by simp at hdn ⊢; omega)) ?_
    refine opsG_nil gb idleB ?_
    refine wpG_cond gb idleB (t := true) (by rw [fr_eval]; rfl) ?_
    refine wpG_skip gb idleB ?_
    refine wpG_seq gb idleB ?_
    refine wpG_block gb idleB ?_
    refine wpG_seq gb idleB ?_
    refine wpG_region_held (S := fun z => SlAt z B o vs ∧ SlAt z B2 o2 vs2) gb idleB drawsB (by kernel_rfl) ?_
    show AnyV _ _ _ _ .any _ _ _ 11 (Array.replicate 11 false) _ _
    refine anyF_rdS (by exact ⟨T1, T2⟩) (i := 0) rfl (by first | kernel_rfl | decide +kernel) (by first | kernel_rfl | decide +kernel) (by first | kernel_rfl | decide +kernel) (by rfl) rfl (x := .slice (some ⟨B, o, none⟩) st.length c) (fun z hu => ⟨z, _, lensB2 z, Ylds.rds (y_move rfl)⟩) ?_
    refine anyF_rdS (by exact ⟨T1, T2⟩) (i := 1) rfl (by first | kernel_rfl | decide +kernel) (by first | kernel_rfl | decide +kernel) (by first | kernel_rfl | decide +kernel) (by rfl) rfl (x := .int .i64 (dn.length : Nat)) (fun z hu => ⟨z, _, lensB2 z, Ylds.rds (y_move rfl)⟩) ?_
    refine anyF_rdS (by exact ⟨T1, T2⟩) (i := 2) rfl (by first | kernel_rfl | decide +kernel) (by first | kernel_rfl | decide +kernel) (by first | kernel_rfl | decide +kernel) (by rfl) rfl (x := .pointer (some ⟨B, o + dn.length * 1, none⟩)) (fun z hu => ⟨z, _, lensB2 z, Ylds.rds (y_ix ty56 rfl rfl (by omega))⟩) ?_
    refine anyF_rdS (by exact ⟨T1, T2⟩) (i := 3) rfl (by first | kernel_rfl | decide +kernel) (by first | kernel_rfl | decide +kernel) (by first | kernel_rfl | decide +kernel) (by rfl) rfl (x := .slice pa t.length ca) (fun z hu => ⟨z, _, lensB2 z, rd_cellq (by decide) hu.1 hva (by omega) rfl⟩) ?_
    refine anyF_rdS (by exact ⟨T1, T2⟩) (i := 5) rfl (by first | kernel_rfl | decide +kernel) (by first | kernel_rfl | decide +kernel) (by first | kernel_rfl | decide +kernel) (by rfl) rfl (x := .slice (some ⟨B2, o2, none⟩) st.length e) (fun z hu => ⟨z, _, lensB2 z, Ylds.rds (y_move rfl)⟩) ?_
    refine anyF_rdS (by exact ⟨T1, T2⟩) (i := 6) rfl (by first | kernel_rfl | decide +kernel) (by first | kernel_rfl | decide +kernel) (by first | kernel_rfl | decide +kernel) (by rfl) rfl (x := .int .i64 (dn.length : Nat)) (fun z hu => ⟨z, _, lensB2 z, Ylds.rds (y_move rfl)⟩) ?_
    refine anyF_rdS (by exact ⟨T1, T2⟩) (i := 7) rfl (by first | kernel_rfl | decide +kernel) (by first | kernel_rfl | decide +kernel) (by first | kernel_rfl | decide +kernel) (by rfl) rfl (x := .pointer (some ⟨B2, o2 + dn.length * 1, none⟩)) (fun z hu => ⟨z, _, lensB2 z, Ylds.rds (y_ix ty59 rfl rfl (by omega))⟩) ?_
    refine anyF_rdS (by exact ⟨T1, T2⟩) (i := 8) rfl (by first | kernel_rfl | decide +kernel) (by first | kernel_rfl | decide +kernel) (by first | kernel_rfl | decide +kernel) (by rfl) rfl (x := .slice pb t.length cb) (fun z hu => ⟨z, _, lensB2 z, rd_cellq (by decide) hu.2 hvb (by omega) rfl⟩) ?_
    refine anyF_callS (i := 4) rfl (by first | kernel_rfl | decide +kernel) (by rfl) rfl (run_call (args := #[.slice pa t.length ca]) rfl Try.func34 (by rfl) rfl (by simp only [List.map_toArray, List.map_cons, List.map_nil]; rfl)) (theirs34 h' t pa ca (hRa.ext eL) htl) ?_
    intro v20 h20 I20
    obtain ⟨p20, c20, rfl, hc20⟩ := I20.own.shape2
    refine ⟨⟨T1.mono I20.ext, T2.mono I20.ext⟩, ?_⟩
    refine anyF_callS (i := 9) rfl (by first | kernel_rfl | decide +kernel) (by rfl) rfl (run_call (args := #[.slice p20 t.length c20, .slice pb t.length cb, .bool true]) rfl Try.func33 (by rfl) rfl (by simp only [List.map_toArray, List.map_cons, List.map_nil]; rfl)) (same33 h20 t p20 pb c20 cb I20.own.rsl (hRb.ext (eL.trans I20.ext)) htl) ?_
    rintro _ h22 ⟨rfl, hv⟩
    obtain rfl := hv.symm
    refine ⟨⟨T1.mono I20.ext, T2.mono I20.ext⟩, ?_⟩
    refine anyF_rdS (by exact ⟨T1.mono I20.ext, T2.mono I20.ext⟩) (i := 10) rfl (by first | kernel_rfl | decide +kernel) (by first | kernel_rfl | decide +kernel) (by first | kernel_rfl | decide +kernel) (by rfl) rfl (x := .bool false) (fun z hu => ⟨z, _, lensB2 z, Ylds.rds (y_not (b := true) rfl)⟩) ?_
    refine anyV_done (by first | kernel_rfl | decide +kernel) ?_ _
    refine wpG_cond gb idleB (t := false) (by rw [fr_eval]; rfl) ?_
    refine wpG_skip gb idleB ?_
    refine wpG_region gb idleB ?_
    refine opsF_val gb idleB rfl (by rfl) rfl (x := .int .i64 (dn.length : Nat)) (y_move rfl) ?_
    refine opsF_val gb idleB rfl (by rfl) rfl (x := .int .i64 (dn.length + 1 : Nat)) (y_add rfl rfl (by rw [IntKind.wrap_i64]; omega)) ?_
    refine opsF_val gb idleB rfl (by rfl) rfl (x := .int .i64 (dn.length + 1 : Nat)) (y_assign rfl) ?_
    refine opsG_nil gb idleB ?_
    exact ⟨ts.length, by rw [List.length_cons]; omega, dn ++ [t], ts, _, _, rfl, by rw [hst]; simp, fr_says _ ⟨rfl, rfl, by rw [List.length_append]; rfl, trivial⟩, rfl, eL.trans I20.ext⟩

end Go.Proofs.Ytfaadjmglboaoaa

namespace Go.Proofs.Ytfaadjmglboaoaa
open Go.Conc Go.RowKit

theorem equal_bool_ev3 (D : Nat) (m k : Bool) (w : World) : Sem.events Try.prog (Op.equalIn (D + 1) 4 (.bool m) (.bool k)) w #[] = #[] := by
  have ht := Try.underlying4
  unfold Op.equalIn
  simp [underlying, ht, go_sem]
section ylds
variable {ρ : Operand → Value} {d : Option Tmp} {ty : TypeId} {pos : String} {af : Array Edge} {gu : Option (Nat × Bool)}
theorem y_eql_bool3 {x y : Operand} {m k : Bool} (hx : ρ x = .bool m) (hy : ρ y = .bool k) {r : Bool} (hr : (m == k) = r) : Ylds ρ ⟨d, .binOp .eql 4 x y 4, ty, pos, af, gu⟩ (.bool r) := fun w => by
  refine ⟨eq_of_K fun K hK => by subst hr; go_simp; exact hK, ?_⟩
  simp [go_sem, hx, hy]
  simp [binOp, Op.equal, go_sem]
  exact equal_bool_ev3 9999 m k w
end ylds
theorem tgo_le {l : List T3} {st : List (List T3)} (h : tgo l [] = some st) : st.length ≤ l.length ∧ ∀ t ∈ st, t.length ≤ l.length := by
  obtain ⟨h1, h2⟩ := tgo_some l [] st tgo_none h
  rw [List.flatten_nil, List.nil_append] at h2
  have h3 := things_le h1
  rw [h2] at h3
  exact ⟨h3, fun t ht => by have := mem_le ht; rw [h2] at this; exact this⟩
theorem parts_le {l : List T3} {st : List (List T3)} (h : partsOf l = some st) : st.length ≤ l.length ∧ ∀ t ∈ st, t.length ≤ l.length := by
  unfold partsOf at h
  split at h
  · split at h
    · obtain ⟨h1, h2⟩ := tgo_le h
      rw [List.length_dropLast] at h1 h2
      exact ⟨by omega, fun t ht => by have := h2 t ht; omega⟩
    · cases h
  · cases h
theorem rsl0 (h : PH) : RSl h 1 (.slice none ([] : List (List T3)).length 0) ([] : List (List T3)).length [] := ⟨rfl, .inl ⟨rfl, _, _, rfl⟩⟩

namespace surfaceItems
set_option maxHeartbeats 8000000 in
theorem walk (l : List T3) (p : Option Addr) (c : Nat) (W : World) (hcl : Cl Try.prog W) (hR : RSl (mine Try.prog W) 3 (.slice p l.length c) l.length (flat l)) (hc : l.length ≤ c)
    (Post : Value → World → Prop) (hP : ∀ u, Grew W u → ∀ τ d, Post (.bool true) (tap u τ d)) :
    Ends Try.prog Post (G (Frame.enter Try.prog 13 #[.slice p l.length c] .normal) []) W := by
  refine ends_of_wpB hcl (c := Try.f13.body.getD .skip) Try.func13 rfl (by kernel_rfl) ?_
  rw [Try.ntmps13]
  rw [fr_of (n := 83) (by simp) [(0, .slice p l.length c)] ⟨by simp, trivial⟩]
  generalize (fun j => (#[Value.slice p l.length c] ++ Array.replicate (83 - #[Value.slice p l.length c].size) undef).getD j undef) = σ
  have E0 : Ext (mine Try.prog W) (mine Try.prog W) := Ext.refl _
  refine wpG_seq glb idleB ?_
  refine wpG_region glb idleB ?_
  refine opsF_val glb idleB rfl (by rfl) rfl (x := .bool false) (y_assign rfl) ?_
  refine opsG_nil glb idleB ?_
  refine wpG_seq glb idleB ?_
  refine wpG_seq glb idleB ?_
  refine wpG_region glb idleB ?_
  refine opsF_val glb idleB rfl (by rfl) rfl (x := .slice p l.length c) (y_move rfl) ?_
  refine opsF_call glb idleB rfl (by rfl) rfl (run_call (args := #[.slice p l.length c]) rfl Try.func36 (by rfl) rfl (by simp only [List.map_toArray, List.map_cons, List.map_nil]; rfl)) (callsB (heavy36 (mine Try.prog W) l p c (hR.ext E0))) ?_
  rintro _ _ ⟨rfl, rfl⟩
  cases hv : heavyB l
  · obtain ⟨hn, hw⟩ := heavy_not hv
    refine opsF_val glb idleB rfl (by rfl) rfl (x := .bool false) (y_move rfl) ?_
    refine opsF_call glb idleB rfl (by rfl) rfl (run_call rfl Try.func30 (by rfl) rfl (by simp)) (shown30 _) ?_
    rintro _ h1 ⟨e1, rfl⟩
    have s1 : Ext (mine Try.prog W) h1 := e1
    have E1 := E0.trans s1
    refine opsF_val glb idleB rfl (by rfl) rfl (x := .bool false) (y_not (b := true) rfl) ?_
    refine opsF_val glb idleB rfl (by rfl) rfl (x := .bool false) (y_pick (t := false) rfl rfl) ?_
    refine opsG_nil glb idleB ?_
    refine wpG_cond glb idleB (t := false) (by rw [fr_eval]; rfl) ?_
    refine wpG_skip glb idleB ?_
    refine wpG_seq glb idleB ?_
    refine wpG_region glb idleB ?_
    refine opsF_val glb idleB rfl (by rfl) rfl (x := .slice p l.length c) (y_move rfl) ?_
    refine opsF_call glb idleB rfl (by rfl) rfl (run_call (args := #[.slice p l.length c]) rfl Try.func37 (by rfl) rfl (by simp only [List.map_toArray, List.map_cons, List.map_nil]; rfl)) (callsB (items37 h1 l p c (hR.ext E1) hc (by omega))) ?_
    intro r2 h2 hpost
    rcases hpost.cases with ⟨htl, e2, rfl⟩ | ⟨st, p2, c2, vs2, htl, rfl, hc2, I2, J2, -⟩
    · have s2 : Ext h1 h2 := e2
      have E2 := E1.trans s2
      refine opsF_val glb idleB rfl (by rfl) rfl (x := .tuple #[.slice none 0 0, .bool false]) (y_move rfl) ?_
      refine opsF_val glb idleB rfl (by rfl) rfl (x := .slice none 0 0) (y_extract rfl rfl) ?_
      refine opsF_val glb idleB rfl (by rfl) rfl (x := .bool false) (y_extract rfl rfl) ?_
      refine opsF_val glb idleB rfl (by rfl) rfl (x := .slice none 0 0) (y_assign rfl) ?_
      refine opsF_val glb idleB rfl (by rfl) rfl (x := .bool false) (y_assign rfl) ?_
      refine opsG_nil glb idleB ?_
      refine wpG_seq glb idleB ?_
      refine wpG_region glb idleB ?_
      refine opsF_val glb idleB rfl (by rfl) rfl (x := .slice p l.length c) (y_move rfl) ?_
      refine opsF_call glb idleB rfl (by rfl) rfl (run_call (args := #[.slice p l.length c]) rfl Try.func34 (by rfl) rfl (by simp only [List.map_toArray, List.map_cons, List.map_nil]; rfl)) (callsB (theirs34 h2 l p c (hR.ext E2) (by omega))) ?_
      intro v3 h3 I3
      obtain ⟨p3, c3, rfl, hc3⟩ := I3.own.shape2
      have s3 : Ext h2 h3 := I3.ext
      have E3 := E2.trans s3
      refine opsF_call glb idleB rfl (by rfl) rfl (run_call (args := #[.slice p3 l.length c3]) rfl Try.func38 (by rfl) rfl (by simp only [List.map_toArray, List.map_cons, List.map_nil]; rfl)) (callsB (refItems38 h3 l p3 c3 I3.own.rsl hc3 (by omega))) ?_
      intro r4 h4 hpost
      obtain ⟨e4, rfl⟩ := hpost.none' htl
      have s4 : Ext h3 h4 := e4
      have E4 := E3.trans s4
      refine opsF_val glb idleB rfl (by rfl) rfl (x := .tuple #[.slice none 0 0, .bool false]) (y_move rfl) ?_
      refine opsF_val glb idleB rfl (by rfl) rfl (x := .slice none 0 0) (y_extract rfl rfl) ?_
      refine opsF_val glb idleB rfl (by rfl) rfl (x := .bool false) (y_extract rfl rfl) ?_
      refine opsF_val glb idleB rfl (by rfl) rfl (x := .slice none 0 0) (y_assign rfl) ?_
      refine opsF_val glb idleB rfl (by rfl) rfl (x := .bool false) (y_assign rfl) ?_
      refine opsG_nil glb idleB ?_
      refine wpG_seq glb idleB ?_
      refine wpG_region glb idleB ?_
      refine opsF_val glb idleB rfl (by rfl) rfl (x := .slice p l.length c) (y_move rfl) ?_
      refine opsF_call glb idleB rfl (by rfl) rfl (run_call (args := #[.slice p l.length c]) rfl Try.func39 (by rfl) rfl (by simp only [List.map_toArray, List.map_cons, List.map_nil]; rfl)) (callsB (parts39 h4 l p c (hR.ext E4) hc (by omega))) ?_
      intro r5 h5 hpost
      have htp := parts_none htl
      obtain ⟨e5, rfl⟩ := hpost.none' htp
      have s5 : Ext h4 h5 := e5
      have E5 := E4.trans s5
      refine opsF_val glb idleB rfl (by rfl) rfl (x := .tuple #[.slice none 0 0, .bool false]) (y_move rfl) ?_
      refine opsF_val glb idleB rfl (by rfl) rfl (x := .slice none 0 0) (y_extract rfl rfl) ?_
      refine opsF_val glb idleB rfl (by rfl) rfl (x := .bool false) (y_extract rfl rfl) ?_
      refine opsF_val glb idleB rfl (by rfl) rfl (x := .slice none 0 0) (y_assign rfl) ?_
      refine opsF_val glb idleB rfl (by rfl) rfl (x := .bool false) (y_assign rfl) ?_
      refine opsG_nil glb idleB ?_
      refine wpG_seq glb idleB ?_
      refine wpG_region glb idleB ?_
      refine opsF_val glb idleB rfl (by rfl) rfl (x := .slice p l.length c) (y_move rfl) ?_
      refine opsF_call glb idleB rfl (by rfl) rfl (run_call (args := #[.slice p l.length c]) rfl Try.func34 (by rfl) rfl (by simp only [List.map_toArray, List.map_cons, List.map_nil]; rfl)) (callsB (theirs34 h5 l p c (hR.ext E5) (by omega))) ?_
      intro v6 h6 I6
      obtain ⟨p6, c6, rfl, hc6⟩ := I6.own.shape2
      have s6 : Ext h5 h6 := I6.ext
      have E6 := E5.trans s6
      refine opsF_call glb idleB rfl (by rfl) rfl (run_call (args := #[.slice p6 l.length c6]) rfl Try.func41 (by rfl) rfl (by simp only [List.map_toArray, List.map_cons, List.map_nil]; rfl)) (callsB (refParts41 h6 l p6 c6 I6.own.rsl hc6 (by omega))) ?_
      intro r7 h7 hpost
      obtain ⟨e7, rfl⟩ := hpost.none' htp
      have s7 : Ext h6 h7 := e7
      have E7 := E6.trans s7
      refine opsF_val glb idleB rfl (by rfl) rfl (x := .tuple #[.slice none 0 0, .bool false]) (y_move rfl) ?_
      refine opsF_val glb idleB rfl (by rfl) rfl (x := .slice none 0 0) (y_extract rfl rfl) ?_
      refine opsF_val glb idleB rfl (by rfl) rfl (x := .bool false) (y_extract rfl rfl) ?_
      refine opsF_val glb idleB rfl (by rfl) rfl (x := .slice none 0 0) (y_assign rfl) ?_
      refine opsF_val glb idleB rfl (by rfl) rfl (x := .bool false) (y_assign rfl) ?_
      refine opsG_nil glb idleB ?_
      refine wpG_seq glb idleB ?_
      refine wpG_region glb idleB ?_
      refine opsF_val glb idleB rfl (by rfl) rfl (x := .slice p l.length c) (y_move rfl) ?_
      refine opsF_call glb idleB rfl (by rfl) rfl (run_call (args := #[.slice p l.length c]) rfl Try.func42 (by rfl) rfl (by simp only [List.map_toArray, List.map_cons, List.map_nil]; rfl)) ((print42 h7 l p c (hR.ext E7) hc (by omega) hw)) ?_
      intro r8 h8 hq8
      obtain ⟨e8, hr8⟩ := hq8
      rw [htl] at hr8
      obtain rfl : r8 = .tuple #[.string { data := #[] }, .int .i64 20] := hr8
      have s8 : Ext h7 h8 := e8
      have E8 := E7.trans s8
      refine opsF_val glb idleB rfl (by rfl) rfl (x := .tuple #[.string { data := #[] }, .int .i64 20]) (y_move rfl) ?_
      refine opsF_val glb idleB rfl (by rfl) rfl (x := .string { data := #[] }) (y_extract rfl rfl) ?_
      refine opsF_val glb idleB rfl (by rfl) rfl (x := .int .i64 20) (y_extract rfl rfl) ?_
      refine opsF_val glb idleB rfl (by rfl) rfl (x := .string { data := #[] }) (y_assign rfl) ?_
      refine opsF_val glb idleB rfl (by rfl) rfl (x := .int .i64 20) (y_assign rfl) ?_
      refine opsG_nil glb idleB ?_
      refine wpG_seq glb idleB ?_
      refine wpG_region glb idleB ?_
      refine opsF_val glb idleB rfl (by rfl) rfl (x := .slice p l.length c) (y_move rfl) ?_
      refine opsF_call glb idleB rfl (by rfl) rfl (run_call (args := #[.slice p l.length c]) rfl Try.func34 (by rfl) rfl (by simp only [List.map_toArray, List.map_cons, List.map_nil]; rfl)) (callsB (theirs34 h8 l p c (hR.ext E8) (by omega))) ?_
      intro v9 h9 I9
      obtain ⟨p9, c9, rfl, hc9⟩ := I9.own.shape2
      have s9 : Ext h8 h9 := I9.ext
      have E9 := E8.trans s9
      refine opsF_call glb idleB rfl (by rfl) rfl (run_call (args := #[.slice p9 l.length c9]) rfl Try.func43 (by rfl) rfl (by simp only [List.map_toArray, List.map_cons, List.map_nil]; rfl)) (callsB (refPrint43 h9 l p9 c9 I9.own.rsl hc9 (by omega) hw)) ?_
      intro r10 h10 hq10
      obtain ⟨e10, hr10⟩ := hq10
      rw [htl] at hr10
      obtain rfl : r10 = .tuple #[.string { data := #[] }, .int .i64 20] := hr10
      have s10 : Ext h9 h10 := e10
      have E10 := E9.trans s10
      refine opsF_val glb idleB rfl (by rfl) rfl (x := .tuple #[.string { data := #[] }, .int .i64 20]) (y_move rfl) ?_
      refine opsF_val glb idleB rfl (by rfl) rfl (x := .string { data := #[] }) (y_extract rfl rfl) ?_
      refine opsF_val glb idleB rfl (by rfl) rfl (x := .int .i64 20) (y_extract rfl rfl) ?_
      refine opsF_val glb idleB rfl (by rfl) rfl (x := .string { data := #[] }) (y_assign rfl) ?_
      refine opsF_val glb idleB rfl (by rfl) rfl (x := .int .i64 20) (y_assign rfl) ?_
      refine opsG_nil glb idleB ?_
      refine wpG_seq glb idleB ?_
      refine wpG_region glb idleB ?_
      refine opsF_val glb idleB rfl (by rfl) rfl (x := .bool false) (y_move rfl) ?_
      refine opsF_val glb idleB rfl (by rfl) rfl (x := .bool false) (y_move rfl) ?_
      refine opsF_val glb idleB rfl (by rfl) rfl (x := .bool true) (y_eql_bool3 rfl rfl rfl) ?_
      refine opsF_val glb idleB rfl (by rfl) rfl (x := .bool true) (y_move rfl) ?_
      refine opsF_val glb idleB rfl (by rfl) rfl (x := .slice none 0 0) (y_move rfl) ?_
      refine opsF_val glb idleB rfl (by rfl) rfl (x := .slice none 0 0) (y_move rfl) ?_
      refine opsF_call glb idleB rfl (by rfl) rfl (run_call (args := #[.slice none 0 0, .slice none 0 0]) rfl Try.func44 (by rfl) rfl (by simp only [List.map_toArray, List.map_cons, List.map_nil]; rfl)) (callsB (lists44 h10 [] none none 0 0 [] [] (rsl0 _) (rsl0 _) (RowsAt.nil _) (RowsAt.nil _) (by decide) (by simp))) ?_
      rintro _ h11 ⟨e11, rfl⟩
      have s11 : Ext h10 h11 := e11
      have E11 := E10.trans s11
      refine opsF_val glb idleB rfl (by rfl) rfl (x := .bool true) (y_pick (t := true) rfl rfl) ?_
      refine opsF_val glb idleB rfl (by rfl) rfl (x := .bool true) (y_move rfl) ?_
      refine opsF_val glb idleB rfl (by rfl) rfl (x := .bool false) (y_move rfl) ?_
      refine opsF_val glb idleB rfl (by rfl) rfl (x := .bool false) (y_move rfl) ?_
      refine opsF_val glb idleB rfl (by rfl) rfl (x := .bool true) (y_eql_bool3 rfl rfl rfl) ?_
      refine opsF_val glb idleB rfl (by rfl) rfl (x := .bool true) (y_pick (t := true) rfl rfl) ?_
      refine opsF_val glb idleB rfl (by rfl) rfl (x := .bool true) (y_move rfl) ?_
      refine opsF_val glb idleB rfl (by rfl) rfl (x := .slice none 0 0) (y_move rfl) ?_
      refine opsF_val glb idleB rfl (by rfl) rfl (x := .slice none 0 0) (y_move rfl) ?_
      refine opsF_call glb idleB rfl (by rfl) rfl (run_call (args := #[.slice none 0 0, .slice none 0 0]) rfl Try.func44 (by rfl) rfl (by simp only [List.map_toArray, List.map_cons, List.map_nil]; rfl)) (callsB (lists44 h11 [] none none 0 0 [] [] (rsl0 _) (rsl0 _) (RowsAt.nil _) (RowsAt.nil _) (by decide) (by simp))) ?_
      rintro _ h12 ⟨e12, rfl⟩
      have s12 : Ext h11 h12 := e12
      have E12 := E11.trans s12
      refine opsF_val glb idleB rfl (by rfl) rfl (x := .bool true) (y_pick (t := true) rfl rfl) ?_
      refine opsF_val glb idleB rfl (by rfl) rfl (x := .bool true) (y_move rfl) ?_
      refine opsF_val glb idleB rfl (by rfl) rfl (x := .string { data := #[] }) (y_move rfl) ?_
      refine opsF_val glb idleB rfl (by rfl) rfl (x := .string { data := #[] }) (y_move rfl) ?_
      refine opsF_val glb idleB rfl (by rfl) rfl (x := .bool true) (y_eql_str rfl rfl (by simp)) ?_
      refine opsF_val glb idleB rfl (by rfl) rfl (x := .bool true) (y_pick (t := true) rfl rfl) ?_
      refine opsF_val glb idleB rfl (by rfl) rfl (x := .bool true) (y_move rfl) ?_
      refine opsF_val glb idleB rfl (by rfl) rfl (x := .int .i64 20) (y_move rfl) ?_
      refine opsF_val glb idleB rfl (by rfl) rfl (x := .int .i64 20) (y_move rfl) ?_
      refine opsF_val glb idleB rfl (by rfl) rfl (x := .bool true) (y_eql (.inr rfl) rfl rfl (rfl)) ?_
      refine opsF_val glb idleB rfl (by rfl) rfl (x := .bool true) (y_pick (t := true) rfl rfl) ?_
      refine opsF_val glb idleB rfl (by rfl) rfl (x := .bool true) (y_assign rfl) ?_
      refine opsG_nil glb idleB ?_
      refine wpG_ret glb idleB ?_
      exact ⟨.inr rfl, rfl, _, resultsC_tmp (by rfl) _, fun u hu τ d => by rw [fr_ret (by decide) rfl]; exact hP u (grew_of_mine hu E12) τ d⟩
    · have s2 : Ext h1 h2 := I2.ext
      have E2 := E1.trans s2
      obtain ⟨hs1, hs2⟩ := tgo_le htl
      refine opsF_val glb idleB rfl (by rfl) rfl (x := .tuple #[.slice p2 st.length c2, .bool true]) (y_move rfl) ?_
      refine opsF_val glb idleB rfl (by rfl) rfl (x := .slice p2 st.length c2) (y_extract rfl rfl) ?_
      refine opsF_val glb idleB rfl (by rfl) rfl (x := .bool true) (y_extract rfl rfl) ?_
      refine opsF_val glb idleB rfl (by rfl) rfl (x := .slice p2 st.length c2) (y_assign rfl) ?_
      refine opsF_val glb idleB rfl (by rfl) rfl (x := .bool true) (y_assign rfl) ?_
      refine opsG_nil glb idleB ?_
      refine wpG_seq glb idleB ?_
      refine wpG_region glb idleB ?_
      refine opsF_val glb idleB rfl (by rfl) rfl (x := .slice p l.length c) (y_move rfl) ?_
      refine opsF_call glb idleB rfl (by rfl) rfl (run_call (args := #[.slice p l.length c]) rfl Try.func34 (by rfl) rfl (by simp only [List.map_toArray, List.map_cons, List.map_nil]; rfl)) (callsB (theirs34 h2 l p c (hR.ext E2) (by omega))) ?_
      intro v3 h3 I3
      obtain ⟨p3, c3, rfl, hc3⟩ := I3.own.shape2
      have s3 : Ext h2 h3 := I3.ext
      have E3 := E2.trans s3
      refine opsF_call glb idleB rfl (by rfl) rfl (run_call (args := #[.slice p3 l.length c3]) rfl Try.func38 (by rfl) rfl (by simp only [List.map_toArray, List.map_cons, List.map_nil]; rfl)) (callsB (refItems38 h3 l p3 c3 I3.own.rsl hc3 (by omega))) ?_
      intro r4 h4 hpost
      obtain ⟨p4, c4, vs4, rfl, hc4, I4, J4, -⟩ := hpost.some' htl
      have s4 : Ext h3 h4 := I4.ext
      have E4 := E3.trans s4
      refine opsF_val glb idleB rfl (by rfl) rfl (x := .tuple #[.slice p4 st.length c4, .bool true]) (y_move rfl) ?_
      refine opsF_val glb idleB rfl (by rfl) rfl (x := .slice p4 st.length c4) (y_extract rfl rfl) ?_
      refine opsF_val glb idleB rfl (by rfl) rfl (x := .bool true) (y_extract rfl rfl) ?_
      refine opsF_val glb idleB rfl (by rfl) rfl (x := .slice p4 st.length c4) (y_assign rfl) ?_
      refine opsF_val glb idleB rfl (by rfl) rfl (x := .bool true) (y_assign rfl) ?_
      refine opsG_nil glb idleB ?_
      refine wpG_seq glb idleB ?_
      refine wpG_region glb idleB ?_
      refine opsF_val glb idleB rfl (by rfl) rfl (x := .slice p l.length c) (y_move rfl) ?_
      refine opsF_call glb idleB rfl (by rfl) rfl (run_call (args := #[.slice p l.length c]) rfl Try.func39 (by rfl) rfl (by simp only [List.map_toArray, List.map_cons, List.map_nil]; rfl)) (callsB (parts39 h4 l p c (hR.ext E4) hc (by omega))) ?_
      intro r5 h5 hpost
      rcases hpost.cases with ⟨htp, e5, rfl⟩ | ⟨su, p5, c5, vs5, htp, rfl, hc5, I5, J5, -⟩
      · have s5 : Ext h4 h5 := e5
        have E5 := E4.trans s5
        refine opsF_val glb idleB rfl (by rfl) rfl (x := .tuple #[.slice none 0 0, .bool false]) (y_move rfl) ?_
        refine opsF_val glb idleB rfl (by rfl) rfl (x := .slice none 0 0) (y_extract rfl rfl) ?_
        refine opsF_val glb idleB rfl (by rfl) rfl (x := .bool false) (y_extract rfl rfl) ?_
        refine opsF_val glb idleB rfl (by rfl) rfl (x := .slice none 0 0) (y_assign rfl) ?_
        refine opsF_val glb idleB rfl (by rfl) rfl (x := .bool false) (y_assign rfl) ?_
        refine opsG_nil glb idleB ?_
        refine wpG_seq glb idleB ?_
        refine wpG_region glb idleB ?_
        refine opsF_val glb idleB rfl (by rfl) rfl (x := .slice p l.length c) (y_move rfl) ?_
        refine opsF_call glb idleB rfl (by rfl) rfl (run_call (args := #[.slice p l.length c]) rfl Try.func34 (by rfl) rfl (by simp only [List.map_toArray, List.map_cons, List.map_nil]; rfl)) (callsB (theirs34 h5 l p c (hR.ext E5) (by omega))) ?_
        intro v6 h6 I6
        obtain ⟨p6, c6, rfl, hc6⟩ := I6.own.shape2
        have s6 : Ext h5 h6 := I6.ext
        have E6 := E5.trans s6
        refine opsF_call glb idleB rfl (by rfl) rfl (run_call (args := #[.slice p6 l.length c6]) rfl Try.func41 (by rfl) rfl (by simp only [List.map_toArray, List.map_cons, List.map_nil]; rfl)) (callsB (refParts41 h6 l p6 c6 I6.own.rsl hc6 (by omega))) ?_
        intro r7 h7 hpost
        obtain ⟨e7, rfl⟩ := hpost.none' htp
        have s7 : Ext h6 h7 := e7
        have E7 := E6.trans s7
        refine opsF_val glb idleB rfl (by rfl) rfl (x := .tuple #[.slice none 0 0, .bool false]) (y_move rfl) ?_
        refine opsF_val glb idleB rfl (by rfl) rfl (x := .slice none 0 0) (y_extract rfl rfl) ?_
        refine opsF_val glb idleB rfl (by rfl) rfl (x := .bool false) (y_extract rfl rfl) ?_
        refine opsF_val glb idleB rfl (by rfl) rfl (x := .slice none 0 0) (y_assign rfl) ?_
        refine opsF_val glb idleB rfl (by rfl) rfl (x := .bool false) (y_assign rfl) ?_
        refine opsG_nil glb idleB ?_
        refine wpG_seq glb idleB ?_
        refine wpG_region glb idleB ?_
        refine opsF_val glb idleB rfl (by rfl) rfl (x := .slice p l.length c) (y_move rfl) ?_
        refine opsF_call glb idleB rfl (by rfl) rfl (run_call (args := #[.slice p l.length c]) rfl Try.func42 (by rfl) rfl (by simp only [List.map_toArray, List.map_cons, List.map_nil]; rfl)) ((print42 h7 l p c (hR.ext E7) hc (by omega) hw)) ?_
        intro r8 h8 hq8
        obtain ⟨e8, hr8⟩ := hq8
        rw [htl] at hr8
        obtain rfl : r8 = .tuple #[.string (jn nl (st.map text)), .int .i64 0] := hr8
        have s8 : Ext h7 h8 := e8
        have E8 := E7.trans s8
        refine opsF_val glb idleB rfl (by rfl) rfl (x := .tuple #[.string (jn nl (st.map text)), .int .i64 0]) (y_move rfl) ?_
        refine opsF_val glb idleB rfl (by rfl) rfl (x := .string (jn nl (st.map text))) (y_extract rfl rfl) ?_
        refine opsF_val glb idleB rfl (by rfl) rfl (x := .int .i64 0) (y_extract rfl rfl) ?_
        refine opsF_val glb idleB rfl (by rfl) rfl (x := .string (jn nl (st.map text))) (y_assign rfl) ?_
        refine opsF_val glb idleB rfl (by rfl) rfl (x := .int .i64 0) (y_assign rfl) ?_
        refine opsG_nil glb idleB ?_
        refine wpG_seq glb idleB ?_
        refine wpG_region glb idleB ?_
        refine opsF_val glb idleB rfl (by rfl) rfl (x := .slice p l.length c) (y_move rfl) ?_
        refine opsF_call glb idleB rfl (by rfl) rfl (run_call (args := #[.slice p l.length c]) rfl Try.func34 (by rfl) rfl (by simp only [List.map_toArray, List.map_cons, List.map_nil]; rfl)) (callsB (theirs34 h8 l p c (hR.ext E8) (by omega))) ?_
        intro v9 h9 I9
        obtain ⟨p9, c9, rfl, hc9⟩ := I9.own.shape2
        have s9 : Ext h8 h9 := I9.ext
        have E9 := E8.trans s9
        refine opsF_call glb idleB rfl (by rfl) rfl (run_call (args := #[.slice p9 l.length c9]) rfl Try.func43 (by rfl) rfl (by simp only [List.map_toArray, List.map_cons, List.map_nil]; rfl)) (callsB (refPrint43 h9 l p9 c9 I9.own.rsl hc9 (by omega) hw)) ?_
        intro r10 h10 hq10
        obtain ⟨e10, hr10⟩ := hq10
        rw [htl] at hr10
        obtain rfl : r10 = .tuple #[.string (jn nl (st.map text)), .int .i64 0] := hr10
        have s10 : Ext h9 h10 := e10
        have E10 := E9.trans s10
        refine opsF_val glb idleB rfl (by rfl) rfl (x := .tuple #[.string (jn nl (st.map text)), .int .i64 0]) (y_move rfl) ?_
        refine opsF_val glb idleB rfl (by rfl) rfl (x := .string (jn nl (st.map text))) (y_extract rfl rfl) ?_
        refine opsF_val glb idleB rfl (by rfl) rfl (x := .int .i64 0) (y_extract rfl rfl) ?_
        refine opsF_val glb idleB rfl (by rfl) rfl (x := .string (jn nl (st.map text))) (y_assign rfl) ?_
        refine opsF_val glb idleB rfl (by rfl) rfl (x := .int .i64 0) (y_assign rfl) ?_
        refine opsG_nil glb idleB ?_
        refine wpG_seq glb idleB ?_
        refine wpG_region glb idleB ?_
        refine opsF_val glb idleB rfl (by rfl) rfl (x := .bool true) (y_move rfl) ?_
        refine opsF_val glb idleB rfl (by rfl) rfl (x := .bool true) (y_move rfl) ?_
        refine opsF_val glb idleB rfl (by rfl) rfl (x := .bool true) (y_eql_bool3 rfl rfl rfl) ?_
        refine opsF_val glb idleB rfl (by rfl) rfl (x := .bool true) (y_move rfl) ?_
        refine opsF_val glb idleB rfl (by rfl) rfl (x := .slice p2 st.length c2) (y_move rfl) ?_
        refine opsF_val glb idleB rfl (by rfl) rfl (x := .slice p4 st.length c4) (y_move rfl) ?_
        refine opsF_call glb idleB rfl (by rfl) rfl (run_call (args := #[.slice p2 st.length c2, .slice p4 st.length c4]) rfl Try.func44 (by rfl) rfl (by simp only [List.map_toArray, List.map_cons, List.map_nil]; rfl)) (callsB (lists44 h10 st p2 p4 c2 c4 vs2 vs4 (I2.own.rsl.ext (((((((s3.trans s4).trans s5).trans s6).trans s7).trans s8).trans s9).trans s10)) (I4.own.rsl.ext (((((s5.trans s6).trans s7).trans s8).trans s9).trans s10)) (J2.ext (((((((s3.trans s4).trans s5).trans s6).trans s7).trans s8).trans s9).trans s10)) (J4.ext (((((s5.trans s6).trans s7).trans s8).trans s9).trans s10)) (by omega) (fun t ht => by have := hs2 t ht; omega))) ?_
        rintro _ h11 ⟨e11, rfl⟩
        have s11 : Ext h10 h11 := e11
        have E11 := E10.trans s11
        refine opsF_val glb idleB rfl (by rfl) rfl (x := .bool true) (y_pick (t := true) rfl rfl) ?_
        refine opsF_val glb idleB rfl (by rfl) rfl (x := .bool true) (y_move rfl) ?_
        refine opsF_val glb idleB rfl (by rfl) rfl (x := .bool false) (y_move rfl) ?_
        refine opsF_val glb idleB rfl (by rfl) rfl (x := .bool false) (y_move rfl) ?_
        refine opsF_val glb idleB rfl (by rfl) rfl (x := .bool true) (y_eql_bool3 rfl rfl rfl) ?_
        refine opsF_val glb idleB rfl (by rfl) rfl (x := .bool true) (y_pick (t := true) rfl rfl) ?_
        refine opsF_val glb idleB rfl (by rfl) rfl (x := .bool true) (y_move rfl) ?_
        refine opsF_val glb idleB rfl (by rfl) rfl (x := .slice none 0 0) (y_move rfl) ?_
        refine opsF_val glb idleB rfl (by rfl) rfl (x := .slice none 0 0) (y_move rfl) ?_
        refine opsF_call glb idleB rfl (by rfl) rfl (run_call (args := #[.slice none 0 0, .slice none 0 0]) rfl Try.func44 (by rfl) rfl (by simp only [List.map_toArray, List.map_cons, List.map_nil]; rfl)) (callsB (lists44 h11 [] none none 0 0 [] [] (rsl0 _) (rsl0 _) (RowsAt.nil _) (RowsAt.nil _) (by decide) (by simp))) ?_
        rintro _ h12 ⟨e12, rfl⟩
        have s12 : Ext h11 h12 := e12
        have E12 := E11.trans s12
        refine opsF_val glb idleB rfl (by rfl) rfl (x := .bool true) (y_pick (t := true) rfl rfl) ?_
        refine opsF_val glb idleB rfl (by rfl) rfl (x := .bool true) (y_move rfl) ?_
        refine opsF_val glb idleB rfl (by rfl) rfl (x := .string (jn nl (st.map text))) (y_move rfl) ?_
        refine opsF_val glb idleB rfl (by rfl) rfl (x := .string (jn nl (st.map text))) (y_move rfl) ?_
        refine opsF_val glb idleB rfl (by rfl) rfl (x := .bool true) (y_eql_str rfl rfl (by simp)) ?_
        refine opsF_val glb idleB rfl (by rfl) rfl (x := .bool true) (y_pick (t := true) rfl rfl) ?_
        refine opsF_val glb idleB rfl (by rfl) rfl (x := .bool true) (y_move rfl) ?_
        refine opsF_val glb idleB rfl (by rfl) rfl (x := .int .i64 0) (y_move rfl) ?_
        refine opsF_val glb idleB rfl (by rfl) rfl (x := .int .i64 0) (y_move rfl) ?_
        refine opsF_val glb idleB rfl (by rfl) rfl (x := .bool true) (y_eql (.inr rfl) rfl rfl (rfl)) ?_
        refine opsF_val glb idleB rfl (by rfl) rfl (x := .bool true) (y_pick (t := true) rfl rfl) ?_
        refine opsF_val glb idleB rfl (by rfl) rfl (x := .bool true) (y_assign rfl) ?_
        refine opsG_nil glb idleB ?_
        refine wpG_ret glb idleB ?_
        exact ⟨.inr rfl, rfl, _, resultsC_tmp (by rfl) _, fun u hu τ d => by rw [fr_ret (by decide) rfl]; exact hP u (grew_of_mine hu E12) τ d⟩
      · have s5 : Ext h4 h5 := I5.ext
        have E5 := E4.trans s5
        obtain ⟨hu1, hu2⟩ := parts_le htp
        refine opsF_val glb idleB rfl (by rfl) rfl (x := .tuple #[.slice p5 su.length c5, .bool true]) (y_move rfl) ?_
        refine opsF_val glb idleB rfl (by rfl) rfl (x := .slice p5 su.length c5) (y_extract rfl rfl) ?_
        refine opsF_val glb idleB rfl (by rfl) rfl (x := .bool true) (y_extract rfl rfl) ?_
        refine opsF_val glb idleB rfl (by rfl) rfl (x := .slice p5 su.length c5) (y_assign rfl) ?_
        refine opsF_val glb idleB rfl (by rfl) rfl (x := .bool true) (y_assign rfl) ?_
        refine opsG_nil glb idleB ?_
        refine wpG_seq glb idleB ?_
        refine wpG_region glb idleB ?_
        refine opsF_val glb idleB rfl (by rfl) rfl (x := .slice p l.length c) (y_move rfl) ?_
        refine opsF_call glb idleB rfl (by rfl) rfl (run_call (args := #[.slice p l.length c]) rfl Try.func34 (by rfl) rfl (by simp only [List.map_toArray, List.map_cons, List.map_nil]; rfl)) (callsB (theirs34 h5 l p c (hR.ext E5) (by omega))) ?_
        intro v6 h6 I6
        obtain ⟨p6, c6, rfl, hc6⟩ := I6.own.shape2
        have s6 : Ext h5 h6 := I6.ext
        have E6 := E5.trans s6
        refine opsF_call glb idleB rfl (by rfl) rfl (run_call (args := #[.slice p6 l.length c6]) rfl Try.func41 (by rfl) rfl (by simp only [List.map_toArray, List.map_cons, List.map_nil]; rfl)) (callsB (refParts41 h6 l p6 c6 I6.own.rsl hc6 (by omega))) ?_
        intro r7 h7 hpost
        obtain ⟨p7, c7, vs7, rfl, hc7, I7, J7, -⟩ := hpost.some' htp
        have s7 : Ext h6 h7 := I7.ext
        have E7 := E6.trans s7
        refine opsF_val glb idleB rfl (by rfl) rfl (x := .tuple #[.slice p7 su.length c7, .bool true]) (y_move rfl) ?_
        refine opsF_val glb idleB rfl (by rfl) rfl (x := .slice p7 su.length c7) (y_extract rfl rfl) ?_
        refine opsF_val glb idleB rfl (by rfl) rfl (x := .bool true) (y_extract rfl rfl) ?_
        refine opsF_val glb idleB rfl (by rfl) rfl (x := .slice p7 su.length c7) (y_assign rfl) ?_
        refine opsF_val glb idleB rfl (by rfl) rfl (x := .bool true) (y_assign rfl) ?_
        refine opsG_nil glb idleB ?_
        refine wpG_seq glb idleB ?_
        refine wpG_region glb idleB ?_
        refine opsF_val glb idleB rfl (by rfl) rfl (x := .slice p l.length c) (y_move rfl) ?_
        refine opsF_call glb idleB rfl (by rfl) rfl (run_call (args := #[.slice p l.length c]) rfl Try.func42 (by rfl) rfl (by simp only [List.map_toArray, List.map_cons, List.map_nil]; rfl)) ((print42 h7 l p c (hR.ext E7) hc (by omega) hw)) ?_
        intro r8 h8 hq8
        obtain ⟨e8, hr8⟩ := hq8
        rw [htl] at hr8
        obtain rfl : r8 = .tuple #[.string (jn nl (st.map text)), .int .i64 0] := hr8
        have s8 : Ext h7 h8 := e8
        have E8 := E7.trans s8
        refine opsF_val glb idleB rfl (by rfl) rfl (x := .tuple #[.string (jn nl (st.map text)), .int .i64 0]) (y_move rfl) ?_
        refine opsF_val glb idleB rfl (by rfl) rfl (x := .string (jn nl (st.map text))) (y_extract rfl rfl) ?_
        refine opsF_val glb idleB rfl (by rfl) rfl (x := .int .i64 0) (y_extract rfl rfl) ?_
        refine opsF_val glb idleB rfl (by rfl) rfl (x := .string (jn nl (st.map text))) (y_assign rfl) ?_
        refine opsF_val glb idleB rfl (by rfl) rfl (x := .int .i64 0) (y_assign rfl) ?_
        refine opsG_nil glb idleB ?_
        refine wpG_seq glb idleB ?_
        refine wpG_region glb idleB ?_
        refine opsF_val glb idleB rfl (by rfl) rfl (x := .slice p l.length c) (y_move rfl) ?_
        refine opsF_call glb idleB rfl (by rfl) rfl (run_call (args := #[.slice p l.length c]) rfl Try.func34 (by rfl) rfl (by simp only [List.map_toArray, List.map_cons, List.map_nil]; rfl)) (callsB (theirs34 h8 l p c (hR.ext E8) (by omega))) ?_
        intro v9 h9 I9
        obtain ⟨p9, c9, rfl, hc9⟩ := I9.own.shape2
        have s9 : Ext h8 h9 := I9.ext
        have E9 := E8.trans s9
        refine opsF_call glb idleB rfl (by rfl) rfl (run_call (args := #[.slice p9 l.length c9]) rfl Try.func43 (by rfl) rfl (by simp only [List.map_toArray, List.map_cons, List.map_nil]; rfl)) (callsB (refPrint43 h9 l p9 c9 I9.own.rsl hc9 (by omega) hw)) ?_
        intro r10 h10 hq10
        obtain ⟨e10, hr10⟩ := hq10
        rw [htl] at hr10
        obtain rfl : r10 = .tuple #[.string (jn nl (st.map text)), .int .i64 0] := hr10
        have s10 : Ext h9 h10 := e10
        have E10 := E9.trans s10
        refine opsF_val glb idleB rfl (by rfl) rfl (x := .tuple #[.string (jn nl (st.map text)), .int .i64 0]) (y_move rfl) ?_
        refine opsF_val glb idleB rfl (by rfl) rfl (x := .string (jn nl (st.map text))) (y_extract rfl rfl) ?_
        refine opsF_val glb idleB rfl (by rfl) rfl (x := .int .i64 0) (y_extract rfl rfl) ?_
        refine opsF_val glb idleB rfl (by rfl) rfl (x := .string (jn nl (st.map text))) (y_assign rfl) ?_
        refine opsF_val glb idleB rfl (by rfl) rfl (x := .int .i64 0) (y_assign rfl) ?_
        refine opsG_nil glb idleB ?_
        refine wpG_seq glb idleB ?_
        refine wpG_region glb idleB ?_
        refine opsF_val glb idleB rfl (by rfl) rfl (x := .bool true) (y_move rfl) ?_
        refine opsF_val glb idleB rfl (by rfl) rfl (x := .bool true) (y_move rfl) ?_
        refine opsF_val glb idleB rfl (by rfl) rfl (x := .bool true) (y_eql_bool3 rfl rfl rfl) ?_
        refine opsF_val glb idleB rfl (by rfl) rfl (x := .bool true) (y_move rfl) ?_
        refine opsF_val glb idleB rfl (by rfl) rfl (x := .slice p2 st.length c2) (y_move rfl) ?_
        refine opsF_val glb idleB rfl (by rfl) rfl (x := .slice p4 st.length c4) (y_move rfl) ?_
        refine opsF_call glb idleB rfl (by rfl) rfl (run_call (args := #[.slice p2 st.length c2, .slice p4 st.length c4]) rfl Try.func44 (by rfl) rfl (by simp only [List.map_toArray, List.map_cons, List.map_nil]; rfl)) (callsB (lists44 h10 st p2 p4 c2 c4 vs2 vs4 (I2.own.rsl.ext (((((((s3.trans s4).trans s5).trans s6).trans s7).trans s8).trans s9).trans s10)) (I4.own.rsl.ext (((((s5.trans s6).trans s7).trans s8).trans s9).trans s10)) (J2.ext (((((((s3.trans s4).trans s5).trans s6).trans s7).trans s8).trans s9).trans s10)) (J4.ext (((((s5.trans s6).trans s7).trans s8).trans s9).trans s10)) (by omega) (fun t ht => by have := hs2 t ht; omega))) ?_
        rintro _ h11 ⟨e11, rfl⟩
        have s11 : Ext h10 h11 := e11
        have E11 := E10.trans s11
        refine opsF_val glb idleB rfl (by rfl) rfl (x := .bool true) (y_pick (t := true) rfl rfl) ?_
        refine opsF_val glb idleB rfl (by rfl) rfl (x := .bool true) (y_move rfl) ?_
        refine opsF_val glb idleB rfl (by rfl) rfl (x := .bool true) (y_move rfl) ?_
        refine opsF_val glb idleB rfl (by rfl) rfl (x := .bool true) (y_move rfl) ?_
        refine opsF_val glb idleB rfl (by rfl) rfl (x := .bool true) (y_eql_bool3 rfl rfl rfl) ?_
        refine opsF_val glb idleB rfl (by rfl) rfl (x := .bool true) (y_pick (t := true) rfl rfl) ?_
        refine opsF_val glb idleB rfl (by rfl) rfl (x := .bool true) (y_move rfl) ?_
        refine opsF_val glb idleB rfl (by rfl) rfl (x := .slice p5 su.length c5) (y_move rfl) ?_
        refine opsF_val glb idleB rfl (by rfl) rfl (x := .slice p7 su.length c7) (y_move rfl) ?_
        refine opsF_call glb idleB rfl (by rfl) rfl (run_call (args := #[.slice p5 su.length c5, .slice p7 su.length c7]) rfl Try.func44 (by rfl) rfl (by simp only [List.map_toArray, List.map_cons, List.map_nil]; rfl)) (callsB (lists44 h11 su p5 p7 c5 c7 vs5 vs7 (I5.own.rsl.ext (((((s6.trans s7).trans s8).trans s9).trans s10).trans s11)) (I7.own.rsl.ext (((s8.trans s9).trans s10).trans s11)) (J5.ext (((((s6.trans s7).trans s8).trans s9).trans s10).trans s11)) (J7.ext (((s8.trans s9).trans s10).trans s11)) (by omega) (fun t ht => by have := hu2 t ht; omega))) ?_
        rintro _ h12 ⟨e12, rfl⟩
        have s12 : Ext h11 h12 := e12
        have E12 := E11.trans s12
        refine opsF_val glb idleB rfl (by rfl) rfl (x := .bool true) (y_pick (t := true) rfl rfl) ?_
        refine opsF_val glb idleB rfl (by rfl) rfl (x := .bool true) (y_move rfl) ?_
        refine opsF_val glb idleB rfl (by rfl) rfl (x := .string (jn nl (st.map text))) (y_move rfl) ?_
        refine opsF_val glb idleB rfl (by rfl) rfl (x := .string (jn nl (st.map text))) (y_move rfl) ?_
        refine opsF_val glb idleB rfl (by rfl) rfl (x := .bool true) (y_eql_str rfl rfl (by simp)) ?_
        refine opsF_val glb idleB rfl (by rfl) rfl (x := .bool true) (y_pick (t := true) rfl rfl) ?_
        refine opsF_val glb idleB rfl (by rfl) rfl (x := .bool true) (y_move rfl) ?_
        refine opsF_val glb idleB rfl (by rfl) rfl (x := .int .i64 0) (y_move rfl) ?_
        refine opsF_val glb idleB rfl (by rfl) rfl (x := .int .i64 0) (y_move rfl) ?_
        refine opsF_val glb idleB rfl (by rfl) rfl (x := .bool true) (y_eql (.inr rfl) rfl rfl (rfl)) ?_
        refine opsF_val glb idleB rfl (by rfl) rfl (x := .bool true) (y_pick (t := true) rfl rfl) ?_
        refine opsF_val glb idleB rfl (by rfl) rfl (x := .bool true) (y_assign rfl) ?_
        refine opsG_nil glb idleB ?_
        refine wpG_ret glb idleB ?_
        exact ⟨.inr rfl, rfl, _, resultsC_tmp (by rfl) _, fun u hu τ d => by rw [fr_ret (by decide) rfl]; exact hP u (grew_of_mine hu E12) τ d⟩
  · refine opsF_val glb idleB rfl (by rfl) rfl (x := .bool true) (y_move rfl) ?_
    refine opsF_skip glb idleB rfl (by rfl) rfl ?_
    refine opsF_skip glb idleB rfl (by rfl) rfl ?_
    refine opsF_val glb idleB rfl (by rfl) rfl (x := .bool true) (y_pick (t := true) rfl rfl) ?_
    refine opsG_nil glb idleB ?_
    refine wpG_cond glb idleB (t := true) (by rw [fr_eval]; rfl) ?_
    refine wpG_seq glb idleB ?_
    refine wpG_region glb idleB ?_
    refine opsF_call glb idleB rfl (by rfl) rfl (run_call rfl Try.func30 (by rfl) rfl (by simp)) (shown30 _) ?_
    rintro _ h1 ⟨e1, rfl⟩
    have s1 : Ext (mine Try.prog W) h1 := e1
    have E1 := E0.trans s1
    refine opsF_val glb idleB rfl (by rfl) rfl (x := .bool true) (y_assign rfl) ?_
    refine opsG_nil glb idleB ?_
    refine wpG_ret glb idleB ?_
    exact ⟨.inr rfl, rfl, _, resultsC_tmp (by rfl) _, fun u hu τ d => by rw [fr_ret (by decide) rfl]; exact hP u (grew_of_mine hu E1) τ d⟩
end surfaceItems
end Go.Proofs.Ytfaadjmglboaoaa

namespace Go.Proofs.Ytfaadjmglboaoaa
open Go.ChangeShapes Go.WideShapes Go.ChangeAt Go.RowKit Go.Conc

/-- A slice that came in is no longer than its capacity. -/
theorem cap_t3 {H : Type} {enc : TypeId × Value → H} {W : World} {t e : TypeId} {a : Option Addr} {len cap : Nat} {d : DataW H} {ps : List MemPlace} (ht : Try.prog.underlying t = some (.slice e)) (h : DataW.Trod enc Try.prog W 0 (fun _ => true) true t (.slice a len cap) d ps) : len ≤ cap := by
  obtain ⟨fuel, hf⟩ := h
  rcases Go.Deep.open_slice ht hf with ⟨hcs, _⟩ | ⟨x, l, c, m, n, D, Pl, hcs, _, hl, _⟩
  · simp [Value.cells] at hcs
    obtain ⟨rfl, rfl, rfl⟩ := hcs
    exact Nat.le_refl _
  · simp [Value.cells] at hcs
    obtain ⟨rfl, rfl, rfl⟩ := hcs
    exact hl

namespace surfaceItems
theorem own : ownKnob Try.prog.godebug = none := by kernel_rfl

set_option maxRecDepth 100000 in
theorem lifted (os : Os) (started : os.Started) (H : Type) (enc : TypeId × Value → H) :
    ReturnsInLeavingWide {} Try.checked os 13 .any (Rows.surfaceItemsSpec.pre6 enc Try.prog Try.f13 Rows.surfaceItemsRow.domain false) (Rows.surfaceItemsSpec.post enc Try.prog Try.f13 false true false false) := by
  refine returns_of_ends2 own started Try.func13
    (ChangeSpec.witness6 (enc := enc) (C := Try.checked) false ⟨#[], #[.slice none 0 0], []⟩ 8 (by kernel_rfl) (by kernel_rfl) (by kernel_rfl) (by kernel_rfl)) ?_
  intro W base args ds gs before hval0 hW hcnd _ hcl hone
  have hval : ∀ (j : Nat) t v, Try.f13.params[j]? = some t → args[j]? = some v → Value.okWide Try.prog W .any base t v := hval0
  have hW' := hW
  obtain ⟨p, q, hA0, hV, rfl, hfz, hnd⟩ := hW
  have hA : DataW.TrodAll enc Try.prog W 0 (fun _ => true) true Try.f13.params.toList args.toList ds p := hA0
  rw [Try.params13] at hA hval
  obtain ⟨v0, vs0, d0, ds0, p0, q0, hargs, rfl, rfl, h0, r0⟩ := trodAll_cons hA
  obtain ⟨rfl, rfl, rfl⟩ := trodAll_nil r0
  obtain rfl : args = #[v0] := by cases args; simp_all
  obtain ⟨rfl, rfl⟩ := trodVars_none hV
  obtain ⟨a0, len0, cap0, rfl⟩ := okWide_slice Try.underlying44 (hval 0 44 v0 rfl rfl)
  have hc0 := cap_t3 Try.underlying44 h0
  obtain ⟨l, rfl, hR, _⟩ := open_t3 hone Try.underlying44 Try.underlying63 (by kernel_rfl) rfl rfl rfl rfl rfl rfl h0
  clear hA0 hval0
  refine walk l a0 cap0 W hcl hR hc0 _ fun u hg τ d => ?_
  exact ⟨_, _, _, [], _, [], hW', (trodAll_cons_mk (shut_bool Try.underlying4 _) trodAll_mk0), (trodAll_cons_mk (trod_grew (by kernel_rfl) (of_decide_eq_true (by kernel_rfl)) h0 hg) trodAll_mk0), rfl, grew_frame hg τ d _, fun h => by cases h⟩

theorem over : Rows.surfaceItemsRow.holds Try.pinned (OpenSpec.ofChange Rows.surfaceItemsSpec) :=
  OpenClaim.holds_of_wide_leaving 13 Try.f13 rfl rfl rfl rfl rfl rfl rfl ⟨rfl, rfl, rfl, rfl, rfl⟩ rfl rfl rfl rfl rfl (by kernel_rfl) Try.func13 (by kernel_rfl)
    (of_decide_eq_true (by kernel_rfl)) (by unfold Func.isWrapper; first | (rw [if_pos (by decide +kernel)]; kernel_rfl) | (rw [if_neg (by decide +kernel)]; exact ⟨rfl, rfl⟩))
    (fun os started H enc _ => lifted os started H enc)

/-- ████ THE STATEMENT ████ -/
theorem proved : Rows.SurfaceItemsSaid :=
  over
#print axioms proved
end surfaceItems
end Go.Proofs.Ytfaadjmglboaoaa
