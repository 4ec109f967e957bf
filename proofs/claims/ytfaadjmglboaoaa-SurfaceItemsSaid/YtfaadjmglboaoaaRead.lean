/-
  surface.Read, and cornicelaw07.shown, from a law.
-/
import Derived.Test.YtfaadjmglboaoaaLawB
namespace Go.Proofs.Ytfaadjmglboaoaa
open Go.Conc Go.RowKit

theorem ParsePost.cases {E : TypeId} {h h' : PH} {l : List T3} {r : Value} (x : ParsePost E h l r h') : Ext h h' ∧ ((∃ row v, parse l = .ok row ∧ r = .tuple #[v, .int .i64 0, .int .i64 0] ∧ OwnK h' E 3 v row.length (flat row) ∧ (∀ g, v.ownBlock = some g → h g = none) ∧ row.length ≤ l.length) ∨ (∃ p e, parse l = .err p e ∧ r = .tuple #[.slice none 0 0, .int .i64 p, .int .i64 e])) := by
  obtain ⟨h1, h2⟩ := x
  refine ⟨h1, ?_⟩
  cases hp : parse l with
  | ok row =>
    rw [hp] at h2
    obtain ⟨v, a, b, c, d⟩ := h2
    exact .inl ⟨row, v, rfl, a, b, c, d⟩
  | err p e =>
    rw [hp] at h2
    exact .inr ⟨p, e, rfl, h2⟩

section
variable {W : World}
/-- lexer.Lex from a law. -/
theorem callsB_lex {h : PH} (s : ByteArray) (its : List It) (hx : Items s 0 (its.map It.val)) (hs : s.size ≤ 20000) (hlen : its.length ≤ s.size) : CallsG Try.prog (GLB W) 29 #[.string s] h fun r h' =>
    Ext h h' ∧ (((lastBad its).e = 0 ∧ ∃ p c, r = .tuple #[.slice p (tok3 its).length c, .int .i64 0, .int .i64 0] ∧ RSl h' 3 (.slice p (tok3 its).length c) (tok3 its).length (flat (tok3 its)) ∧ ∀ g, Value.ownBlock (.slice p (tok3 its).length c) = some g → h g = none) ∨
      ((lastBad its).e ≠ 0 ∧ r = .tuple #[.slice none 0 0, .int .i64 (lastBad its).p, .int .i64 (lastBad its).e])) := by
  rintro _ ⟨E, hE, hcl, rfl⟩ c cs hn u hu
  refine lex_l u s its hx hs hlen E hE c cs ?_
  rintro r _ ⟨u2, rfl, hg, hr⟩
  unfold LexRes at hr
  by_cases he : (lastBad its).e = 0
  · rw [if_pos he] at hr
    obtain ⟨v, rfl, hO, hbase⟩ := hr
    have hfresh : ∀ g, v.ownBlock = some g → h g = none := fun g hgo => by
      cases hx : h g with
      | none => rfl
      | some o => have := (Array.getElem?_eq_some_iff.1 (hu.has g o hx)).1; have := hbase g hgo; omega
    let h2 : PH := fun r => if v.ownBlock = some r then u2.heap[r]? else h r
    have hk := hu.grew hg
    have hk2 : Kept (mine Try.prog W) W u2 h2 := by
      refine ⟨fun r o hr => ?_, hk.size, fun r hr hm => ?_, fun r hr => ?_, hk.os, hk.output⟩
      · by_cases e : v.ownBlock = some r
        · simp only [h2, e, if_true] at hr; exact hr
        · simp only [h2, e, if_false] at hr; exact hk.has r o hr
      · obtain ⟨a, b⟩ := hk.others r hr hm
        refine ⟨?_, b⟩
        by_cases e : v.ownBlock = some r
        · have := hbase r e; have := hu.size; omega
        · simp only [h2, e, if_false]; exact a
      · have := hk.mine r hr
        by_cases e : v.ownBlock = some r
        · exact absurd (hfresh r e) this
        · simp only [h2, e, if_false]; exact this
    have hext : Ext h h2 := fun r o hr => by
      by_cases e : v.ownBlock = some r
      · rw [hfresh r e] at hr; cases hr
      · simp only [h2, e, if_false]; exact hr
    have hO2 : OwnK h2 40 3 v (cnt its) (toks its) := by
      rcases hO with ⟨h1, h3 | ⟨g, cap, cur, rfl, h3, h4⟩⟩
      · exact ⟨h1, .inl h3⟩
      · refine ⟨h1, .inr ⟨g, cap, cur, rfl, ?_, h4⟩⟩
        have : Value.ownBlock (.slice (some ⟨g, 0, none⟩) (cnt its) cap) = some g := rfl
        simp only [h2, this, if_true]
        exact h3
    have hsh : ∃ p c, v = .slice p (tok3 its).length c := by
      rw [tok3_length]
      rcases hO2.2 with ⟨rfl, e⟩ | ⟨g, cap, cur, rfl, _⟩
      · exact ⟨_, _, by rw [e]⟩
      · exact ⟨_, _, rfl⟩
    obtain ⟨p, c', rfl⟩ := hsh
    refine hn _ h2 ⟨hext, .inl ⟨he, p, c', rfl, ?_, hfresh⟩⟩ u2 hk2
    have := hO2.rsl
    rw [tok3_length, tok3_flat]
    rw [tok3_length] at this
    exact this
  · rw [if_neg he] at hr
    exact hn _ h ⟨Ext.refl h, .inr ⟨he, hr⟩⟩ u2 (hu.grew hg)
end
theorem results35 : Try.f35.results = #[.tmp 2, .tmp 3, .tmp 4] := by rfl

set_option maxHeartbeats 1000000 in
/-- surface.Read. -/
theorem read35 {W : World} (h : PH) (s : ByteArray) (its : List It) (hx : Items s 0 (its.map It.val)) (hs : s.size ≤ 20000) (hlen : its.length ≤ s.size) : CallsG Try.prog (GLB W) 35 #[.string s] h fun r h' => Ext h h' ∧ ReadRes h' (fun g => h g = none) its r := by
  refine callsG_of_wp (c := Try.f35.body.getD .skip) glb idleB Try.func35 rfl ?_
  rw [Try.ntmps35]
  rw [fr_of (n := 23) (by simp) [(0, .string s)] ⟨by simp, trivial⟩]
  generalize (fun j => (#[Value.string s] ++ Array.replicate (23 - #[Value.string s].size) undef).getD j undef) = σ
  refine wpG_seq glb idleB ?_
  refine wpG_region glb idleB ?_
  refine opsF_val glb idleB rfl (by rfl) rfl (x := .slice none 0 0) (y_assign rfl) ?_
  refine opsF_val glb idleB rfl (by rfl) rfl (x := .int .i64 0) (y_assign rfl) ?_
  refine opsF_val glb idleB rfl (by rfl) rfl (x := .int .i64 0) (y_assign rfl) ?_
  refine opsG_nil glb idleB ?_
  refine wpG_seq glb idleB ?_
  refine wpG_region glb idleB ?_
  refine opsF_val glb idleB rfl (by rfl) rfl (x := .string s) (y_move rfl) ?_
  refine opsF_call glb idleB rfl (by rfl) rfl (run_call (args := #[.string s]) rfl Try.func29 (by rfl) rfl (by simp only [List.map_toArray, List.map_cons, List.map_nil]; rfl)) (callsB_lex s its hx hs hlen) ?_
  rintro _ h1 ⟨hE, ⟨he, p, c, rfl, hR, hf⟩ | ⟨he, rfl⟩⟩
  · refine opsF_val glb idleB rfl (by rfl) rfl (x := .tuple #[.slice p (tok3 its).length c, .int .i64 0, .int .i64 0]) (y_move rfl) ?_
    refine opsF_val glb idleB rfl (by rfl) rfl (x := .slice p (tok3 its).length c) (y_extract rfl rfl) ?_
    refine opsF_val glb idleB rfl (by rfl) rfl (x := .int .i64 0) (y_extract rfl rfl) ?_
    refine opsF_val glb idleB rfl (by rfl) rfl (x := .int .i64 0) (y_extract rfl rfl) ?_
    refine opsF_val glb idleB rfl (by rfl) rfl (x := .slice p (tok3 its).length c) (y_assign rfl) ?_
    refine opsF_val glb idleB rfl (by rfl) rfl (x := .int .i64 0) (y_assign rfl) ?_
    refine opsF_val glb idleB rfl (by rfl) rfl (x := .int .i64 0) (y_assign rfl) ?_
    refine opsG_nil glb idleB ?_
    refine wpG_seq glb idleB ?_
    refine wpG_seq glb idleB ?_
    refine wpG_region glb idleB ?_
    refine opsF_val glb idleB rfl (by rfl) rfl (x := .int .i64 0) (y_move rfl) ?_
    refine opsF_val glb idleB rfl (by rfl) rfl (x := .bool false) (y_neq (.inr rfl) rfl rfl (rfl)) ?_
    refine opsG_nil glb idleB ?_
    refine wpG_cond glb idleB (t := false) (by rw [fr_eval]; rfl) ?_
    refine wpG_skip glb idleB ?_
    refine wpG_seq glb idleB ?_
    refine wpG_region glb idleB ?_
    refine opsF_val glb idleB rfl (by rfl) rfl (x := .slice p (tok3 its).length c) (y_move rfl) ?_
    refine opsF_call glb idleB rfl (by rfl) rfl (run_call (args := #[.slice p (tok3 its).length c]) rfl Try.func31 (by rfl) rfl (by simp only [List.map_toArray, List.map_cons, List.map_nil]; rfl)) (callsB (parse31 h1 (tok3 its) p c hR (by have := cnt_le its; rw [tok3_length]; omega))) ?_
    intro r h2 hpost
    rcases hpost.cases with ⟨hE2, ⟨row, v2, hp, rfl, hO, hf2, hb⟩ | ⟨pe, ee, hp, rfl⟩⟩
    · refine opsF_val glb idleB rfl (by rfl) rfl (x := v2) (y_extract rfl rfl) ?_
      refine opsF_val glb idleB rfl (by rfl) rfl (x := .int .i64 0) (y_extract rfl rfl) ?_
      refine opsF_val glb idleB rfl (by rfl) rfl (x := .int .i64 0) (y_extract rfl rfl) ?_
      refine opsF_val glb idleB rfl (by rfl) rfl (x := v2) (y_assign rfl) ?_
      refine opsF_val glb idleB rfl (by rfl) rfl (x := .int .i64 0) (y_assign rfl) ?_
      refine opsF_val glb idleB rfl (by rfl) rfl (x := .int .i64 0) (y_assign rfl) ?_
      refine opsG_nil glb idleB ?_
      refine wpG_ret glb idleB ?_
      refine ⟨.inr rfl, rfl, _, resultsC_tmp3 results35 _, ?_⟩
      rw [fr_ret (by decide) rfl, fr_ret (by decide) rfl, fr_ret (by decide) rfl]
      refine ⟨hE.trans hE2, ?_⟩
      unfold ReadRes
      rw [if_pos he, hp]
      refine ⟨v2, rfl, hO, fun g hg => ?_, by rw [tok3_length] at hb; exact hb⟩
      cases hy : h g with
      | none => exact hy
      | some o => have := hE g o hy; rw [hf2 g hg] at this; cases this
    · refine opsF_val glb idleB rfl (by rfl) rfl (x := .slice none 0 0) (y_extract rfl rfl) ?_
      refine opsF_val glb idleB rfl (by rfl) rfl (x := .int .i64 pe) (y_extract rfl rfl) ?_
      refine opsF_val glb idleB rfl (by rfl) rfl (x := .int .i64 ee) (y_extract rfl rfl) ?_
      refine opsF_val glb idleB rfl (by rfl) rfl (x := .slice none 0 0) (y_assign rfl) ?_
      refine opsF_val glb idleB rfl (by rfl) rfl (x := .int .i64 pe) (y_assign rfl) ?_
      refine opsF_val glb idleB rfl (by rfl) rfl (x := .int .i64 ee) (y_assign rfl) ?_
      refine opsG_nil glb idleB ?_
      refine wpG_ret glb idleB ?_
      refine ⟨.inr rfl, rfl, _, resultsC_tmp3 results35 _, ?_⟩
      rw [fr_ret (by decide) rfl, fr_ret (by decide) rfl, fr_ret (by decide) rfl]
      refine ⟨hE.trans hE2, ?_⟩
      unfold ReadRes
      rw [if_pos he, hp]
      rfl
  · refine opsF_val glb idleB rfl (by rfl) rfl (x := .tuple #[.slice none 0 0, .int .i64 (lastBad its).p, .int .i64 (lastBad its).e]) (y_move rfl) ?_
    refine opsF_val glb idleB rfl (by rfl) rfl (x := .slice none 0 0) (y_extract rfl rfl) ?_
    refine opsF_val glb idleB rfl (by rfl) rfl (x := .int .i64 (lastBad its).p) (y_extract rfl rfl) ?_
    refine opsF_val glb idleB rfl (by rfl) rfl (x := .int .i64 (lastBad its).e) (y_extract rfl rfl) ?_
    refine opsF_val glb idleB rfl (by rfl) rfl (x := .slice none 0 0) (y_assign rfl) ?_
    refine opsF_val glb idleB rfl (by rfl) rfl (x := .int .i64 (lastBad its).p) (y_assign rfl) ?_
    refine opsF_val glb idleB rfl (by rfl) rfl (x := .int .i64 (lastBad its).e) (y_assign rfl) ?_
    refine opsG_nil glb idleB ?_
    refine wpG_seq glb idleB ?_
    refine wpG_seq glb idleB ?_
    refine wpG_region glb idleB ?_
    refine opsF_val glb idleB rfl (by rfl) rfl (x := .int .i64 (lastBad its).e) (y_move rfl) ?_
    refine opsF_val glb idleB rfl (by rfl) rfl (x := .bool true) (y_neq (.inr rfl) rfl rfl (by simpa using he)) ?_
    refine opsG_nil glb idleB ?_
    refine wpG_cond glb idleB (t := true) (by rw [fr_eval]; rfl) ?_
    refine wpG_seq glb idleB ?_
    refine wpG_region glb idleB ?_
    refine opsF_val glb idleB rfl (by rfl) rfl (x := .int .i64 (lastBad its).p) (y_move rfl) ?_
    refine opsF_val glb idleB rfl (by rfl) rfl (x := .int .i64 (lastBad its).e) (y_move rfl) ?_
    refine opsF_val glb idleB rfl (by rfl) rfl (x := .slice none 0 0) (y_assign rfl) ?_
    refine opsF_val glb idleB rfl (by rfl) rfl (x := .int .i64 (lastBad its).p) (y_assign rfl) ?_
    refine opsF_val glb idleB rfl (by rfl) rfl (x := .int .i64 (lastBad its).e) (y_assign rfl) ?_
    refine opsG_nil glb idleB ?_
    refine wpG_ret glb idleB ?_
    refine ⟨.inr rfl, rfl, _, resultsC_tmp3 results35 _, ?_⟩
    rw [fr_ret (by decide) rfl, fr_ret (by decide) rfl, fr_ret (by decide) rfl]
    refine ⟨hE, ?_⟩
    unfold ReadRes
    rw [if_neg he]
    rfl

/-- "(a)". -/
def textP : ByteArray := { data := #[40, 97, 41] }
def itsP : List It := [⟨2, 0, textP.extract 0 (0 + 1), 0⟩, ⟨1, 1, textP.extract 1 (1 + 1), 0⟩, ⟨3, 2, textP.extract 2 (2 + 1), 0⟩]
theorem items_p : Items textP 0 (itsP.map It.val) := by
  refine .item (j := 2) (n := 1) (by decide) (by decide) (by decide +kernel) (by decide +kernel) rfl (by decide) ?_
  refine .item (j := 0) (n := 1) (by decide) (by decide) (fun k hk => by omega) (by decide +kernel) (isRun_of (by decide +kernel) (by decide +kernel) (by decide +kernel)) (by decide) ?_
  exact .item (j := 3) (n := 1) (by decide) (by decide) (by decide +kernel) (by decide +kernel) rfl (by decide) (.done (by decide))
theorem parse_p : parse (tok3 itsP) = .ok [⟨0, 1, textP.extract 1 (1 + 1)⟩, ⟨1, 0, { data := #[] }⟩] := by rfl

set_option maxHeartbeats 1000000 in
/-- cornicelaw07.shown. -/
theorem shown30 {W : World} (h : PH) : CallsG Try.prog (GLB W) 30 #[] h fun r h' => Ext h h' ∧ r = .bool true := by
  refine callsG_of_wp (c := Try.f30.body.getD .skip) glb idleB Try.func30 rfl ?_
  rw [Try.ntmps30]
  rw [fr_of (n := 23) (by simp) [] trivial]
  generalize (fun j => (#[] ++ Array.replicate (23 - (#[] : Array Value).size) undef).getD j undef) = σ
  refine wpG_seq glb idleB ?_
  refine wpG_region glb idleB ?_
  refine opsF_val glb idleB rfl (by rfl) rfl (x := .bool false) (y_assign rfl) ?_
  refine opsG_nil glb idleB ?_
  refine wpG_seq glb idleB ?_
  refine wpG_region glb idleB ?_
  refine opsF_call glb idleB rfl (by rfl) rfl (run_call (args := #[.string textP]) rfl Try.func35 (by rfl) rfl (by simp only [List.map_toArray, List.map_cons, List.map_nil]; rfl)) (read35 h textP itsP items_p (by decide) (by decide)) ?_
  rintro _ h1 ⟨hE, hr⟩
  unfold ReadRes at hr
  rw [if_pos (by rfl), parse_p] at hr
  obtain ⟨v2, rfl, hO, -, -⟩ := hr
  obtain ⟨B, o, cap, rfl, hS⟩ : ∃ B o cap, v2 = .slice (some ⟨B, o, none⟩) 2 cap ∧ SlAt h1 B o (flat [⟨0, 1, textP.extract 1 (1 + 1)⟩, ⟨1, 0, { data := #[] }⟩]) := by
    rcases hO.rsl.2 with ⟨h0, _⟩ | ⟨B, o, cap, h2, h3⟩
    · cases h0
    · exact ⟨B, o, cap, h2, h3⟩
  refine opsF_val glb idleB rfl (by rfl) rfl (x := .tuple #[.slice (some ⟨B, o, none⟩) 2 cap, .int .i64 0, .int .i64 0]) (y_move rfl) ?_
  refine opsF_val glb idleB rfl (by rfl) rfl (x := .slice (some ⟨B, o, none⟩) 2 cap) (y_extract rfl rfl) ?_
  refine opsF_val glb idleB rfl (by rfl) rfl (x := .int .i64 0) (y_extract rfl rfl) ?_
  refine opsF_val glb idleB rfl (by rfl) rfl (x := .int .i64 0) (y_extract rfl rfl) ?_
  refine opsF_val glb idleB rfl (by rfl) rfl (x := .slice (some ⟨B, o, none⟩) 2 cap) (y_assign rfl) ?_
  refine opsF_val glb idleB rfl (by rfl) rfl (x := .int .i64 0) (y_assign rfl) ?_
  refine opsF_val glb idleB rfl (by rfl) rfl (x := .int .i64 0) (y_assign rfl) ?_
  refine opsG_nil glb idleB ?_
  refine wpG_seq glb idleB ?_
  refine wpG_region glb idleB ?_
  refine opsF_val glb idleB rfl (by rfl) rfl (x := .slice (some ⟨B, o, none⟩) 2 cap) (y_move rfl) ?_
  refine opsF_val glb idleB rfl (by rfl) rfl (x := .int .i64 (2 : Nat)) (y_len_slice Try.underlying44 rfl) ?_
  refine opsF_val glb idleB rfl (by rfl) rfl (x := .bool true) (y_eql (.inl rfl) rfl rfl (rfl)) ?_
  refine opsF_val glb idleB rfl (by rfl) rfl (x := .bool true) (y_move rfl) ?_
  refine opsF_val glb idleB rfl (by rfl) rfl (x := .int .i64 0) (y_move rfl) ?_
  refine opsF_val glb idleB rfl (by rfl) rfl (x := .bool true) (y_eql (.inr rfl) rfl rfl (rfl)) ?_
  refine opsF_val glb idleB rfl (by rfl) rfl (x := .bool true) (y_pick (t := true) rfl rfl) ?_
  refine opsF_val glb idleB rfl (by rfl) rfl (x := .bool true) (y_move rfl) ?_
  refine opsF_val glb idleB rfl (by rfl) rfl (x := .slice (some ⟨B, o, none⟩) 2 cap) (y_move rfl) ?_
  refine opsF_val glb idleB rfl (by rfl) rfl (x := .pointer (some ⟨B, o + 1 * 3, none⟩)) (y_ix (m := 1) ty44 rfl rfl (by decide)) ?_
  refine opsF_val glb idleB rfl (by rfl) rfl (x := .pointer (some ⟨B, o + 1 * 3 + 0, none⟩)) (y_fld (by decide) rfl) ?_
  refine opsF_rd glb (lensB2 _) rfl (by rfl) rfl (x := .int .i64 1) (rd_cellq (i := 3) (by decide) hS rfl (by omega) rfl) ?_
  refine opsF_val glb idleB rfl (by rfl) rfl (x := .bool true) (y_eql (.inl rfl) rfl rfl (rfl)) ?_
  refine opsF_val glb idleB rfl (by rfl) rfl (x := .bool true) (y_pick (t := true) rfl rfl) ?_
  refine opsF_val glb idleB rfl (by rfl) rfl (x := .bool true) (y_assign rfl) ?_
  refine opsG_nil glb idleB ?_
  refine wpG_ret glb idleB ?_
  exact ⟨.inr rfl, rfl, _, resultsC_tmp (by rfl) _, hE, fr_ret (by decide) rfl⟩

end Go.Proofs.Ytfaadjmglboaoaa
