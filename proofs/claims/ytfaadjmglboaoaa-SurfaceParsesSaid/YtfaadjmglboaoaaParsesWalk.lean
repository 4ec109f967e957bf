/-
  SurfaceParses: the walk of the law's text.
-/
import Derived.Test.YtfaadjmglboaoaaRead
import Derived.Test.YtfaadjmglboaoaaSame
namespace Go.Proofs.Ytfaadjmglboaoaa
open Go.Conc Go.RowKit

theorem OwnK.shape {h : PH} {e : TypeId} {k n : Nat} {v : Value} {xs : List Value} (s : OwnK h e k v n xs) : ∃ p c, v = .slice p n c := by
  rcases s.2 with ⟨rfl, rfl⟩ | ⟨g, cap, cur, rfl, _⟩
  · exact ⟨_, _, rfl⟩
  · exact ⟨_, _, rfl⟩
theorem rsl_nil (h : PH) : RSl h 3 (.slice none ([] : List T3).length 0) ([] : List T3).length (flat []) := ⟨rfl, .inl ⟨rfl, _, _, rfl⟩⟩

namespace surfaceParses
set_option maxHeartbeats 4000000 in
theorem walk (l : List T3) (p : Option Addr) (c : Nat) (W : World) (hcl : Cl Try.prog W) (hR : RSl (mine Try.prog W) 3 (.slice p l.length c) l.length (flat l)) (Post : Value → World → Prop) (hP : ∀ u, Grew W u → ∀ τ d, Post (.bool true) (tap u τ d)) :
    Ends Try.prog Post (G (Frame.enter Try.prog 9 #[.slice p l.length c] .normal) []) W := by
  refine ends_of_wpB hcl (c := Try.f9.body.getD .skip) Try.func9 rfl (by kernel_rfl) ?_
  rw [Try.ntmps9]
  rw [fr_of (n := 99) (by simp) [(0, .slice p l.length c)] ⟨by simp, trivial⟩]
  generalize (fun j => (#[Value.slice p l.length c] ++ Array.replicate (99 - #[Value.slice p l.length c].size) undef).getD j undef) = σ
  have hE0 : Ext (mine Try.prog W) (mine Try.prog W) := Ext.refl _
  rcases Nat.lt_or_ge 300 l.length with hs | hs
  · refine wpG_seq glb idleB ?_
    refine wpG_region glb idleB ?_
    refine opsF_val glb idleB rfl (by rfl) rfl (x := .bool false) (y_assign rfl) ?_
    refine opsG_nil glb idleB ?_
    refine wpG_seq glb idleB ?_
    refine wpG_seq glb idleB ?_
    refine wpG_region glb idleB ?_
    refine opsF_val glb idleB rfl (by rfl) rfl (x := .slice p l.length c) (y_move rfl) ?_
    refine opsF_val glb idleB rfl (by rfl) rfl (x := .int .i64 (l.length : Nat)) (y_len_slice Try.underlying36 rfl) ?_
    refine opsF_val glb idleB rfl (by rfl) rfl (x := .bool true) (y_gtr rfl rfl (by simp; omega)) ?_
    refine opsF_val glb idleB rfl (by rfl) rfl (x := .bool true) (y_move rfl) ?_
    refine opsF_skip glb idleB rfl (by rfl) rfl ?_
    refine opsF_skip glb idleB rfl (by rfl) rfl ?_
    refine opsF_val glb idleB rfl (by rfl) rfl (x := .bool true) (y_pick (t := true) rfl rfl) ?_
    refine opsG_nil glb idleB ?_
    refine wpG_cond glb idleB (t := true) (by rw [fr_eval]; rfl) ?_
    refine wpG_seq glb idleB ?_
    refine wpG_region glb idleB ?_
    refine opsF_call glb idleB rfl (by rfl) rfl (run_call rfl Try.func30 (by rfl) rfl (by simp)) (shown30 _) ?_
    rintro _ h1 ⟨e1, rfl⟩
    refine opsF_val glb idleB rfl (by rfl) rfl (x := .bool true) (y_assign rfl) ?_
    refine opsG_nil glb idleB ?_
    refine wpG_ret glb idleB ?_
    exact ⟨.inr rfl, rfl, _, resultsC_tmp (by rfl) _, fun u hu τ d => by rw [fr_ret (by decide) rfl]; exact hP u (grew_of_mine hu (e1)) τ d⟩
  refine wpG_seq glb idleB ?_
  refine wpG_region glb idleB ?_
  refine opsF_val glb idleB rfl (by rfl) rfl (x := .bool false) (y_assign rfl) ?_
  refine opsG_nil glb idleB ?_
  refine wpG_seq glb idleB ?_
  refine wpG_seq glb idleB ?_
  refine wpG_region glb idleB ?_
  refine opsF_val glb idleB rfl (by rfl) rfl (x := .slice p l.length c) (y_move rfl) ?_
  refine opsF_val glb idleB rfl (by rfl) rfl (x := .int .i64 (l.length : Nat)) (y_len_slice Try.underlying36 rfl) ?_
  refine opsF_val glb idleB rfl (by rfl) rfl (x := .bool false) (y_gtr rfl rfl (by simp; omega)) ?_
  refine opsF_val glb idleB rfl (by rfl) rfl (x := .bool false) (y_move rfl) ?_
  refine opsF_call glb idleB rfl (by rfl) rfl (run_call rfl Try.func30 (by rfl) rfl (by simp)) (shown30 _) ?_
  rintro _ h1 ⟨e1, rfl⟩
  refine opsF_val glb idleB rfl (by rfl) rfl (x := .bool false) (y_not (b := true) rfl) ?_
  refine opsF_val glb idleB rfl (by rfl) rfl (x := .bool false) (y_pick (t := false) rfl rfl) ?_
  refine opsG_nil glb idleB ?_
  refine wpG_cond glb idleB (t := false) (by rw [fr_eval]; rfl) ?_
  refine wpG_skip glb idleB ?_
  refine wpG_seq glb idleB ?_
  refine wpG_region glb idleB ?_
  refine opsF_new glb (lensB2 _) rfl (by rfl) rfl (.cells #[] 43) (fun M => .slice (some ⟨M, 0, none⟩) 0 0) (run_bs0 (by decide)) fun g5 hg5 => ?_
  refine opsF_val glb idleB rfl (by rfl) rfl (x := .slice (some ⟨g5, 0, none⟩) 0 0) (y_assign rfl) ?_
  refine opsG_nil glb idleB ?_
  refine wpG_seq glb idleB ?_
  refine wpG_seq glb idleB ?_
  refine wpG_region glb idleB ?_
  refine opsF_val glb idleB rfl (by rfl) rfl (x := .int .i64 0) (y_assign rfl) ?_
  refine opsG_nil glb idleB ?_
  refine wpG_block glb idleB ?_
  refine wpG_loopN glb idleB (fun m a v => ∃ (dn rest : List T3) (v5 : Value) (τ : Nat → Value) (h' : PH), m = rest.length ∧ l = dn ++ rest ∧ a = fr 99 τ [(0, .slice p l.length c), (3, v5), (4, .int .i64 (dn.length : Nat))] [] ∧ h' = v ∧ RInv 43 h1 h' v5 dn) l.length ⟨[], l, _, _, _, rfl, rfl, fr_says _ ⟨rfl, rfl, rfl, trivial⟩, rfl, rinv_init hg5⟩ ?_
  rintro m _ _ ⟨dn, rest, v5, τ, h', rfl, htk, rfl, rfl, I⟩
  clear hg5 σ
  have hdn : dn.length + rest.length = l.length := by rw [htk, List.length_append]
  rcases rest with _ | ⟨t, ts⟩
  · refine wpG_seq glb idleB ?_
    refine wpG_seq glb idleB ?_
    refine wpG_region glb idleB ?_
    refine opsF_val glb idleB rfl (by rfl) rfl (x := .int .i64 (dn.length : Nat)) (y_move rfl) ?_
    refine opsF_val glb idleB rfl (by rfl) rfl (x := .slice p l.length c) (y_move rfl) ?_
    refine opsF_val glb idleB rfl (by rfl) rfl (x := .int .i64 (l.length : Nat)) (y_len_slice Try.underlying36 rfl) ?_
    refine opsF_val glb idleB rfl (by rfl) rfl (x := .bool false) (y_lss rfl rfl (by simp at hdn ⊢; omega)) ?_
    refine opsG_nil glb idleB ?_
    refine wpG_cond glb idleB (t := false) (by rw [fr_eval]; rfl) ?_
    refine wpG_exit glb idleB ?_
    refine wpG_seq glb idleB ?_
    rw [List.append_nil] at htk
    subst htk
    obtain ⟨p5, c5, rfl⟩ := I.own.shape
    have hRl := hR.ext (e1.trans I.ext)
    refine wpG_region glb idleB ?_
    refine opsF_val glb idleB rfl (by rfl) rfl (x := .slice p l.length c) (y_move rfl) ?_
    refine opsF_call glb idleB rfl (by rfl) rfl (run_call (args := #[.slice p l.length c]) rfl Try.func31 (by rfl) rfl (by simp only [List.map_toArray, List.map_cons, List.map_nil]; rfl)) (callsB (parse31 h' l p c hRl (by omega))) ?_
    intro r h2 hpost
    rcases hpost.cases with ⟨e2, ⟨row, v2, hp, rfl, hO2, hf2, hb2⟩ | ⟨pe, ee, hp, rfl⟩⟩
    · refine opsF_val glb idleB rfl (by rfl) rfl (x := .tuple #[v2, .int .i64 0, .int .i64 0]) (y_move rfl) ?_
      refine opsF_val glb idleB rfl (by rfl) rfl (x := v2) (y_extract rfl rfl) ?_
      refine opsF_val glb idleB rfl (by rfl) rfl (x := .int .i64 0) (y_extract rfl rfl) ?_
      refine opsF_val glb idleB rfl (by rfl) rfl (x := .int .i64 0) (y_extract rfl rfl) ?_
      refine opsF_val glb idleB rfl (by rfl) rfl (x := v2) (y_assign rfl) ?_
      refine opsF_val glb idleB rfl (by rfl) rfl (x := .int .i64 0) (y_assign rfl) ?_
      refine opsF_val glb idleB rfl (by rfl) rfl (x := .int .i64 0) (y_assign rfl) ?_
      refine opsG_nil glb idleB ?_
      refine wpG_seq glb idleB ?_
      refine wpG_region glb idleB ?_
      refine opsF_val glb idleB rfl (by rfl) rfl (x := .slice p5 l.length c5) (y_move rfl) ?_
      refine opsF_call glb idleB rfl (by rfl) rfl (run_call (args := #[.slice p5 l.length c5]) rfl Try.func32 (by rfl) rfl (by simp only [List.map_toArray, List.map_cons, List.map_nil]; rfl)) (callsB (parse32 h2 l p5 c5 (I.own.rsl.ext e2) (by omega))) ?_
      intro r h3 hpost
      obtain ⟨e3, hq⟩ := hpost.cases
      obtain ⟨v3, rfl, hO3⟩ : ∃ v3, r = .tuple #[v3, .int .i64 0, .int .i64 0] ∧ OwnK h3 84 3 v3 row.length (flat row) := by
        rcases hq with ⟨row', v3, hp', hr, hO3, _, _⟩ | ⟨_, _, hp', _⟩
        · rw [hp] at hp'
          cases hp'
          exact ⟨v3, hr, hO3⟩
        · rw [hp] at hp'; cases hp'
      obtain ⟨p2, c2, rfl⟩ := hO2.shape
      obtain ⟨p3, c3, rfl⟩ := hO3.shape
      refine opsF_val glb idleB rfl (by rfl) rfl (x := .tuple #[.slice p3 row.length c3, .int .i64 0, .int .i64 0]) (y_move rfl) ?_
      refine opsF_val glb idleB rfl (by rfl) rfl (x := .slice p3 row.length c3) (y_extract rfl rfl) ?_
      refine opsF_val glb idleB rfl (by rfl) rfl (x := .int .i64 0) (y_extract rfl rfl) ?_
      refine opsF_val glb idleB rfl (by rfl) rfl (x := .int .i64 0) (y_extract rfl rfl) ?_
      refine opsF_val glb idleB rfl (by rfl) rfl (x := .slice p3 row.length c3) (y_assign rfl) ?_
      refine opsF_val glb idleB rfl (by rfl) rfl (x := .int .i64 0) (y_assign rfl) ?_
      refine opsF_val glb idleB rfl (by rfl) rfl (x := .int .i64 0) (y_assign rfl) ?_
      refine opsG_nil glb idleB ?_
      refine wpG_seq glb idleB ?_
      refine wpG_region glb idleB ?_
      refine opsF_val glb idleB rfl (by rfl) rfl (x := .int .i64 0) (y_move rfl) ?_
      refine opsF_val glb idleB rfl (by rfl) rfl (x := .int .i64 0) (y_move rfl) ?_
      refine opsF_val glb idleB rfl (by rfl) rfl (x := .bool true) (y_eql (.inr rfl) rfl rfl (rfl)) ?_
      refine opsF_val glb idleB rfl (by rfl) rfl (x := .bool true) (y_move rfl) ?_
      refine opsF_val glb idleB rfl (by rfl) rfl (x := .int .i64 0) (y_move rfl) ?_
      refine opsF_val glb idleB rfl (by rfl) rfl (x := .int .i64 0) (y_move rfl) ?_
      refine opsF_val glb idleB rfl (by rfl) rfl (x := .bool true) (y_eql (.inl rfl) rfl rfl (rfl)) ?_
      refine opsF_val glb idleB rfl (by rfl) rfl (x := .bool true) (y_pick (t := true) rfl rfl) ?_
      refine opsF_val glb idleB rfl (by rfl) rfl (x := .bool true) (y_move rfl) ?_
      refine opsF_val glb idleB rfl (by rfl) rfl (x := .slice p2 row.length c2) (y_move rfl) ?_
      refine opsF_call glb idleB rfl (by rfl) rfl (run_call (args := #[.slice p2 row.length c2]) rfl Try.func34 (by rfl) rfl (by simp only [List.map_toArray, List.map_cons, List.map_nil]; rfl)) (callsB (theirs34 h3 row p2 c2 (hO2.rsl.ext e3) (by omega))) ?_
      intro v4 h4 I4
      obtain ⟨p4, c4, rfl⟩ := I4.own.shape
      refine opsF_val glb idleB rfl (by rfl) rfl (x := .slice p3 row.length c3) (y_move rfl) ?_
      refine opsF_call glb idleB rfl (by rfl) rfl (run_call (args := #[.slice p4 row.length c4, .slice p3 row.length c3, .bool true]) rfl Try.func33 (by rfl) rfl (by simp only [List.map_toArray, List.map_cons, List.map_nil]; rfl)) (callsB (same33 h4 row p4 p3 c4 c3 I4.own.rsl (hO3.rsl.ext I4.ext) (by omega))) ?_
      rintro _ h6 ⟨rfl, hv⟩
      obtain rfl := hv.symm
      refine opsF_val glb idleB rfl (by rfl) rfl (x := .bool true) (y_pick (t := true) rfl rfl) ?_
      refine opsF_val glb idleB rfl (by rfl) rfl (x := .bool true) (y_assign rfl) ?_
      refine opsG_nil glb idleB ?_
      refine wpG_ret glb idleB ?_
      exact ⟨.inr rfl, rfl, _, resultsC_tmp (by rfl) _, fun u hu τ d => by rw [fr_ret (by decide) rfl]; exact hP u (grew_of_mine hu ((((e1.trans I.ext).trans e2).trans e3).trans I4.ext)) τ d⟩
    · refine opsF_val glb idleB rfl (by rfl) rfl (x := .tuple #[.slice none 0 0, .int .i64 pe, .int .i64 ee]) (y_move rfl) ?_
      refine opsF_val glb idleB rfl (by rfl) rfl (x := .slice none 0 0) (y_extract rfl rfl) ?_
      refine opsF_val glb idleB rfl (by rfl) rfl (x := .int .i64 pe) (y_extract rfl rfl) ?_
      refine opsF_val glb idleB rfl (by rfl) rfl (x := .int .i64 ee) (y_extract rfl rfl) ?_
      refine opsF_val glb idleB rfl (by rfl) rfl (x := .slice none 0 0) (y_assign rfl) ?_
      refine opsF_val glb idleB rfl (by rfl) rfl (x := .int .i64 pe) (y_assign rfl) ?_
      refine opsF_val glb idleB rfl (by rfl) rfl (x := .int .i64 ee) (y_assign rfl) ?_
      refine opsG_nil glb idleB ?_
      refine wpG_seq glb idleB ?_
      refine wpG_region glb idleB ?_
      refine opsF_val glb idleB rfl (by rfl) rfl (x := .slice p5 l.length c5) (y_move rfl) ?_
      refine opsF_call glb idleB rfl (by rfl) rfl (run_call (args := #[.slice p5 l.length c5]) rfl Try.func32 (by rfl) rfl (by simp only [List.map_toArray, List.map_cons, List.map_nil]; rfl)) (callsB (parse32 h2 l p5 c5 (I.own.rsl.ext e2) (by omega))) ?_
      intro r h3 hpost
      obtain ⟨e3, hq⟩ := hpost.cases
      obtain rfl : r = .tuple #[.slice none 0 0, .int .i64 pe, .int .i64 ee] := by
        rcases hq with ⟨row', v3, hp', _⟩ | ⟨_, _, hp', hr⟩
        · rw [hp] at hp'; cases hp'
        · rw [hp] at hp'
          cases hp'
          exact hr
      refine opsF_val glb idleB rfl (by rfl) rfl (x := .tuple #[.slice none 0 0, .int .i64 pe, .int .i64 ee]) (y_move rfl) ?_
      refine opsF_val glb idleB rfl (by rfl) rfl (x := .slice none 0 0) (y_extract rfl rfl) ?_
      refine opsF_val glb idleB rfl (by rfl) rfl (x := .int .i64 pe) (y_extract rfl rfl) ?_
      refine opsF_val glb idleB rfl (by rfl) rfl (x := .int .i64 ee) (y_extract rfl rfl) ?_
      refine opsF_val glb idleB rfl (by rfl) rfl (x := .slice none 0 0) (y_assign rfl) ?_
      refine opsF_val glb idleB rfl (by rfl) rfl (x := .int .i64 pe) (y_assign rfl) ?_
      refine opsF_val glb idleB rfl (by rfl) rfl (x := .int .i64 ee) (y_assign rfl) ?_
      refine opsG_nil glb idleB ?_
      refine wpG_seq glb idleB ?_
      refine wpG_region glb idleB ?_
      refine opsF_val glb idleB rfl (by rfl) rfl (x := .int .i64 ee) (y_move rfl) ?_
      refine opsF_val glb idleB rfl (by rfl) rfl (x := .int .i64 ee) (y_move rfl) ?_
      refine opsF_val glb idleB rfl (by rfl) rfl (x := .bool true) (y_eql (.inr rfl) rfl rfl (by simp)) ?_
      refine opsF_val glb idleB rfl (by rfl) rfl (x := .bool true) (y_move rfl) ?_
      refine opsF_val glb idleB rfl (by rfl) rfl (x := .int .i64 pe) (y_move rfl) ?_
      refine opsF_val glb idleB rfl (by rfl) rfl (x := .int .i64 pe) (y_move rfl) ?_
      refine opsF_val glb idleB rfl (by rfl) rfl (x := .bool true) (y_eql (.inl rfl) rfl rfl (by simp)) ?_
      refine opsF_val glb idleB rfl (by rfl) rfl (x := .bool true) (y_pick (t := true) rfl rfl) ?_
      refine opsF_val glb idleB rfl (by rfl) rfl (x := .bool true) (y_move rfl) ?_
      refine opsF_val glb idleB rfl (by rfl) rfl (x := .slice none 0 0) (y_move rfl) ?_
      refine opsF_call glb idleB rfl (by rfl) rfl (run_call (args := #[.slice none ([] : List T3).length 0]) rfl Try.func34 (by rfl) rfl (by simp only [List.map_toArray, List.map_cons, List.map_nil]; rfl)) (callsB (theirs34 h3 [] none 0 (rsl_nil h3) (by decide))) ?_
      intro v4 h4 I4
      obtain ⟨p4, c4, rfl⟩ := I4.own.shape
      refine opsF_val glb idleB rfl (by rfl) rfl (x := .slice none 0 0) (y_move rfl) ?_
      refine opsF_call glb idleB rfl (by rfl) rfl (run_call (args := #[.slice p4 ([] : List T3).length c4, .slice none ([] : List T3).length 0, .bool true]) rfl Try.func33 (by rfl) rfl (by simp only [List.map_toArray, List.map_cons, List.map_nil]; rfl)) (callsB (same33 h4 [] p4 none c4 0 I4.own.rsl (rsl_nil h4) (by decide))) ?_
      rintro _ h6 ⟨rfl, hv⟩
      obtain rfl := hv.symm
      refine opsF_val glb idleB rfl (by rfl) rfl (x := .bool true) (y_pick (t := true) rfl rfl) ?_
      refine opsF_val glb idleB rfl (by rfl) rfl (x := .bool true) (y_assign rfl) ?_
      refine opsG_nil glb idleB ?_
      refine wpG_ret glb idleB ?_
      exact ⟨.inr rfl, rfl, _, resultsC_tmp (by rfl) _, fun u hu τ d => by rw [fr_ret (by decide) rfl]; exact hP u (grew_of_mine hu ((((e1.trans I.ext).trans e2).trans e3).trans I4.ext)) τ d⟩
  · simp only [List.length_cons] at hdn
    obtain ⟨B, o, rfl, hS0⟩ := hR.pos (by omega)
    rw [show flat l = flat (dn ++ t :: ts) by rw [htk]] at hS0
    have hS := hS0.mono (e1.trans I.ext)
    obtain ⟨hga, hgb, hgs⟩ := flat_get dn ts t
    refine wpG_seq glb idleB ?_
    refine wpG_seq glb idleB ?_
    refine wpG_region glb idleB ?_
    refine opsF_val glb idleB rfl (by rfl) rfl (x := .int .i64 (dn.length : Nat)) (y_move rfl) ?_
    refine opsF_val glb idleB rfl (by rfl) rfl (x := .slice (some ⟨B, o, none⟩) l.length c) (y_move rfl) ?_
    refine opsF_val glb idleB rfl (by rfl) rfl (x := .int .i64 (l.length : Nat)) (y_len_slice Try.underlying36 rfl) ?_
    refine opsF_val glb idleB rfl (by rfl) rfl (x := .bool true) (y_lss rfl rfl (by simp at hdn ⊢; omega)) ?_
    refine opsG_nil glb idleB ?_
    refine wpG_cond glb idleB (t := true) (by rw [fr_eval]; rfl) ?_
    refine wpG_skip glb idleB ?_
    refine wpG_seq glb idleB ?_
    refine wpG_block glb idleB ?_
    refine wpG_seq glb idleB ?_
    refine wpG_seq glb idleB ?_
    refine wpG_region glb idleB ?_
    refine opsF_val glb idleB rfl (by rfl) rfl (x := .slice (some ⟨B, o, none⟩) l.length c) (y_move rfl) ?_
    refine opsF_val glb idleB rfl (by rfl) rfl (x := .int .i64 (dn.length : Nat)) (y_move rfl) ?_
    refine opsF_val glb idleB rfl (by rfl) rfl (x := .pointer (some ⟨B, o + dn.length * 3, none⟩)) (y_ix ty36 rfl rfl (by omega)) ?_
    refine opsF_val glb idleB rfl (by rfl) rfl (x := .pointer (some ⟨B, o + dn.length * 3 + 0, none⟩)) (y_fld (by decide) rfl) ?_
    refine opsF_rd glb (lensB2 _) rfl (by rfl) rfl (x := .int .i64 t.a) (rd_cellq (by decide) hS hga (by omega) rfl) ?_
    refine opsF_val glb idleB rfl (by rfl) rfl (x := .bool (decide ((t.a : Int) < 1))) (y_lss rfl rfl rfl) ?_
    cases hc1 : decide ((t.a : Int) < 1)
    · refine opsF_val glb idleB rfl (by rfl) rfl (x := .bool false) (y_move rfl) ?_
      refine opsF_val glb idleB rfl (by rfl) rfl (x := .slice (some ⟨B, o, none⟩) l.length c) (y_move rfl) ?_
      refine opsF_val glb idleB rfl (by rfl) rfl (x := .int .i64 (dn.length : Nat)) (y_move rfl) ?_
      refine opsF_val glb idleB rfl (by rfl) rfl (x := .pointer (some ⟨B, o + dn.length * 3, none⟩)) (y_ix ty36 rfl rfl (by omega)) ?_
      refine opsF_val glb idleB rfl (by rfl) rfl (x := .pointer (some ⟨B, o + dn.length * 3 + 0, none⟩)) (y_fld (by decide) rfl) ?_
      refine opsF_rd glb (lensB2 _) rfl (by rfl) rfl (x := .int .i64 t.a) (rd_cellq (by decide) hS hga (by omega) rfl) ?_
      refine opsF_val glb idleB rfl (by rfl) rfl (x := .bool (decide ((3 : Int) < t.a))) (y_gtr rfl rfl rfl) ?_
      cases hc2 : decide ((3 : Int) < t.a)
      · refine opsF_val glb idleB rfl (by rfl) rfl (x := .bool false) (y_pick (t := false) rfl rfl) ?_
        refine opsF_val glb idleB rfl (by rfl) rfl (x := .bool false) (y_move rfl) ?_
        refine opsF_val glb idleB rfl (by rfl) rfl (x := .slice (some ⟨B, o, none⟩) l.length c) (y_move rfl) ?_
        refine opsF_val glb idleB rfl (by rfl) rfl (x := .int .i64 (dn.length : Nat)) (y_move rfl) ?_
        refine opsF_val glb idleB rfl (by rfl) rfl (x := .pointer (some ⟨B, o + dn.length * 3, none⟩)) (y_ix ty36 rfl rfl (by omega)) ?_
        refine opsF_val glb idleB rfl (by rfl) rfl (x := .pointer (some ⟨B, o + dn.length * 3 + 0, none⟩)) (y_fld (by decide) rfl) ?_
        refine opsF_rd glb (lensB2 _) rfl (by rfl) rfl (x := .int .i64 t.a) (rd_cellq (by decide) hS hga (by omega) rfl) ?_
        refine opsF_val glb idleB rfl (by rfl) rfl (x := .bool ((t.a : Int) == 1)) (y_eql (.inl rfl) rfl rfl rfl) ?_
        cases hc3 : ((t.a : Int) == 1)
        · refine opsF_val glb idleB rfl (by rfl) rfl (x := .bool false) (y_move rfl) ?_
          refine opsF_skip glb idleB rfl (by rfl) rfl ?_
          refine opsF_skip glb idleB rfl (by rfl) rfl ?_
          refine opsF_skip glb idleB rfl (by rfl) rfl ?_
          refine opsF_skip glb idleB rfl (by rfl) rfl ?_
          refine opsF_skip glb idleB rfl (by rfl) rfl ?_
          refine opsF_skip glb idleB rfl (by rfl) rfl ?_
          refine opsF_val glb idleB rfl (by rfl) rfl (x := .bool false) (y_pick (t := false) rfl rfl) ?_
          refine opsF_val glb idleB rfl (by rfl) rfl (x := .bool false) (y_pick (t := false) rfl rfl) ?_
          refine opsF_val glb idleB rfl (by rfl) rfl (x := .bool false) (y_move rfl) ?_
          refine opsF_val glb idleB rfl (by rfl) rfl (x := .slice (some ⟨B, o, none⟩) l.length c) (y_move rfl) ?_
          refine opsF_val glb idleB rfl (by rfl) rfl (x := .int .i64 (dn.length : Nat)) (y_move rfl) ?_
          refine opsF_val glb idleB rfl (by rfl) rfl (x := .pointer (some ⟨B, o + dn.length * 3, none⟩)) (y_ix ty36 rfl rfl (by omega)) ?_
          refine opsF_val glb idleB rfl (by rfl) rfl (x := .pointer (some ⟨B, o + dn.length * 3 + 2, none⟩)) (y_fld (by decide) rfl) ?_
          refine opsF_rd glb (lensB2 _) rfl (by rfl) rfl (x := .string t.s) (rd_cellq (by decide) hS hgs (by omega) rfl) ?_
          refine opsF_val glb idleB rfl (by rfl) rfl (x := .int .i64 t.s.size) (y_len_string rfl) ?_
          refine opsF_val glb idleB rfl (by rfl) rfl (x := .bool (decide ((100 : Int) < t.s.size))) (y_gtr rfl rfl rfl) ?_
          cases hc4 : decide ((100 : Int) < t.s.size)
          · refine opsF_val glb idleB rfl (by rfl) rfl (x := .bool false) (y_pick (t := false) rfl rfl) ?_
            refine opsG_nil glb idleB ?_
            refine wpG_cond glb idleB (t := false) (by rw [fr_eval]; rfl) ?_
            refine wpG_skip glb idleB ?_
            refine wpG_region glb idleB ?_
            refine opsF_val glb idleB rfl (by rfl) rfl (x := v5) (y_move rfl) ?_
            refine opsF_val glb idleB rfl (by rfl) rfl (x := .slice (some ⟨B, o, none⟩) l.length c) (y_move rfl) ?_
            refine opsF_val glb idleB rfl (by rfl) rfl (x := .int .i64 (dn.length : Nat)) (y_move rfl) ?_
            refine opsF_val glb idleB rfl (by rfl) rfl (x := .pointer (some ⟨B, o + dn.length * 3, none⟩)) (y_ix ty36 rfl rfl (by omega)) ?_
            refine opsF_rd glb (lensB2 _) rfl (by rfl) rfl (x := .agg #[.int .i64 t.a, .int .i64 t.b, .string t.s]) (rd_threeq (by decide) hS hga hgb hgs (by omega) rfl) ?_
            refine opsF_new glb (lensB2 _) rfl (by rfl) rfl (.cells #[.int .i64 t.a, .int .i64 t.b, .string t.s] 43) (fun M => .slice (some ⟨M, 0, none⟩) 1 1) (run_bs3 (by decide) rfl) fun M hM => ?_
            have I3 := I.grow (ext_put (o := .cells #[.int .i64 t.a, .int .i64 t.b, .string t.s] 43) hM)
            have hSM := slAt_new h' M #[.int .i64 t.a, .int .i64 t.b, .string t.s] 43
            refine opsB_append glb ty42 (c := 1) rfl (by rfl) rfl rfl rfl rfl I3.own hSM rfl (by decide) (by simp [Value.oneCell']) (by omega) fun v5' h4 hO hold hb => ?_
            have I4 := I3.add (x := t) hO hold hb
            refine opsF_val glb idleB rfl (by rfl) rfl (x := v5') (y_assign rfl) ?_
            refine opsG_nil glb idleB ?_
            refine wpG_region glb idleB ?_
            refine opsF_val glb idleB rfl (by rfl) rfl (x := .int .i64 (dn.length : Nat)) (y_move rfl) ?_
            refine opsF_val glb idleB rfl (by rfl) rfl (x := .int .i64 (dn.length + 1 : Nat)) (y_add rfl rfl (by rw [IntKind.wrap_i64]; omega)) ?_
            refine opsF_val glb idleB rfl (by rfl) rfl (x := .int .i64 (dn.length + 1 : Nat)) (y_assign rfl) ?_
            refine opsG_nil glb idleB ?_
            exact ⟨ts.length, by rw [List.length_cons]; omega, dn ++ [t], ts, _, _, _, rfl, by rw [htk]; simp, fr_says _ ⟨rfl, rfl, by rw [List.length_append]; rfl, trivial⟩, rfl, I4⟩
          · refine opsF_val glb idleB rfl (by rfl) rfl (x := .bool true) (y_pick (t := false) rfl rfl) ?_
            refine opsG_nil glb idleB ?_
            refine wpG_cond glb idleB (t := true) (by rw [fr_eval]; rfl) ?_
            refine wpG_seq glb idleB ?_
            refine wpG_region glb idleB ?_
            refine opsF_call glb idleB rfl (by rfl) rfl (run_call rfl Try.func30 (by rfl) rfl (by simp)) (shown30 _) ?_
            rintro _ h5 ⟨e5, rfl⟩
            refine opsF_val glb idleB rfl (by rfl) rfl (x := .bool true) (y_assign rfl) ?_
            refine opsG_nil glb idleB ?_
            refine wpG_ret glb idleB ?_
            exact ⟨.inr rfl, rfl, _, resultsC_tmp (by rfl) _, fun u hu τ d => by rw [fr_ret (by decide) rfl]; exact hP u (grew_of_mine hu ((e1.trans I.ext).trans e5)) τ d⟩
        · refine opsF_val glb idleB rfl (by rfl) rfl (x := .bool true) (y_move rfl) ?_
          refine opsF_val glb idleB rfl (by rfl) rfl (x := .slice (some ⟨B, o, none⟩) l.length c) (y_move rfl) ?_
          refine opsF_val glb idleB rfl (by rfl) rfl (x := .int .i64 (dn.length : Nat)) (y_move rfl) ?_
          refine opsF_val glb idleB rfl (by rfl) rfl (x := .pointer (some ⟨B, o + dn.length * 3, none⟩)) (y_ix ty36 rfl rfl (by omega)) ?_
          refine opsF_val glb idleB rfl (by rfl) rfl (x := .pointer (some ⟨B, o + dn.length * 3 + 2, none⟩)) (y_fld (by decide) rfl) ?_
          refine opsF_rd glb (lensB2 _) rfl (by rfl) rfl (x := .string t.s) (rd_cellq (by decide) hS hgs (by omega) rfl) ?_
          refine opsF_val glb idleB rfl (by rfl) rfl (x := .bool (decide (t.s = { data := #[] }))) (y_eql_str rfl rfl rfl) ?_
          cases hc4 : decide (t.s = { data := #[] })
          · refine opsF_val glb idleB rfl (by rfl) rfl (x := .bool false) (y_pick (t := true) rfl rfl) ?_
            refine opsF_val glb idleB rfl (by rfl) rfl (x := .bool false) (y_pick (t := false) rfl rfl) ?_
            refine opsF_val glb idleB rfl (by rfl) rfl (x := .bool false) (y_move rfl) ?_
            refine opsF_val glb idleB rfl (by rfl) rfl (x := .slice (some ⟨B, o, none⟩) l.length c) (y_move rfl) ?_
            refine opsF_val glb idleB rfl (by rfl) rfl (x := .int .i64 (dn.length : Nat)) (y_move rfl) ?_
            refine opsF_val glb idleB rfl (by rfl) rfl (x := .pointer (some ⟨B, o + dn.length * 3, none⟩)) (y_ix ty36 rfl rfl (by omega)) ?_
            refine opsF_val glb idleB rfl (by rfl) rfl (x := .pointer (some ⟨B, o + dn.length * 3 + 2, none⟩)) (y_fld (by decide) rfl) ?_
            refine opsF_rd glb (lensB2 _) rfl (by rfl) rfl (x := .string t.s) (rd_cellq (by decide) hS hgs (by omega) rfl) ?_
            refine opsF_val glb idleB rfl (by rfl) rfl (x := .int .i64 t.s.size) (y_len_string rfl) ?_
            refine opsF_val glb idleB rfl (by rfl) rfl (x := .bool (decide ((100 : Int) < t.s.size))) (y_gtr rfl rfl rfl) ?_
            cases hc5 : decide ((100 : Int) < t.s.size)
            · refine opsF_val glb idleB rfl (by rfl) rfl (x := .bool false) (y_pick (t := false) rfl rfl) ?_
              refine opsG_nil glb idleB ?_
              refine wpG_cond glb idleB (t := false) (by rw [fr_eval]; rfl) ?_
              refine wpG_skip glb idleB ?_
              refine wpG_region glb idleB ?_
              refine opsF_val glb idleB rfl (by rfl) rfl (x := v5) (y_move rfl) ?_
              refine opsF_val glb idleB rfl (by rfl) rfl (x := .slice (some ⟨B, o, none⟩) l.length c) (y_move rfl) ?_
              refine opsF_val glb idleB rfl (by rfl) rfl (x := .int .i64 (dn.length : Nat)) (y_move rfl) ?_
              refine opsF_val glb idleB rfl (by rfl) rfl (x := .pointer (some ⟨B, o + dn.length * 3, none⟩)) (y_ix ty36 rfl rfl (by omega)) ?_
              refine opsF_rd glb (lensB2 _) rfl (by rfl) rfl (x := .agg #[.int .i64 t.a, .int .i64 t.b, .string t.s]) (rd_threeq (by decide) hS hga hgb hgs (by omega) rfl) ?_
              refine opsF_new glb (lensB2 _) rfl (by rfl) rfl (.cells #[.int .i64 t.a, .int .i64 t.b, .string t.s] 43) (fun M => .slice (some ⟨M, 0, none⟩) 1 1) (run_bs3 (by decide) rfl) fun M hM => ?_
              have I3 := I.grow (ext_put (o := .cells #[.int .i64 t.a, .int .i64 t.b, .string t.s] 43) hM)
              have hSM := slAt_new h' M #[.int .i64 t.a, .int .i64 t.b, .string t.s] 43
              refine opsB_append glb ty42 (c := 1) rfl (by rfl) rfl rfl rfl rfl I3.own hSM rfl (by decide) (by simp [Value.oneCell']) (by omega) fun v5' h4 hO hold hb => ?_
              have I4 := I3.add (x := t) hO hold hb
              refine opsF_val glb idleB rfl (by rfl) rfl (x := v5') (y_assign rfl) ?_
              refine opsG_nil glb idleB ?_
              refine wpG_region glb idleB ?_
              refine opsF_val glb idleB rfl (by rfl) rfl (x := .int .i64 (dn.length : Nat)) (y_move rfl) ?_
              refine opsF_val glb idleB rfl (by rfl) rfl (x := .int .i64 (dn.length + 1 : Nat)) (y_add rfl rfl (by rw [IntKind.wrap_i64]; omega)) ?_
              refine opsF_val glb idleB rfl (by rfl) rfl (x := .int .i64 (dn.length + 1 : Nat)) (y_assign rfl) ?_
              refine opsG_nil glb idleB ?_
              exact ⟨ts.length, by rw [List.length_cons]; omega, dn ++ [t], ts, _, _, _, rfl, by rw [htk]; simp, fr_says _ ⟨rfl, rfl, by rw [List.length_append]; rfl, trivial⟩, rfl, I4⟩
            · refine opsF_val glb idleB rfl (by rfl) rfl (x := .bool true) (y_pick (t := false) rfl rfl) ?_
              refine opsG_nil glb idleB ?_
              refine wpG_cond glb idleB (t := true) (by rw [fr_eval]; rfl) ?_
              refine wpG_seq glb idleB ?_
              refine wpG_region glb idleB ?_
              refine opsF_call glb idleB rfl (by rfl) rfl (run_call rfl Try.func30 (by rfl) rfl (by simp)) (shown30 _) ?_
              rintro _ h5 ⟨e5, rfl⟩
              refine opsF_val glb idleB rfl (by rfl) rfl (x := .bool true) (y_assign rfl) ?_
              refine opsG_nil glb idleB ?_
              refine wpG_ret glb idleB ?_
              exact ⟨.inr rfl, rfl, _, resultsC_tmp (by rfl) _, fun u hu τ d => by rw [fr_ret (by decide) rfl]; exact hP u (grew_of_mine hu ((e1.trans I.ext).trans e5)) τ d⟩
          · refine opsF_val glb idleB rfl (by rfl) rfl (x := .bool true) (y_pick (t := true) rfl rfl) ?_
            refine opsF_val glb idleB rfl (by rfl) rfl (x := .bool true) (y_pick (t := false) rfl rfl) ?_
            refine opsF_val glb idleB rfl (by rfl) rfl (x := .bool true) (y_move rfl) ?_
            refine opsF_skip glb idleB rfl (by rfl) rfl ?_
            refine opsF_skip glb idleB rfl (by rfl) rfl ?_
            refine opsF_skip glb idleB rfl (by rfl) rfl ?_
            refine opsF_skip glb idleB rfl (by rfl) rfl ?_
            refine opsF_skip glb idleB rfl (by rfl) rfl ?_
            refine opsF_skip glb idleB rfl (by rfl) rfl ?_
            refine opsF_skip glb idleB rfl (by rfl) rfl ?_
            refine opsF_val glb idleB rfl (by rfl) rfl (x := .bool true) (y_pick (t := true) rfl rfl) ?_
            refine opsG_nil glb idleB ?_
            refine wpG_cond glb idleB (t := true) (by rw [fr_eval]; rfl) ?_
            refine wpG_seq glb idleB ?_
            refine wpG_region glb idleB ?_
            refine opsF_call glb idleB rfl (by rfl) rfl (run_call rfl Try.func30 (by rfl) rfl (by simp)) (shown30 _) ?_
            rintro _ h5 ⟨e5, rfl⟩
            refine opsF_val glb idleB rfl (by rfl) rfl (x := .bool true) (y_assign rfl) ?_
            refine opsG_nil glb idleB ?_
            refine wpG_ret glb idleB ?_
            exact ⟨.inr rfl, rfl, _, resultsC_tmp (by rfl) _, fun u hu τ d => by rw [fr_ret (by decide) rfl]; exact hP u (grew_of_mine hu ((e1.trans I.ext).trans e5)) τ d⟩
      · refine opsF_val glb idleB rfl (by rfl) rfl (x := .bool true) (y_pick (t := false) rfl rfl) ?_
        refine opsF_val glb idleB rfl (by rfl) rfl (x := .bool true) (y_move rfl) ?_
        refine opsF_skip glb idleB rfl (by rfl) rfl ?_
        refine opsF_skip glb idleB rfl (by rfl) rfl ?_
        refine opsF_skip glb idleB rfl (by rfl) rfl ?_
        refine opsF_skip glb idleB rfl (by rfl) rfl ?_
        refine opsF_skip glb idleB rfl (by rfl) rfl ?_
        refine opsF_skip glb idleB rfl (by rfl) rfl ?_
        refine opsF_skip glb idleB rfl (by rfl) rfl ?_
        refine opsF_skip glb idleB rfl (by rfl) rfl ?_
        refine opsF_skip glb idleB rfl (by rfl) rfl ?_
        refine opsF_skip glb idleB rfl (by rfl) rfl ?_
        refine opsF_skip glb idleB rfl (by rfl) rfl ?_
        refine opsF_skip glb idleB rfl (by rfl) rfl ?_
        refine opsF_skip glb idleB rfl (by rfl) rfl ?_
        refine opsF_skip glb idleB rfl (by rfl) rfl ?_
        refine opsF_val glb idleB rfl (by rfl) rfl (x := .bool true) (y_pick (t := true) rfl rfl) ?_
        refine opsF_val glb idleB rfl (by rfl) rfl (x := .bool true) (y_move rfl) ?_
        refine opsF_skip glb idleB rfl (by rfl) rfl ?_
        refine opsF_skip glb idleB rfl (by rfl) rfl ?_
        refine opsF_skip glb idleB rfl (by rfl) rfl ?_
        refine opsF_skip glb idleB rfl (by rfl) rfl ?_
        refine opsF_skip glb idleB rfl (by rfl) rfl ?_
        refine opsF_skip glb idleB rfl (by rfl) rfl ?_
        refine opsF_skip glb idleB rfl (by rfl) rfl ?_
        refine opsF_val glb idleB rfl (by rfl) rfl (x := .bool true) (y_pick (t := true) rfl rfl) ?_
        refine opsG_nil glb idleB ?_
        refine wpG_cond glb idleB (t := true) (by rw [fr_eval]; rfl) ?_
        refine wpG_seq glb idleB ?_
        refine wpG_region glb idleB ?_
        refine opsF_call glb idleB rfl (by rfl) rfl (run_call rfl Try.func30 (by rfl) rfl (by simp)) (shown30 _) ?_
        rintro _ h5 ⟨e5, rfl⟩
        refine opsF_val glb idleB rfl (by rfl) rfl (x := .bool true) (y_assign rfl) ?_
        refine opsG_nil glb idleB ?_
        refine wpG_ret glb idleB ?_
        exact ⟨.inr rfl, rfl, _, resultsC_tmp (by rfl) _, fun u hu τ d => by rw [fr_ret (by decide) rfl]; exact hP u (grew_of_mine hu ((e1.trans I.ext).trans e5)) τ d⟩
    · refine opsF_val glb idleB rfl (by rfl) rfl (x := .bool true) (y_move rfl) ?_
      refine opsF_skip glb idleB rfl (by rfl) rfl ?_
      refine opsF_skip glb idleB rfl (by rfl) rfl ?_
      refine opsF_skip glb idleB rfl (by rfl) rfl ?_
      refine opsF_skip glb idleB rfl (by rfl) rfl ?_
      refine opsF_skip glb idleB rfl (by rfl) rfl ?_
      refine opsF_skip glb idleB rfl (by rfl) rfl ?_
      refine opsF_val glb idleB rfl (by rfl) rfl (x := .bool true) (y_pick (t := true) rfl rfl) ?_
      refine opsF_val glb idleB rfl (by rfl) rfl (x := .bool true) (y_move rfl) ?_
      refine opsF_skip glb idleB rfl (by rfl) rfl ?_
      refine opsF_skip glb idleB rfl (by rfl) rfl ?_
      refine opsF_skip glb idleB rfl (by rfl) rfl ?_
      refine opsF_skip glb idleB rfl (by rfl) rfl ?_
      refine opsF_skip glb idleB rfl (by rfl) rfl ?_
      refine opsF_skip glb idleB rfl (by rfl) rfl ?_
      refine opsF_skip glb idleB rfl (by rfl) rfl ?_
      refine opsF_skip glb idleB rfl (by rfl) rfl ?_
      refine opsF_skip glb idleB rfl (by rfl) rfl ?_
      refine opsF_skip glb idleB rfl (by rfl) rfl ?_
      refine opsF_skip glb idleB rfl (by rfl) rfl ?_
      refine opsF_skip glb idleB rfl (by rfl) rfl ?_
      refine opsF_skip glb idleB rfl (by rfl) rfl ?_
      refine opsF_skip glb idleB rfl (by rfl) rfl ?_
      refine opsF_val glb idleB rfl (by rfl) rfl (x := .bool true) (y_pick (t := true) rfl rfl) ?_
      refine opsF_val glb idleB rfl (by rfl) rfl (x := .bool true) (y_move rfl) ?_
      refine opsF_skip glb idleB rfl (by rfl) rfl ?_
      refine opsF_skip glb idleB rfl (by rfl) rfl ?_
      refine opsF_skip glb idleB rfl (by rfl) rfl ?_
      refine opsF_skip glb idleB rfl (by rfl) rfl ?_
      refine opsF_skip glb idleB rfl (by rfl) rfl ?_
      refine opsF_skip glb idleB rfl (by rfl) rfl ?_
      refine opsF_skip glb idleB rfl (by rfl) rfl ?_
      refine opsF_val glb idleB rfl (by rfl) rfl (x := .bool true) (y_pick (t := true) rfl rfl) ?_
      refine opsG_nil glb idleB ?_
      refine wpG_cond glb idleB (t := true) (by rw [fr_eval]; rfl) ?_
      refine wpG_seq glb idleB ?_
      refine wpG_region glb idleB ?_
      refine opsF_call glb idleB rfl (by rfl) rfl (run_call rfl Try.func30 (by rfl) rfl (by simp)) (shown30 _) ?_
      rintro _ h5 ⟨e5, rfl⟩
      refine opsF_val glb idleB rfl (by rfl) rfl (x := .bool true) (y_assign rfl) ?_
      refine opsG_nil glb idleB ?_
      refine wpG_ret glb idleB ?_
      exact ⟨.inr rfl, rfl, _, resultsC_tmp (by rfl) _, fun u hu τ d => by rw [fr_ret (by decide) rfl]; exact hP u (grew_of_mine hu ((e1.trans I.ext).trans e5)) τ d⟩
end surfaceParses
end Go.Proofs.Ytfaadjmglboaoaa
