/-
  cornicelaw06.shown.
-/
import Derived.Test.YtfaadjmglboaoaaLine
namespace Go.Proofs.Ytfaadjmglboaoaa
open Go.Conc Go.RowKit

theorem Grew.refl (v : World) : Grew v v := ⟨fun _ _ => rfl, Nat.le_refl _, rfl, rfl⟩
theorem Grew.trans {v u w : World} (a : Grew v u) (b : Grew u w) : Grew v w :=
  ⟨fun r hr => (b.old r (Nat.lt_of_lt_of_le hr a.size)).trans (a.old r hr), Nat.le_trans a.size b.size, b.os.trans a.os, b.output.trans a.output⟩
/-- Nothing owned: all that was there is as it was. -/
theorem grew_of_kept {v u : World} {h' : PH} (k : Kept noneOwn v u h') : Grew v u := ⟨fun r hr => (k.others r hr rfl).2, k.size, k.os, k.output⟩
/-- What is owned is not turned: all that was there is as it was. -/
theorem grew_of_ext {v u : World} {h h' : PH} (hh : ∀ r o, h r = some o → v.heap[r]? = some o) (k : Kept h v u h') (e : Ext h h') : Grew v u := by
  refine ⟨fun r hr => ?_, k.size, k.os, k.output⟩
  cases hx : h r with
  | none => exact (k.others r hr hx).2
  | some o => rw [hh r o hx]; exact k.has r o (e r o hx)

/-- A contract that owns nothing, beside leavers. -/
theorem callsA_pure {f : FuncId} {args : Array Value} {v : World} {Post : Value → PH → Prop} (hc : CallsG Try.prog (GB true) f args noneOwn Post) :
    CallsG Try.prog (GL0 Try.prog) f args (.a v) (fun r v' => ∃ u h', v' = .a u ∧ Post r h' ∧ Grew v u) :=
  (callsA_own (fun _ _ h => by cases h) (fun _ _ => rfl) hc).mono fun r v' ⟨u, h', h1, h2, h3⟩ => ⟨u, h', h1, h2, grew_of_kept h3⟩

theorem isRun_of {f : Int → Bool} {s : ByteArray} {n : Nat} (h1 : n ≤ s.size) (h2 : ∀ j, j < n → f (s[j]!.toNat : Int) = true) (h3 : n < s.size → f (s[n]!.toNat : Int) = false) : IsRun f s n :=
  ⟨h1, fun j hj hn => by rw [← getI hj]; exact h2 j hn, fun hn => by rw [← getI hn]; exact h3 hn⟩

/-- "a" is one word. -/
def textA : ByteArray := { data := #[97] }
theorem items_a : Items textA 0 [item 1 0 (textA.extract 0 (0 + 1)) 0] := by
  refine .item (j := 0) (n := 1) (by decide) (by decide) (fun k hk => by omega) (by decide +kernel) (isRun_of (by decide +kernel) (by decide +kernel) (by decide +kernel)) (by decide) (.done (by decide))

theorem lex_a (v : World) : CallsG Try.prog (GL0 Try.prog) 29 #[.string textA] (.a v) (fun r v' => ∃ u g cap, v' = .a u ∧ Grew v u ∧ r = .tuple #[.slice (some ⟨g, 0, none⟩) 1 cap, .int .i64 0, .int .i64 0]) := by
  refine (lex_l v textA [⟨1, 0, textA.extract 0 (0 + 1), 0⟩] items_a (by decide) (by decide)).mono ?_
  rintro r v' ⟨u, h1, h2, h3⟩
  unfold LexRes at h3
  rw [if_pos (by rfl)] at h3
  obtain ⟨x, rfl, ⟨h4, ⟨_, h5⟩ | ⟨g, cap, cur, rfl, _⟩⟩, _⟩ := h3
  · exact absurd h5 (by decide)
  · exact ⟨u, g, cap, h1, h2, rfl⟩

theorem word97 : wordOf 97 = true := by decide +kernel

set_option maxHeartbeats 1000000 in
theorem shown27 (v : World) : CallsG Try.prog (GL0 Try.prog) 27 #[] (.a v) (fun r v' => ∃ u, v' = .a u ∧ Grew v u ∧ r = .bool true) := by
  refine callsL_of_wp (c := Try.f27.body.getD .skip) Try.func27 rfl ?_
  rw [Try.ntmps27]
  rw [fr_of (n := 19) (by simp) [] trivial]
  generalize (fun j => (#[] ++ Array.replicate (19 - (#[] : Array Value).size) undef).getD j undef) = σ
  refine wpG_seq gl0 idleL ?_
  refine wpG_region gl0 idleL ?_
  refine opsF_val gl0 idleL rfl (by rfl) rfl (x := .bool false) (y_assign rfl) ?_
  refine opsG_nil gl0 idleL ?_
  refine wpG_seq gl0 idleL ?_
  refine wpG_region gl0 idleL ?_
  refine opsF_call gl0 idleL rfl (by rfl) rfl (run_call (args := #[.string { data := #[97] }]) rfl Try.func29 (by rfl) rfl (by simp only [List.map_toArray, List.map_cons, List.map_nil]; rfl)) (lex_a v) ?_
  rintro _ _ ⟨u, g, cap, rfl, hu, rfl⟩
  refine opsF_val gl0 idleL rfl (by rfl) rfl (x := .tuple #[.slice (some ⟨g, 0, none⟩) 1 cap, .int .i64 0, .int .i64 0]) (y_move rfl) ?_
  refine opsF_val gl0 idleL rfl (by rfl) rfl (x := .slice (some ⟨g, 0, none⟩) 1 cap) (y_extract rfl rfl) ?_
  refine opsF_val gl0 idleL rfl (by rfl) rfl (x := .int .i64 0) (y_extract rfl rfl) ?_
  refine opsF_val gl0 idleL rfl (by rfl) rfl (x := .int .i64 0) (y_extract rfl rfl) ?_
  refine opsF_val gl0 idleL rfl (by rfl) rfl (x := .slice (some ⟨g, 0, none⟩) 1 cap) (y_assign rfl) ?_
  refine opsF_val gl0 idleL rfl (by rfl) rfl (x := .int .i64 0) (y_assign rfl) ?_
  refine opsF_val gl0 idleL rfl (by rfl) rfl (x := .int .i64 0) (y_assign rfl) ?_
  refine opsG_nil gl0 idleL ?_
  refine wpG_seq gl0 idleL ?_
  refine wpG_region gl0 idleL ?_
  refine opsF_val gl0 idleL rfl (by rfl) rfl (x := .slice (some ⟨g, 0, none⟩) 1 cap) (y_move rfl) ?_
  refine opsF_val gl0 idleL rfl (by rfl) rfl (x := .int .i64 (1 : Nat)) (y_len_slice Try.underlying36 rfl) ?_
  refine opsF_val gl0 idleL rfl (by rfl) rfl (x := .bool true) (y_eql (.inl rfl) rfl rfl (rfl)) ?_
  refine opsF_val gl0 idleL rfl (by rfl) rfl (x := .bool true) (y_move rfl) ?_
  refine opsF_val gl0 idleL rfl (by rfl) rfl (x := .int .i64 0) (y_move rfl) ?_
  refine opsF_val gl0 idleL rfl (by rfl) rfl (x := .bool true) (y_eql (.inr rfl) rfl rfl (rfl)) ?_
  refine opsF_val gl0 idleL rfl (by rfl) rfl (x := .bool true) (y_pick (t := true) rfl rfl) ?_
  refine opsF_val gl0 idleL rfl (by rfl) rfl (x := .bool true) (y_move rfl) ?_
  refine opsF_call gl0 idleL rfl (by rfl) rfl (run_call (args := #[.int .u8 97]) rfl Try.func48 (by rfl) rfl (by simp only [List.map_toArray, List.map_cons, List.map_nil]; rfl)) (callsA_pure (word_b noneOwn 97)) ?_
  rintro _ _ ⟨u2, h2, rfl, ⟨rfl, -⟩, hu2⟩
  rw [word97]
  refine opsF_val gl0 idleL rfl (by rfl) rfl (x := .bool true) (y_pick (t := true) rfl rfl) ?_
  refine opsF_val gl0 idleL rfl (by rfl) rfl (x := .bool true) (y_assign rfl) ?_
  refine opsG_nil gl0 idleL ?_
  refine wpG_ret gl0 idleL ?_
  exact ⟨.inr rfl, _, resultsC_tmp (by rfl) _, .inl ⟨rfl, u2, rfl, hu.trans hu2, fr_ret (by decide) rfl⟩⟩

end Go.Proofs.Ytfaadjmglboaoaa
