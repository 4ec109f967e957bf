/-
  LexerLines returns true for every text and every place, on every schedule: places rise with lines and columns; a byte 10 begins a line; what is behind the text is its end. Conditions: none.
-/
import Derived.Test.YtfaadjmglboaoaaShown
namespace Go.Proofs.Ytfaadjmglboaoaa
open Go.ChangeShapes Go.WideShapes Go.ChangeAt Go.RowKit Go.Conc
open Go.ChangeMaps (open_string shut_string)

theorem own : ownKnob Try.prog.godebug = none := by kernel_rfl

theorem grew_frame {W u : World} (h : Grew W u) (τ : Nat → Question → Nat) (d : Nat) (may : MemPlace → Prop) : W.keptBut (tap u τ d) may := by
  refine ⟨h.os, h.output, fun i hi => ?_⟩
  rw [show (tap u τ d).heap[i]? = W.heap[i]? from h.old i hi]
  split <;> simp_all

namespace lexerLines

theorem step_line {s : ByteArray} {k : Nat} (h : k < s.size) : cntIx s 10 (k + 1) = cntIx s 10 k + (if ((s[k].toNat : Int) == 10) = true then 1 else 0) ∧ lastIx s 10 (k + 1) = if ((s[k].toNat : Int) == 10) = true then (k : Int) else lastIx s 10 k := by
  rw [← getI h]; exact ⟨rfl, rfl⟩

set_option maxHeartbeats 4000000 in
theorem walk (s : ByteArray) (a : Nat) (ha : a < 65536) (W : World) (Post : Value → World → Prop) (hP : ∀ u, Grew W u → ∀ τ d, Post (.bool true) (tap u τ d)) :
    Ends Try.prog Post (G (Frame.enter Try.prog 12 #[.string s, .int .u16 a] .normal) []) W := by
  refine ends_of_wp (c := Try.f12.body.getD .skip) Try.func12 rfl (by kernel_rfl) ?_
  rw [Try.ntmps12]
  rw [fr_of (n := 105) (by simp) [(0, .string s), (1, .int .u16 a)] ⟨by simp, by simp, trivial⟩]
  generalize (fun j => (#[Value.string s, Value.int .u16 a] ++ Array.replicate (105 - #[Value.string s, Value.int .u16 a].size) undef).getD j undef) = σ
  by_cases hs : s.size ≤ 2048
  rotate_left
  refine wpG_seq gl0 idleL ?_
  refine wpG_region gl0 idleL ?_
  refine opsF_val gl0 idleL rfl (by rfl) rfl (x := .bool false) (y_assign rfl) ?_
  refine opsG_nil gl0 idleL ?_
  refine wpG_seq gl0 idleL ?_
  refine wpG_seq gl0 idleL ?_
  refine wpG_region gl0 idleL ?_
  refine opsF_val gl0 idleL rfl (by rfl) rfl (x := .string s) (y_move rfl) ?_
  refine opsF_val gl0 idleL rfl (by rfl) rfl (x := .int .i64 s.size) (y_len_string rfl) ?_
  refine opsF_val gl0 idleL rfl (by rfl) rfl (x := .bool true) (y_gtr rfl rfl (by simp; omega)) ?_
  refine opsF_val gl0 idleL rfl (by rfl) rfl (x := .bool true) (y_move rfl) ?_
  refine opsF_skip gl0 idleL rfl (by rfl) rfl ?_
  refine opsF_skip gl0 idleL rfl (by rfl) rfl ?_
  refine opsF_val gl0 idleL rfl (by rfl) rfl (x := .bool true) (y_pick (t := true) rfl rfl) ?_
  refine opsG_nil gl0 idleL ?_
  refine wpG_cond gl0 idleL (t := true) (by rw [fr_eval]; rfl) ?_
  refine wpG_seq gl0 idleL ?_
  refine wpG_region gl0 idleL ?_
  refine opsF_call gl0 idleL rfl (by rfl) rfl (run_call (args := #[]) rfl Try.func27 (by rfl) rfl (by simp)) (shown27 W) ?_
  rintro _ _ ⟨u1, rfl, hu1, rfl⟩
  refine opsF_val gl0 idleL rfl (by rfl) rfl (x := .bool true) (y_assign rfl) ?_
  refine opsG_nil gl0 idleL ?_
  refine wpG_ret gl0 idleL ?_
  exact ⟨.inr rfl, rfl, _, u1, rfl, resultsC_tmp (by rfl) _, by rw [fr_ret (by decide) rfl]; exact hP _ hu1⟩
  refine wpG_seq gl0 idleL ?_
  refine wpG_region gl0 idleL ?_
  refine opsF_val gl0 idleL rfl (by rfl) rfl (x := .bool false) (y_assign rfl) ?_
  refine opsG_nil gl0 idleL ?_
  refine wpG_seq gl0 idleL ?_
  refine wpG_seq gl0 idleL ?_
  refine wpG_region gl0 idleL ?_
  refine opsF_val gl0 idleL rfl (by rfl) rfl (x := .string s) (y_move rfl) ?_
  refine opsF_val gl0 idleL rfl (by rfl) rfl (x := .int .i64 s.size) (y_len_string rfl) ?_
  refine opsF_val gl0 idleL rfl (by rfl) rfl (x := .bool false) (y_gtr rfl rfl (by simp; omega)) ?_
  refine opsF_val gl0 idleL rfl (by rfl) rfl (x := .bool false) (y_move rfl) ?_
  refine opsF_call gl0 idleL rfl (by rfl) rfl (run_call (args := #[]) rfl Try.func27 (by rfl) rfl (by simp)) (shown27 W) ?_
  rintro _ _ ⟨u1, rfl, hu1, rfl⟩
  refine opsF_val gl0 idleL rfl (by rfl) rfl (x := .bool false) (y_not (b := true) rfl) ?_
  refine opsF_val gl0 idleL rfl (by rfl) rfl (x := .bool false) (y_pick (t := false) rfl rfl) ?_
  refine opsG_nil gl0 idleL ?_
  refine wpG_cond gl0 idleL (t := false) (by rw [fr_eval]; rfl) ?_
  refine wpG_skip gl0 idleL ?_
  refine wpG_seq gl0 idleL ?_
  refine wpG_region gl0 idleL ?_
  refine opsF_val gl0 idleL rfl (by rfl) rfl (x := .int .u16 (a : Nat)) (y_move rfl) ?_
  refine opsF_val gl0 idleL rfl (by rfl) rfl (x := .int .i64 (a : Nat)) (y_conv65 rfl (by omega) (by omega)) ?_
  refine opsF_val gl0 idleL rfl (by rfl) rfl (x := .string s) (y_move rfl) ?_
  refine opsF_val gl0 idleL rfl (by rfl) rfl (x := .int .i64 s.size) (y_len_string rfl) ?_
  refine opsF_val gl0 idleL rfl (by rfl) rfl (x := .int .i64 (s.size + 1 : Nat)) (y_add rfl rfl (by rw [IntKind.wrap_i64]; omega)) ?_
  refine opsF_val gl0 idleL rfl (by rfl) rfl (x := .int .i64 (a % (s.size + 1) : Nat)) (y_rem rfl rfl (by omega)) ?_
  refine opsF_val gl0 idleL rfl (by rfl) rfl (x := .int .i64 (a % (s.size + 1) : Nat)) (y_assign rfl) ?_
  refine opsG_nil gl0 idleL ?_
  refine wpG_seq gl0 idleL ?_
  generalize hk : a % (s.size + 1) = k
  have hks : k ≤ s.size := by have := Nat.mod_lt a (show 0 < s.size + 1 by omega); omega
  obtain ⟨m, hm⟩ : ∃ m : Nat, (m : Int) = max 0 (min ((k + 1 : Nat) : Int) s.size) := ⟨min (k + 1) s.size, by omega⟩
  have hn1 : ∀ j, 1 ≤ lineNo s j := fun j => by unfold lineNo; omega
  have hcl : ∀ j, 1 ≤ colNo s j := fun j => by have := lastIx_bound s 10 j; unfold colNo; omega
  have hn2 : ∀ j, j ≤ s.size → lineNo s j ≤ 2 ^ 20 := fun j hj => by have := cntIx_le s 10 j; unfold lineNo; omega
  have hch : ∀ j, j ≤ s.size → colNo s j ≤ 2 ^ 20 := fun j hj => by have := lastIx_bound s 10 j; unfold colNo; omega
  refine wpG_region gl0 idleL ?_
  refine opsF_val gl0 idleL rfl (by rfl) rfl (x := .string s) (y_move rfl) ?_
  refine opsF_val gl0 idleL rfl (by rfl) rfl (x := .int .i64 (k : Nat)) (y_move rfl) ?_
  refine opsF_call gl0 idleL rfl (by rfl) rfl (run_call (args := #[.string s, .int .i64 (k : Nat)]) rfl Try.func40 (by rfl) rfl (by simp only [List.map_toArray, List.map_cons, List.map_nil]; rfl)) (callsA_pure (line40 noneOwn s (k : Nat) k (by omega) (by omega))) ?_
  rintro _ _ ⟨u2, _, rfl, ⟨rfl, -⟩, hu2⟩
  refine opsF_val gl0 idleL rfl (by rfl) rfl (x := .tuple #[.int .i64 (lineNo s k), .int .i64 (colNo s k)]) (y_move rfl) ?_
  refine opsF_val gl0 idleL rfl (by rfl) rfl (x := .int .i64 (lineNo s k)) (y_extract rfl rfl) ?_
  refine opsF_val gl0 idleL rfl (by rfl) rfl (x := .int .i64 (colNo s k)) (y_extract rfl rfl) ?_
  refine opsF_val gl0 idleL rfl (by rfl) rfl (x := .int .i64 (lineNo s k)) (y_assign rfl) ?_
  refine opsF_val gl0 idleL rfl (by rfl) rfl (x := .int .i64 (colNo s k)) (y_assign rfl) ?_
  refine opsG_nil gl0 idleL ?_
  refine wpG_seq gl0 idleL ?_
  refine wpG_region gl0 idleL ?_
  refine opsF_val gl0 idleL rfl (by rfl) rfl (x := .string s) (y_move rfl) ?_
  refine opsF_val gl0 idleL rfl (by rfl) rfl (x := .int .i64 (k : Nat)) (y_move rfl) ?_
  refine opsF_val gl0 idleL rfl (by rfl) rfl (x := .int .i64 (k + 1 : Nat)) (y_add rfl rfl (by rw [IntKind.wrap_i64]; omega)) ?_
  refine opsF_call gl0 idleL rfl (by rfl) rfl (run_call (args := #[.string s, .int .i64 (k + 1 : Nat)]) rfl Try.func40 (by rfl) rfl (by simp only [List.map_toArray, List.map_cons, List.map_nil]; rfl)) (callsA_pure (line40 noneOwn s (k + 1 : Nat) m hm (by omega))) ?_
  rintro _ _ ⟨u3, _, rfl, ⟨rfl, -⟩, hu3⟩
  refine opsF_val gl0 idleL rfl (by rfl) rfl (x := .tuple #[.int .i64 (lineNo s m), .int .i64 (colNo s m)]) (y_move rfl) ?_
  refine opsF_val gl0 idleL rfl (by rfl) rfl (x := .int .i64 (lineNo s m)) (y_extract rfl rfl) ?_
  refine opsF_val gl0 idleL rfl (by rfl) rfl (x := .int .i64 (colNo s m)) (y_extract rfl rfl) ?_
  refine opsF_val gl0 idleL rfl (by rfl) rfl (x := .int .i64 (lineNo s m)) (y_assign rfl) ?_
  refine opsF_val gl0 idleL rfl (by rfl) rfl (x := .int .i64 (colNo s m)) (y_assign rfl) ?_
  refine opsG_nil gl0 idleL ?_
  refine wpG_seq gl0 idleL ?_
  refine wpG_region gl0 idleL ?_
  refine opsF_val gl0 idleL rfl (by rfl) rfl (x := .string s) (y_move rfl) ?_
  refine opsF_val gl0 idleL rfl (by rfl) rfl (x := .string s) (y_move rfl) ?_
  refine opsF_val gl0 idleL rfl (by rfl) rfl (x := .int .i64 s.size) (y_len_string rfl) ?_
  refine opsF_val gl0 idleL rfl (by rfl) rfl (x := .int .i64 (s.size + 100 : Nat)) (y_add rfl rfl (by rw [IntKind.wrap_i64]; omega)) ?_
  refine opsF_call gl0 idleL rfl (by rfl) rfl (run_call (args := #[.string s, .int .i64 (s.size + 100 : Nat)]) rfl Try.func40 (by rfl) rfl (by simp only [List.map_toArray, List.map_cons, List.map_nil]; rfl)) (callsA_pure (line40 noneOwn s (s.size + 100 : Nat) s.size (by omega) (by omega))) ?_
  rintro _ _ ⟨u4, _, rfl, ⟨rfl, -⟩, hu4⟩
  refine opsF_val gl0 idleL rfl (by rfl) rfl (x := .tuple #[.int .i64 (lineNo s s.size), .int .i64 (colNo s s.size)]) (y_move rfl) ?_
  refine opsF_val gl0 idleL rfl (by rfl) rfl (x := .int .i64 (lineNo s s.size)) (y_extract rfl rfl) ?_
  refine opsF_val gl0 idleL rfl (by rfl) rfl (x := .int .i64 (colNo s s.size)) (y_extract rfl rfl) ?_
  refine opsF_val gl0 idleL rfl (by rfl) rfl (x := .int .i64 (lineNo s s.size)) (y_assign rfl) ?_
  refine opsF_val gl0 idleL rfl (by rfl) rfl (x := .int .i64 (colNo s s.size)) (y_assign rfl) ?_
  refine opsG_nil gl0 idleL ?_
  refine wpG_seq gl0 idleL ?_
  refine wpG_region gl0 idleL ?_
  refine opsF_val gl0 idleL rfl (by rfl) rfl (x := .string s) (y_move rfl) ?_
  refine opsF_val gl0 idleL rfl (by rfl) rfl (x := .string s) (y_move rfl) ?_
  refine opsF_val gl0 idleL rfl (by rfl) rfl (x := .int .i64 s.size) (y_len_string rfl) ?_
  refine opsF_call gl0 idleL rfl (by rfl) rfl (run_call (args := #[.string s, .int .i64 s.size]) rfl Try.func40 (by rfl) rfl (by simp only [List.map_toArray, List.map_cons, List.map_nil]; rfl)) (callsA_pure (line40 noneOwn s s.size s.size (by omega) (by omega))) ?_
  rintro _ _ ⟨u5, _, rfl, ⟨rfl, -⟩, hu5⟩
  refine opsF_val gl0 idleL rfl (by rfl) rfl (x := .tuple #[.int .i64 (lineNo s s.size), .int .i64 (colNo s s.size)]) (y_move rfl) ?_
  refine opsF_val gl0 idleL rfl (by rfl) rfl (x := .int .i64 (lineNo s s.size)) (y_extract rfl rfl) ?_
  refine opsF_val gl0 idleL rfl (by rfl) rfl (x := .int .i64 (colNo s s.size)) (y_extract rfl rfl) ?_
  refine opsF_val gl0 idleL rfl (by rfl) rfl (x := .int .i64 (lineNo s s.size)) (y_assign rfl) ?_
  refine opsF_val gl0 idleL rfl (by rfl) rfl (x := .int .i64 (colNo s s.size)) (y_assign rfl) ?_
  refine opsG_nil gl0 idleL ?_
  refine wpG_seq gl0 idleL ?_
  refine wpG_seq gl0 idleL ?_
  refine wpG_region gl0 idleL ?_
  refine opsF_val gl0 idleL rfl (by rfl) rfl (x := .int .i64 (lineNo s k)) (y_move rfl) ?_
  refine opsF_val gl0 idleL rfl (by rfl) rfl (x := .bool false) (y_lss rfl rfl (by have := hn1 k; simp; omega)) ?_
  refine opsF_val gl0 idleL rfl (by rfl) rfl (x := .bool false) (y_move rfl) ?_
  refine opsF_val gl0 idleL rfl (by rfl) rfl (x := .int .i64 (colNo s k)) (y_move rfl) ?_
  refine opsF_val gl0 idleL rfl (by rfl) rfl (x := .bool false) (y_lss rfl rfl (by have := hcl k; simp; omega)) ?_
  refine opsF_val gl0 idleL rfl (by rfl) rfl (x := .bool false) (y_pick (t := false) rfl rfl) ?_
  refine opsF_val gl0 idleL rfl (by rfl) rfl (x := .bool false) (y_move rfl) ?_
  refine opsF_val gl0 idleL rfl (by rfl) rfl (x := .int .i64 (lineNo s s.size)) (y_move rfl) ?_
  refine opsF_val gl0 idleL rfl (by rfl) rfl (x := .int .i64 (lineNo s s.size)) (y_move rfl) ?_
  refine opsF_val gl0 idleL rfl (by rfl) rfl (x := .bool false) (y_neq (.inl rfl) rfl rfl (by simp)) ?_
  refine opsF_val gl0 idleL rfl (by rfl) rfl (x := .bool false) (y_pick (t := false) rfl rfl) ?_
  refine opsF_val gl0 idleL rfl (by rfl) rfl (x := .bool false) (y_move rfl) ?_
  refine opsF_val gl0 idleL rfl (by rfl) rfl (x := .int .i64 (colNo s s.size)) (y_move rfl) ?_
  refine opsF_val gl0 idleL rfl (by rfl) rfl (x := .int .i64 (colNo s s.size)) (y_move rfl) ?_
  refine opsF_val gl0 idleL rfl (by rfl) rfl (x := .bool false) (y_neq (.inl rfl) rfl rfl (by simp)) ?_
  refine opsF_val gl0 idleL rfl (by rfl) rfl (x := .bool false) (y_pick (t := false) rfl rfl) ?_
  refine opsG_nil gl0 idleL ?_
  refine wpG_cond gl0 idleL (t := false) (by rw [fr_eval]; rfl) ?_
  refine wpG_skip gl0 idleL ?_
  refine wpG_seq gl0 idleL ?_
  refine wpG_seq gl0 idleL ?_
  refine wpG_region gl0 idleL ?_
  refine opsF_val gl0 idleL rfl (by rfl) rfl (x := .int .i64 (k : Nat)) (y_move rfl) ?_
  refine opsF_val gl0 idleL rfl (by rfl) rfl (x := .string s) (y_move rfl) ?_
  refine opsF_val gl0 idleL rfl (by rfl) rfl (x := .int .i64 s.size) (y_len_string rfl) ?_
  refine opsF_val gl0 idleL rfl (by rfl) rfl (x := .bool (((k : Nat) : Int) == s.size)) (y_eql (.inl rfl) rfl rfl rfl) ?_
  refine opsG_nil gl0 idleL ?_
  refine wpG_cond gl0 idleL (t := (((k : Nat) : Int) == s.size)) (by rw [fr_eval]; rfl) ?_
  cases hc1 : (((k : Nat) : Int) == s.size)
  · refine wpG_skip gl0 idleL ?_
    refine wpG_seq gl0 idleL ?_
    refine wpG_seq gl0 idleL ?_
    have hlt : k < s.size := by simp at hc1; omega
    have hmk : m = k + 1 := by omega
    have hst := step_line hlt
    refine wpG_region gl0 idleL ?_
    refine opsF_val gl0 idleL rfl (by rfl) rfl (x := .string s) (y_move rfl) ?_
    refine opsF_val gl0 idleL rfl (by rfl) rfl (x := .int .i64 (k : Nat)) (y_move rfl) ?_
    refine opsF_val gl0 idleL rfl (by rfl) rfl (x := .int .u8 (s[k].toNat : Int)) (y_index rfl rfl hlt) ?_
    refine opsF_val gl0 idleL rfl (by rfl) rfl (x := .bool (((s[k].toNat : Int) : Int) == 10)) (y_eql_u8 rfl rfl rfl) ?_
    refine opsG_nil gl0 idleL ?_
    refine wpG_cond gl0 idleL (t := (((s[k].toNat : Int) : Int) == 10)) (by rw [fr_eval]; rfl) ?_
    cases hc2 : (((s[k].toNat : Int) : Int) == 10)
    · refine wpG_skip gl0 idleL ?_
      refine wpG_seq gl0 idleL ?_
      refine wpG_region gl0 idleL ?_
      refine opsF_val gl0 idleL rfl (by rfl) rfl (x := .int .i64 (lineNo s m)) (y_move rfl) ?_
      refine opsF_val gl0 idleL rfl (by rfl) rfl (x := .int .i64 (lineNo s k)) (y_move rfl) ?_
      refine opsF_val gl0 idleL rfl (by rfl) rfl (x := .bool true) (y_eql (.inl rfl) rfl rfl (by rw [hmk]; unfold lineNo; rw [hst.1, hc2]; simp)) ?_
      refine opsF_val gl0 idleL rfl (by rfl) rfl (x := .bool true) (y_move rfl) ?_
      refine opsF_val gl0 idleL rfl (by rfl) rfl (x := .int .i64 (colNo s m)) (y_move rfl) ?_
      refine opsF_val gl0 idleL rfl (by rfl) rfl (x := .int .i64 (colNo s k)) (y_move rfl) ?_
      refine opsF_val gl0 idleL rfl (by rfl) rfl (x := .int .i64 (colNo s k + 1)) (y_add rfl rfl (by have := hcl k; have := hch k hks; rw [IntKind.wrap_i64]; omega)) ?_
      refine opsF_val gl0 idleL rfl (by rfl) rfl (x := .bool true) (y_eql (.inl rfl) rfl rfl (by rw [hmk]; unfold colNo; rw [hst.2, hc2]; simp; omega)) ?_
      refine opsF_val gl0 idleL rfl (by rfl) rfl (x := .bool true) (y_pick (t := true) rfl rfl) ?_
      refine opsF_val gl0 idleL rfl (by rfl) rfl (x := .bool true) (y_assign rfl) ?_
      refine opsG_nil gl0 idleL ?_
      refine wpG_ret gl0 idleL ?_
      exact ⟨.inr rfl, rfl, _, u5, rfl, resultsC_tmp (by rfl) _, by rw [fr_ret (by decide) rfl]; exact hP _ (((((hu1.trans hu2).trans hu3).trans hu4).trans hu5))⟩
    · refine wpG_seq gl0 idleL ?_
      refine wpG_region gl0 idleL ?_
      refine opsF_val gl0 idleL rfl (by rfl) rfl (x := .int .i64 (lineNo s m)) (y_move rfl) ?_
      refine opsF_val gl0 idleL rfl (by rfl) rfl (x := .int .i64 (lineNo s k)) (y_move rfl) ?_
      refine opsF_val gl0 idleL rfl (by rfl) rfl (x := .int .i64 (lineNo s k + 1)) (y_add rfl rfl (by have := hn1 k; have := hn2 k hks; rw [IntKind.wrap_i64]; omega)) ?_
      refine opsF_val gl0 idleL rfl (by rfl) rfl (x := .bool true) (y_eql (.inl rfl) rfl rfl (by rw [hmk]; unfold lineNo; rw [hst.1, hc2]; simp; omega)) ?_
      refine opsF_val gl0 idleL rfl (by rfl) rfl (x := .bool true) (y_move rfl) ?_
      refine opsF_val gl0 idleL rfl (by rfl) rfl (x := .int .i64 (colNo s m)) (y_move rfl) ?_
      refine opsF_val gl0 idleL rfl (by rfl) rfl (x := .bool true) (y_eql (.inl rfl) rfl rfl (by rw [hmk]; unfold colNo; rw [hst.2, hc2]; simp; omega)) ?_
      refine opsF_val gl0 idleL rfl (by rfl) rfl (x := .bool true) (y_pick (t := true) rfl rfl) ?_
      refine opsF_val gl0 idleL rfl (by rfl) rfl (x := .bool true) (y_assign rfl) ?_
      refine opsG_nil gl0 idleL ?_
      refine wpG_ret gl0 idleL ?_
      exact ⟨.inr rfl, rfl, _, u5, rfl, resultsC_tmp (by rfl) _, by rw [fr_ret (by decide) rfl]; exact hP _ (((((hu1.trans hu2).trans hu3).trans hu4).trans hu5))⟩
  · refine wpG_seq gl0 idleL ?_
    have hmk : m = k := by simp at hc1; omega
    refine wpG_region gl0 idleL ?_
    refine opsF_val gl0 idleL rfl (by rfl) rfl (x := .int .i64 (lineNo s k)) (y_move rfl) ?_
    refine opsF_val gl0 idleL rfl (by rfl) rfl (x := .int .i64 (lineNo s m)) (y_move rfl) ?_
    refine opsF_val gl0 idleL rfl (by rfl) rfl (x := .bool true) (y_eql (.inl rfl) rfl rfl (by rw [hmk]; simp)) ?_
    refine opsF_val gl0 idleL rfl (by rfl) rfl (x := .bool true) (y_move rfl) ?_
    refine opsF_val gl0 idleL rfl (by rfl) rfl (x := .int .i64 (colNo s k)) (y_move rfl) ?_
    refine opsF_val gl0 idleL rfl (by rfl) rfl (x := .int .i64 (colNo s m)) (y_move rfl) ?_
    refine opsF_val gl0 idleL rfl (by rfl) rfl (x := .bool true) (y_eql (.inl rfl) rfl rfl (by rw [hmk]; simp)) ?_
    refine opsF_val gl0 idleL rfl (by rfl) rfl (x := .bool true) (y_pick (t := true) rfl rfl) ?_
    refine opsF_val gl0 idleL rfl (by rfl) rfl (x := .bool true) (y_assign rfl) ?_
    refine opsG_nil gl0 idleL ?_
    refine wpG_ret gl0 idleL ?_
    exact ⟨.inr rfl, rfl, _, u5, rfl, resultsC_tmp (by rfl) _, by rw [fr_ret (by decide) rfl]; exact hP _ (((((hu1.trans hu2).trans hu3).trans hu4).trans hu5))⟩

/-! ### THE ROW's STEP -/
set_option maxRecDepth 100000 in
theorem lifted (os : Os) (started : os.Started) (H : Type) (enc : TypeId × Value → H) :
    ReturnsInLeavingWide {} Try.checked os 12 .any (Rows.lexerLinesSpec.pre6 enc Try.prog Try.f12 Rows.lexerLinesRow.domain false) (Rows.lexerLinesSpec.post enc Try.prog Try.f12 false true false false) := by
  refine returns_of_ends own started Try.func12
    (ChangeSpec.witness6 (enc := enc) (C := Try.checked) false ⟨#[], #[.string { data := #[] }, .int .u16 0], []⟩ 8 (by kernel_rfl) (by kernel_rfl) (by kernel_rfl) (by kernel_rfl)) ?_
  intro W base args ds gs before hval0 hW hcnd _ _
  have hval : ∀ (j : Nat) t v, Try.f12.params[j]? = some t → args[j]? = some v → Value.okWide Try.prog W .any base t v := hval0
  have hW' := hW
  obtain ⟨p, q, hA0, hV, rfl, hfz, hnd⟩ := hW
  have hA : DataW.TrodAll enc Try.prog W 0 (fun _ => true) true Try.f12.params.toList args.toList ds p := hA0
  rw [Try.params12] at hA hval
  obtain ⟨v0, vs0, d0, ds0, p0, q0, hargs, rfl, rfl, h0, r0⟩ := trodAll_cons hA
  obtain ⟨v1, vs1, d1, ds1, p1, q1, rfl, rfl, rfl, h1, r1⟩ := trodAll_cons r0
  obtain ⟨rfl, rfl, rfl⟩ := trodAll_nil r1
  obtain rfl : args = #[v0, v1] := by cases args; simp_all
  obtain ⟨rfl, rfl⟩ := trodVars_none hV
  obtain ⟨s, rfl, rfl, rfl, ws⟩ := open_string Try.underlying9 (hval 0 9 v0 rfl rfl) h0
  obtain ⟨a1, rfl, rfl, rfl, w1⟩ := open_int Try.underlying65 (hval 1 65 v1 rfl rfl) h1
  have hb : 0 ≤ a1 ∧ a1 < 65536 := by
    have e1 : IntKind.u16.min = 0 := by rfl
    have e2 : IntKind.u16.max = 65535 := by rfl
    have h : IntKind.u16.min ≤ a1 ∧ a1 ≤ IntKind.u16.max := by simpa [Lit.wf] using w1
    omega
  obtain ⟨a, rfl⟩ : ∃ a : Nat, a1 = a := ⟨a1.toNat, by omega⟩
  clear hA0 hval0
  simp only [List.append_nil] at hW'
  refine walk s a (by omega) W _ fun u hg τ d => ?_
  exact ⟨_, _, _, _, [], [], hW', (trodAll_cons_mk (shut_bool Try.underlying4 _) trodAll_mk0), (trodAll_cons_mk (shut_string Try.underlying9 ws) (trodAll_cons_mk (shut_int Try.underlying65 w1) trodAll_mk0)), rfl, grew_frame hg τ d _, fun h => by cases h⟩

theorem over : Rows.lexerLinesRow.holds Try.pinned (OpenSpec.ofChange Rows.lexerLinesSpec) :=
  OpenClaim.holds_of_wide_leaving 12 Try.f12 rfl rfl rfl rfl rfl rfl rfl ⟨rfl, rfl, rfl, rfl, rfl⟩ rfl rfl rfl rfl rfl (by kernel_rfl) Try.func12 (by kernel_rfl)
    (of_decide_eq_true (by kernel_rfl)) (by unfold Func.isWrapper; first | (rw [if_pos (by decide +kernel)]; kernel_rfl) | (rw [if_neg (by decide +kernel)]; exact ⟨rfl, rfl⟩))
    (fun os started H enc _ => lifted os started H enc)

/-- ████ THE STATEMENT ████ -/
theorem proved : Rows.LexerLinesSaid :=
  over
#print axioms proved
end lexerLines
end Go.Proofs.Ytfaadjmglboaoaa
