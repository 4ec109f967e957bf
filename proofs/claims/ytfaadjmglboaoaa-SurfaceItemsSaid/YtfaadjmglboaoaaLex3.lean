/-
  lexer.Lex: its contract.
-/
import Derived.Test.YtfaadjmglboaoaaLex2
namespace Go.Proofs.Ytfaadjmglboaoaa
open Go.Conc Go.RowKit

theorem results29 : Try.f29.results = #[.tmp 2, .tmp 3, .tmp 4] := by rfl

theorem fr_getD {n t : Nat} {σ : Nat → Value} {l : List (Nat × Value)} {ds : List Deferred} (h : t < n) : (fr n σ l ds).tmps.getD t undef = putAll σ l t := by
  rw [Array.getD_eq_getD_getElem?, fr_get, if_pos h]; rfl

/-- What is asked of the end of Lex. -/
def PostLex (v0 : World) (its : List It) (r : Value) (v' : VL) : Prop := ∃ u, v' = .a u ∧ Grew v0 u ∧ LexRes u v0.heap.size its r

theorem wpG_region_heldL {P : Program} {kd : Bool} {fn : FuncId} {Q : Exit → Act → VL → Prop} {u : World} {id : Nat} {ops : Array Oper} {a : Act} {S : VL → Prop} (hm : P.follows .mixedOrders = true)
    (h : AnyV P (viewL P) (GL0 P) fn .any ops Q S ops.size (Array.replicate ops.size false) a (.a u)) : WpG (GL0 P) kd fn (.region id ops true) Q a (.a u) := by
  intro E hE b k cs hb hk hc
  refine gl0 E hE _ _ rfl fun w hw => ⟨_, _, #[], .a u, stepG_region_draw, ?_, ?_⟩
  · obtain ⟨hcl, τ, d, rfl⟩ := hw
    exact ⟨by simp, hcl.tap τ (d + 1), τ, d + 1, rfl⟩
  · simp only [Region.schedule, hm, Bool.true_or, if_true]
    exact anyV_sound gl0 idleL ops.size _ _ a _ h E hE b k cs hb hk hc

/-- Goroutine 0's text behind the fork's channels. -/
structure Made (v0 u0 : World) (co cq : Nat) : Prop where
  grew : Grew v0 u0
  ne : cq ≠ co
  co_ge : v0.heap.size ≤ co
  cq_ge : v0.heap.size ≤ cq
  out : u0.heap[co]? = some (.chan 0 #[] false 0 0 false)
  quit : u0.heap[cq]? = some (.chan 0 #[] false 0 0 false)

theorem Cl.push {P : Program} {v : World} (h : Cl P v) (o : Obj) : Cl P { v with heap := v.heap.push o } := h.new o

set_option maxHeartbeats 4000000 in
/-- From the channels on. -/
theorem lex_rest {co cq : Nat} {v0 u0 : World} {σ : Nat → Value} {s : ByteArray} {its : List It} (hs : s.size ≤ 20000) (hx : Items s 0 (its.map It.val)) (hlen : its.length ≤ s.size) (hcl : Cl Try.prog u0) (M : Made v0 u0 co cq) :
    WpG (GL0 Try.prog) false 29 (cSnd (cSnd (cSnd text29))) (fun e a' v' => (e = .normal ∨ e = .ret) ∧ ∃ r, ResultsC Try.prog Try.f29 a'.tmps r ∧ ((a'.defers = [] ∧ PostLex v0 its r v') ∨ ∃ u cq ats t cc s1 k tm, v' = .a u ∧ a'.defers = [closer cq ats t cc] ∧ u.heap[cq]? = some (.chan 0 #[] false s1 k tm) ∧ PostLex v0 its r (.a { u with heap := u.heap.setIfInBounds cq (.chan 0 #[] true s1 k tm) }))) (fr 41 σ [(5, .chan (some co)), (6, .chan (some cq)), (0, .string s)] []) (.a u0) := by
  show WpG _ _ _ (.seq (.region 4 _ _) (.seq (.region 5 _ _) (.seq (.region 6 _ _) (.seq (.region 7 _ _) (.seq (.seq (.region 8 _ _) loop29) end29))))) _ _ _
  refine wpG_seq gl0 idleL ?_
  refine wpG_region gl0 idleL ?_
  refine opsF_val gl0 idleL rfl (by rfl) rfl (x := .chan (some cq)) (y_move rfl) ?_
  refine opsF_defer (.a u0) rfl (by rfl) rfl (run_closer rfl) ?_
  refine opsG_nil gl0 idleL ?_
  refine wpG_seq gl0 idleL ?_
  refine wpG_region gl0 idleL ?_
  refine opsF_val gl0 idleL rfl (by rfl) rfl (x := .string s) (y_move rfl) ?_
  refine opsF_val gl0 idleL rfl (by rfl) rfl (x := .chan (some co)) (y_move rfl) ?_
  refine opsF_val gl0 idleL rfl (by rfl) rfl (x := .chan (some cq)) (y_move rfl) ?_
  refine opsF_fork (c := ⟨co, cq, zItem, u0⟩) (z1 := zItem) (z2 := zQuit) (xs := its.map It.val) hcl rfl (by rfl) rfl (run_go (args := #[.string s, .chan (some co), .chan (some cq)]) rfl (by simp only [List.map_toArray, List.map_cons, List.map_nil]; rfl)) rfl rfl ⟨0, 0, M.out⟩ ⟨0, 0, false, M.quit⟩ M.ne (scan_s s _ hx (by omega)) ?_
  refine opsG_nil gl0 idleL ?_
  refine wpG_seq gl0 idleL ?_
  refine wpG_region gl0 idleL ?_
  refine opsF_val gl0 idleL rfl (by rfl) rfl (x := .slice none 0 0) (y_assign rfl) ?_
  refine opsG_nil gl0 idleL ?_
  refine wpG_seq gl0 idleL ?_
  refine wpG_region gl0 idleL ?_
  refine opsF_new gl0 (lensL _ _ _) rfl (by rfl) rfl (.cells #[.int .i64 0, .int .i64 0, .string { data := #[] }, .int .i64 0] 79) (fun M => .pointer (some ⟨M, 0, none⟩)) (fun w => ⟨eq_of_K fun K hK => by go_simp; exact hK, by simp [Instr.alloc, newVar, newRow, go_sem]⟩) fun B hB => ?_
  refine opsG_nil gl0 idleL ?_
  refine wpG_seq gl0 idleL ?_
  refine wpG_seq gl0 idleL ?_
  refine wpG_region gl0 idleL ?_
  refine opsF_val gl0 idleL rfl (by rfl) rfl (x := .chan (some co)) (y_move rfl) ?_
  refine opsG_nil gl0 idleL ?_
  rw [fr_says [(7, .slice none 0 0), (8, .pointer (some ⟨B, 0, none⟩)), (19, .chan (some co))] ⟨rfl, rfl, rfl, trivial⟩]
  refine lex_loop (by omega) (put_self _ _ _) ?_
  intro v7 τ h' u hu hO hB'
  clear hB
  have hB2 : allOf u B = some (.cells (lastBad its).cells 79) := hu.has _ _ hB'
  have hO2 : POwn (allOf u) 40 v7 (cnt its) (toks its) := hO.ext fun r o hr => hu.has r o hr
  have hlt : ∀ {r o}, u0.heap[r]? = some o → r < u0.heap.size := fun h => (Array.getElem?_eq_some_iff.1 h).1
  have hq : u.heap[cq]? = some (.chan 0 #[] false 0 0 false) := by rw [hu.base cq (hlt M.quit) M.ne]; exact M.quit
  have hgrew : Grew v0 { u with heap := u.heap.setIfInBounds cq (.chan 0 #[] true 0 0 false) } := by
    refine ⟨fun r hr => ?_, ?_, hu.os.trans M.grew.os, hu.output.trans M.grew.output⟩
    · have h1 := M.co_ge; have h2 := M.cq_ge; have h3 := M.grew.size
      show (u.heap.setIfInBounds cq _)[r]? = _
      rw [Array.getElem?_setIfInBounds_ne (by omega), hu.base r (by omega) (by omega)]
      exact M.grew.old r hr
    · have := M.grew.size; have := hu.size
      show v0.heap.size ≤ (u.heap.setIfInBounds cq _).size
      rw [Array.size_setIfInBounds]; omega
  have hres : ∀ g, v7.ownBlock = some g → g ≠ cq ∧ v0.heap.size ≤ g := fun g hg => by
    rcases hO with ⟨_, ⟨rfl, _⟩ | ⟨g', cap, cur, rfl, h3, _⟩⟩
    · cases hg
    · obtain rfl : g' = g := by simpa [Value.ownBlock] using hg
      have := hu.new g' (by rw [h3]; simp)
      have h3 := M.grew.size
      have := hlt M.quit
      omega
  show WpG _ _ _ (.seq (.seq (.region 14 _ _) (.cond _ (.seq (.region 15 _ _) .ret) _)) (.seq (.region 16 _ _) .ret)) _ _ _
  refine wpG_seq gl0 idleL ?_
  refine wpG_seq gl0 idleL ?_
  refine wpG_region gl0 idleL ?_
  refine opsF_val gl0 idleL rfl (by rfl) rfl (x := .pointer (some ⟨B, 3, none⟩)) (y_fieldAddr79 rfl (by decide)) ?_
  refine opsF_rdR gl0 (lensA _) rfl (by rfl) rfl (x := .int .i64 (lastBad its).e) (rd_load (by decide) rfl hB2 rfl) ?_
  refine opsF_val gl0 idleL rfl (by rfl) rfl (x := .bool ((lastBad its).e != 0)) (y_neq (.inr rfl) rfl rfl rfl) ?_
  refine opsG_nil gl0 idleL ?_
  refine wpG_cond gl0 idleL (t := (lastBad its).e != 0) (by rw [fr_eval]; rfl) ?_
  by_cases he : (lastBad its).e = 0
  · rw [show ((lastBad its).e != 0) = false by simp [he]]
    refine wpG_skip gl0 idleL ?_
    refine wpG_seq gl0 idleL ?_
    refine wpG_region gl0 idleL ?_
    refine opsF_val gl0 idleL rfl (by rfl) rfl (x := v7) (y_move rfl) ?_
    refine opsF_val gl0 idleL rfl (by rfl) rfl (x := v7) (y_assign rfl) ?_
    refine opsF_val gl0 idleL rfl (by rfl) rfl (x := .int .i64 0) (y_assign rfl) ?_
    refine opsF_val gl0 idleL rfl (by rfl) rfl (x := .int .i64 0) (y_assign rfl) ?_
    refine opsG_nil gl0 idleL ?_
    refine wpG_ret gl0 idleL ?_
    refine ⟨.inr rfl, _, resultsC_tmp3 results29 _, .inr ⟨u, cq, _, _, _, _, _, _, rfl, rfl, hq, _, rfl, hgrew, ?_⟩⟩
    rw [fr_getD (by decide), fr_getD (by decide), fr_getD (by decide)]
    unfold LexRes
    rw [if_pos he]
    refine ⟨v7, rfl, ?_, fun g hg => (hres g hg).2⟩
    rcases hO2 with ⟨h1, h2 | ⟨g, cap, cur, h2, h3, h4⟩⟩
    · exact ⟨h1, .inl h2⟩
    · refine ⟨h1, .inr ⟨g, cap, cur, h2, ?_, h4⟩⟩
      show (u.heap.setIfInBounds cq _)[g]? = _
      rw [Array.getElem?_setIfInBounds_ne (Ne.symm (hres g (by rw [h2]; rfl)).1)]
      exact h3
  · rw [show ((lastBad its).e != 0) = true by simpa using he]
    show WpG _ _ _ (.seq (.region 15 _ _) .ret) _ _ _
    refine wpG_seq gl0 idleL ?_
    refine wpG_region_heldL (by kernel_rfl) (S := fun y => y = .a u) ?_
    show AnyV _ _ _ _ .any _ _ _ 8 (Array.replicate 8 false) _ _
    refine anyF_val idleL (by rfl) (i := 0) rfl (by first | kernel_rfl | decide +kernel) (by first | kernel_rfl | decide +kernel) (by first | kernel_rfl | decide +kernel) (by rfl) rfl (x := .pointer (some ⟨B, 0, none⟩)) (y_fieldAddr79 rfl (by decide)) ?_
    refine anyF_val idleL (by rfl) (i := 1) rfl (by first | kernel_rfl | decide +kernel) (by first | kernel_rfl | decide +kernel) (by first | kernel_rfl | decide +kernel) (by rfl) rfl (x := .pointer (some ⟨B, 1, none⟩)) (y_fieldAddr40 rfl (by decide)) ?_
    refine anyF_rdR (by rfl) (i := 2) rfl (by first | kernel_rfl | decide +kernel) (by first | kernel_rfl | decide +kernel) (by first | kernel_rfl | decide +kernel) (by rfl) rfl (x := .int .i64 (lastBad its).p) (fun y hy => ⟨allOf u, hy ▸ lensA u, rd_load (by decide) rfl hB2 rfl⟩) ?_
    refine anyF_val idleL (by rfl) (i := 3) rfl (by first | kernel_rfl | decide +kernel) (by first | kernel_rfl | decide +kernel) (by first | kernel_rfl | decide +kernel) (by rfl) rfl (x := .pointer (some ⟨B, 3, none⟩)) (y_fieldAddr79 rfl (by decide)) ?_
    refine anyF_rdR (by rfl) (i := 4) rfl (by first | kernel_rfl | decide +kernel) (by first | kernel_rfl | decide +kernel) (by first | kernel_rfl | decide +kernel) (by rfl) rfl (x := .int .i64 (lastBad its).e) (fun y hy => ⟨allOf u, hy ▸ lensA u, rd_load (by decide) rfl hB2 rfl⟩) ?_
    refine anyF_val idleL (by rfl) (i := 5) rfl (by first | kernel_rfl | decide +kernel) (by first | kernel_rfl | decide +kernel) (by first | kernel_rfl | decide +kernel) (by rfl) rfl (x := .slice none 0 0) (y_assign rfl) ?_
    refine anyF_val idleL (by rfl) (i := 6) rfl (by first | kernel_rfl | decide +kernel) (by first | kernel_rfl | decide +kernel) (by first | kernel_rfl | decide +kernel) (by rfl) rfl (x := .int .i64 (lastBad its).p) (y_assign rfl) ?_
    refine anyF_val idleL (by rfl) (i := 7) rfl (by first | kernel_rfl | decide +kernel) (by first | kernel_rfl | decide +kernel) (by first | kernel_rfl | decide +kernel) (by rfl) rfl (x := .int .i64 (lastBad its).e) (y_assign rfl) ?_
    refine anyV_done (by first | kernel_rfl | decide +kernel) ?_ _
    refine wpG_ret gl0 idleL ?_
    refine ⟨.inr rfl, _, resultsC_tmp3 results29 _, .inr ⟨u, cq, _, _, _, _, _, _, rfl, rfl, hq, _, rfl, hgrew, ?_⟩⟩
    rw [fr_getD (by decide), fr_getD (by decide), fr_getD (by decide)]
    unfold LexRes
    rw [if_neg he]
    rfl

theorem run_chan2 {ρ : Operand → Value} {d : Option Tmp} {ty : TypeId} {pos : String} {af : Array Edge} {gu : Option (Nat × Bool)} {c : Operand} (hc : ρ c = .int .i64 0) (t : TypeId) (ht : t = 75 ∨ t = 76) (w : World) {m : Nat} (hm : w.heap.size = m) :
    (execOp ρ ⟨d, .makeChan t c, ty, pos, af, gu⟩).run Try.prog w = .ok (.value (.chan (some m))) { w with heap := w.heap.push (.chan 0 #[] false 0 0 false) } ∧
    (execOp ρ ⟨d, .makeChan t c, ty, pos, af, gu⟩).events Try.prog w #[] = #[] := by
  subst hm
  exact run_chan hc t ht w

theorem made2 (b : Bool) (v0 : World) : Made v0 { v0 with heap := (v0.heap.push (.chan 0 #[] false 0 0 false)).push (.chan 0 #[] false 0 0 false) } (if b then v0.heap.size else v0.heap.size + 1) (if b then v0.heap.size + 1 else v0.heap.size) := by
  have e0 : ((v0.heap.push (.chan 0 #[] false 0 0 false)).push (.chan 0 #[] false 0 0 false))[v0.heap.size]? = some (Obj.chan 0 #[] false 0 0 false) := by simp [Array.getElem?_push]
  have e1 : ((v0.heap.push (.chan 0 #[] false 0 0 false)).push (.chan 0 #[] false 0 0 false))[v0.heap.size + 1]? = some (Obj.chan 0 #[] false 0 0 false) := by rw [show v0.heap.size + 1 = (v0.heap.push (Obj.chan 0 #[] false 0 0 false)).size by simp, Array.getElem?_push_size]
  refine ⟨⟨fun r hr => ?_, by simp; omega, rfl, rfl⟩, ?_, ?_, ?_, ?_, ?_⟩
  · show ((v0.heap.push _).push _)[r]? = _
    rw [Array.getElem?_push, if_neg (by simp; omega), Array.getElem?_push, if_neg (by omega)]
  all_goals cases b <;> first | exact e0 | exact e1 | simp

set_option maxHeartbeats 4000000 in
theorem lex_l (v0 : World) (s : ByteArray) (its : List It) (hx : Items s 0 (its.map It.val)) (hs : s.size ≤ 20000) (hlen : its.length ≤ s.size) : CallsG Try.prog (GL0 Try.prog) 29 #[.string s] (.a v0) (PostLex v0 its) := by
  refine callsG_cl fun hcl => ?_
  refine callsL_of_wp (c := text29) Try.func29 rfl ?_
  rw [Try.ntmps29]
  rw [fr_of (n := 41) (by simp) [(0, .string s)] ⟨by simp, trivial⟩]
  generalize (fun j => (#[Value.string s] ++ Array.replicate (41 - #[Value.string s].size) undef).getD j undef) = σ
  show WpG _ _ _ (.seq (.region 0 _ _) (.seq (.seq (.region 1 _ _) (.cond _ _ _)) (.seq (.region 3 _ _) (cSnd (cSnd (cSnd text29)))))) _ _ _
  refine wpG_seq gl0 idleL ?_
  refine wpG_region gl0 idleL ?_
  refine opsF_val gl0 idleL rfl (by rfl) rfl (x := .slice none 0 0) (y_assign rfl) ?_
  refine opsF_val gl0 idleL rfl (by rfl) rfl (x := .int .i64 0) (y_assign rfl) ?_
  refine opsF_val gl0 idleL rfl (by rfl) rfl (x := .int .i64 0) (y_assign rfl) ?_
  refine opsG_nil gl0 idleL ?_
  refine wpG_seq gl0 idleL ?_
  refine wpG_seq gl0 idleL ?_
  refine wpG_region gl0 idleL ?_
  refine opsF_val gl0 idleL rfl (by rfl) rfl (x := .string s) (y_move rfl) ?_
  refine opsF_val gl0 idleL rfl (by rfl) rfl (x := .int .i64 s.size) (y_len_string rfl) ?_
  refine opsF_val gl0 idleL rfl (by rfl) rfl (x := .bool false) (y_gtr rfl rfl (by simp; omega)) ?_
  refine opsG_nil gl0 idleL ?_
  refine wpG_cond gl0 idleL (t := false) (by rw [fr_eval]; rfl) ?_
  refine wpG_skip gl0 idleL ?_
  refine wpG_seq gl0 idleL ?_
  refine wpG_region_heldL (by kernel_rfl) (S := fun _ => True) ?_
  show AnyV _ _ _ _ .any _ _ _ 4 (Array.replicate 4 false) _ _
  refine anyV_all (rs := [0, 1]) (by first | kernel_rfl | decide +kernel) (by simp) fun i hi => ?_
  rcases List.mem_cons.1 hi with rfl | hi
  · have ha0 := @opV_newA (fn := 29) (n := 41) (σ := σ) (v := v0) (d := 13) (x := .chan (some v0.heap.size)) (ob := .chan 0 #[] false 0 0 false)
    refine ha0 _ _ _ _ _ ?oa0 _ ?hoa0 ?hwa0 ?hda0 ?hra0 ?hna0
    case hoa0 => exact rfl
    case hwa0 => rfl
    case hda0 => exact rfl
    case hra0 => exact fun w hw => run_chan2 rfl _ (by decide) w (by rw [hw])
    refine ⟨trivial, ?_⟩
    refine anyF_val idleL (by trivial) (i := 2) rfl (by first | kernel_rfl | decide +kernel) (by first | kernel_rfl | decide +kernel) (by first | kernel_rfl | decide +kernel) (by rfl) rfl (x := .chan (some v0.heap.size)) (y_assign rfl) ?_
    refine anyV_all (rs := [1]) (by first | kernel_rfl | decide +kernel) (by simp) fun i hi => ?_
    obtain rfl := List.mem_singleton.1 hi
    have hb0 := @opV_newA (fn := 29) (n := 41) (σ := σ) (v := { v0 with heap := v0.heap.push (.chan 0 #[] false 0 0 false) }) (d := 14) (x := .chan (some (v0.heap.size + 1))) (ob := .chan 0 #[] false 0 0 false)
    refine hb0 _ _ _ _ _ ?ob0 _ ?hob0 ?hwb0 ?hdb0 ?hrb0 ?hnb0
    case hob0 => exact rfl
    case hwb0 => rfl
    case hdb0 => exact rfl
    case hrb0 => exact fun w hw => run_chan2 rfl _ (by decide) w (by rw [hw]; simp)
    refine ⟨trivial, ?_⟩
    refine anyF_val idleL (by trivial) (i := 3) rfl (by first | kernel_rfl | decide +kernel) (by first | kernel_rfl | decide +kernel) (by first | kernel_rfl | decide +kernel) (by rfl) rfl (x := .chan (some (v0.heap.size + 1))) (y_assign rfl) ?_
    refine anyV_done (by first | kernel_rfl | decide +kernel) ?_ _
    rw [fr_says [(5, .chan (some (v0.heap.size))), (6, .chan (some (v0.heap.size + 1))), (0, .string s)] ⟨rfl, rfl, rfl, trivial⟩]
    exact lex_rest hs hx hlen ((hcl.new _).new _) (made2 true v0)
  · obtain rfl := List.mem_singleton.1 hi
    have ha1 := @opV_newA (fn := 29) (n := 41) (σ := σ) (v := v0) (d := 14) (x := .chan (some v0.heap.size)) (ob := .chan 0 #[] false 0 0 false)
    refine ha1 _ _ _ _ _ ?oa1 _ ?hoa1 ?hwa1 ?hda1 ?hra1 ?hna1
    case hoa1 => exact rfl
    case hwa1 => rfl
    case hda1 => exact rfl
    case hra1 => exact fun w hw => run_chan2 rfl _ (by decide) w (by rw [hw])
    refine ⟨trivial, ?_⟩
    refine anyV_all (rs := [0]) (by first | kernel_rfl | decide +kernel) (by simp) fun i hi => ?_
    obtain rfl := List.mem_singleton.1 hi
    have hb1 := @opV_newA (fn := 29) (n := 41) (σ := σ) (v := { v0 with heap := v0.heap.push (.chan 0 #[] false 0 0 false) }) (d := 13) (x := .chan (some (v0.heap.size + 1))) (ob := .chan 0 #[] false 0 0 false)
    refine hb1 _ _ _ _ _ ?ob1 _ ?hob1 ?hwb1 ?hdb1 ?hrb1 ?hnb1
    case hob1 => exact rfl
    case hwb1 => rfl
    case hdb1 => exact rfl
    case hrb1 => exact fun w hw => run_chan2 rfl _ (by decide) w (by rw [hw]; simp)
    refine ⟨trivial, ?_⟩
    refine anyF_val idleL (by trivial) (i := 2) rfl (by first | kernel_rfl | decide +kernel) (by first | kernel_rfl | decide +kernel) (by first | kernel_rfl | decide +kernel) (by rfl) rfl (x := .chan (some (v0.heap.size + 1))) (y_assign rfl) ?_
    refine anyF_val idleL (by trivial) (i := 3) rfl (by first | kernel_rfl | decide +kernel) (by first | kernel_rfl | decide +kernel) (by first | kernel_rfl | decide +kernel) (by rfl) rfl (x := .chan (some (v0.heap.size))) (y_assign rfl) ?_
    refine anyV_done (by first | kernel_rfl | decide +kernel) ?_ _
    rw [fr_says [(5, .chan (some (v0.heap.size + 1))), (6, .chan (some (v0.heap.size))), (0, .string s)] ⟨rfl, rfl, rfl, trivial⟩]
    exact lex_rest hs hx hlen ((hcl.new _).new _) (made2 false v0)
end Go.Proofs.Ytfaadjmglboaoaa
