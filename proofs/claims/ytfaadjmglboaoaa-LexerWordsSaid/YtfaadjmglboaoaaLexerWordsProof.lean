/-
  LexerWords returns true for every text and all numbers of blanks, on every schedule: a text of word bytes alone is one token, at its place, whatever blanks stand around it. Conditions: none.
-/
import Derived.Test.YtfaadjmglboaoaaRefWord
import Derived.Test.YtfaadjmglboaoaaWordsItems
namespace Go.Proofs.Ytfaadjmglboaoaa
open Go.ChangeShapes Go.WideShapes Go.ChangeAt Go.RowKit Go.Conc
open Go.ChangeMaps (open_string shut_string)

namespace lexerWords

theorem own : ownKnob Try.prog.godebug = none := by kernel_rfl

theorem grew_frame {W u : World} (h : Grew W u) (τ : Nat → Question → Nat) (d : Nat) (may : MemPlace → Prop) : W.keptBut (tap u τ d) may := by
  refine ⟨h.os, h.output, fun i hi => ?_⟩
  rw [show (tap u τ d).heap[i]? = W.heap[i]? from h.old i hi]
  split <;> simp_all

section
variable {fn : FuncId} {kd : Bool} {Q : Exit → Act → VL → Prop} {v : World} {d n : Nat} {σ : Nat → Value} {l : List (Nat × Value)} {ds : List Deferred} {x : Value}
/-- One operation that turns nothing, beside leavers: what it lists is soft by its kind. -/
theorem opsF_calm {ops : Array Oper} {i : Nat} {rest : List Nat} {o : Oper} (ho : ops[i]? = some o) (hw : Region.wanted o (yielded ops (fr n σ l ds).tmps) = true) (hd : o.dst = some d) (hok : okOp (fun _ => false) o.op = true) (hnp : ∀ x, o.op ≠ .panic x)
    (hr : ∀ w, (execOp (ev n σ l) o).run Try.prog w = .ok (.value x) w) (h : OpsG (GL0 Try.prog) kd fn ops rest Q (fr n σ ((d, x) :: l) ds) (.a v)) : OpsG (GL0 Try.prog) kd fn ops (i :: rest) Q (fr n σ l ds) (.a v) := by
  refine opsG_cons gl0 ho hw ?_
  rintro w ⟨hc, τ, d', rfl⟩
  have hT : TameProg Try.prog (fun _ => false) := ⟨fun f hf => by cases hf⟩
  have hran := calm_ran (c_execOp hT (fun f => rfl) hok hnp) (tap v τ d') #[] (hc.tap τ d') (by simp) (s := execOp (ev n σ l) o)
  have hrun := hr (tap v τ d')
  rw [← fr_eval (n := n) (σ := σ) (l := l) (ds := ds)] at hrun hran
  rw [hrun]
  refine ⟨.a v, ⟨fun e he => ?_, hc.tap τ d', τ, d', rfl⟩, by rw [hd, fr_put]; exact h⟩
  rcases hran with ⟨a, w', es', m, _, _, hes, _, _, hT2⟩ | ⟨m, hh⟩
  · have h2 := hT2 (tap v τ d').tape (tap v τ d').drawn (fun i _ q => rfl)
    rw [Sem.runT_eq] at h2
    have h3 : (execOp (fr n σ l ds).eval o).events Try.prog (tap v τ d') #[] = es' := congrArg Prod.snd h2
    exact hes e (by rw [← h3]; exact mem_listed he)
  · obtain ⟨y, w', es', h2, _⟩ := hh (tap v τ d').tape (tap v τ d').drawn (fun i _ q => rfl)
    rw [Sem.runT_eq] at h2
    have h3 := congrArg Prod.fst h2
    have h4 : (execOp (fr n σ l ds).eval o).run Try.prog (tap v τ d') = .halt y w' := h3
    rw [hrun] at h4
    cases h4
end
theorem r_eql40 {ρ : Operand → Value} {d : Option Tmp} {ty : TypeId} {pos : String} {af : Array Edge} {gu : Option (Nat × Bool)} {x y : Operand} {k p : Int} {t : ByteArray} (hx : ρ x = .agg #[.int .i64 k, .int .i64 p, .string t]) (hy : ρ y = .agg #[.int .i64 k, .int .i64 p, .string t]) (w : World) : (execOp ρ ⟨d, .binOp .eql 40 x y 40, ty, pos, af, gu⟩).run Try.prog w = .ok (.value (.bool true)) w :=
  eq_of_K fun K hK => by go_simp; exact hK

/-- One of four blanks. -/
theorem blank_piece {bl : ByteArray} (h4 : bl.size = 4) (hb : AllB isBlank bl) (q : Nat) (hq : q < 4) : (bl.extract q (q + 1)).size = 1 ∧ AllB isBlank (bl.extract q (q + 1)) := by
  refine ⟨by rw [ByteArray.size_extract]; omega, fun j h => ?_⟩
  rw [ByteArray.getElem_extract]
  exact hb _ _
theorem allB_append {f : Int → Bool} {s t : ByteArray} (hs : AllB f s) (ht : AllB f t) : AllB f (s ++ t) := fun j h => by
  by_cases hj : j < s.size
  · rw [ByteArray.getElem_append_left hj]; exact hs j hj
  · rw [ByteArray.getElem_append_right (by omega)]; exact ht _ _
theorem allB_of {f : Int → Bool} {s : ByteArray} (h : ((List.range s.size).all fun i => f (s[i]!.toNat : Int)) = true) : AllB f s := fun j hj => by
  rw [← getI hj]
  exact List.all_eq_true.1 h j (List.mem_range.2 hj)

def blanks1 : ByteArray := { data := #[32, 10, 9, 13] }
def blanks2 : ByteArray := { data := #[10, 32, 13, 9] }
theorem blanks1_all : AllB isBlank blanks1 := allB_of (by decide +kernel)
theorem blanks2_all : AllB isBlank blanks2 := allB_of (by decide +kernel)

theorem y_indexAddr36 {ρ : Operand → Value} {d : Option Tmp} {ty : TypeId} {pos : String} {af : Array Edge} {gu : Option (Nat × Bool)} {x i : Operand} {R m n c : Nat} (hx : ρ x = .slice (some ⟨R, 0, none⟩) n c) (hi : ρ i = .int .i64 m) (h1 : m < n) : Ylds ρ ⟨d, .indexAddr 36 x i, ty, pos, af, gu⟩ (.pointer (some ⟨R, m * 3, none⟩)) := fun w => by
  have h0 : (0 : Int) ≤ m := by omega
  have h2 : (m : Int) < n := by omega
  exact ⟨eq_of_K fun K hK => by go_simp; exact hK, by simp [go_sem, hx, hi, h2]⟩

theorem lex_word (v : World) (t s b : ByteArray) (ht : AllB isBlank t) (hs : AllB wordOf s) (h0 : 0 < s.size) (hb : AllB isBlank b) (h1 : t.size ≤ 40) (h2 : s.size ≤ 1024) (h3 : b.size ≤ 40) :
    CallsG Try.prog (GL0 Try.prog) 29 #[.string (t ++ s ++ b)] (.a v) (fun r v' => ∃ u g cap cur, v' = .a u ∧ Grew v u ∧ r = .tuple #[.slice (some ⟨g, 0, none⟩) 1 cap, .int .i64 0, .int .i64 0] ∧ allOf u g = some (.cells cur 40 (0, 0)) ∧
      cur[0]? = some (.int .i64 1) ∧ cur[0 + 1]? = some (.int .i64 (t.size : Nat)) ∧ cur[0 + 2]? = some (.string s)) := by
  have hsz : (t ++ s ++ b).size = t.size + s.size + b.size := by simp only [ByteArray.size_append]
  refine (lex_l v (t ++ s ++ b) [⟨1, t.size, s, 0⟩] (words_items ht hs h0 hb) (by omega) (by rw [hsz]; simp; omega)).mono ?_
  rintro r v' ⟨u, e1, e2, e3⟩
  unfold LexRes at e3
  rw [if_pos (by rfl)] at e3
  obtain ⟨x, rfl, ⟨e4, ⟨_, e5⟩ | ⟨g, cap, cur, rfl, e6, e7, e8, e9, e10⟩⟩, _⟩ := e3
  · exact absurd e5 (by simp [cnt, It.one])
  · have hg : ∀ i, i < 3 → cur[i]? = (toks [⟨1, t.size, s, 0⟩])[i]? := fun i hi => by
      rw [← e10, List.getElem?_take, if_pos (by show i < 1 * 3; omega)]
      simp
    exact ⟨u, g, cap, cur, e1, e2, rfl, e6, by rw [hg 0 (by decide)]; rfl, by rw [hg 1 (by decide)]; rfl, by rw [hg 2 (by decide)]; rfl⟩

set_option maxHeartbeats 4000000 in
theorem walk (s : ByteArray) (a b : Nat) (ha : a < 256) (hb : b < 256) (W : World) (Post : Value → World → Prop) (hP : ∀ u, Grew W u → ∀ τ d, Post (.bool true) (tap u τ d)) :
    Ends Try.prog Post (G (Frame.enter Try.prog 8 #[.string s, .int .u8 a, .int .u8 b] .normal) []) W := by
  refine ends_of_wp (c := Try.f8.body.getD .skip) Try.func8 rfl (by kernel_rfl) ?_
  rw [Try.ntmps8]
  rw [fr_of (n := 96) (by simp) [(0, .string s), (1, .int .u8 a), (2, .int .u8 b)] ⟨by simp, by simp, by simp, trivial⟩]
  generalize (fun j => (#[Value.string s, Value.int .u8 a, Value.int .u8 b] ++ Array.replicate (96 - #[Value.string s, Value.int .u8 a, Value.int .u8 b].size) undef).getD j undef) = σ
  rcases Nat.lt_or_ge 1024 s.size with hs | hs
  · refine wpG_seq gl0 idleL ?_
    refine wpG_region gl0 idleL ?_
    refine opsF_val gl0 idleL rfl (by rfl) rfl (x := .bool false) (y_assign rfl) ?_
    refine opsG_nil gl0 idleL ?_
    refine wpG_seq gl0 idleL ?_
    refine wpG_seq gl0 idleL ?_
    refine wpG_region gl0 idleL ?_
    refine opsF_val gl0 idleL rfl (by rfl) rfl (x := .string s) (y_move rfl) ?_
    refine opsF_val gl0 idleL rfl (by rfl) rfl (x := .int .i64 s.size) (y_len_string rfl) ?_
    refine opsF_val gl0 idleL rfl (by rfl) rfl (x := .bool true) (y_gtr rfl rfl (by simp; omega)) ?_
    refine opsF_val gl0 idleL rfl (by rfl) rfl (x := .bool true) (y_move rfl) ?_
    refine opsF_skip gl0 idleL rfl (by rfl) rfl ?_
    refine opsF_skip gl0 idleL rfl (by rfl) rfl ?_
    refine opsF_skip gl0 idleL rfl (by rfl) rfl ?_
    refine opsF_val gl0 idleL rfl (by rfl) rfl (x := .bool true) (y_pick (t := true) rfl rfl) ?_
    refine opsF_val gl0 idleL rfl (by rfl) rfl (x := .bool true) (y_move rfl) ?_
    refine opsF_skip gl0 idleL rfl (by rfl) rfl ?_
    refine opsF_skip gl0 idleL rfl (by rfl) rfl ?_
    refine opsF_val gl0 idleL rfl (by rfl) rfl (x := .bool true) (y_pick (t := true) rfl rfl) ?_
    refine opsG_nil gl0 idleL ?_
    refine wpG_cond gl0 idleL (t := true) (by rw [fr_eval]; rfl) ?_
    refine wpG_seq gl0 idleL ?_
    refine wpG_region gl0 idleL ?_
    refine opsF_call gl0 idleL rfl (by rfl) rfl (run_call (args := #[]) rfl Try.func27 (by rfl) rfl (by simp)) (shown27 W) ?_
    rintro _ _ ⟨u1, rfl, hu1, rfl⟩
    refine opsF_val gl0 idleL rfl (by rfl) rfl (x := .bool true) (y_assign rfl) ?_
    refine opsG_nil gl0 idleL ?_
    refine wpG_ret gl0 idleL ?_
    exact ⟨.inr rfl, rfl, _, u1, rfl, resultsC_tmp (by rfl) _, by rw [fr_ret (by decide) rfl]; exact hP _ (hu1)⟩
  rcases Nat.eq_zero_or_pos s.size with hz | hz
  · refine wpG_seq gl0 idleL ?_
    refine wpG_region gl0 idleL ?_
    refine opsF_val gl0 idleL rfl (by rfl) rfl (x := .bool false) (y_assign rfl) ?_
    refine opsG_nil gl0 idleL ?_
    refine wpG_seq gl0 idleL ?_
    refine wpG_seq gl0 idleL ?_
    refine wpG_region gl0 idleL ?_
    refine opsF_val gl0 idleL rfl (by rfl) rfl (x := .string s) (y_move rfl) ?_
    refine opsF_val gl0 idleL rfl (by rfl) rfl (x := .int .i64 s.size) (y_len_string rfl) ?_
    refine opsF_val gl0 idleL rfl (by rfl) rfl (x := .bool false) (y_gtr rfl rfl (by simp; omega)) ?_
    refine opsF_val gl0 idleL rfl (by rfl) rfl (x := .bool false) (y_move rfl) ?_
    refine opsF_val gl0 idleL rfl (by rfl) rfl (x := .string s) (y_move rfl) ?_
    refine opsF_val gl0 idleL rfl (by rfl) rfl (x := .int .i64 s.size) (y_len_string rfl) ?_
    refine opsF_val gl0 idleL rfl (by rfl) rfl (x := .bool true) (y_eql (.inl rfl) rfl rfl (by simp [hz])) ?_
    refine opsF_val gl0 idleL rfl (by rfl) rfl (x := .bool true) (y_pick (t := false) rfl rfl) ?_
    refine opsF_val gl0 idleL rfl (by rfl) rfl (x := .bool true) (y_move rfl) ?_
    refine opsF_skip gl0 idleL rfl (by rfl) rfl ?_
    refine opsF_skip gl0 idleL rfl (by rfl) rfl ?_
    refine opsF_val gl0 idleL rfl (by rfl) rfl (x := .bool true) (y_pick (t := true) rfl rfl) ?_
    refine opsG_nil gl0 idleL ?_
    refine wpG_cond gl0 idleL (t := true) (by rw [fr_eval]; rfl) ?_
    refine wpG_seq gl0 idleL ?_
    refine wpG_region gl0 idleL ?_
    refine opsF_call gl0 idleL rfl (by rfl) rfl (run_call (args := #[]) rfl Try.func27 (by rfl) rfl (by simp)) (shown27 W) ?_
    rintro _ _ ⟨u1, rfl, hu1, rfl⟩
    refine opsF_val gl0 idleL rfl (by rfl) rfl (x := .bool true) (y_assign rfl) ?_
    refine opsG_nil gl0 idleL ?_
    refine wpG_ret gl0 idleL ?_
    exact ⟨.inr rfl, rfl, _, u1, rfl, resultsC_tmp (by rfl) _, by rw [fr_ret (by decide) rfl]; exact hP _ (hu1)⟩
  refine wpG_seq gl0 idleL ?_
  refine wpG_region gl0 idleL ?_
  refine opsF_val gl0 idleL rfl (by rfl) rfl (x := .bool false) (y_assign rfl) ?_
  refine opsG_nil gl0 idleL ?_
  refine wpG_seq gl0 idleL ?_
  refine wpG_seq gl0 idleL ?_
  refine wpG_region gl0 idleL ?_
  refine opsF_val gl0 idleL rfl (by rfl) rfl (x := .string s) (y_move rfl) ?_
  refine opsF_val gl0 idleL rfl (by rfl) rfl (x := .int .i64 s.size) (y_len_string rfl) ?_
  refine opsF_val gl0 idleL rfl (by rfl) rfl (x := .bool false) (y_gtr rfl rfl (by simp; omega)) ?_
  refine opsF_val gl0 idleL rfl (by rfl) rfl (x := .bool false) (y_move rfl) ?_
  refine opsF_val gl0 idleL rfl (by rfl) rfl (x := .string s) (y_move rfl) ?_
  refine opsF_val gl0 idleL rfl (by rfl) rfl (x := .int .i64 s.size) (y_len_string rfl) ?_
  refine opsF_val gl0 idleL rfl (by rfl) rfl (x := .bool false) (y_eql (.inl rfl) rfl rfl (beq_eq_false_iff_ne.2 (by omega))) ?_
  refine opsF_val gl0 idleL rfl (by rfl) rfl (x := .bool false) (y_pick (t := false) rfl rfl) ?_
  refine opsF_val gl0 idleL rfl (by rfl) rfl (x := .bool false) (y_move rfl) ?_
  refine opsF_call gl0 idleL rfl (by rfl) rfl (run_call (args := #[]) rfl Try.func27 (by rfl) rfl (by simp)) (shown27 W) ?_
  rintro _ _ ⟨u1, rfl, hu1, rfl⟩
  refine opsF_val gl0 idleL rfl (by rfl) rfl (x := .bool false) (y_not (b := true) rfl) ?_
  refine opsF_val gl0 idleL rfl (by rfl) rfl (x := .bool false) (y_pick (t := false) rfl rfl) ?_
  refine opsG_nil gl0 idleL ?_
  refine wpG_cond gl0 idleL (t := false) (by rw [fr_eval]; rfl) ?_
  refine wpG_skip gl0 idleL ?_
  refine wpG_seq gl0 idleL ?_
  refine wpG_seq gl0 idleL ?_
  refine wpG_region gl0 idleL ?_
  refine opsF_val gl0 idleL rfl (by rfl) rfl (x := .int .i64 0) (y_assign rfl) ?_
  refine opsG_nil gl0 idleL ?_
  refine wpG_block gl0 idleL ?_
  refine wpG_loopN gl0 idleL (fun m x v => ∃ (j : Nat) (τ : Nat → Value) (u : World), m = s.size - j ∧ j ≤ s.size ∧ (∀ i (h : i < s.size), i < j → wordOf (s[i].toNat : Int) = true) ∧ x = fr 96 τ [(0, .string s), (1, .int .u8 (a : Nat)), (2, .int .u8 (b : Nat)), (7, .int .i64 (j : Nat))] [] ∧ v = .a u ∧ Grew W u) s.size ⟨0, _, u1, rfl, Nat.zero_le _, fun i _ h => by omega, fr_says _ ⟨rfl, rfl, rfl, rfl, trivial⟩, rfl, hu1⟩ ?_
  rintro m _ _ ⟨j, τ, u, rfl, hj, hall, rfl, rfl, hu⟩
  clear σ hu1
  by_cases hlt : j < s.size
  rotate_left
  · refine wpG_seq gl0 idleL ?_
    refine wpG_seq gl0 idleL ?_
    refine wpG_region gl0 idleL ?_
    refine opsF_val gl0 idleL rfl (by rfl) rfl (x := .int .i64 (j : Nat)) (y_move rfl) ?_
    refine opsF_val gl0 idleL rfl (by rfl) rfl (x := .string s) (y_move rfl) ?_
    refine opsF_val gl0 idleL rfl (by rfl) rfl (x := .int .i64 s.size) (y_len_string rfl) ?_
    refine opsF_val gl0 idleL rfl (by rfl) rfl (x := .bool false) (y_lss rfl rfl (by simp; omega)) ?_
    refine opsG_nil gl0 idleL ?_
    refine wpG_cond gl0 idleL (t := false) (by rw [fr_eval]; rfl) ?_
    refine wpG_exit gl0 idleL ?_
    refine wpG_seq gl0 idleL ?_
    have hword : AllB wordOf s := fun i h => hall i h (by omega)
    refine wpG_region gl0 idleL ?_
    refine opsF_val gl0 idleL rfl (by rfl) rfl (x := .string { data := #[] }) (y_assign rfl) ?_
    refine opsG_nil gl0 idleL ?_
    refine wpG_seq gl0 idleL ?_
    refine wpG_seq gl0 idleL ?_
    refine wpG_region gl0 idleL ?_
    refine opsF_val gl0 idleL rfl (by rfl) rfl (x := .int .i64 0) (y_assign rfl) ?_
    refine opsG_nil gl0 idleL ?_
    refine wpG_block gl0 idleL ?_
    refine wpG_loopN gl0 idleL (fun m x v => ∃ (i : Nat) (τ : Nat → Value) (t : ByteArray), m = a % 20 - i ∧ i ≤ a % 20 ∧ t.size = i ∧ AllB isBlank t ∧ x = fr 96 τ [(0, .string s), (1, .int .u8 (a : Nat)), (2, .int .u8 (b : Nat)), (8, .string (t)), (9, .int .i64 (i : Nat))] [] ∧ v = .a u) (a % 20) ⟨0, _, ByteArray.empty, rfl, Nat.zero_le _, rfl, (fun j h => by cases h), fr_says _ ⟨rfl, rfl, rfl, rfl, rfl, trivial⟩, rfl⟩ ?_
    rintro m _ _ ⟨it, τ1, t, rfl, hit, hszt, hallt, rfl, rfl⟩
    by_cases hltt : it < a % 20
    rotate_left
    · refine wpG_seq gl0 idleL ?_
      refine wpG_seq gl0 idleL ?_
      refine wpG_region gl0 idleL ?_
      refine opsF_val gl0 idleL rfl (by rfl) rfl (x := .int .i64 (it : Nat)) (y_move rfl) ?_
      refine opsF_val gl0 idleL rfl (by rfl) rfl (x := .int .u8 (a : Nat)) (y_move rfl) ?_
      refine opsF_val gl0 idleL rfl (by rfl) rfl (x := .int .i64 (a : Nat)) (y_conv5 rfl (by omega) (by omega)) ?_
      refine opsF_val gl0 idleL rfl (by rfl) rfl (x := .int .i64 (a % 20 : Nat)) (y_rem (k := 20) rfl rfl (by omega)) ?_
      refine opsF_val gl0 idleL rfl (by rfl) rfl (x := .bool false) (y_lss rfl rfl (by simp; omega)) ?_
      refine opsG_nil gl0 idleL ?_
      refine wpG_cond gl0 idleL (t := false) (by rw [fr_eval]; rfl) ?_
      refine wpG_exit gl0 idleL ?_
      refine wpG_seq gl0 idleL ?_
      refine wpG_region gl0 idleL ?_
      refine opsF_val gl0 idleL rfl (by rfl) rfl (x := .string (t)) (y_move rfl) ?_
      refine opsF_val gl0 idleL rfl (by rfl) rfl (x := .string s) (y_move rfl) ?_
      refine opsF_val gl0 idleL rfl (by rfl) rfl (x := .string (t ++ s)) (y_cat rfl rfl (by omega)) ?_
      refine opsF_val gl0 idleL rfl (by rfl) rfl (x := .string (t ++ s)) (y_assign rfl) ?_
      refine opsG_nil gl0 idleL ?_
      refine wpG_seq gl0 idleL ?_
      refine wpG_seq gl0 idleL ?_
      refine wpG_region gl0 idleL ?_
      refine opsF_val gl0 idleL rfl (by rfl) rfl (x := .int .i64 0) (y_assign rfl) ?_
      refine opsG_nil gl0 idleL ?_
      refine wpG_block gl0 idleL ?_
      refine wpG_loopN gl0 idleL (fun m x v => ∃ (i : Nat) (τ : Nat → Value) (bb : ByteArray), m = b % 20 - i ∧ i ≤ b % 20 ∧ bb.size = i ∧ AllB isBlank bb ∧ x = fr 96 τ [(0, .string s), (1, .int .u8 (a : Nat)), (2, .int .u8 (b : Nat)), (8, .string t), (10, .string (t ++ s ++ bb)), (11, .int .i64 (i : Nat))] [] ∧ v = .a u) (b % 20) ⟨0, _, ByteArray.empty, rfl, Nat.zero_le _, rfl, (fun j h => by cases h), fr_says _ ⟨rfl, rfl, rfl, rfl, by simp only [putAll, cond]; rw [ByteArray.append_empty], rfl, trivial⟩, rfl⟩ ?_
      rintro m _ _ ⟨ibb, τ2, bb, rfl, hibb, hszbb, hallbb, rfl, rfl⟩
      by_cases hltbb : ibb < b % 20
      rotate_left
      · refine wpG_seq gl0 idleL ?_
        refine wpG_seq gl0 idleL ?_
        refine wpG_region gl0 idleL ?_
        refine opsF_val gl0 idleL rfl (by rfl) rfl (x := .int .i64 (ibb : Nat)) (y_move rfl) ?_
        refine opsF_val gl0 idleL rfl (by rfl) rfl (x := .int .u8 (b : Nat)) (y_move rfl) ?_
        refine opsF_val gl0 idleL rfl (by rfl) rfl (x := .int .i64 (b : Nat)) (y_conv5 rfl (by omega) (by omega)) ?_
        refine opsF_val gl0 idleL rfl (by rfl) rfl (x := .int .i64 (b % 20 : Nat)) (y_rem (k := 20) rfl rfl (by omega)) ?_
        refine opsF_val gl0 idleL rfl (by rfl) rfl (x := .bool false) (y_lss rfl rfl (by simp; omega)) ?_
        refine opsG_nil gl0 idleL ?_
        refine wpG_cond gl0 idleL (t := false) (by rw [fr_eval]; rfl) ?_
        refine wpG_exit gl0 idleL ?_
        refine wpG_seq gl0 idleL ?_
        refine wpG_region gl0 idleL ?_
        refine opsF_val gl0 idleL rfl (by rfl) rfl (x := .string (t ++ s ++ bb)) (y_move rfl) ?_
        refine opsF_call gl0 idleL rfl (by rfl) rfl (run_call (args := #[.string (t ++ s ++ bb)]) rfl Try.func29 (by rfl) rfl (by simp only [List.map_toArray, List.map_cons, List.map_nil]; rfl)) (lex_word u t s bb hallt hword hz hallbb (by omega) (by omega) (by omega)) ?_
        rintro _ _ ⟨u4, g, cap, cur, rfl, hu4, rfl, hg, h0, h1, h2⟩
        refine opsF_val gl0 idleL rfl (by rfl) rfl (x := .tuple #[.slice (some ⟨g, 0, none⟩) 1 cap, .int .i64 0, .int .i64 0]) (y_move rfl) ?_
        refine opsF_val gl0 idleL rfl (by rfl) rfl (x := .slice (some ⟨g, 0, none⟩) 1 cap) (y_extract rfl rfl) ?_
        refine opsF_val gl0 idleL rfl (by rfl) rfl (x := .int .i64 0) (y_extract rfl rfl) ?_
        refine opsF_val gl0 idleL rfl (by rfl) rfl (x := .int .i64 0) (y_extract rfl rfl) ?_
        refine opsF_val gl0 idleL rfl (by rfl) rfl (x := .slice (some ⟨g, 0, none⟩) 1 cap) (y_assign rfl) ?_
        refine opsF_val gl0 idleL rfl (by rfl) rfl (x := .int .i64 0) (y_assign rfl) ?_
        refine opsF_val gl0 idleL rfl (by rfl) rfl (x := .int .i64 0) (y_assign rfl) ?_
        refine opsG_nil gl0 idleL ?_
        refine wpG_seq gl0 idleL ?_
        refine wpG_region gl0 idleL ?_
        refine opsF_val gl0 idleL rfl (by rfl) rfl (x := .int .i64 0) (y_move rfl) ?_
        refine opsF_val gl0 idleL rfl (by rfl) rfl (x := .bool true) (y_eql (.inr rfl) rfl rfl (rfl)) ?_
        refine opsF_val gl0 idleL rfl (by rfl) rfl (x := .bool true) (y_move rfl) ?_
        refine opsF_val gl0 idleL rfl (by rfl) rfl (x := .slice (some ⟨g, 0, none⟩) 1 cap) (y_move rfl) ?_
        refine opsF_val gl0 idleL rfl (by rfl) rfl (x := .int .i64 (1 : Nat)) (y_len_slice Try.underlying36 rfl) ?_
        refine opsF_val gl0 idleL rfl (by rfl) rfl (x := .bool true) (y_eql (.inl rfl) rfl rfl (rfl)) ?_
        refine opsF_val gl0 idleL rfl (by rfl) rfl (x := .bool true) (y_pick (t := true) rfl rfl) ?_
        refine opsF_val gl0 idleL rfl (by rfl) rfl (x := .bool true) (y_move rfl) ?_
        refine opsF_val gl0 idleL rfl (by rfl) rfl (x := .slice (some ⟨g, 0, none⟩) 1 cap) (y_move rfl) ?_
        refine opsF_val gl0 idleL rfl (by rfl) rfl (x := .pointer (some ⟨g, 0 * 3, none⟩)) (y_indexAddr36 rfl rfl (by decide)) ?_
        refine opsF_rdR gl0 (lensA _) rfl (by rfl) rfl (x := .agg #[.int .i64 1, .int .i64 (t.size : Nat), .string s]) (rd_load40 (N := g) (k := 0) rfl hg h0 h1 h2) ?_
        refine opsF_val gl0 idleL rfl (by rfl) rfl (x := .string t) (y_move rfl) ?_
        refine opsF_val gl0 idleL rfl (by rfl) rfl (x := .int .i64 (t.size : Nat)) (y_len_string rfl) ?_
        refine opsF_val gl0 idleL rfl (by rfl) rfl (x := .string s) (y_move rfl) ?_
        refine opsF_val gl0 idleL rfl (by rfl) rfl (x := .agg #[.int .i64 1, .int .i64 (t.size : Nat), .string s]) (y_build40 rfl rfl rfl) ?_
        refine opsF_calm rfl (by rfl) rfl rfl (fun x h => by cases h) (x := .bool true) (r_eql40 rfl rfl) ?_
        refine opsF_val gl0 idleL rfl (by rfl) rfl (x := .bool true) (y_pick (t := true) rfl rfl) ?_
        refine opsF_val gl0 idleL rfl (by rfl) rfl (x := .bool true) (y_assign rfl) ?_
        refine opsG_nil gl0 idleL ?_
        refine wpG_ret gl0 idleL ?_
        exact ⟨.inr rfl, rfl, _, u4, rfl, resultsC_tmp (by rfl) _, by rw [fr_ret (by decide) rfl]; exact hP _ (hu.trans hu4)⟩
      · refine wpG_seq gl0 idleL ?_
        refine wpG_seq gl0 idleL ?_
        refine wpG_region gl0 idleL ?_
        refine opsF_val gl0 idleL rfl (by rfl) rfl (x := .int .i64 (ibb : Nat)) (y_move rfl) ?_
        refine opsF_val gl0 idleL rfl (by rfl) rfl (x := .int .u8 (b : Nat)) (y_move rfl) ?_
        refine opsF_val gl0 idleL rfl (by rfl) rfl (x := .int .i64 (b : Nat)) (y_conv5 rfl (by omega) (by omega)) ?_
        refine opsF_val gl0 idleL rfl (by rfl) rfl (x := .int .i64 (b % 20 : Nat)) (y_rem (k := 20) rfl rfl (by omega)) ?_
        refine opsF_val gl0 idleL rfl (by rfl) rfl (x := .bool true) (y_lss rfl rfl (by simp; omega)) ?_
        refine opsG_nil gl0 idleL ?_
        refine wpG_cond gl0 idleL (t := true) (by rw [fr_eval]; rfl) ?_
        refine wpG_skip gl0 idleL ?_
        refine wpG_seq gl0 idleL ?_
        refine wpG_block gl0 idleL ?_
        refine wpG_region gl0 idleL ?_
        refine opsF_val gl0 idleL rfl (by rfl) rfl (x := .string (t ++ s ++ bb)) (y_move rfl) ?_
        refine opsF_val gl0 idleL rfl (by rfl) rfl (x := .int .i64 (ibb : Nat)) (y_move rfl) ?_
        refine opsF_val gl0 idleL rfl (by rfl) rfl (x := .int .i64 (ibb % 4 : Nat)) (y_rem (k := 4) rfl rfl (by omega)) ?_
        refine opsF_val gl0 idleL rfl (by rfl) rfl (x := .int .i64 (ibb : Nat)) (y_move rfl) ?_
        refine opsF_val gl0 idleL rfl (by rfl) rfl (x := .int .i64 (ibb % 4 : Nat)) (y_rem (k := 4) rfl rfl (by omega)) ?_
        refine opsF_val gl0 idleL rfl (by rfl) rfl (x := .int .i64 (ibb % 4 + 1 : Nat)) (y_add rfl rfl (by rw [IntKind.wrap_i64]; omega)) ?_
        refine opsF_val gl0 idleL rfl (by rfl) rfl (x := .string (blanks2.extract (ibb % 4) (ibb % 4 + 1))) (y_slice (s := blanks2) rfl rfl rfl (by omega) (by show _ ≤ 4; omega)) ?_
        refine opsF_val gl0 idleL rfl (by rfl) rfl (x := .string (t ++ s ++ bb ++ blanks2.extract (ibb % 4) (ibb % 4 + 1))) (y_cat rfl rfl (by rw [(blank_piece rfl blanks2_all (ibb % 4) (by omega)).1]; simp only [ByteArray.size_append]; omega)) ?_
        refine opsF_val gl0 idleL rfl (by rfl) rfl (x := .string (t ++ s ++ bb ++ blanks2.extract (ibb % 4) (ibb % 4 + 1))) (y_assign rfl) ?_
        refine opsG_nil gl0 idleL ?_
        refine wpG_region gl0 idleL ?_
        refine opsF_val gl0 idleL rfl (by rfl) rfl (x := .int .i64 (ibb : Nat)) (y_move rfl) ?_
        refine opsF_val gl0 idleL rfl (by rfl) rfl (x := .int .i64 (ibb + 1 : Nat)) (y_add rfl rfl (by rw [IntKind.wrap_i64]; omega)) ?_
        refine opsF_val gl0 idleL rfl (by rfl) rfl (x := .int .i64 (ibb + 1 : Nat)) (y_assign rfl) ?_
        refine opsG_nil gl0 idleL ?_
        have hpc := blank_piece rfl blanks2_all (ibb % 4) (by omega)
        exact ⟨b % 20 - (ibb + 1), by omega, ibb + 1, _, bb ++ blanks2.extract (ibb % 4) (ibb % 4 + 1), rfl, by omega, by rw [ByteArray.size_append, hpc.1, hszbb], allB_append hallbb hpc.2, fr_says _ ⟨rfl, rfl, rfl, rfl, by simp only [ByteArray.append_assoc]; rfl, rfl, trivial⟩, rfl⟩
    · refine wpG_seq gl0 idleL ?_
      refine wpG_seq gl0 idleL ?_
      refine wpG_region gl0 idleL ?_
      refine opsF_val gl0 idleL rfl (by rfl) rfl (x := .int .i64 (it : Nat)) (y_move rfl) ?_
      refine opsF_val gl0 idleL rfl (by rfl) rfl (x := .int .u8 (a : Nat)) (y_move rfl) ?_
      refine opsF_val gl0 idleL rfl (by rfl) rfl (x := .int .i64 (a : Nat)) (y_conv5 rfl (by omega) (by omega)) ?_
      refine opsF_val gl0 idleL rfl (by rfl) rfl (x := .int .i64 (a % 20 : Nat)) (y_rem (k := 20) rfl rfl (by omega)) ?_
      refine opsF_val gl0 idleL rfl (by rfl) rfl (x := .bool true) (y_lss rfl rfl (by simp; omega)) ?_
      refine opsG_nil gl0 idleL ?_
      refine wpG_cond gl0 idleL (t := true) (by rw [fr_eval]; rfl) ?_
      refine wpG_skip gl0 idleL ?_
      refine wpG_seq gl0 idleL ?_
      refine wpG_block gl0 idleL ?_
      refine wpG_region gl0 idleL ?_
      refine opsF_val gl0 idleL rfl (by rfl) rfl (x := .string (t)) (y_move rfl) ?_
      refine opsF_val gl0 idleL rfl (by rfl) rfl (x := .int .i64 (it : Nat)) (y_move rfl) ?_
      refine opsF_val gl0 idleL rfl (by rfl) rfl (x := .int .i64 (it % 4 : Nat)) (y_rem (k := 4) rfl rfl (by omega)) ?_
      refine opsF_val gl0 idleL rfl (by rfl) rfl (x := .int .i64 (it : Nat)) (y_move rfl) ?_
      refine opsF_val gl0 idleL rfl (by rfl) rfl (x := .int .i64 (it % 4 : Nat)) (y_rem (k := 4) rfl rfl (by omega)) ?_
      refine opsF_val gl0 idleL rfl (by rfl) rfl (x := .int .i64 (it % 4 + 1 : Nat)) (y_add rfl rfl (by rw [IntKind.wrap_i64]; omega)) ?_
      refine opsF_val gl0 idleL rfl (by rfl) rfl (x := .string (blanks1.extract (it % 4) (it % 4 + 1))) (y_slice (s := blanks1) rfl rfl rfl (by omega) (by show _ ≤ 4; omega)) ?_
      refine opsF_val gl0 idleL rfl (by rfl) rfl (x := .string (t ++ blanks1.extract (it % 4) (it % 4 + 1))) (y_cat rfl rfl (by rw [(blank_piece rfl blanks1_all (it % 4) (by omega)).1]; omega)) ?_
      refine opsF_val gl0 idleL rfl (by rfl) rfl (x := .string (t ++ blanks1.extract (it % 4) (it % 4 + 1))) (y_assign rfl) ?_
      refine opsG_nil gl0 idleL ?_
      refine wpG_region gl0 idleL ?_
      refine opsF_val gl0 idleL rfl (by rfl) rfl (x := .int .i64 (it : Nat)) (y_move rfl) ?_
      refine opsF_val gl0 idleL rfl (by rfl) rfl (x := .int .i64 (it + 1 : Nat)) (y_add rfl rfl (by rw [IntKind.wrap_i64]; omega)) ?_
      refine opsF_val gl0 idleL rfl (by rfl) rfl (x := .int .i64 (it + 1 : Nat)) (y_assign rfl) ?_
      refine opsG_nil gl0 idleL ?_
      have hpc := blank_piece rfl blanks1_all (it % 4) (by omega)
      exact ⟨a % 20 - (it + 1), by omega, it + 1, _, t ++ blanks1.extract (it % 4) (it % 4 + 1), rfl, by omega, by rw [ByteArray.size_append, hpc.1, hszt], allB_append hallt hpc.2, fr_says _ ⟨rfl, rfl, rfl, rfl, rfl, trivial⟩, rfl⟩
  · refine wpG_seq gl0 idleL ?_
    refine wpG_seq gl0 idleL ?_
    refine wpG_region gl0 idleL ?_
    refine opsF_val gl0 idleL rfl (by rfl) rfl (x := .int .i64 (j : Nat)) (y_move rfl) ?_
    refine opsF_val gl0 idleL rfl (by rfl) rfl (x := .string s) (y_move rfl) ?_
    refine opsF_val gl0 idleL rfl (by rfl) rfl (x := .int .i64 s.size) (y_len_string rfl) ?_
    refine opsF_val gl0 idleL rfl (by rfl) rfl (x := .bool true) (y_lss rfl rfl (by simp; omega)) ?_
    refine opsG_nil gl0 idleL ?_
    refine wpG_cond gl0 idleL (t := true) (by rw [fr_eval]; rfl) ?_
    refine wpG_skip gl0 idleL ?_
    refine wpG_seq gl0 idleL ?_
    refine wpG_block gl0 idleL ?_
    refine wpG_seq gl0 idleL ?_
    refine wpG_region gl0 idleL ?_
    refine opsF_val gl0 idleL rfl (by rfl) rfl (x := .string s) (y_move rfl) ?_
    refine opsF_val gl0 idleL rfl (by rfl) rfl (x := .int .i64 (j : Nat)) (y_move rfl) ?_
    refine opsF_val gl0 idleL rfl (by rfl) rfl (x := .int .u8 (s[j].toNat : Int)) (y_index rfl rfl hlt) ?_
    refine opsF_call gl0 idleL rfl (by rfl) rfl (run_call (args := #[.int .u8 (s[j].toNat : Int)]) rfl Try.func28 (by rfl) rfl (by simp only [List.map_toArray, List.map_cons, List.map_nil]; rfl)) (callsA_pure (ref28 noneOwn (s[j].toNat : Int))) ?_
    rintro _ _ ⟨u2, _, rfl, ⟨rfl, -⟩, hu2⟩
    cases hc1 : refWord (s[j].toNat : Int)
    · refine opsF_val gl0 idleL rfl (by rfl) rfl (x := .bool true) (y_not (b := false) rfl) ?_
      refine opsG_nil gl0 idleL ?_
      refine wpG_cond gl0 idleL (t := true) (by rw [fr_eval]; rfl) ?_
      refine wpG_seq gl0 idleL ?_
      refine wpG_region gl0 idleL ?_
      refine opsF_call gl0 idleL rfl (by rfl) rfl (run_call (args := #[]) rfl Try.func27 (by rfl) rfl (by simp)) (shown27 u2) ?_
      rintro _ _ ⟨u3, rfl, hu3, rfl⟩
      refine opsF_val gl0 idleL rfl (by rfl) rfl (x := .bool true) (y_assign rfl) ?_
      refine opsG_nil gl0 idleL ?_
      refine wpG_ret gl0 idleL ?_
      exact ⟨.inr rfl, rfl, _, u3, rfl, resultsC_tmp (by rfl) _, by rw [fr_ret (by decide) rfl]; exact hP _ ((hu.trans hu2).trans hu3)⟩
    · refine opsF_val gl0 idleL rfl (by rfl) rfl (x := .bool false) (y_not (b := true) rfl) ?_
      refine opsG_nil gl0 idleL ?_
      refine wpG_cond gl0 idleL (t := false) (by rw [fr_eval]; rfl) ?_
      refine wpG_skip gl0 idleL ?_
      refine wpG_region gl0 idleL ?_
      refine opsF_val gl0 idleL rfl (by rfl) rfl (x := .int .i64 (j : Nat)) (y_move rfl) ?_
      refine opsF_val gl0 idleL rfl (by rfl) rfl (x := .int .i64 (j + 1 : Nat)) (y_add rfl rfl (by rw [IntKind.wrap_i64]; omega)) ?_
      refine opsF_val gl0 idleL rfl (by rfl) rfl (x := .int .i64 (j + 1 : Nat)) (y_assign rfl) ?_
      refine opsG_nil gl0 idleL ?_
      exact ⟨s.size - (j + 1), by omega, j + 1, _, u2, rfl, by omega, fun i h hi => by
        rcases Nat.lt_or_ge i j with h1 | h1
        · exact hall i h h1
        · obtain rfl : i = j := by omega
          rw [← refWord_eq]; exact hc1, fr_says _ ⟨rfl, rfl, rfl, rfl, trivial⟩, rfl, hu.trans hu2⟩

/-! ### THE ROW's STEP -/
theorem u8_bound {a1 : Int} (w1 : (Lit.int .u8 a1).wf = true) : 0 ≤ a1 ∧ a1 < 256 := by
  have e1 : IntKind.u8.min = 0 := by rfl
  have e2 : IntKind.u8.max = 255 := by rfl
  have h : IntKind.u8.min ≤ a1 ∧ a1 ≤ IntKind.u8.max := by simpa [Lit.wf] using w1
  omega

set_option maxRecDepth 100000 in
theorem lifted (os : Os) (started : os.Started) (H : Type) (enc : TypeId × Value → H) :
    ReturnsInLeavingWide {} Try.checked os 8 .any (Rows.lexerWordsSpec.pre6 enc Try.prog Try.f8 Rows.lexerWordsRow.domain false) (Rows.lexerWordsSpec.post enc Try.prog Try.f8 false true false false) := by
  refine returns_of_ends own started Try.func8
    (ChangeSpec.witness6 (enc := enc) (C := Try.checked) false ⟨#[], #[.string { data := #[] }, .int .u8 0, .int .u8 0], []⟩ 8 (by kernel_rfl) (by kernel_rfl) (by kernel_rfl) (by kernel_rfl)) ?_
  intro W base args ds gs before hval0 hW hcnd _ _
  have hval : ∀ (j : Nat) t v, Try.f8.params[j]? = some t → args[j]? = some v → Value.okWide Try.prog W .any base t v := hval0
  have hW' := hW
  obtain ⟨p, q, hA0, hV, rfl, hfz, hnd⟩ := hW
  have hA : DataW.TrodAll enc Try.prog W 0 (fun _ => true) true Try.f8.params.toList args.toList ds p := hA0
  rw [Try.params8] at hA hval
  obtain ⟨v0, vs0, d0, ds0, p0, q0, hargs, rfl, rfl, h0, r0⟩ := trodAll_cons hA
  obtain ⟨v1, vs1, d1, ds1, p1, q1, rfl, rfl, rfl, h1, r1⟩ := trodAll_cons r0
  obtain ⟨v2, vs2, d2, ds2, p2, q2, rfl, rfl, rfl, h2, r2⟩ := trodAll_cons r1
  obtain ⟨rfl, rfl, rfl⟩ := trodAll_nil r2
  obtain rfl : args = #[v0, v1, v2] := by cases args; simp_all
  obtain ⟨rfl, rfl⟩ := trodVars_none hV
  obtain ⟨s, rfl, rfl, rfl, ws⟩ := open_string Try.underlying9 (hval 0 9 v0 rfl rfl) h0
  obtain ⟨a1, rfl, rfl, rfl, w1⟩ := open_int Try.underlying5 (hval 1 5 v1 rfl rfl) h1
  obtain ⟨a2, rfl, rfl, rfl, w2⟩ := open_int Try.underlying5 (hval 2 5 v2 rfl rfl) h2
  have hb1 := u8_bound w1
  have hb2 := u8_bound w2
  obtain ⟨a, rfl⟩ : ∃ a : Nat, a1 = a := ⟨a1.toNat, by omega⟩
  obtain ⟨b, rfl⟩ : ∃ b : Nat, a2 = b := ⟨a2.toNat, by omega⟩
  clear hA0 hval0
  simp only [List.append_nil] at hW'
  refine walk s a b (by omega) (by omega) W _ fun u hg τ d => ?_
  exact ⟨_, _, _, _, [], [], hW', (trodAll_cons_mk (shut_bool Try.underlying4 _) trodAll_mk0), (trodAll_cons_mk (shut_string Try.underlying9 ws) (trodAll_cons_mk (shut_int Try.underlying5 w1) (trodAll_cons_mk (shut_int Try.underlying5 w2) trodAll_mk0))), rfl, grew_frame hg τ d _, fun h => by cases h⟩

theorem over : Rows.lexerWordsRow.holds Try.pinned (OpenSpec.ofChange Rows.lexerWordsSpec) :=
  OpenClaim.holds_of_wide_leaving 8 Try.f8 rfl rfl rfl rfl rfl rfl rfl ⟨rfl, rfl, rfl, rfl, rfl⟩ rfl rfl rfl rfl rfl (by kernel_rfl) Try.func8 (by kernel_rfl)
    (of_decide_eq_true (by kernel_rfl)) (by unfold Func.isWrapper; first | (rw [if_pos (by decide +kernel)]; kernel_rfl) | (rw [if_neg (by decide +kernel)]; exact ⟨rfl, rfl⟩))
    (fun os started H enc _ => lifted os started H enc)

/-- ████ THE STATEMENT ████ -/
theorem proved : Rows.LexerWordsSaid :=
  over
#print axioms proved
end lexerWords
end Go.Proofs.Ytfaadjmglboaoaa
