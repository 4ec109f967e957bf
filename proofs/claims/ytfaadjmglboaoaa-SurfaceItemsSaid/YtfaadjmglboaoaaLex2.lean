/-
  lexer.Lex: what it answers.
-/
import Derived.Test.YtfaadjmglboaoaaLex1
namespace Go.Proofs.Ytfaadjmglboaoaa
open Go.Conc Go.RowKit

/-- An item that is sent. -/
structure It where
  k : Int
  p : Int
  t : ByteArray
  e : Int
def It.cells (x : It) : Array Value := #[.int .i64 x.k, .int .i64 x.p, .string x.t, .int .i64 x.e]
def It.val (x : It) : Value := item x.k x.p x.t x.e
/-- Its token's cells, if it is one. -/
def It.tok (x : It) : List Value := if x.e = 0 then [.int .i64 x.k, .int .i64 x.p, .string x.t] else []
def It.one (x : It) : Nat := if x.e = 0 then 1 else 0
/-- The tokens among items. -/
def toks (l : List It) : List Value := l.flatMap It.tok
def cnt (l : List It) : Nat := (l.map It.one).sum
/-- The last of them that is an error. -/
def lastBad (l : List It) : It := l.foldl (fun b x => if x.e = 0 then b else x) ⟨0, 0, { data := #[] }, 0⟩

theorem toks_snoc (l : List It) (x : It) : toks (l ++ [x]) = toks l ++ x.tok := by simp [toks]
theorem cnt_snoc (l : List It) (x : It) : cnt (l ++ [x]) = cnt l + x.one := by simp [cnt]
theorem lastBad_snoc (l : List It) (x : It) : lastBad (l ++ [x]) = if x.e = 0 then lastBad l else x := by simp [lastBad]
theorem cnt_le (l : List It) : cnt l ≤ l.length := by
  induction l with
  | nil => simp [cnt]
  | cons x l ih =>
    have : cnt (x :: l) = x.one + cnt l := by simp [cnt]
    rw [this, List.length_cons]
    have : x.one ≤ 1 := by unfold It.one; split <;> omega
    omega

/-- Items are what they are made of; each takes a byte. -/
theorem Items.its {s : ByteArray} {i : Nat} {xs : List Value} (H : Items s i xs) : ∃ l : List It, xs = l.map It.val ∧ l.length ≤ s.size - i := by
  induction H with
  | done h => exact ⟨[], rfl, by simp⟩
  | item h hj h0 h1 hg hk ht ih =>
    obtain ⟨l, rfl, hl⟩ := ih
    have := hg.pos h h1
    exact ⟨⟨_, _, _, _⟩ :: l, rfl, by rw [List.length_cons]; omega⟩
  | skip h hj h0 h1 hg hk ht ih =>
    obtain ⟨l, rfl, hl⟩ := ih
    exact ⟨l, rfl, by omega⟩
  | bad h h0 => exact ⟨[⟨_, _, _, _⟩], rfl, by simp; omega⟩

/-- What has come to the world. -/
structure Grew (v u : World) : Prop where
  old : ∀ r, r < v.heap.size → u.heap[r]? = v.heap[r]?
  size : v.heap.size ≤ u.heap.size
  os : u.os = v.os
  output : u.output = v.output

/-- What Lex answers for some items. -/
def LexRes (u : World) (base : Nat) (l : List It) (r : Value) : Prop :=
  if (lastBad l).e = 0 then ∃ v, r = .tuple #[v, .int .i64 0, .int .i64 0] ∧ POwn (allOf u) 40 v (cnt l) (toks l) ∧ ∀ g, v.ownBlock = some g → base ≤ g
  else r = .tuple #[.slice none 0 0, .int .i64 (lastBad l).p, .int .i64 (lastBad l).e]

section
variable {σ : Nat → Value} {n : Nat} {l : List (Nat × Value)} {ds : List Deferred} {ops : Array Oper} {fn : FuncId} {Q : Exit → Act → VL → Prop} {h : PH} {x : Value} {xs : List Value} {c : Ctx} {d : Nat}
theorem opsF_recv {i : Nat} {rest : List Nat} {o : Oper} (ho : ops[i]? = some o) (hw : Region.wanted o (yielded ops (fr n σ l ds).tmps) = true) (hd : o.dst = some d)
    (hr : ∀ w, (execOp (ev n σ l) o).run Try.prog w = .ok (.comm #[rcase c.co c.z] true (.recv true)) w ∧ (execOp (ev n σ l) o).events Try.prog w #[] = #[])
    (hn : OpsG (GL0 Try.prog) false fn ops rest Q (fr n σ ((d, .tuple #[x, .bool true]) :: l) ds) (.b h xs c)) : OpsG (GL0 Try.prog) false fn ops (i :: rest) Q (fr n σ l ds) (.b h (x :: xs) c) := by
  rw [← fr_eval (n := n) (σ := σ) (l := l) (ds := ds)] at hr
  refine opsL_recv ho hw hr ?_
  rw [hd, fr_put]
  exact hn
theorem opsF_end {i : Nat} {rest : List Nat} {o : Oper} (ho : ops[i]? = some o) (hw : Region.wanted o (yielded ops (fr n σ l ds).tmps) = true) (hd : o.dst = some d)
    (hr : ∀ w, (execOp (ev n σ l) o).run Try.prog w = .ok (.comm #[rcase c.co c.z] true (.recv true)) w ∧ (execOp (ev n σ l) o).events Try.prog w #[] = #[])
    (hn : ∀ v, After c.co c.v0.heap.size c.v0 h v → OpsG (GL0 Try.prog) false fn ops rest Q (fr n σ ((d, .tuple #[c.z, .bool false]) :: l) ds) (.a v)) : OpsG (GL0 Try.prog) false fn ops (i :: rest) Q (fr n σ l ds) (.b h [] c) := by
  rw [← fr_eval (n := n) (σ := σ) (l := l) (ds := ds)] at hr
  refine opsL_end ho hw hr fun v hv => ?_
  rw [hd, fr_put]
  exact hn v hv
theorem opsF_fork {v : World} {df : Deferred} {f : Fn} {cap : Array Value} {i : Nat} {rest : List Nat} {o : Oper} {z1 z2 : Value} (hcl : Cl Try.prog v) (ho : ops[i]? = some o) (hw : Region.wanted o (yielded ops (fr n σ l ds).tmps) = true) (hd : o.dst = none)
    (hr : ∀ w, (execOp (ev n σ l) o).run Try.prog w = .ok (.spawn df) w ∧ (execOp (ev n σ l) o).events Try.prog w #[] = #[]) (hdf : df.target = .fn f cap)
    (hv : c.v0 = v) (hco : ∃ s r, v.heap[c.co]? = some (.chan 0 #[] false s r false)) (hcq : ∃ s r tm, v.heap[c.cq]? = some (.chan 0 #[] false s r tm)) (hne : c.cq ≠ c.co)
    (hchild : Sends Try.prog c.co c.cq z1 z2 xs (born Try.prog df) noneOwn) (hn : OpsG (GL0 Try.prog) false fn ops rest Q (fr n σ l ds) (.b noneOwn xs c)) : OpsG (GL0 Try.prog) false fn ops (i :: rest) Q (fr n σ l ds) (.a v) := by
  rw [← fr_eval (n := n) (σ := σ) (l := l) (ds := ds)] at hr
  refine opsL_fork hcl ho hw hr hdf hv hco hcq hne hchild ?_
  rw [hd]
  exact hn
theorem run_go {ρ : Operand → Value} {d : Option Tmp} {ty : TypeId} {pos : String} {af : Array Edge} {gu : Option (Nat × Bool)} {f : FuncId} {ats : Array TypeId} {x : Operand} {xs : Array Operand} {args : Array Value} (hx : ρ x = .func (.func f) #[] #[]) (hargs : xs.map ρ = args) (w : World) :
    (execOp ρ ⟨d, .go { callee := .value x, args := xs, argTypes := ats }, ty, pos, af, gu⟩).run Try.prog w = .ok (.spawn { target := .fn (.func f) #[], args }) w ∧ (execOp ρ ⟨d, .go { callee := .value x, args := xs, argTypes := ats }, ty, pos, af, gu⟩).events Try.prog w #[] = #[] := by
  subst hargs
  constructor
  · simp [go_sem, resolve, Deferred.ofValue, hx]
  · simp [go_sem, resolve, Deferred.ofValue, hx]
end

theorem POwn.ext {h h' : PH} {e : TypeId} {v : Value} {n : Nat} {xs : List Value} (x : POwn h e v n xs) (y : Ext h h') : POwn h' e v n xs := by
  rcases x with ⟨h1, h2 | ⟨g, cap, cur, h2, h3, h4⟩⟩
  · exact ⟨h1, .inl h2⟩
  · exact ⟨h1, .inr ⟨g, cap, cur, h2, y _ _ h3, h4⟩⟩
theorem POwn.ne {h : PH} {e : TypeId} {v : Value} {n : Nat} {xs : List Value} (x : POwn h e v n xs) {B : Nat} {c : Array Value} {t : TypeId} {f : Nat × Nat} (hB : h B = some (.cells c t f)) (ht : t ≠ e) : some B ≠ v.ownBlock := by
  rcases x with ⟨h1, ⟨rfl, _⟩ | ⟨g, cap, cur, rfl, h3, h4⟩⟩
  · simp [Value.ownBlock]
  · simp only [Value.ownBlock, ne_eq, Option.some.injEq]
    rintro rfl
    rw [h3] at hB
    simp at hB
    exact ht hB.2.1.symm
theorem POwn.put {h : PH} {e : TypeId} {v : Value} {n : Nat} {xs : List Value} (x : POwn h e v n xs) {B : Nat} {o : Obj} (hB : some B ≠ v.ownBlock) : POwn (put h B o) e v n xs := by
  rcases x with ⟨h1, h2 | ⟨g, cap, cur, rfl, h3, h4⟩⟩
  · exact ⟨h1, .inl h2⟩
  · refine ⟨h1, .inr ⟨g, cap, cur, rfl, ?_, h4⟩⟩
    unfold Go.Proofs.Ytfaadjmglboaoaa.put
    rw [if_neg]
    · exact h3
    · rintro rfl; exact hB rfl
theorem run_buildSlice {ρ : Operand → Value} {d : Option Tmp} {ty : TypeId} {pos : String} {af : Array Edge} {gu : Option (Nat × Bool)} {a : Operand} {k p : Int} {t : ByteArray} (ha : ρ a = .agg #[.int .i64 k, .int .i64 p, .string t]) (w : World) :
    (execOp ρ ⟨d, .buildSlice 36 1 #[(0, a)], ty, pos, af, gu⟩).run Try.prog w = .ok (.value (.slice (some ⟨w.heap.size, 0, none⟩) 1 1)) { w with heap := w.heap.push (.cells #[.int .i64 k, .int .i64 p, .string t] 40) } ∧ (execOp ρ ⟨d, .buildSlice 36 1 #[(0, a)], ty, pos, af, gu⟩).events Try.prog w #[] = #[] :=
  ⟨eq_of_K fun K hK => by go_simp; exact hK, by simp [go_sem, ha]⟩

noncomputable def text29 : Code := Try.f29.body.getD .skip
noncomputable def loop29 : Code := cSnd (cFst (cSnd (cSnd (cSnd (cSnd (cSnd (cSnd (cSnd text29))))))))
noncomputable def end29 : Code := cSnd (cSnd (cSnd (cSnd (cSnd (cSnd (cSnd (cSnd text29)))))))

set_option maxHeartbeats 4000000 in
theorem lex_loop {co cq B : Nat} {u0 : World} {σ : Nat → Value} {ds : List Deferred} {h : PH} {its : List It} (hl : its.length ≤ 2 ^ 40) (hB : h B = some (.cells (lastBad []).cells 79)) {Q : Exit → Act → VL → Prop}
    (hq : ∀ v7 τ h' u, After co u0.heap.size u0 h' u → POwn h' 40 v7 (cnt its) (toks its) → h' B = some (.cells (lastBad its).cells 79) → Q .normal (fr 41 τ [(7, v7), (8, .pointer (some ⟨B, 0, none⟩)), (19, .chan (some co))] ds) (.a u)) :
    WpG (GL0 Try.prog) false 29 loop29 Q (fr 41 σ [(7, .slice none 0 0), (8, .pointer (some ⟨B, 0, none⟩)), (19, .chan (some co))] ds) (.b h (its.map It.val) ⟨co, cq, zItem, u0⟩) := by
  show WpG _ _ _ (.block 0 (.loop (.seq (.region 9 _ _) (.seq (.cond _ _ _) (.block 1 (.seq (.region 10 _ _) (.seq (.seq (.region 11 _ _) (.cond _ (.seq (.region 12 _ _) _) _)) (.region 13 _ _)))))))) _ _ _
  refine wpG_block gl0 idleL ?_
  refine wpG_loopN gl0 idleL (fun m a v => ∃ (dn rest : List It) (v7 : Value) (h : PH) (τ : Nat → Value), m = rest.length ∧ its = dn ++ rest ∧ a = fr 41 τ [(7, v7), (8, .pointer (some ⟨B, 0, none⟩)), (19, .chan (some co))] ds ∧ v = .b h (rest.map It.val) ⟨co, cq, zItem, u0⟩ ∧ POwn h 40 v7 (cnt dn) (toks dn) ∧ h B = some (.cells (lastBad dn).cells 79)) its.length ⟨[], its, _, h, _, rfl, rfl, rfl, rfl, pOwn_nil _ _, hB⟩ ?_
  rintro m _ _ ⟨dn, rest, v7, h, τ, rfl, rfl, rfl, rfl, hO, hB⟩
  clear σ
  refine wpG_seq gl0 idleL ?_
  refine wpG_region gl0 idleL ?_
  cases rest with
  | nil =>
    refine opsF_end (c := ⟨co, cq, zItem, u0⟩) rfl (by rfl) rfl (run_recv rfl) fun u hu => ?_
    refine opsF_val gl0 idleL rfl (by rfl) rfl (x := .bool false) (y_extract rfl rfl) ?_
    refine opsG_nil gl0 idleL ?_
    refine wpG_seq gl0 idleL ?_
    refine wpG_cond gl0 idleL (t := false) (by rw [fr_eval]; rfl) ?_
    refine wpG_exit gl0 idleL ?_
    rw [List.append_nil] at hq
    show Q .normal _ _
    refine Eq.subst (motive := fun a => Q .normal a _) (fr_says [(7, v7), (8, .pointer (some ⟨B, 0, none⟩)), (19, .chan (some co))] ⟨rfl, rfl, rfl, trivial⟩).symm ?_
    exact hq _ _ _ _ hu hO hB
  | cons x rest =>
    refine opsF_recv (c := ⟨co, cq, zItem, u0⟩) rfl (by rfl) rfl (run_recv rfl) ?_
    refine opsF_val gl0 idleL rfl (by rfl) rfl (x := .bool true) (y_extract rfl rfl) ?_
    refine opsG_nil gl0 idleL ?_
    refine wpG_seq gl0 idleL ?_
    refine wpG_cond gl0 idleL (t := true) (by rw [fr_eval]; rfl) ?_
    refine wpG_skip gl0 idleL ?_
    refine wpG_block gl0 idleL ?_
    refine wpG_seq gl0 idleL ?_
    refine wpG_region gl0 idleL ?_
    refine opsF_val gl0 idleL rfl (by rfl) rfl (x := .agg x.cells) (y_extract rfl rfl) ?_
    refine opsF_new gl0 (lensL _ _ _) rfl (by rfl) rfl (.cells #[.int .i64 0, .int .i64 0, .string { data := #[] }, .int .i64 0] 79) (fun M => .pointer (some ⟨M, 0, none⟩)) (fun w => ⟨eq_of_K fun K hK => by go_simp; exact hK, by simp [Instr.alloc, newVar, newRow, go_sem]⟩) fun C hC => ?_
    refine opsF_store gl0 (lensL _ _ _) rfl (by rfl) rfl (wr_store rfl rfl (put_self _ _ _) (by kernel_rfl) rfl (by simp [It.cells, Value.oneCell'])) ?_
    refine opsG_nil gl0 idleL ?_
    have hBC : B ≠ C := by rintro rfl; rw [hC] at hB; cases hB
    generalize hh2 : put (put h C _) C _ = h2
    have hext : Ext h h2 := fun r o hr => by
      have hrM : r ≠ C := by rintro rfl; rw [hC] at hr; cases hr
      rw [← hh2]; unfold put; rw [if_neg hrM, if_neg hrM]; exact hr
    have hC2 : h2 C = some (.cells x.cells 79) := by rw [← hh2]; exact put_self _ _ _
    clear hh2
    have hB2 := hext _ _ hB
    have hO2 := hO.ext hext
    refine wpG_seq gl0 idleL ?_
    refine wpG_seq gl0 idleL ?_
    refine wpG_region gl0 idleL ?_
    refine opsF_val gl0 idleL rfl (by rfl) rfl (x := .pointer (some ⟨C, 3, none⟩)) (y_fieldAddr79 rfl (by decide)) ?_
    refine opsF_rd gl0 (lensL _ _ _) rfl (by rfl) rfl (x := .int .i64 x.e) (rd_load (by decide) rfl hC2 rfl) ?_
    refine opsF_val gl0 idleL rfl (by rfl) rfl (x := .bool (x.e != 0)) (y_neq (.inr rfl) rfl rfl rfl) ?_
    refine opsG_nil gl0 idleL ?_
    refine wpG_cond gl0 idleL (t := x.e != 0) (by rw [fr_eval]; rfl) ?_
    by_cases he : x.e = 0
    · rw [show (x.e != 0) = false by simp [he]]
      refine wpG_skip gl0 idleL ?_
      refine wpG_region gl0 idleL ?_
      refine opsF_val gl0 idleL rfl (by rfl) rfl (x := v7) (y_move rfl) ?_
      refine opsF_val gl0 idleL rfl (by rfl) rfl (x := .pointer (some ⟨C, 0, none⟩)) (y_fieldAddr79 rfl (by decide)) ?_
      refine opsF_rd gl0 (lensL _ _ _) rfl (by rfl) rfl (x := .agg #[.int .i64 x.k, .int .i64 x.p, .string x.t]) (rd_load40 rfl hC2 rfl rfl rfl) ?_
      refine opsF_new gl0 (lensL _ _ _) rfl (by rfl) rfl (.cells #[.int .i64 x.k, .int .i64 x.p, .string x.t] 40) (fun M => .slice (some ⟨M, 0, none⟩) 1 1) (run_buildSlice rfl) fun A hA => ?_
      refine opsF_append gl0 (lensL _ _ _) rfl (by rfl) rfl rfl rfl rfl (hO2.ext (ext_put hA)) (put_self _ _ _) ⟨rfl, rfl, rfl⟩ (by have := cnt_le dn; rw [List.length_append] at hl; omega) fun v' h' hO' hold => ?_
      refine opsF_val gl0 idleL rfl (by rfl) rfl (x := v') (y_assign rfl) ?_
      refine opsG_nil gl0 idleL ?_
      have hBh : h' B = some (.cells (lastBad dn).cells 79) := by
        refine hold _ _ (ext_put hA _ _ hB2) ?_
        exact hO2.ne hB2 (by decide)
      refine ⟨rest.length, by rw [List.length_cons]; omega, dn ++ [x], rest, v', h', _, rfl, by simp, fr_says _ ⟨rfl, rfl, rfl, trivial⟩, rfl, ?_, ?_⟩
      · rw [cnt_snoc, toks_snoc]; simpa [It.one, It.tok, he] using hO'
      · rw [lastBad_snoc, if_pos he]; exact hBh
    · rw [show (x.e != 0) = true by simpa using he]
      show WpG _ _ _ (.seq (.region 12 _ _) _) _ _ _
      refine wpG_seq gl0 idleL ?_
      refine wpG_region gl0 idleL ?_
      refine opsF_rd gl0 (lensL _ _ _) rfl (by rfl) rfl (x := .agg x.cells) (rd_load79 rfl hC2) ?_
      refine opsF_store gl0 (lensL _ _ _) rfl (by rfl) rfl (wr_store rfl rfl hB2 (by kernel_rfl) rfl (by simp [It.cells, Value.oneCell'])) ?_
      refine opsG_nil gl0 idleL ?_
      refine wpG_exit gl0 idleL ?_
      refine ⟨rest.length, by rw [List.length_cons]; omega, dn ++ [x], rest, v7, put h2 B _, _, rfl, by simp, fr_says _ ⟨rfl, rfl, rfl, trivial⟩, rfl, ?_, ?_⟩
      · rw [cnt_snoc, toks_snoc]; simpa [It.one, It.tok, he] using hO2.put (hO2.ne hB2 (by decide))
      · rw [lastBad_snoc, if_neg he]; exact put_self _ _ _
end Go.Proofs.Ytfaadjmglboaoaa
