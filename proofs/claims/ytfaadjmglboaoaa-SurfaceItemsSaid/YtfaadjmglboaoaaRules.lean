/-
  lexer.is, lexer.while, lexer.rules, in a goroutine's own memory: what they make.
-/
import Derived.Test.YtfaadjmglboaoaaIs
namespace Go.Proofs.Ytfaadjmglboaoaa
open Go.Conc Go.RowKit

/-- One block more. -/
def put (h : PH) (N : Nat) (o : Obj) : PH := fun r => if r = N then some o else h r

/-- What was held is held. -/
def Ext (h h' : PH) : Prop := ∀ r o, h r = some o → h' r = some o
theorem Ext.refl (h : PH) : Ext h h := fun _ _ x => x
theorem Ext.trans {h h' h'' : PH} (x : Ext h h') (y : Ext h' h'') : Ext h h'' := fun r o z => y r o (x r o z)
theorem ext_put {h : PH} {N : Nat} {o : Obj} (hn : h N = none) : Ext h (put h N o) := fun r o' x => by
  unfold put
  rw [if_neg]
  · exact x
  · rintro rfl
    rw [hn] at x; cases x
theorem put_self (h : PH) (N : Nat) (o : Obj) : put h N o N = some o := by simp [put]
theorem Box.ext {h h' : PH} {B : Nat} {x : Value} (b : Box h B x) (e : Ext h h') : Box h' B x := by
  obtain ⟨t, f, hb⟩ := b
  exact ⟨t, f, e _ _ hb⟩

theorem stB_new {h : PH} {w : World} {o : Obj} (hh : viewB.Holds h w) : viewB.St h w { w with heap := w.heap.push o } #[] (put h w.heap.size o) := by
  have hn : h w.heap.size = none := by
    cases e : h w.heap.size with
    | none => rfl
    | some x =>
      have := (Array.getElem?_eq_some_iff.1 (hh _ _ e)).1
      omega
  refine ⟨by simp, fun r x hx => ?_, by simp, fun r hr hnr => ?_, fun r hr => ?_, rfl, rfl⟩
  · unfold put at hx
    split at hx
    · rename_i e
      subst e
      cases hx
      simp
    · have := hh _ _ hx
      have hlt := (Array.getElem?_eq_some_iff.1 this).1
      rw [Array.getElem?_push, if_neg (by omega)]
      exact this
  · refine ⟨?_, ?_⟩
    · unfold put
      rw [if_neg (by omega)]
      exact hnr
    · rw [Array.getElem?_push, if_neg (by omega)]
  · unfold put
    split
    · simp
    · exact hr

theorem eq_of_K {α : Type} {r r' : α} (h : ∀ K : α → Prop, K r' → K r) : r = r' := h (· = r') rfl

section
variable {P : Program} {main : Bool} {GL : (Goroutine → PH → Prop) → Prop} {kd : Bool} {fn : FuncId} {Q : Exit → Act → PH → Prop} {a : Act} {h : PH}
/-- One operation that makes a block. -/
theorem opsG_new (hGL : ∀ E, GL E → Closed P main viewB E) {ops : Array Oper} {i : Nat} {rest : List Nat} {o : Oper} (ho : ops[i]? = some o) (hw : Region.wanted o (yielded ops a.tmps) = true) (ob : Obj) (x : Nat → Value)
    (hr : ∀ w, (execOp a.eval o).run P w = .ok (.value (x w.heap.size)) { w with heap := w.heap.push ob } ∧ (execOp a.eval o).events P w #[] = #[])
    (hn : ∀ N, h N = none → OpsG GL kd fn ops rest Q (a.put o.dst (x N)) (put h N ob)) : OpsG GL kd fn ops (i :: rest) Q a h := by
  refine opsG_cons hGL ho hw fun w hw' => ?_
  rw [(hr w).1]
  refine ⟨put h w.heap.size ob, by rw [listed_nil (hr w).2]; exact stB_new hw', hn _ ?_⟩
  cases e : h w.heap.size with
  | none => rfl
  | some x =>
    have := (Array.getElem?_eq_some_iff.1 (hw' _ _ e)).1
    omega
end

set_option maxHeartbeats 1000000 in
theorem mkIs_b {main : Bool} (h : PH) (s : ByteArray) : CallsG Try.prog (GB main) 68 #[.string s] h fun r h' => Ext h h' ∧ ∃ N, Box h' N (.string s) ∧ r = .func (.func 76) #[] #[.pointer (some ⟨N, 0, none⟩)] := by
  refine callsG_of_wp gb idleB Try.func68 rfl ?_
  rw [Try.ntmps68]
  repeat first
    | refine wpG_region gb idleB ?_ | refine wpG_seq gb idleB ?_ | refine wpG_block gb idleB ?_ | refine wpG_skip gb idleB ?_ | refine wpG_label gb idleB ?_ | refine wpG_ret gb idleB ?_ | refine wpG_exit gb idleB ?_ | refine opsG_nil gb idleB ?_
  refine opsG_new gb rfl (by rfl) (.cells #[.string s] 9) (fun N => .pointer (some ⟨N, 0, none⟩)) (fun w => ⟨by simp [Instr.box, newVar, newRow, Value.cells, go_sem], by simp [Instr.box, newVar, newRow, go_sem]⟩) fun N hN => ?_
  try walk_nrm
  repeat first
    | (refine opsG_pure gb idleB rfl (by rfl) fun w hw => ⟨fun K hK => ?_, by simp [go_sem]⟩; go_simp; refine hK _ ?_; clear hK K; try walk_nrm)
    | refine wpG_region gb idleB ?_ | refine wpG_seq gb idleB ?_ | refine wpG_block gb idleB ?_ | refine wpG_skip gb idleB ?_ | refine wpG_label gb idleB ?_ | refine wpG_ret gb idleB ?_ | refine wpG_exit gb idleB ?_ | refine opsG_nil gb idleB ?_
  exact ⟨.inr rfl, rfl, _, resultsC_tmp (by rfl) _, ext_put hN, N, ⟨_, _, put_self _ _ _⟩, by simp⟩

set_option maxHeartbeats 1000000 in
theorem mkWhile_b {main : Bool} (h : PH) (f : Fn) (p q : Array Value) : CallsG Try.prog (GB main) 69 #[.func f p q] h fun r h' => Ext h h' ∧ ∃ N, Box h' N (.func f p q) ∧ r = .func (.func 78) #[] #[.pointer (some ⟨N, 0, none⟩)] := by
  refine callsG_of_wp gb idleB Try.func69 rfl ?_
  rw [Try.ntmps69]
  repeat first
    | refine wpG_region gb idleB ?_ | refine wpG_seq gb idleB ?_ | refine wpG_block gb idleB ?_ | refine wpG_skip gb idleB ?_ | refine wpG_label gb idleB ?_ | refine wpG_ret gb idleB ?_ | refine wpG_exit gb idleB ?_ | refine opsG_nil gb idleB ?_
  refine opsG_new gb rfl (by rfl) (.cells #[.func f p q] 35) (fun N => .pointer (some ⟨N, 0, none⟩)) (fun w => ⟨by simp [Instr.box, newVar, newRow, Value.cells, go_sem], by simp [Instr.box, newVar, newRow, go_sem]⟩) fun N hN => ?_
  try walk_nrm
  repeat first
    | (refine opsG_pure gb idleB rfl (by rfl) fun w hw => ⟨fun K hK => ?_, by simp [go_sem]⟩; go_simp; refine hK _ ?_; clear hK K; try walk_nrm)
    | refine wpG_region gb idleB ?_ | refine wpG_seq gb idleB ?_ | refine wpG_block gb idleB ?_ | refine wpG_skip gb idleB ?_ | refine wpG_label gb idleB ?_ | refine wpG_ret gb idleB ?_ | refine wpG_exit gb idleB ?_ | refine opsG_nil gb idleB ?_
  exact ⟨.inr rfl, rfl, _, resultsC_tmp (by rfl) _, ext_put hN, N, ⟨_, _, put_self _ _ _⟩, by simp⟩

/-- The rules, as they lie in memory. -/
structure Rules (h : PH) (R b1 b2 b3 b4 w1 w2 w3 : Nat) : Prop where
  blank : Box h b1 (.string { data := #[9, 10, 13, 32] })
  opens : Box h b2 (.string { data := #[40] })
  closes : Box h b3 (.string { data := #[41] })
  semi : Box h b4 (.string { data := #[59] })
  words : Box h w1 (.func (.func 48) #[] #[])
  blanks : Box h w2 (.func (.func 76) #[] #[.pointer (some ⟨b1, 0, none⟩)])
  lines : Box h w3 (.func (.func 71) #[] #[])
  row : h R = some (.cells #[.func (.func 48) #[] #[], .func (.func 78) #[] #[.pointer (some ⟨w1, 0, none⟩)], .int .i64 1,
    .func (.func 76) #[] #[.pointer (some ⟨b1, 0, none⟩)], .func (.func 78) #[] #[.pointer (some ⟨w2, 0, none⟩)], .int .i64 0,
    .func (.func 76) #[] #[.pointer (some ⟨b2, 0, none⟩)], .func (.func 70) #[] #[], .int .i64 2,
    .func (.func 76) #[] #[.pointer (some ⟨b3, 0, none⟩)], .func (.func 70) #[] #[], .int .i64 3,
    .func (.func 76) #[] #[.pointer (some ⟨b4, 0, none⟩)], .func (.func 78) #[] #[.pointer (some ⟨w3, 0, none⟩)], .int .i64 0] 101)

theorem Rules.ext {h h' : PH} {R b1 b2 b3 b4 w1 w2 w3 : Nat} (r : Rules h R b1 b2 b3 b4 w1 w2 w3) (e : Ext h h') : Rules h' R b1 b2 b3 b4 w1 w2 w3 :=
  ⟨r.blank.ext e, r.opens.ext e, r.closes.ext e, r.semi.ext e, r.words.ext e, r.blanks.ext e, r.lines.ext e, e _ _ r.row⟩

set_option maxHeartbeats 4000000 in
theorem rules_b {main : Bool} (h : PH) : CallsG Try.prog (GB main) 60 #[] h fun r h' => Ext h h' ∧ ∃ R b1 b2 b3 b4 w1 w2 w3, Rules h' R b1 b2 b3 b4 w1 w2 w3 ∧ r = .slice (some ⟨R, 0, none⟩) 5 5 := by
  refine callsG_of_wp gb idleB Try.func60 rfl ?_
  rw [Try.ntmps60]
  repeat first
    | (refine opsG_pure gb idleB rfl (by rfl) fun w hw => ⟨fun K hK => ?_, by simp [go_sem]⟩; go_simp; refine hK _ ?_; clear hK K; try walk_nrm)
    | refine wpG_region gb idleB ?_ | refine wpG_seq gb idleB ?_ | refine wpG_block gb idleB ?_ | refine wpG_skip gb idleB ?_ | refine wpG_label gb idleB ?_ | refine wpG_ret gb idleB ?_ | refine wpG_exit gb idleB ?_ | refine opsG_nil gb idleB ?_
  refine opsG_named gb idleB rfl (by rfl) rfl Try.func68 (by rfl) rfl (by walk_nrm) (mkIs_b h { data := #[9, 10, 13, 32] }) ?_
  rintro _ h1 ⟨e1, b1, B1, rfl⟩
  try walk_nrm
  repeat first
    | (refine opsG_pure gb idleB rfl (by rfl) fun w hw => ⟨fun K hK => ?_, by simp [go_sem]⟩; go_simp; refine hK _ ?_; clear hK K; try walk_nrm)
    | refine wpG_region gb idleB ?_ | refine wpG_seq gb idleB ?_ | refine wpG_block gb idleB ?_ | refine wpG_skip gb idleB ?_ | refine wpG_label gb idleB ?_ | refine wpG_ret gb idleB ?_ | refine wpG_exit gb idleB ?_ | refine opsG_nil gb idleB ?_
  refine opsG_named gb idleB rfl (by rfl) rfl Try.func69 (by rfl) rfl (by walk_nrm) (mkWhile_b h1 (.func 48) #[] #[]) ?_
  rintro _ h2 ⟨e2, w1, W1, rfl⟩
  try walk_nrm
  repeat first
    | (refine opsG_pure gb idleB rfl (by rfl) fun w hw => ⟨fun K hK => ?_, by simp [go_sem]⟩; go_simp; refine hK _ ?_; clear hK K; try walk_nrm)
    | refine wpG_region gb idleB ?_ | refine wpG_seq gb idleB ?_ | refine wpG_block gb idleB ?_ | refine wpG_skip gb idleB ?_ | refine wpG_label gb idleB ?_ | refine wpG_ret gb idleB ?_ | refine wpG_exit gb idleB ?_ | refine opsG_nil gb idleB ?_
  refine opsG_named gb idleB rfl (by rfl) rfl Try.func69 (by rfl) rfl (by walk_nrm) (mkWhile_b h2 (.func 76) #[] #[.pointer (some ⟨b1, 0, none⟩)]) ?_
  rintro _ h3 ⟨e3, w2, W2, rfl⟩
  try walk_nrm
  repeat first
    | (refine opsG_pure gb idleB rfl (by rfl) fun w hw => ⟨fun K hK => ?_, by simp [go_sem]⟩; go_simp; refine hK _ ?_; clear hK K; try walk_nrm)
    | refine wpG_region gb idleB ?_ | refine wpG_seq gb idleB ?_ | refine wpG_block gb idleB ?_ | refine wpG_skip gb idleB ?_ | refine wpG_label gb idleB ?_ | refine wpG_ret gb idleB ?_ | refine wpG_exit gb idleB ?_ | refine opsG_nil gb idleB ?_
  refine opsG_named gb idleB rfl (by rfl) rfl Try.func68 (by rfl) rfl (by walk_nrm) (mkIs_b h3 { data := #[40] }) ?_
  rintro _ h4 ⟨e4, b2, B2, rfl⟩
  try walk_nrm
  repeat first
    | (refine opsG_pure gb idleB rfl (by rfl) fun w hw => ⟨fun K hK => ?_, by simp [go_sem]⟩; go_simp; refine hK _ ?_; clear hK K; try walk_nrm)
    | refine wpG_region gb idleB ?_ | refine wpG_seq gb idleB ?_ | refine wpG_block gb idleB ?_ | refine wpG_skip gb idleB ?_ | refine wpG_label gb idleB ?_ | refine wpG_ret gb idleB ?_ | refine wpG_exit gb idleB ?_ | refine opsG_nil gb idleB ?_
  refine opsG_named gb idleB rfl (by rfl) rfl Try.func68 (by rfl) rfl (by walk_nrm) (mkIs_b h4 { data := #[41] }) ?_
  rintro _ h5 ⟨e5, b3, B3, rfl⟩
  try walk_nrm
  repeat first
    | (refine opsG_pure gb idleB rfl (by rfl) fun w hw => ⟨fun K hK => ?_, by simp [go_sem]⟩; go_simp; refine hK _ ?_; clear hK K; try walk_nrm)
    | refine wpG_region gb idleB ?_ | refine wpG_seq gb idleB ?_ | refine wpG_block gb idleB ?_ | refine wpG_skip gb idleB ?_ | refine wpG_label gb idleB ?_ | refine wpG_ret gb idleB ?_ | refine wpG_exit gb idleB ?_ | refine opsG_nil gb idleB ?_
  refine opsG_named gb idleB rfl (by rfl) rfl Try.func68 (by rfl) rfl (by walk_nrm) (mkIs_b h5 { data := #[59] }) ?_
  rintro _ h6 ⟨e6, b4, B4, rfl⟩
  try walk_nrm
  repeat first
    | (refine opsG_pure gb idleB rfl (by rfl) fun w hw => ⟨fun K hK => ?_, by simp [go_sem]⟩; go_simp; refine hK _ ?_; clear hK K; try walk_nrm)
    | refine wpG_region gb idleB ?_ | refine wpG_seq gb idleB ?_ | refine wpG_block gb idleB ?_ | refine wpG_skip gb idleB ?_ | refine wpG_label gb idleB ?_ | refine wpG_ret gb idleB ?_ | refine wpG_exit gb idleB ?_ | refine opsG_nil gb idleB ?_
  refine opsG_named gb idleB rfl (by rfl) rfl Try.func69 (by rfl) rfl (by walk_nrm) (mkWhile_b h6 (.func 71) #[] #[]) ?_
  rintro _ h7 ⟨e7, w3, W3, rfl⟩
  try walk_nrm
  repeat first
    | (refine opsG_pure gb idleB rfl (by rfl) fun w hw => ⟨fun K hK => ?_, by simp [go_sem]⟩; go_simp; refine hK _ ?_; clear hK K; try walk_nrm)
    | refine wpG_region gb idleB ?_ | refine wpG_seq gb idleB ?_ | refine wpG_block gb idleB ?_ | refine wpG_skip gb idleB ?_ | refine wpG_label gb idleB ?_ | refine wpG_ret gb idleB ?_ | refine wpG_exit gb idleB ?_ | refine opsG_nil gb idleB ?_
  refine opsG_new gb rfl (by rfl) (.cells #[.func (.func 48) #[] #[], .func (.func 78) #[] #[.pointer (some ⟨w1, 0, none⟩)], .int .i64 1,
    .func (.func 76) #[] #[.pointer (some ⟨b1, 0, none⟩)], .func (.func 78) #[] #[.pointer (some ⟨w2, 0, none⟩)], .int .i64 0,
    .func (.func 76) #[] #[.pointer (some ⟨b2, 0, none⟩)], .func (.func 70) #[] #[], .int .i64 2,
    .func (.func 76) #[] #[.pointer (some ⟨b3, 0, none⟩)], .func (.func 70) #[] #[], .int .i64 3,
    .func (.func 76) #[] #[.pointer (some ⟨b4, 0, none⟩)], .func (.func 78) #[] #[.pointer (some ⟨w3, 0, none⟩)], .int .i64 0] 101) (fun N => .slice (some ⟨N, 0, none⟩) 5 5)
    (fun w => ⟨eq_of_K fun K hK => by go_simp; exact hK, by simp [go_sem]⟩) fun N hN => ?_
  try walk_nrm
  repeat first
    | (refine opsG_pure gb idleB rfl (by rfl) fun w hw => ⟨fun K hK => ?_, by simp [go_sem]⟩; go_simp; refine hK _ ?_; clear hK K; try walk_nrm)
    | refine wpG_region gb idleB ?_ | refine wpG_seq gb idleB ?_ | refine wpG_block gb idleB ?_ | refine wpG_skip gb idleB ?_ | refine wpG_label gb idleB ?_ | refine wpG_ret gb idleB ?_ | refine wpG_exit gb idleB ?_ | refine opsG_nil gb idleB ?_
  have e8 := ext_put (o := .cells #[.func (.func 48) #[] #[], .func (.func 78) #[] #[.pointer (some ⟨w1, 0, none⟩)], .int .i64 1,
    .func (.func 76) #[] #[.pointer (some ⟨b1, 0, none⟩)], .func (.func 78) #[] #[.pointer (some ⟨w2, 0, none⟩)], .int .i64 0,
    .func (.func 76) #[] #[.pointer (some ⟨b2, 0, none⟩)], .func (.func 70) #[] #[], .int .i64 2,
    .func (.func 76) #[] #[.pointer (some ⟨b3, 0, none⟩)], .func (.func 70) #[] #[], .int .i64 3,
    .func (.func 76) #[] #[.pointer (some ⟨b4, 0, none⟩)], .func (.func 78) #[] #[.pointer (some ⟨w3, 0, none⟩)], .int .i64 0] 101) hN
  exact ⟨.inr rfl, rfl, _, resultsC_tmp (by rfl) _, ((((((e1.trans e2).trans e3).trans e4).trans e5).trans e6).trans e7).trans e8, N, b1, b2, b3, b4, w1, w2, w3,
    ⟨B1.ext ((((((e2.trans e3).trans e4).trans e5).trans e6).trans e7).trans e8), B2.ext (((e5.trans e6).trans e7).trans e8), B3.ext ((e6.trans e7).trans e8), B4.ext (e7.trans e8), W1.ext (((((e3.trans e4).trans e5).trans e6).trans e7).trans e8), W2.ext ((((e4.trans e5).trans e6).trans e7).trans e8), W3.ext e8, put_self _ _ _⟩, by simp⟩
end Go.Proofs.Ytfaadjmglboaoaa
