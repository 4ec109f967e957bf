/-
  lexer.scan: what it sends.
-/
import Derived.Test.YtfaadjmglboaoaaScan2
namespace Go.Proofs.Ytfaadjmglboaoaa
open Go.Conc Go.RowKit

/-- The zero values of the two cases of the select. -/
def zItem : Value := .agg #[.int .i64 0, .int .i64 0, .string { data := #[] }, .int .i64 0]
def zQuit : Value := .agg #[]

theorem commSel {co cq : Nat} {z1 z2 x : Value} : commResult (selCases co cq z1 z2 x) .select 0 undef false = .tuple #[.int .i64 0, .bool false, z2] := by
  simp [commResult, selCases, scase, rcase, goInt]

theorem run_select {ρ : Operand → Value} {d : Option Tmp} {ty : TypeId} {pos : String} {af : Array Edge} {gu : Option (Nat × Bool)} {a b c : Operand} {co cq : Nat} {x : Value} (ha : ρ a = .chan (some co)) (hb : ρ b = x) (hc : ρ c = .chan (some cq)) (w : World) :
    (execOp ρ ⟨d, .select #[{ chan := a, send := some b, elem := 79 }, { chan := c, send := none, elem := 102 }] true, ty, pos, af, gu⟩).run Try.prog w = .ok (.comm (selCases co cq zItem zQuit x) true .select) w ∧
    (execOp ρ ⟨d, .select #[{ chan := a, send := some b, elem := 79 }, { chan := c, send := none, elem := 102 }] true, ty, pos, af, gu⟩).events Try.prog w #[] = #[] := by
  subst hb
  constructor
  · simp [go_sem, ha, hc, selCases, scase, rcase, zItem, zQuit]
  · simp [go_sem]

section
variable {co cq : Nat} {z1 z2 : Value} {kd : Bool} {fn : FuncId} {Q : Exit → Act → PH × List Value → Prop} {h : PH} {x : Value} {xs : List Value} {n : Nat} {σ : Nat → Value} {l : List (Nat × Value)} {ds : List Deferred}
theorem opsF_select {ops : Array Oper} {i : Nat} {rest : List Nat} {o : Oper} {d : Nat} (ho : ops[i]? = some o) (hw : Region.wanted o (yielded ops (fr n σ l ds).tmps) = true) (hd : o.dst = some d)
    (hr : ∀ w, (execOp (ev n σ l) o).run Try.prog w = .ok (.comm (selCases co cq z1 z2 x) true .select) w ∧ (execOp (ev n σ l) o).events Try.prog w #[] = #[])
    (hn : OpsG (GS Try.prog co cq z1 z2) kd fn ops rest Q (fr n σ ((d, .tuple #[.int .i64 0, .bool false, z2]) :: l) ds) (h, xs)) : OpsG (GS Try.prog co cq z1 z2) kd fn ops (i :: rest) Q (fr n σ l ds) (h, x :: xs) := by
  rw [← fr_eval (n := n) (σ := σ) (l := l) (ds := ds)] at hr
  refine opsS_select ho hw hr ?_
  rw [hd, fr_put, commSel]
  exact hn
end


section
variable {V : Type} {main : Bool} {X : View V} {GL : (Goroutine → V → Prop) → Prop} {kd : Bool} {fn : FuncId} {Q : Exit → Act → V → Prop} {v : V} {d n : Nat} {σ : Nat → Value} {l : List (Nat × Value)} {ds : List Deferred}
/-- A call by name. -/
theorem run_call {ρ : Operand → Value} {d : Option Tmp} {ty : TypeId} {pos : String} {af : Array Edge} {gu : Option (Nat × Bool)} {f : FuncId} {fu : Func} {ats : Array TypeId} {x : Operand} {xs : Array Operand} {args : Array Value} (hx : ρ x = .func (.func f) #[] #[])
    (hf : Try.prog.funcs[f]? = some fu) (hname : (fu.name == "runtime.NumGoroutine") = false) (hb : fu.body.isNone = false) (hargs : xs.map ρ = args) (w : World) :
    (execOp ρ ⟨d, .call { callee := .value x, args := xs, argTypes := ats }, ty, pos, af, gu⟩).run Try.prog w = .ok (.enter f args) w ∧ ∀ es, (execOp ρ ⟨d, .call { callee := .value x, args := xs, argTypes := ats }, ty, pos, af, gu⟩).events Try.prog w es = es := by
  subst hargs
  have h1 : ¬ fu.name = "runtime.NumGoroutine" := by simpa using hname
  have h2 : ¬ fu.body = none := by cases hx : fu.body <;> simp_all
  unfold execOp
  constructor
  · simp [resolve, Deferred.ofValue, invoke, callFunc, hf, h1, h2, hx]
  · intro es
    simp [resolve, Deferred.ofValue, invoke, callFunc, hf, h1, h2, hx]
/-- A call. -/
theorem opsF_call (hGL : ∀ E, GL E → Closed Try.prog main X E) (I : Idle X) {ops : Array Oper} {i : Nat} {rest : List Nat} {o : Oper} {f : FuncId} {args : Array Value} {Post : Value → V → Prop} (ho : ops[i]? = some o) (hw : Region.wanted o (yielded ops (fr n σ l ds).tmps) = true) (hd : o.dst = some d)
    (hy : ∀ w, (execOp (ev n σ l) o).run Try.prog w = .ok (.enter f args) w ∧ ∀ es, (execOp (ev n σ l) o).events Try.prog w es = es) (hcall : CallsG Try.prog GL f args v Post)
    (hn : ∀ r v', Post r v' → OpsG GL kd fn ops rest Q (fr n σ ((d, r) :: l) ds) v') : OpsG GL kd fn ops (i :: rest) Q (fr n σ l ds) v := by
  rw [← fr_eval (n := n) (σ := σ) (l := l) (ds := ds)] at hy
  refine opsG_call hGL I ho hw (fun w _ => ⟨(hy w).1, listed_nil ((hy w).2 _)⟩) hcall fun r v' q => ?_
  rw [hd, fr_put]
  exact hn r v' q
end

set_option maxHeartbeats 4000000 in
theorem scan_loop {co cq : Nat} {σ : Nat → Value} {ds : List Deferred} {h : PH} {xs : List Value} {R b1 b2 b3 b4 w1 w2 w3 : Nat} {s : ByteArray} (hs : (s.size : Int) ≤ 2 ^ 62) (HR : Rules h R b1 b2 b3 b4 w1 w2 w3) (HX : Items s 0 xs) :
    WpG (GS Try.prog co cq zItem zQuit) true 49 (.block 0 (.loop loop49)) (fun e a' v' => (e = .normal ∨ e = .ret) ∧ v'.2 = [] ∧ a'.defers = ds) (fr 76 σ [(0, .string s), (1, .chan (some co)), (2, .chan (some cq)), (6, .slice (some ⟨R, 0, none⟩) 5 5), (7, .int .i64 (0 : Nat))] ds) (h, xs) := by
  refine wpG_block gs idleS ?_
  refine wpG_loopN gs idleS (fun m a v => ∃ (i : Nat) (τ : Nat → Value) (h : PH) (xs : List Value), m = s.size - i ∧ i ≤ s.size ∧ a = fr 76 τ [(0, .string s), (1, .chan (some co)), (2, .chan (some cq)), (6, .slice (some ⟨R, 0, none⟩) 5 5), (7, .int .i64 (i : Nat))] ds ∧ v = (h, xs) ∧ Rules h R b1 b2 b3 b4 w1 w2 w3 ∧ Items s i xs) s.size ⟨0, _, h, xs, rfl, Nat.zero_le _, rfl, rfl, HR, HX⟩ ?_
  rintro m _ _ ⟨i, τ, h, xs, rfl, hi, rfl, rfl, HR, HX⟩
  clear σ
  show WpG _ _ _ (.seq (.seq (.region 3 _ _) (.cond _ _ _)) (.block 1 (.seq (.region 4 _ _) (.seq find49 rest49)))) _ _ _
  by_cases hlt : i < s.size
  rotate_left
  refine wpG_seq gs idleS ?_
  refine wpG_seq gs idleS ?_
  refine wpG_region gs idleS ?_
  refine opsF_val gs idleS rfl (by rfl) rfl (x := .int .i64 (i : Nat)) (y_move rfl) ?_
  refine opsF_val gs idleS rfl (by rfl) rfl (x := .string s) (y_move rfl) ?_
  refine opsF_val gs idleS rfl (by rfl) rfl (x := .int .i64 s.size) (y_len_string rfl) ?_
  refine opsF_val gs idleS rfl (by rfl) rfl (x := .bool false) (y_lss rfl rfl (by simp; omega)) ?_
  refine opsG_nil gs idleS ?_
  refine wpG_cond gs idleS (t := false) (by rw [fr_eval]; rfl) ?_
  refine wpG_exit gs idleS ?_
  exact ⟨.inl rfl, HX.inv_done (by omega), rfl⟩
  refine wpG_seq gs idleS ?_
  refine wpG_seq gs idleS ?_
  refine wpG_region gs idleS ?_
  refine opsF_val gs idleS rfl (by rfl) rfl (x := .int .i64 (i : Nat)) (y_move rfl) ?_
  refine opsF_val gs idleS rfl (by rfl) rfl (x := .string s) (y_move rfl) ?_
  refine opsF_val gs idleS rfl (by rfl) rfl (x := .int .i64 s.size) (y_len_string rfl) ?_
  refine opsF_val gs idleS rfl (by rfl) rfl (x := .bool true) (y_lss rfl rfl (by simp; omega)) ?_
  refine opsG_nil gs idleS ?_
  refine wpG_cond gs idleS (t := true) (by rw [fr_eval]; rfl) ?_
  refine wpG_skip gs idleS ?_
  refine wpG_block gs idleS ?_
  refine wpG_seq gs idleS ?_
  refine wpG_region gs idleS ?_
  refine opsF_val gs idleS rfl (by rfl) rfl (x := .int .i64 (i : Nat)) (y_move rfl) ?_
  refine opsF_val gs idleS rfl (by rfl) rfl (x := .agg #[.int .i64 0, .int .i64 (i : Nat), .string { data := #[] }]) (y_build40 rfl rfl rfl) ?_
  refine opsF_val gs idleS rfl (by rfl) rfl (x := .agg #[.int .i64 0, .int .i64 (i : Nat), .string { data := #[] }, .int .i64 60]) (y_build79 rfl rfl) ?_
  refine opsF_new gs (lensS _ _) rfl (by rfl) rfl (.cells #[.int .i64 0, .int .i64 0, .string { data := #[] }, .int .i64 0] 79) (fun M => .pointer (some ⟨M, 0, none⟩)) (fun w => ⟨eq_of_K fun K hK => by go_simp; exact hK, by simp [Instr.alloc, newVar, newRow, go_sem]⟩) fun N hN => ?_
  refine opsF_store gs (lensS _ _) rfl (by rfl) rfl (wr_store rfl rfl (put_self _ _ _) (by kernel_rfl) rfl (by simp [Value.oneCell'])) ?_
  refine opsG_nil gs idleS ?_
  refine wpG_seq gs idleS ?_
  rw [fr_says [(0, .string s), (1, .chan (some co)), (2, .chan (some cq)), (6, .slice (some ⟨R, 0, none⟩) 5 5), (7, .int .i64 (i : Nat)), (8, .pointer (some ⟨N, 0, none⟩))] ⟨rfl, rfl, rfl, rfl, rfl, rfl, trivial⟩]
  refine scan_find hs hlt ((HR.ext (ext_put hN)).put (put_self _ _ _)) (put_self _ _ _) ?_
  intro τ2 h2 k t e HR2 hN2 hF
  clear hN HR
  show WpG _ _ _ (.seq (.region 12 _ _) (.seq (.seq (.region 13 _ _) (.cond _ _ _)) (.seq (.seq (.seq (.seq (.region 14 _ _) (.region 15 _ _)) (.region 16 _ _)) (.seq (.region 17 _ _) (.block 4 _))) (.seq (.region 18 _ _) (.cond _ _ _))))) _ _ _
  rcases hF with ⟨j, n, hj, h0, h1, hg, hkk, ht, he⟩ | ⟨h0, hk, ht, he⟩
  · have hpos := hg.pos hlt h1
    have hsz : t.size = n := by rw [ht]; simp; omega
    by_cases hk : k = 0
    · have HX2 := HX.inv_skip hlt hj h0 h1 hg (hkk ▸ hk)
      refine wpG_seq gs idleS ?_
      refine wpG_region gs idleS ?_
      refine opsF_val gs idleS rfl (by rfl) rfl (x := .int .i64 (i : Nat)) (y_move rfl) ?_
      refine opsF_val gs idleS rfl (by rfl) rfl (x := .pointer (some ⟨N, 0, none⟩)) (y_fieldAddr79 rfl (by decide)) ?_
      refine opsF_val gs idleS rfl (by rfl) rfl (x := .pointer (some ⟨N, 2, none⟩)) (y_fieldAddr40 rfl (by decide)) ?_
      refine opsF_rd gs (lensS _ _) rfl (by rfl) rfl (x := .string t) (rd_load (by decide) rfl hN2 rfl) ?_
      refine opsF_val gs idleS rfl (by rfl) rfl (x := .int .i64 t.size) (y_len_string rfl) ?_
      refine opsF_val gs idleS rfl (by rfl) rfl (x := .int .i64 (i + n : Nat)) (y_add rfl rfl (by rw [IntKind.wrap_i64, hsz]; omega)) ?_
      refine opsF_val gs idleS rfl (by rfl) rfl (x := .int .i64 (i + n : Nat)) (y_assign rfl) ?_
      refine opsG_nil gs idleS ?_
      refine wpG_seq gs idleS ?_
      refine wpG_seq gs idleS ?_
      refine wpG_region gs idleS ?_
      refine opsF_val gs idleS rfl (by rfl) rfl (x := .pointer (some ⟨N, 0, none⟩)) (y_fieldAddr79 rfl (by decide)) ?_
      refine opsF_val gs idleS rfl (by rfl) rfl (x := .pointer (some ⟨N, 0, none⟩)) (y_fieldAddr40 rfl (by decide)) ?_
      refine opsF_rd gs (lensS _ _) rfl (by rfl) rfl (x := .int .i64 k) (rd_load (by decide) rfl hN2 rfl) ?_
      refine opsF_val gs idleS rfl (by rfl) rfl (x := .bool true) (y_eql (.inl rfl) rfl rfl (by simp [hk])) ?_
      refine opsF_val gs idleS rfl (by rfl) rfl (x := .bool true) (y_move rfl) ?_
      refine opsF_val gs idleS rfl (by rfl) rfl (x := .pointer (some ⟨N, 3, none⟩)) (y_fieldAddr79 rfl (by decide)) ?_
      refine opsF_rd gs (lensS _ _) rfl (by rfl) rfl (x := .int .i64 e) (rd_load (by decide) rfl hN2 rfl) ?_
      refine opsF_val gs idleS rfl (by rfl) rfl (x := .bool true) (y_eql (.inr rfl) rfl rfl (by simp [he])) ?_
      refine opsF_val gs idleS rfl (by rfl) rfl (x := .bool true) (y_pick (t := true) rfl rfl) ?_
      refine opsG_nil gs idleS ?_
      refine wpG_cond gs idleS (t := true) (by rw [fr_eval]; rfl) ?_
      refine wpG_exit gs idleS ?_
      exact ⟨s.size - (i + n), by omega, i + n, _, h2, xs, rfl, by omega, fr_says _ ⟨rfl, rfl, rfl, rfl, rfl, trivial⟩, rfl, HR2, HX2⟩
    · obtain ⟨l, rfl, HX2⟩ := HX.inv_item hlt hj h0 h1 hg (hkk ▸ hk)
      rw [← hkk, ← ht]
      unfold item
      obtain rfl : (0 : Int) = e := he.symm
      refine wpG_seq gs idleS ?_
      refine wpG_region gs idleS ?_
      refine opsF_val gs idleS rfl (by rfl) rfl (x := .int .i64 (i : Nat)) (y_move rfl) ?_
      refine opsF_val gs idleS rfl (by rfl) rfl (x := .pointer (some ⟨N, 0, none⟩)) (y_fieldAddr79 rfl (by decide)) ?_
      refine opsF_val gs idleS rfl (by rfl) rfl (x := .pointer (some ⟨N, 2, none⟩)) (y_fieldAddr40 rfl (by decide)) ?_
      refine opsF_rd gs (lensS _ _) rfl (by rfl) rfl (x := .string t) (rd_load (by decide) rfl hN2 rfl) ?_
      refine opsF_val gs idleS rfl (by rfl) rfl (x := .int .i64 t.size) (y_len_string rfl) ?_
      refine opsF_val gs idleS rfl (by rfl) rfl (x := .int .i64 (i + n : Nat)) (y_add rfl rfl (by rw [IntKind.wrap_i64, hsz]; omega)) ?_
      refine opsF_val gs idleS rfl (by rfl) rfl (x := .int .i64 (i + n : Nat)) (y_assign rfl) ?_
      refine opsG_nil gs idleS ?_
      refine wpG_seq gs idleS ?_
      refine wpG_seq gs idleS ?_
      refine wpG_region gs idleS ?_
      refine opsF_val gs idleS rfl (by rfl) rfl (x := .pointer (some ⟨N, 0, none⟩)) (y_fieldAddr79 rfl (by decide)) ?_
      refine opsF_val gs idleS rfl (by rfl) rfl (x := .pointer (some ⟨N, 0, none⟩)) (y_fieldAddr40 rfl (by decide)) ?_
      refine opsF_rd gs (lensS _ _) rfl (by rfl) rfl (x := .int .i64 k) (rd_load (by decide) rfl hN2 rfl) ?_
      refine opsF_val gs idleS rfl (by rfl) rfl (x := .bool false) (y_eql (.inl rfl) rfl rfl (by simpa using hk)) ?_
      refine opsF_val gs idleS rfl (by rfl) rfl (x := .bool false) (y_move rfl) ?_
      refine opsF_skip gs idleS rfl (by rfl) rfl ?_
      refine opsF_skip gs idleS rfl (by rfl) rfl ?_
      refine opsF_skip gs idleS rfl (by rfl) rfl ?_
      refine opsF_val gs idleS rfl (by rfl) rfl (x := .bool false) (y_pick (t := false) rfl rfl) ?_
      refine opsG_nil gs idleS ?_
      refine wpG_cond gs idleS (t := false) (by rw [fr_eval]; rfl) ?_
      refine wpG_skip gs idleS ?_
      refine wpG_seq gs idleS ?_
      refine wpG_seq gs idleS ?_
      refine wpG_seq gs idleS ?_
      refine wpG_seq gs idleS ?_
      refine wpG_region gs idleS ?_
      refine opsF_val gs idleS rfl (by rfl) rfl (x := .chan (some co)) (y_move rfl) ?_
      refine opsG_nil gs idleS ?_
      refine wpG_region gs idleS ?_
      refine opsF_rd gs (lensS _ _) rfl (by rfl) rfl (x := .agg #[.int .i64 k, .int .i64 (i : Nat), .string t, .int .i64 0]) (rd_load79 rfl hN2) ?_
      refine opsG_nil gs idleS ?_
      refine wpG_region gs idleS ?_
      refine opsF_val gs idleS rfl (by rfl) rfl (x := .chan (some cq)) (y_move rfl) ?_
      refine opsG_nil gs idleS ?_
      refine wpG_seq gs idleS ?_
      refine wpG_region gs idleS ?_
      refine opsF_select rfl (by rfl) rfl (run_select rfl rfl rfl) ?_
      refine opsF_val gs idleS rfl (by rfl) rfl (x := .int .i64 0) (y_extract rfl rfl) ?_
      refine opsF_val gs idleS rfl (by rfl) rfl (x := .bool true) (y_eql (.inl rfl) rfl rfl rfl) ?_
      refine opsF_val gs idleS rfl (by rfl) rfl (x := .bool false) (y_eql (.inl rfl) rfl rfl rfl) ?_
      refine opsG_nil gs idleS ?_
      refine wpG_block gs idleS ?_
      refine wpG_cond gs idleS (t := true) (by rw [fr_eval]; rfl) ?_
      refine wpG_skip gs idleS ?_
      refine wpG_seq gs idleS ?_
      refine wpG_region gs idleS ?_
      refine opsF_val gs idleS rfl (by rfl) rfl (x := .pointer (some ⟨N, 3, none⟩)) (y_fieldAddr79 rfl (by decide)) ?_
      refine opsF_rd gs (lensS _ _) rfl (by rfl) rfl (x := .int .i64 0) (rd_load (by decide) rfl hN2 rfl) ?_
      refine opsF_val gs idleS rfl (by rfl) rfl (x := .bool false) (y_neq (.inr rfl) rfl rfl (by simp)) ?_
      refine opsG_nil gs idleS ?_
      refine wpG_cond gs idleS (t := false) (by rw [fr_eval]; rfl) ?_
      refine wpG_skip gs idleS ?_
      exact ⟨s.size - (i + n), by omega, i + n, _, h2, l, rfl, by omega, fr_says _ ⟨rfl, rfl, rfl, rfl, rfl, trivial⟩, rfl, HR2, HX2⟩
  · obtain rfl := HX.inv_bad hlt h0
    unfold item
    obtain rfl : (0 : Int) = k := hk.symm
    obtain rfl : (60 : Int) = e := he.symm
    obtain rfl : ({ data := #[] } : ByteArray) = t := ht.symm
    refine wpG_seq gs idleS ?_
    refine wpG_region gs idleS ?_
    refine opsF_val gs idleS rfl (by rfl) rfl (x := .int .i64 (i : Nat)) (y_move rfl) ?_
    refine opsF_val gs idleS rfl (by rfl) rfl (x := .pointer (some ⟨N, 0, none⟩)) (y_fieldAddr79 rfl (by decide)) ?_
    refine opsF_val gs idleS rfl (by rfl) rfl (x := .pointer (some ⟨N, 2, none⟩)) (y_fieldAddr40 rfl (by decide)) ?_
    refine opsF_rd gs (lensS _ _) rfl (by rfl) rfl (x := .string { data := #[] }) (rd_load (by decide) rfl hN2 rfl) ?_
    refine opsF_val gs idleS rfl (by rfl) rfl (x := .int .i64 (ByteArray.size { data := #[] })) (y_len_string rfl) ?_
    refine opsF_val gs idleS rfl (by rfl) rfl (x := .int .i64 (i : Nat)) (y_add rfl rfl (by rw [IntKind.wrap_i64]; have : ((ByteArray.size { data := #[] } : Nat) : Int) = 0 := rfl; omega)) ?_
    refine opsF_val gs idleS rfl (by rfl) rfl (x := .int .i64 (i : Nat)) (y_assign rfl) ?_
    refine opsG_nil gs idleS ?_
    refine wpG_seq gs idleS ?_
    refine wpG_seq gs idleS ?_
    refine wpG_region gs idleS ?_
    refine opsF_val gs idleS rfl (by rfl) rfl (x := .pointer (some ⟨N, 0, none⟩)) (y_fieldAddr79 rfl (by decide)) ?_
    refine opsF_val gs idleS rfl (by rfl) rfl (x := .pointer (some ⟨N, 0, none⟩)) (y_fieldAddr40 rfl (by decide)) ?_
    refine opsF_rd gs (lensS _ _) rfl (by rfl) rfl (x := .int .i64 0) (rd_load (by decide) rfl hN2 rfl) ?_
    refine opsF_val gs idleS rfl (by rfl) rfl (x := .bool true) (y_eql (.inl rfl) rfl rfl (by simp)) ?_
    refine opsF_val gs idleS rfl (by rfl) rfl (x := .bool true) (y_move rfl) ?_
    refine opsF_val gs idleS rfl (by rfl) rfl (x := .pointer (some ⟨N, 3, none⟩)) (y_fieldAddr79 rfl (by decide)) ?_
    refine opsF_rd gs (lensS _ _) rfl (by rfl) rfl (x := .int .i64 60) (rd_load (by decide) rfl hN2 rfl) ?_
    refine opsF_val gs idleS rfl (by rfl) rfl (x := .bool false) (y_eql (.inr rfl) rfl rfl (by simp)) ?_
    refine opsF_val gs idleS rfl (by rfl) rfl (x := .bool false) (y_pick (t := true) rfl rfl) ?_
    refine opsG_nil gs idleS ?_
    refine wpG_cond gs idleS (t := false) (by rw [fr_eval]; rfl) ?_
    refine wpG_skip gs idleS ?_
    refine wpG_seq gs idleS ?_
    refine wpG_seq gs idleS ?_
    refine wpG_seq gs idleS ?_
    refine wpG_seq gs idleS ?_
    refine wpG_region gs idleS ?_
    refine opsF_val gs idleS rfl (by rfl) rfl (x := .chan (some co)) (y_move rfl) ?_
    refine opsG_nil gs idleS ?_
    refine wpG_region gs idleS ?_
    refine opsF_rd gs (lensS _ _) rfl (by rfl) rfl (x := .agg #[.int .i64 0, .int .i64 (i : Nat), .string { data := #[] }, .int .i64 60]) (rd_load79 rfl hN2) ?_
    refine opsG_nil gs idleS ?_
    refine wpG_region gs idleS ?_
    refine opsF_val gs idleS rfl (by rfl) rfl (x := .chan (some cq)) (y_move rfl) ?_
    refine opsG_nil gs idleS ?_
    refine wpG_seq gs idleS ?_
    refine wpG_region gs idleS ?_
    refine opsF_select rfl (by rfl) rfl (run_select rfl rfl rfl) ?_
    refine opsF_val gs idleS rfl (by rfl) rfl (x := .int .i64 0) (y_extract rfl rfl) ?_
    refine opsF_val gs idleS rfl (by rfl) rfl (x := .bool true) (y_eql (.inl rfl) rfl rfl rfl) ?_
    refine opsF_val gs idleS rfl (by rfl) rfl (x := .bool false) (y_eql (.inl rfl) rfl rfl rfl) ?_
    refine opsG_nil gs idleS ?_
    refine wpG_block gs idleS ?_
    refine wpG_cond gs idleS (t := true) (by rw [fr_eval]; rfl) ?_
    refine wpG_skip gs idleS ?_
    refine wpG_seq gs idleS ?_
    refine wpG_region gs idleS ?_
    refine opsF_val gs idleS rfl (by rfl) rfl (x := .pointer (some ⟨N, 3, none⟩)) (y_fieldAddr79 rfl (by decide)) ?_
    refine opsF_rd gs (lensS _ _) rfl (by rfl) rfl (x := .int .i64 60) (rd_load (by decide) rfl hN2 rfl) ?_
    refine opsF_val gs idleS rfl (by rfl) rfl (x := .bool true) (y_neq (.inr rfl) rfl rfl (by simp)) ?_
    refine opsG_nil gs idleS ?_
    refine wpG_cond gs idleS (t := true) (by rw [fr_eval]; rfl) ?_
    refine wpG_exit gs idleS ?_
    exact ⟨.inl rfl, rfl, rfl⟩

theorem fr_of {n : Nat} {ts : Array Value} {ds : List Deferred} (h : ts.size = n) (l : List (Nat × Value)) (hl : SaysAll (fun j => ts.getD j undef) l) : (⟨ts, ds⟩ : Act) = fr n (fun j => ts.getD j undef) l ds := by
  have : (⟨ts, ds⟩ : Act).tmps = (fr n (fun j => ts.getD j undef) l ds).tmps := by
    apply Array.ext_getElem?
    intro i
    rw [fr_get, putAll_self hl]
    by_cases hi : i < n
    · rw [if_pos hi, Array.getElem?_eq_getElem (by rw [h]; exact hi)]
      simp [h, hi]
    · rw [if_neg hi, Array.getElem?_eq_none (by rw [h]; omega)]
  show Act.mk _ _ = Act.mk _ _
  exact congrArg (fun t => Act.mk t ds) this

set_option maxHeartbeats 4000000 in
theorem scan_s {co cq : Nat} (s : ByteArray) (xs : List Value) (hx : Items s 0 xs) (hs : (s.size : Int) ≤ 2 ^ 62) :
    Sends Try.prog co cq zItem zQuit xs (born Try.prog { target := .fn (.func 49) #[], args := #[.string s, .chan (some co), .chan (some cq)] }) noneOwn := by
  refine sends_of_wp (c := text49) Try.func49 (by rfl) rfl rfl ?_
  rw [Try.ntmps49]
  rw [fr_of (n := 76) (by simp) [(0, .string s), (1, .chan (some co)), (2, .chan (some cq))] ⟨by simp, by simp, by simp, trivial⟩]
  show WpG _ _ _ (.scope (.seq (.region 0 _ _) (.seq (.region 1 _ _) (.seq (.label 0) (.seq (.region 2 _ _) (.block 0 (.loop loop49))))))) _ _ _
  refine wpG_scope gs idleS ?_
  refine wpG_seq gs idleS ?_
  refine wpG_region gs idleS ?_
  refine opsF_val gs idleS rfl (by rfl) rfl (x := .chan (some co)) (y_move rfl) ?_
  refine opsG_defer (d := closer co #[95] 0 #[false]) gs idleS rfl (by rfl) (fun w => by rw [fr_eval]; exact ⟨eq_of_K fun K hK => by simp [go_sem, ev, putAll]; exact hK, by simp [go_sem]⟩) ?_
  generalize (fun j => (#[Value.string s, Value.chan (some co), Value.chan (some cq)] ++ Array.replicate (76 - #[Value.string s, Value.chan (some co), Value.chan (some cq)].size) undef).getD j undef) = σ
  refine opsG_nil gs idleS ?_
  show WpG _ _ _ (.seq (.region 1 _ _) (.seq (.label 0) (.seq (.region 2 _ _) (.block 0 (.loop loop49))))) _ (fr 76 σ [(12, .chan (some co)), (0, .string s), (1, .chan (some co)), (2, .chan (some cq))] [closer co #[95] 0 #[false]]) _
  refine wpG_seq gs idleS ?_
  refine wpG_region gs idleS ?_
  refine opsF_call gs idleS rfl (by rfl) rfl (run_call rfl Try.func60 (by rfl) rfl (by simp)) (callsS_own (rules_b noneOwn)) ?_
  rintro _ ⟨h1, xs1⟩ ⟨hxs, e1, R, b1, b2, b3, b4, w1, w2, w3, HR, rfl⟩
  simp only at hxs e1 HR
  subst hxs
  refine opsF_val gs idleS rfl (by rfl) rfl (x := .slice (some ⟨R, 0, none⟩) 5 5) (y_assign rfl) ?_
  refine opsG_nil gs idleS ?_
  refine wpG_seq gs idleS ?_
  refine wpG_label gs idleS ?_
  refine wpG_seq gs idleS ?_
  refine wpG_region gs idleS ?_
  refine opsF_val gs idleS rfl (by rfl) rfl (x := .int .i64 (0 : Nat)) (y_assign rfl) ?_
  refine opsG_nil gs idleS ?_
  rw [fr_says [(0, .string s), (1, .chan (some co)), (2, .chan (some cq)), (6, .slice (some ⟨R, 0, none⟩) 5 5), (7, .int .i64 (0 : Nat))] ⟨rfl, rfl, rfl, rfl, rfl, trivial⟩]
  exact (scan_loop hs HR hx).mono fun e a v ⟨q1, q2, q3⟩ => ⟨q1, q2, _, _, _, q3⟩

end Go.Proofs.Ytfaadjmglboaoaa
