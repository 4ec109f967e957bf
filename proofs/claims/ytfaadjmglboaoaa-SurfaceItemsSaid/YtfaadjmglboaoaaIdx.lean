/-
  strings.IndexByte and the closures lexer.is$1 and lexer.while$1, in a goroutine's own memory.
-/
import Derived.Test.YtfaadjmglboaoaaWord
import Derived.Conc.EntryLaws
import Derived.KernelRfl
namespace Go.Proofs.Ytfaadjmglboaoaa
open Go.Conc Go.RowKit

section
variable {V : Type} {P : Program} {main : Bool} {X : View V} {GL : (Goroutine → V → Prop) → Prop} {kd : Bool} {fn : FuncId} {Q : Exit → Act → V → Prop} {a : Act} {v : V}
/-- A call of an entry without a Go body that only reckons. -/
theorem opsG_entry (hGL : ∀ E, GL E → Closed P main X E) (I : Idle X) {f : FuncId} {fu : Func} {ops : Array Oper} {i : Nat} {rest : List Nat} {o : Oper} {ats : Array TypeId} {xs : Array Operand} {e : Array Value → Sem Value} {x : Value}
    (ho : ops[i]? = some o) (hw : Region.wanted o (yielded ops a.tmps) = true) (hop : o.op = .call { callee := .value (.func f), args := xs, argTypes := ats })
    (hf : P.funcs[f]? = some fu) (hname : (fu.name == "runtime.NumGoroutine") = false) (hb : fu.body.isNone = true) (hn : Extern.findNext fu = none) (he : Extern.find fu = some e)
    {args : Array Value} (hargs : xs.map a.eval = args) (hrun : ∀ w, (e args).run P w = .ok x w ∧ ∀ es, (e args).events P w es = es) (h : OpsG GL kd fn ops rest Q (a.put o.dst x) v) : OpsG GL kd fn ops (i :: rest) Q a v := by
  subst hargs
  intro E hE b k cs hbf hk hc
  have hke : b.kind ≠ .early := by rw [hk]; cases kd <;> simp [kindOf]
  refine hGL E hE _ v rfl fun w hw' => ⟨_, w, #[], v, stepG_entry ho hw hke hop hf hname hb hn he (hrun w).1 (by rw [(hrun w).2]; rfl) (by simp), I v w hw', h E hE b k cs hbf hk hc⟩
/-- A call by name. -/
theorem opsG_named (hGL : ∀ E, GL E → Closed P main X E) (I : Idle X) {f : FuncId} {fu : Func} {ops : Array Oper} {i : Nat} {rest : List Nat} {o : Oper} {ats : Array TypeId} {xs : Array Operand} {Post : Value → V → Prop}
    (ho : ops[i]? = some o) (hw : Region.wanted o (yielded ops a.tmps) = true) (hop : o.op = .call { callee := .value (.func f), args := xs, argTypes := ats })
    (hf : P.funcs[f]? = some fu) (hname : (fu.name == "runtime.NumGoroutine") = false) (hb : fu.body.isNone = false) {args : Array Value} (hargs : xs.map a.eval = args) (hcall : CallsG P GL f args v Post)
    (h : ∀ r v', Post r v' → OpsG GL kd fn ops rest Q (a.put o.dst r) v') : OpsG GL kd fn ops (i :: rest) Q a v := by
  subst hargs
  exact opsG_call hGL I ho hw (fun w _ => ⟨run_call_body hop hf hname hb, by unfold listed; rw [events_call_body hop hf hname hb]; exact seen_none ..⟩) hcall h
end

theorem find85 : Extern.find Try.f85 = some Extern.BytealgIndexByte.indexByte := by kernel_rfl
theorem next85 : (Extern.findNext Try.f85).isNone = true := by kernel_rfl

/-- Where the byte stands first; -1: nowhere. -/
def idxByte (s : ByteArray) (c : Int) : Int :=
  match (List.range s.size).find? fun i => s[i]! == c.toNat.toUInt8 with
  | some i => i
  | none => -1

theorem run85 (s : ByteArray) (c : Int) (w : World) : (Extern.BytealgIndexByte.indexByte #[.string s, .int .u8 c]).run Try.prog w = .ok (.int .i64 (idxByte s c)) w ∧ ∀ es, (Extern.BytealgIndexByte.indexByte #[.string s, .int .u8 c]).events Try.prog w es = es := by
  have e : Extern.BytealgIndexByte.indexByte #[.string s, .int .u8 c] = .pure (.int .i64 (idxByte s c)) := by
    unfold idxByte
    show (match (List.range s.size).find? fun i => s[i]! == c.toNat.toUInt8 with | some i => _ | none => _) = _
    cases (List.range s.size).find? fun i => s[i]! == c.toNat.toUInt8 <;> rfl
  rw [e]
  exact ⟨rfl, fun es => rfl⟩

set_option maxHeartbeats 1000000 in
theorem idx79_b {main : Bool} (h : PH) (s : ByteArray) (c : Int) : CallsG Try.prog (GB main) 79 #[.string s, .int .u8 c] h fun r h' => r = .int .i64 (idxByte s c) ∧ h' = h := by
  refine callsG_of_wp gb idleB Try.func79 rfl ?_
  rw [Try.ntmps79]
  repeat first
    | (refine opsG_pure gb idleB rfl (by rfl) fun w hw => ⟨fun K hK => ?_, by simp [go_sem]⟩; go_simp; refine hK _ ?_; clear hK K; try walk_nrm)
    | refine wpG_region gb idleB ?_ | refine wpG_seq gb idleB ?_ | refine wpG_block gb idleB ?_ | refine wpG_skip gb idleB ?_ | refine wpG_label gb idleB ?_ | refine wpG_ret gb idleB ?_ | refine wpG_exit gb idleB ?_ | refine opsG_nil gb idleB ?_
  refine opsG_entry (x := .int .i64 (idxByte s c)) gb idleB rfl (by rfl) rfl Try.func85 (by rfl) (by rfl) (Option.isNone_iff_eq_none.1 next85) find85 (by walk_nrm) (fun w => run85 s c w) ?_
  try walk_nrm
  repeat first
    | (refine opsG_pure gb idleB rfl (by rfl) fun w hw => ⟨fun K hK => ?_, by simp [go_sem]⟩; go_simp; refine hK _ ?_; clear hK K; try walk_nrm)
    | refine wpG_region gb idleB ?_ | refine wpG_seq gb idleB ?_ | refine wpG_block gb idleB ?_ | refine wpG_skip gb idleB ?_ | refine wpG_label gb idleB ?_ | refine wpG_ret gb idleB ?_ | refine wpG_exit gb idleB ?_ | refine opsG_nil gb idleB ?_
  exact ⟨.inr rfl, rfl, _, resultsC_tmp (by rfl) _, by simp⟩

set_option maxHeartbeats 1000000 in
theorem idx77_b {main : Bool} (h : PH) (s : ByteArray) (c : Int) : CallsG Try.prog (GB main) 77 #[.string s, .int .u8 c] h fun r h' => r = .int .i64 (idxByte s c) ∧ h' = h := by
  refine callsG_of_wp gb idleB Try.func77 rfl ?_
  rw [Try.ntmps77]
  repeat first
    | (refine opsG_pure gb idleB rfl (by rfl) fun w hw => ⟨fun K hK => ?_, by simp [go_sem]⟩; go_simp; refine hK _ ?_; clear hK K; try walk_nrm)
    | refine wpG_region gb idleB ?_ | refine wpG_seq gb idleB ?_ | refine wpG_block gb idleB ?_ | refine wpG_skip gb idleB ?_ | refine wpG_label gb idleB ?_ | refine wpG_ret gb idleB ?_ | refine wpG_exit gb idleB ?_ | refine opsG_nil gb idleB ?_
  refine opsG_named gb idleB rfl (by rfl) rfl Try.func79 (by rfl) rfl (by walk_nrm) (idx79_b h s c) ?_
  rintro _ _ ⟨rfl, rfl⟩
  try walk_nrm
  repeat first
    | (refine opsG_pure gb idleB rfl (by rfl) fun w hw => ⟨fun K hK => ?_, by simp [go_sem]⟩; go_simp; refine hK _ ?_; clear hK K; try walk_nrm)
    | refine wpG_region gb idleB ?_ | refine wpG_seq gb idleB ?_ | refine wpG_block gb idleB ?_ | refine wpG_skip gb idleB ?_ | refine wpG_label gb idleB ?_ | refine wpG_ret gb idleB ?_ | refine wpG_exit gb idleB ?_ | refine opsG_nil gb idleB ?_
  exact ⟨.inr rfl, rfl, _, resultsC_tmp (by rfl) _, by simp⟩
end Go.Proofs.Ytfaadjmglboaoaa
