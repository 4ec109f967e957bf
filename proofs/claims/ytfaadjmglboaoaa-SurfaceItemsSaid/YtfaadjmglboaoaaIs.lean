/-
  The closures lexer.is$1 and lexer.while$1, in a goroutine's own memory.
-/
import Derived.Test.YtfaadjmglboaoaaIdx
import Derived.IntWalk
namespace Go.Proofs.Ytfaadjmglboaoaa
open Go.Conc Go.RowKit

section
variable {V : Type} {P : Program} {main : Bool} {X : View V} {GL : (Goroutine → V → Prop) → Prop} {kd : Bool} {fn : FuncId} {Q : Exit → Act → V → Prop} {a : Act} {v : V}
/-- One operation that turns nothing. -/
theorem opsG_read (hGL : ∀ E, GL E → Closed P main X E) {ops : Array Oper} {i : Nat} {rest : List Nat} {o : Oper} (ho : ops[i]? = some o) (hw : Region.wanted o (yielded ops a.tmps) = true)
    (h : ∀ w, X.Holds v w → (∀ K : Act → World → Prop, (∀ a', OpsG GL kd fn ops rest Q a' v → K a' w) → uponK o a K ((execOp a.eval o).run P w)) ∧ X.St v w w (listed P fn a o w) v) : OpsG GL kd fn ops (i :: rest) Q a v :=
  opsG_cons hGL ho hw fun w hw' => (h w hw').1 _ fun _ x => ⟨v, (h w hw').2, x⟩
end

theorem ownEv_cell {h : PH} {a : Addr} {wr : Bool} (hb : h a.block ≠ none) : OwnEv h ⟨.cell a, wr, false⟩ := by
  refine ⟨⟨by simp, by simp⟩, fun x hx _ => ⟨a.block, ?_, hb⟩⟩
  simp only [MemAct.ofEvent, MemAct.touch?, Option.some.injEq] at hx
  subst hx
  rfl

/-- A read of cells of one's own. -/
theorem stB_read {P : Program} {fn : FuncId} {a : Act} {o : Oper} {h : PH} {w : World} (hh : viewB.Holds h w) (he : ∀ e ∈ (execOp a.eval o).events P w #[], OwnEv h e) : viewB.St h w w (listed P fn a o w) h :=
  ⟨fun e hx => he e (mem_listed hx), kept_refl hh⟩

theorem cell_of {h : PH} {w : World} (hh : viewB.Holds h w) {B : Nat} {c : Array Value} {t : TypeId} {f : Nat × Nat} (hb : h B = some (.cells c t f)) {i : Nat} {x : Value} (hx : c[i]? = some x) : w.cell? ⟨B, i, none⟩ = some x := by
  unfold World.cell?
  rw [hh B _ hb]
  simpa using hx

/-- A box that holds a value. -/
def Box (h : PH) (B : Nat) (x : Value) : Prop := ∃ t f, h B = some (.cells #[x] t f)

set_option maxHeartbeats 1000000 in
theorem is_b {main : Bool} (h : PH) (B : Nat) (s : ByteArray) (c : Int) (hB : Box h B (.string s)) : CallsG Try.prog (GB main) 76 #[.int .u8 c, .pointer (some ⟨B, 0, none⟩)] h fun r h' => r = .bool (decide (0 ≤ idxByte s c)) ∧ h' = h := by
  obtain ⟨t, f, hB⟩ := hB
  refine callsG_of_wp gb idleB Try.func76 rfl ?_
  rw [Try.ntmps76]
  repeat first
    | (refine opsG_pure gb idleB rfl (by rfl) fun w hw => ⟨fun K hK => ?_, by simp [go_sem]⟩; go_simp; refine hK _ ?_; clear hK K; try walk_nrm)
    | refine wpG_region gb idleB ?_ | refine wpG_seq gb idleB ?_ | refine wpG_block gb idleB ?_ | refine wpG_skip gb idleB ?_ | refine wpG_label gb idleB ?_ | refine wpG_ret gb idleB ?_ | refine wpG_exit gb idleB ?_ | refine opsG_nil gb idleB ?_
  refine opsG_read gb rfl (by rfl) fun w hw => ?_
  have hc : w.cell? ⟨B, 0, none⟩ = some (.string s) := cell_of hw hB rfl
  refine ⟨fun K hK => ?_, stB_read hw fun e he => ?_⟩
  rotate_left
  · simp [go_sem, hc] at he
    subst he
    exact ownEv_cell (by simp [hB])
  go_simp; refine hK _ ?_; clear hK K; try walk_nrm
  repeat first
    | (refine opsG_pure gb idleB rfl (by rfl) fun w hw => ⟨fun K hK => ?_, by simp [go_sem]⟩; go_simp; refine hK _ ?_; clear hK K; try walk_nrm)
    | refine wpG_region gb idleB ?_ | refine wpG_seq gb idleB ?_ | refine wpG_block gb idleB ?_ | refine wpG_skip gb idleB ?_ | refine wpG_label gb idleB ?_ | refine wpG_ret gb idleB ?_ | refine wpG_exit gb idleB ?_ | refine opsG_nil gb idleB ?_
  refine opsG_named gb idleB rfl (by rfl) rfl Try.func77 (by rfl) rfl (by walk_nrm) (idx77_b h s c) ?_
  rintro _ _ ⟨rfl, rfl⟩
  try walk_nrm
  repeat first
    | (refine opsG_pure gb idleB rfl (by rfl) fun w hw => ⟨fun K hK => ?_, by simp [go_sem]⟩; go_simp; refine hK _ ?_; clear hK K; try walk_nrm)
    | refine wpG_region gb idleB ?_ | refine wpG_seq gb idleB ?_ | refine wpG_block gb idleB ?_ | refine wpG_skip gb idleB ?_ | refine wpG_label gb idleB ?_ | refine wpG_ret gb idleB ?_ | refine wpG_exit gb idleB ?_ | refine opsG_nil gb idleB ?_
  exact ⟨.inr rfl, rfl, _, resultsC_tmp (by rfl) _, by simp⟩

theorem run_call_dyn {P : Program} {a : Act} {o : Oper} {x : Operand} {f : FuncId} {cap : Array Value} {fu : Func} {xs : Array Operand} {ats : Array TypeId} (hop : o.op = .call { callee := .value x, args := xs, argTypes := ats }) (hx : a.eval x = .func (.func f) #[] cap)
    (hf : P.funcs[f]? = some fu) (hname : (fu.name == "runtime.NumGoroutine") = false) (hb : fu.body.isNone = false) (w : World) : (execOp a.eval o).run P w = .ok (.enter f (xs.map a.eval ++ cap)) w ∧ ∀ es, (execOp a.eval o).events P w es = es := by
  have h1 : ¬ fu.name = "runtime.NumGoroutine" := by simpa using hname
  have h2 : ¬ fu.body = none := by cases hx : fu.body <;> simp_all
  unfold execOp
  constructor
  · simp [hop, resolve, Deferred.ofValue, invoke, callFunc, hf, h1, h2, hx]
  · intro es
    simp [hop, resolve, Deferred.ofValue, invoke, callFunc, hf, h1, h2, hx]

section
variable {V : Type} {P : Program} {X : View V} {GL : (Goroutine → V → Prop) → Prop} {fn : FuncId} {a : Act} {v : V}
theorem OpV.enter {ops : Array Oper} {i : Nat} {o : Oper} {K : Act → V → Prop} {f : FuncId} {args : Array Value} {Post : Value → V → Prop} (hi : ops[i]? = some o) (hw : Region.wanted o (yielded ops a.tmps) = true)
    (hr : ∀ w, (execOp a.eval o).run P w = .ok (.enter f args) w ∧ ∀ es, (execOp a.eval o).events P w es = es) (hcall : CallsG P GL f args v Post) (h : ∀ r v', Post r v' → K (a.put o.dst r) v') : OpV P X GL fn ops i K a v := by
  unfold OpV
  simp only [hi, hw, if_true]
  intro w _
  rw [(hr w).1]
  exact ⟨rfl, listed_nil ((hr w).2 _), Post, hcall, h⟩
end

/-- So many bytes are as wished, and no more. -/
structure IsRun (wish : Int → Bool) (s : ByteArray) (n : Nat) : Prop where
  le : n ≤ s.size
  all : ∀ j (hj : j < s.size), j < n → wish (s[j].toNat : Int) = true
  stop : ∀ (hn : n < s.size), wish (s[n].toNat : Int) = false

theorem ev_len (t : TypeId) (s : ByteArray) (w : World) (es : Array Event) : Sem.events Try.prog (Builtin.len_ #[9] t #[.string s]) w es = es := by
  simp [Builtin.len_, go_sem, underlying]
theorem ev_index (s : ByteArray) (i : Int) (h0 : 0 ≤ i) (h1 : i < s.size) (w : World) (es : Array Event) : Sem.events Try.prog (Instr.index 9 (.string s) (.int .i64 i)) w es = es := by
  simp [Instr.index, go_sem, underlying, asIntOf, h0, h1]

set_option maxHeartbeats 4000000 in
theorem while_b {main : Bool} (v : PH) (B : Nat) (s : ByteArray) (f : FuncId) (cap : Array Value) (wish : Int → Bool) (hB : Box v B (.func (.func f) #[] cap)) (hs : (s.size : Int) ≤ 2 ^ 62)
    {fu : Func} (hf : Try.prog.funcs[f]? = some fu) (hname : (fu.name == "runtime.NumGoroutine") = false) (hbody : fu.body.isNone = false)
    (hwish : ∀ c : Int, CallsG Try.prog (GB main) f (#[.int .u8 c] ++ cap) v fun r h' => r = .bool (wish c) ∧ h' = v) :
    CallsG Try.prog (GB main) 78 #[.string s, .pointer (some ⟨B, 0, none⟩)] v fun r h' => (∃ n : Nat, r = .int .i64 n ∧ IsRun wish s n) ∧ h' = v := by
  obtain ⟨t, fz, hB⟩ := hB
  refine callsG_of_wp gb idleB Try.func78 rfl ?_
  rw [Try.ntmps78]
  repeat first
    | (refine opsG_pure gb idleB rfl (by rfl) fun w hw => ⟨fun K hK => ?_, by simp [go_sem]⟩; go_simp; refine hK _ ?_; clear hK K; try walk_nrm)
    | refine wpG_region gb idleB ?_ | refine wpG_seq gb idleB ?_ | refine wpG_block gb idleB ?_ | refine wpG_skip gb idleB ?_ | refine wpG_label gb idleB ?_ | refine wpG_ret gb idleB ?_ | refine wpG_exit gb idleB ?_ | refine opsG_nil gb idleB ?_
  refine wpG_loop gb idleB (fun a v' => v' = v ∧ ∃ n : Nat, n ≤ s.size ∧ (∀ j (hj : j < s.size), j < n → wish (s[j].toNat : Int) = true) ∧ ∃ x5 x6 x7 x8 x9 x10 x11 x12 x13 x14 x15 x16 x17 x18,
    a = ⟨#[.string s, .pointer (some ⟨B, 0, none⟩), undef, .int .i64 0, .int .i64 n, x5, x6, x7, x8, x9, x10, x11, x12, x13, x14, x15, x16, x17, x18], []⟩)
    (fun (a : Act) _ => match a.tmps[4]? with | some (Value.int _ n) => s.size - n.toNat | _ => 0) ⟨rfl, 0, Nat.zero_le _, fun j _ hj => by omega, _, _, _, _, _, _, _, _, _, _, _, _, _, _, rfl⟩ ?_
  rintro _ v2 ⟨rfl, n, hn, hall, x5, x6, x7, x8, x9, x10, x11, x12, x13, x14, x15, x16, x17, x18, rfl⟩
  refine wpG_seq gb idleB ?_
  refine wpG_seq gb idleB ?_
  refine wpG_region_held (S := fun v' => v' = v2) gb idleB drawsB (by kernel_rfl) ?_
  show AnyV Try.prog viewB (GB main) 78 .any _ _ _ 11 (Array.replicate 11 false) _ _
  by_cases hlt : n < s.size
  have hd : decide ((n : Int) < (s.size : Int)) = true := by simpa using hlt
  refine anyV_take (i := 0) (x := .int .i64 n) rfl (by first | kernel_rfl | decide +kernel) (by first | kernel_rfl | decide +kernel) (by first | kernel_rfl | decide +kernel) (.inl ⟨by rfl, fun v' hv w hw => ?_⟩) rfl ?_
  · exact ⟨run_eq_of fun K hK => by go_simp; exact hK, by rw [listed_nil (by simp [go_sem])]; exact idleB _ _ hw⟩
  try walk_nrm
  refine anyV_take (i := 1) (x := .string s) rfl (by first | kernel_rfl | decide +kernel) (by first | kernel_rfl | decide +kernel) (by first | kernel_rfl | decide +kernel) (.inl ⟨by rfl, fun v' hv w hw => ?_⟩) rfl ?_
  · exact ⟨run_eq_of fun K hK => by go_simp; exact hK, by rw [listed_nil (by simp [go_sem])]; exact idleB _ _ hw⟩
  try walk_nrm
  refine anyV_take (i := 2) (x := .int .i64 s.size) rfl (by first | kernel_rfl | decide +kernel) (by first | kernel_rfl | decide +kernel) (by first | kernel_rfl | decide +kernel) (.inl ⟨by rfl, fun v' hv w hw => ?_⟩) rfl ?_
  · exact ⟨run_eq_of fun K hK => by go_simp; exact hK, by rw [listed_nil (by simp [go_sem, ev_len])]; exact idleB _ _ hw⟩
  try walk_nrm
  refine anyV_take (i := 3) (x := .bool true) rfl (by first | kernel_rfl | decide +kernel) (by first | kernel_rfl | decide +kernel) (by first | kernel_rfl | decide +kernel) (.inl ⟨by rfl, fun v' hv w hw => ?_⟩) rfl ?_
  · exact ⟨run_eq_of fun K hK => by go_simp; exact hK, by rw [listed_nil (by simp [go_sem])]; exact idleB _ _ hw⟩
  try walk_nrm
  refine anyV_take (i := 4) (x := .bool true) rfl (by first | kernel_rfl | decide +kernel) (by first | kernel_rfl | decide +kernel) (by first | kernel_rfl | decide +kernel) (.inl ⟨by rfl, fun v' hv w hw => ?_⟩) rfl ?_
  · exact ⟨run_eq_of fun K hK => by go_simp; exact hK, by rw [listed_nil (by simp [go_sem])]; exact idleB _ _ hw⟩
  try walk_nrm
  refine anyV_take (i := 5) (x := .func (.func f) #[] cap) rfl (by first | kernel_rfl | decide +kernel) (by first | kernel_rfl | decide +kernel) (by first | kernel_rfl | decide +kernel) (.inl ⟨by rfl, fun v' hv w5 hw5 => ?_⟩) rfl ?_
  · have hc : w5.cell? ⟨B, 0, none⟩ = some (.func (.func f) #[] cap) := cell_of (hv ▸ hw5) hB rfl
    exact ⟨run_eq_of fun K hK => by go_simp; exact hK, stB_read hw5 fun e he => by simp [go_sem, hc] at he; subst he; exact ownEv_cell (by rw [show v' = v2 from hv]; simp [hB])⟩
  try walk_nrm
  refine anyV_take (i := 6) (x := .string s) rfl (by first | kernel_rfl | decide +kernel) (by first | kernel_rfl | decide +kernel) (by first | kernel_rfl | decide +kernel) (.inl ⟨by rfl, fun v' hv w hw => ?_⟩) rfl ?_
  · exact ⟨run_eq_of fun K hK => by go_simp; exact hK, by rw [listed_nil (by simp [go_sem])]; exact idleB _ _ hw⟩
  try walk_nrm
  refine anyV_take (i := 7) (x := .int .i64 n) rfl (by first | kernel_rfl | decide +kernel) (by first | kernel_rfl | decide +kernel) (by first | kernel_rfl | decide +kernel) (.inl ⟨by rfl, fun v' hv w hw => ?_⟩) rfl ?_
  · exact ⟨run_eq_of fun K hK => by go_simp; exact hK, by rw [listed_nil (by simp [go_sem])]; exact idleB _ _ hw⟩
  try walk_nrm
  have h0 : (0 : Int) ≤ n := by omega
  have h1 : (n : Int) < s.size := by omega
  refine anyV_take (i := 8) (x := .int .u8 (s[n].toNat : Int)) rfl (by first | kernel_rfl | decide +kernel) (by first | kernel_rfl | decide +kernel) (by first | kernel_rfl | decide +kernel) (.inl ⟨by rfl, fun v' hv w hw => ?_⟩) rfl ?_
  · exact ⟨run_eq_of fun K hK => by go_simp; exact hK, by rw [listed_nil (by simp [go_sem, ev_index, h1])]; exact idleB _ _ hw⟩
  try walk_nrm
  refine anyV_all (rs := [9]) (by first | kernel_rfl | decide +kernel) (by simp) fun i hi => ?_
  obtain rfl := List.mem_singleton.1 hi
  refine OpV.enter rfl (by rfl) (fun w => run_call_dyn rfl (by rfl) hf hname hbody w) (by
    have := hwish (s[n].toNat : Int)
    have e : (#[Operand.tmp 13].map (Act.eval ⟨#[.string s, .pointer (some ⟨B, 0, none⟩), undef, .int .i64 0, .int .i64 n, .int .i64 n, .string s, .int .i64 s.size, .bool true, .bool true, .func (.func f) #[] cap, .string s, .int .i64 n, .int .u8 (s[n].toNat : Int), x14, x15, x16, x17, x18], []⟩)) = #[.int .u8 (s[n].toNat : Int)] := by simp [Act.eval]
    rw [e]
    exact this) ?_
  rintro _ _ ⟨rfl, rfl⟩
  refine ⟨rfl, ?_⟩
  try walk_nrm
  refine anyV_take (i := 10) (x := .bool (wish (s[n].toNat : Int))) rfl (by first | kernel_rfl | decide +kernel) (by first | kernel_rfl | decide +kernel) (by first | kernel_rfl | decide +kernel) (.inl ⟨by rfl, fun v' hv w hw => ?_⟩) rfl ?_
  · exact ⟨run_eq_of fun K hK => by go_simp; exact hK, by rw [listed_nil (by simp [go_sem])]; exact idleB _ _ hw⟩
  try walk_nrm
  refine anyV_done (by first | kernel_rfl | decide +kernel) ?_ _
  refine wpG_cond gb idleB (t := wish (s[n].toNat : Int)) (by rfl) ?_
  cases hwn : wish (s[n].toNat : Int)
  show WpG (GB main) false 78 (Code.exit 0) _ _ _
  repeat first
    | (refine opsG_pure gb idleB rfl (by rfl) fun w hw => ⟨fun K hK => ?_, by simp [go_sem]⟩; go_simp; refine hK _ ?_; clear hK K; try walk_nrm)
    | refine wpG_region gb idleB ?_ | refine wpG_seq gb idleB ?_ | refine wpG_block gb idleB ?_ | refine wpG_skip gb idleB ?_ | refine wpG_label gb idleB ?_ | refine wpG_ret gb idleB ?_ | refine wpG_exit gb idleB ?_ | refine opsG_nil gb idleB ?_
  exact ⟨.inr rfl, rfl, _, resultsC_tmp (by rfl) _, ⟨n, by simp, hn, hall, fun _ => hwn⟩, rfl⟩
  show WpG (GB main) false 78 Code.skip _ _ _
  repeat first
    | (refine opsG_pure gb idleB rfl (by rfl) fun w hw => ⟨fun K hK => ?_, by simp [go_sem]⟩; go_simp; refine hK _ ?_; clear hK K; try walk_nrm)
    | refine wpG_region gb idleB ?_ | refine wpG_seq gb idleB ?_ | refine wpG_block gb idleB ?_ | refine wpG_skip gb idleB ?_ | refine wpG_label gb idleB ?_ | refine wpG_ret gb idleB ?_ | refine wpG_exit gb idleB ?_ | refine opsG_nil gb idleB ?_
  have hwrap : IntKind.i64.wrap ((n : Int) + 1) = ((n + 1 : Nat) : Int) := by
    rw [IntKind.wrap_i64]
    omega
  rw [hwrap]
  refine ⟨⟨rfl, n + 1, by omega, fun j hj hlt' => ?_, ?_⟩, ?_⟩
  · rcases Nat.lt_or_ge j n with h2 | h2
    · exact hall j hj h2
    · obtain rfl : j = n := by omega
      exact hwn
  · exact ⟨_, _, _, _, _, _, _, _, _, _, _, _, _, _, rfl⟩
  · simp
    omega
  have hd : decide ((n : Int) < (s.size : Int)) = false := by simpa using hlt
  refine anyV_take (i := 0) (x := .int .i64 n) rfl (by first | kernel_rfl | decide +kernel) (by first | kernel_rfl | decide +kernel) (by first | kernel_rfl | decide +kernel) (.inl ⟨by rfl, fun v' hv w hw => ?_⟩) rfl ?_
  · exact ⟨run_eq_of fun K hK => by go_simp; exact hK, by rw [listed_nil (by simp [go_sem])]; exact idleB _ _ hw⟩
  try walk_nrm
  refine anyV_take (i := 1) (x := .string s) rfl (by first | kernel_rfl | decide +kernel) (by first | kernel_rfl | decide +kernel) (by first | kernel_rfl | decide +kernel) (.inl ⟨by rfl, fun v' hv w hw => ?_⟩) rfl ?_
  · exact ⟨run_eq_of fun K hK => by go_simp; exact hK, by rw [listed_nil (by simp [go_sem])]; exact idleB _ _ hw⟩
  try walk_nrm
  refine anyV_take (i := 2) (x := .int .i64 s.size) rfl (by first | kernel_rfl | decide +kernel) (by first | kernel_rfl | decide +kernel) (by first | kernel_rfl | decide +kernel) (.inl ⟨by rfl, fun v' hv w hw => ?_⟩) rfl ?_
  · exact ⟨run_eq_of fun K hK => by go_simp; exact hK, by rw [listed_nil (by simp [go_sem, ev_len])]; exact idleB _ _ hw⟩
  try walk_nrm
  refine anyV_take (i := 3) (x := .bool false) rfl (by first | kernel_rfl | decide +kernel) (by first | kernel_rfl | decide +kernel) (by first | kernel_rfl | decide +kernel) (.inl ⟨by rfl, fun v' hv w hw => ?_⟩) rfl ?_
  · exact ⟨run_eq_of fun K hK => by go_simp; exact hK, by rw [listed_nil (by simp [go_sem])]; exact idleB _ _ hw⟩
  try walk_nrm
  refine anyV_take (i := 4) (x := .bool false) rfl (by first | kernel_rfl | decide +kernel) (by first | kernel_rfl | decide +kernel) (by first | kernel_rfl | decide +kernel) (.inl ⟨by rfl, fun v' hv w hw => ?_⟩) rfl ?_
  · exact ⟨run_eq_of fun K hK => by go_simp; exact hK, by rw [listed_nil (by simp [go_sem])]; exact idleB _ _ hw⟩
  try walk_nrm
  refine anyV_take (i := 5) (x := undef) rfl (by first | kernel_rfl | decide +kernel) (by first | kernel_rfl | decide +kernel) (by first | kernel_rfl | decide +kernel) (.inr ⟨by rfl, rfl⟩) rfl ?_
  try walk_nrm
  refine anyV_take (i := 6) (x := undef) rfl (by first | kernel_rfl | decide +kernel) (by first | kernel_rfl | decide +kernel) (by first | kernel_rfl | decide +kernel) (.inr ⟨by rfl, rfl⟩) rfl ?_
  try walk_nrm
  refine anyV_take (i := 7) (x := undef) rfl (by first | kernel_rfl | decide +kernel) (by first | kernel_rfl | decide +kernel) (by first | kernel_rfl | decide +kernel) (.inr ⟨by rfl, rfl⟩) rfl ?_
  try walk_nrm
  refine anyV_take (i := 8) (x := undef) rfl (by first | kernel_rfl | decide +kernel) (by first | kernel_rfl | decide +kernel) (by first | kernel_rfl | decide +kernel) (.inr ⟨by rfl, rfl⟩) rfl ?_
  try walk_nrm
  refine anyV_take (i := 9) (x := undef) rfl (by first | kernel_rfl | decide +kernel) (by first | kernel_rfl | decide +kernel) (by first | kernel_rfl | decide +kernel) (.inr ⟨by rfl, rfl⟩) rfl ?_
  try walk_nrm
  refine anyV_take (i := 10) (x := .bool false) rfl (by first | kernel_rfl | decide +kernel) (by first | kernel_rfl | decide +kernel) (by first | kernel_rfl | decide +kernel) (.inl ⟨by rfl, fun v' hv w hw => ?_⟩) rfl ?_
  · exact ⟨run_eq_of fun K hK => by go_simp; exact hK, by rw [listed_nil (by simp [go_sem])]; exact idleB _ _ hw⟩
  try walk_nrm
  refine anyV_done (by first | kernel_rfl | decide +kernel) ?_ _
  refine wpG_cond gb idleB (t := false) (by rfl) ?_
  show WpG (GB main) false 78 (Code.exit 0) _ _ _
  repeat first
    | (refine opsG_pure gb idleB rfl (by rfl) fun w hw => ⟨fun K hK => ?_, by simp [go_sem]⟩; go_simp; refine hK _ ?_; clear hK K; try walk_nrm)
    | refine wpG_region gb idleB ?_ | refine wpG_seq gb idleB ?_ | refine wpG_block gb idleB ?_ | refine wpG_skip gb idleB ?_ | refine wpG_label gb idleB ?_ | refine wpG_ret gb idleB ?_ | refine wpG_exit gb idleB ?_ | refine opsG_nil gb idleB ?_
  exact ⟨.inr rfl, rfl, _, resultsC_tmp (by rfl) _, ⟨n, by simp, hn, hall, fun h => absurd h hlt⟩, rfl⟩
end Go.Proofs.Ytfaadjmglboaoaa
