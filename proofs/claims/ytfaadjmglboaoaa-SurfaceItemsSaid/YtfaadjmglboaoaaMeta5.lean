/-
  A TAME FUNCTION: its operations are calm, it calls by name, and only tame functions.
-/
import Derived.Test.YtfaadjmglboaoaaMeta4
namespace Go.Proofs.Ytfaadjmglboaoaa

def okBuiltin : Builtin → Bool
  | .append | .cap | .copy | .len | .max | .min | .unsafeAdd | .unsafeSliceData | .unsafeString | .unsafeStringData => true
  | _ => false

def okOp (L : Nat → Bool) : Op → Bool
  | .move _ | .assign _ | .pick .. | .alloc _ | .box .. | .build .. | .buildSlice .. | .load .. | .store .. | .nilCheck _ | .binOp .. | .unOp .. | .convert .. | .makeInterface .. | .makeFunc .. | .slice .. | .fieldAddr .. | .field .. | .indexAddr .. | .index .. | .range .. | .next .. | .extract .. | .panic _ => true
  | .call { callee := .builtin b, .. } => okBuiltin b
  | .call { callee := .value (.func f), .. } => L f
  | _ => false

def okCode (L : Nat → Bool) : Code → Bool
  | .skip | .exit _ | .label _ | .ret | .refuse _ => true
  | .region _ ops _ => ops.all fun o => okOp L o.op
  | .seq a b | .cond _ a b => okCode L a && okCode L b
  | .block _ c | .loop c | .scope c => okCode L c
  | _ => false

/-- What an operation of a tame function may leave. -/
def Leaf (P : Program) (L : Nat → Bool) : Next → Prop
  | .value _ | .skip => True
  | .enter f _ => ∃ fn c, P.funcs[f]? = some fn ∧ fn.body = some c ∧ okCode L c = true
  | _ => False

/-- The functions listed are tame: their text is, or they are entries that are calm. -/
structure TameProg (P : Program) (L : Nat → Bool) : Prop where
  fn : ∀ f, L f = true → ∃ fn, P.funcs[f]? = some fn ∧ (fn.name == "runtime.NumGoroutine") = false ∧
    ((∃ c, fn.body = some c ∧ okCode L c = true) ∨ (fn.body = none ∧ Extern.findNext fn = none ∧ ∃ e, Extern.find fn = some e ∧ ∀ args, Calm P Any (e args)))

section
variable {P : Program} {L : Nat → Bool}

theorem c_value {s : Sem Value} (h : Calm P Any s) : Calm P (Leaf P L) (do pure (Next.value (← s))) := cb h fun _ => .pure trivial
theorem c_unit {s : Sem Unit} (h : Calm P Any s) : Calm P (Leaf P L) (do s; pure Next.skip) := cb h fun _ => .pure trivial

theorem c_builtin {b : Builtin} {ts : Array TypeId} {t : TypeId} {cs : Array Bool} {args : Array Value} (h : okBuiltin b = true) : Calm P (Leaf P L) (builtin b ts t cs args) := by
  cases b <;> first | (exfalso; simp [okBuiltin] at h; done) | skip
  · exact c_value c_append
  · exact c_value c_cap
  · exact c_value c_copy
  · exact c_value c_len
  · exact c_value c_max
  · exact c_value c_min
  · exact c_value c_unsafeAdd
  · exact c_value c_unsafeSliceData
  · exact c_value c_unsafeString
  · exact c_value c_unsafeStringData

theorem c_callFunc (hT : TameProg P L) {f : FuncId} (hf : L f = true) {args : Array Value} : Calm P (Leaf P L) (callFunc f args) := by
  obtain ⟨fn, h1, h2, h3⟩ := hT.fn f hf
  refine .program ?_
  show Calm P (Leaf P L) (match P.funcs[f]? with | none => _ | some fn => _)
  rw [h1]
  dsimp only
  rw [h2]
  rcases h3 with ⟨c, hb, hok⟩ | ⟨hb, hn, e, he, hc⟩
  · simp only [hb, Option.isNone_some, Bool.false_eq_true, if_false]
    exact .pure ⟨fn, c, h1, hb, by assumption⟩
  · simp only [hb, Option.isNone_none, if_true, Bool.false_eq_true, if_false, hn, he]
    exact .mark (by simp) (by simp) (c_value (hc args))

theorem c_nilCheck {x : Value} : Calm P (Leaf P L) (match x with
    | .pointer none | .nilIface | .nilFunc => runtimePanic .nilDeref
    | .func (.method name) first captured =>
      match (first[0]? : Option Value) with
      | some .nilIface => runtimePanic .nilDeref
      | some (.iface t w) => do
        if (← nilAhead ((← program).types.size + Made.depth) t w name) != some false then
          unsupported (.noEntry "op/nilCheck.the method's receiver behind this interface value is a nil pointer, or cannot be seen to be none, and the arguments act or may panic (ledger 612)")
        pure (Next.value (.func (.method name) first captured))
      | _ => pure (Next.value (.func (.method name) first captured))
    | x => pure (Next.value x) : Sem Next) := by
  repeat' first | exact c_runtimePanic | exact .pure trivial | exact c_program | exact c_nilAhead | exact c_noEntry | refine cb ?_ (fun _ => ?_) | refine ci ?_ ?_ | split | dsimp only

theorem c_execOp (hT : TameProg P L) {ρ : Operand → Value} (hρ : ∀ f, ρ (.func f) = .func (.func f) #[] #[]) {o : Oper} (ho : okOp L o.op = true) (hp : ∀ x, o.op ≠ .panic x) : Calm P (Leaf P L) (execOp ρ o) := by
  unfold execOp
  obtain ⟨dst, op, type, pos, after, guard⟩ := o
  simp only at ho hp ⊢
  cases op <;> first | (exfalso; simp [okOp] at ho; done) | skip
  case move x => exact .pure trivial
  case assign x => exact .pure trivial
  case pick c a b => exact cb c_asBool fun _ => .pure trivial
  case alloc => exact c_value c_alloc
  case box => exact c_value c_box
  case build => exact c_value c_build
  case buildSlice => exact c_value c_buildSlice
  case load => exact c_value c_loadAt
  case store => exact c_unit c_storeAt
  case nilCheck x => exact c_nilCheck
  case binOp => exact c_value (cb c_eqGuard fun _ => c_binOp)
  case unOp => exact c_value c_unary
  case convert => exact c_value c_convert
  case makeInterface => exact c_value c_makeInterface
  case makeFunc => exact c_value c_makeFunc
  case slice => exact c_value c_sliceAt
  case fieldAddr => exact c_value c_fieldAt
  case field => exact c_value c_field
  case indexAddr => exact c_value c_indexAt
  case index => exact c_value c_index
  case range => exact c_value c_range
  case next => exact c_value c_next
  case extract => exact c_value c_extract
  case call c =>
    obtain ⟨callee, args, ats⟩ := c
    cases callee with
    | builtin b => exact c_builtin ho
    | invoke a b => simp [okOp] at ho
    | value f =>
      cases f with
      | func f =>
        simp only [resolve, hρ, Deferred.ofValue]
        exact c_callFunc hT ho
      | _ => simp [okOp] at ho
  case panic x => exact absurd rfl (hp x)

/-- It always stops. -/
theorem calm_halts {α : Type} {s : Sem α} (h : Calm P (fun _ => False) s) {w : World} {es : Array Event} (hc : Cl P w) (he : ∀ e ∈ es, Soft e) : ∃ x w' es', s.runT P w es = (.halt x w', es') ∧ Stops P x := by
  rcases calm_ran h w es hc he with ⟨a, _, _, _, p, _⟩ | ⟨n, p⟩
  · exact p.elim
  · exact p w.tape w.drawn fun i _ q => rfl

theorem panicOp_ran {ρ : Operand → Value} {o : Oper} {x : Operand} (ho : o.op = .panic x) (w : World) (hc : Cl P w) : Ran P (Leaf P L) (execOp ρ o) w #[] := by
  have e0 : execOp ρ o = (do pure (Next.value (← Instr.panic (ρ x)))) := by unfold execOp; rw [ho]
  rw [e0]
  cases ρ x with
  | iface t v => exact ran_halt (x := .panic (.iface t v)) trivial fun τ d => rfl
  | nilIface =>
    have key : ∀ r : SysRet, Calm P (fun _ : Next => False) (do
        let n ← (do
          let .strings env := r | stuck "strings expected"
          let key := "GODEBUG=".toUTF8
          let fromEnv := ((env.find? fun s => s.extract 0 key.size == key).map fun s => s.extract key.size s.size).getD .empty
          pure (Instr.readSettings "panicnil" fromEnv (Instr.readSettings "panicnil" (← program).godebug.toUTF8 0)) : Sem Int)
        let v ← (if n == 1 then goPanic .nilIface else runtimePanic .panicNil : Sem Value)
        pure (Next.value v)) := fun r => by
      refine cb ?_ fun n => Calm.bind (A := fun _ => False) (ci c_panic c_runtimePanic) fun _ h => h.elim
      dsimp only
      split
      · exact cb c_program fun _ => cpa
      · exact c_stuck
    have hc2 : ∀ w, Cl P w → Cl P (w.sys .env).2 := fun w hc => by
      have : (w.sys .env).2.heap = w.heap := by
        unfold World.sys
        have ha : ∀ {β : Type} (a : Ask β) (w : World), (w.ask a).2.heap = w.heap := by
          intro β a
          induction a with
          | done a => intro w; rfl
          | ask what range k ih =>
            intro w
            unfold World.ask
            dsimp only
            split
            · exact ih _ w
            · exact ih _ _
        have := ha (Kernel.perform .env w.os) w
        generalize w.ask (Kernel.perform .env w.os) = r at this
        obtain ⟨⟨a, b⟩, c⟩ := r
        cases a <;> first | rfl | exact this
      intro g hg
      rw [this]
      exact hc g hg
    refine .inr ⟨0, fun τ d _ => ?_⟩
    obtain ⟨x, w', es', e, hs⟩ := calm_halts (key ((tap w τ d).sys .env).1) (es := #[].push ⟨.output, true, false⟩) (hc2 (tap w τ d) hc) (by simp [Soft])
    exact ⟨x, w', es', e, hs⟩
  | _ => exact ran_halt (x := .stuck "Panic: interface value expected") trivial fun τ d => rfl

theorem op_ran (hT : TameProg P L) {ρ : Operand → Value} (hρ : ∀ f, ρ (.func f) = .func (.func f) #[] #[]) {o : Oper} (ho : okOp L o.op = true) (w : World) (hc : Cl P w) : Ran P (Leaf P L) (execOp ρ o) w #[] := by
  by_cases hp : ∃ x, o.op = .panic x
  · obtain ⟨x, hx⟩ := hp
    exact panicOp_ran hx w hc
  · exact calm_ran (c_execOp hT hρ ho fun x h => hp ⟨x, h⟩) w #[] hc (by simp)
end
end Go.Proofs.Ytfaadjmglboaoaa
