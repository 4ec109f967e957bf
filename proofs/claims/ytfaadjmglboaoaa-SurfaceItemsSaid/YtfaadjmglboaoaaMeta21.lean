/-
  MORE RULES: a scope (a text with a label); a deferred call of a builtin.
-/
import Derived.Test.YtfaadjmglboaoaaMeta20
namespace Go.Proofs.Ytfaadjmglboaoaa
open Go.Conc

section
variable {V : Type} {P : Program} {main : Bool} {X : View V} {GL : (Goroutine → V → Prop) → Prop} {kd : Bool} {fn : FuncId} {Q : Exit → Act → V → Prop} {a : Act} {v : V}

theorem stepG_scope {b : Frame} {c : Code} {k : List Item} {cs : List Frame} {w : World} : stepG P main (G (b.at a (.code (.scope c) :: k)) cs) w = .go (G (b.at a (.code c :: .inScope c :: k)) cs) w := by simp [G, stepG, stepG.exec, Frame.at]
theorem stepG_inScope {b : Frame} {c : Code} {k : List Item} {cs : List Frame} {w : World} : stepG P main (G (b.at a (.inScope c :: k)) cs) w = .go (G (b.at a k) cs) w := by simp [G, stepG, stepG.exec, Frame.at]

/-- A text with labels to which nothing jumps. -/
theorem wpG_scope (hGL : ∀ E, GL E → Closed P main X E) (I : Idle X) {c : Code} (h : WpG GL kd fn c Q a v) : WpG GL kd fn (.scope c) Q a v := fun E hE b k cs hb hk hc =>
  ctl hGL I hE rfl (fun _ => stepG_scope) (h E hE b (.inScope c :: k) cs hb hk fun e a' v' q => by
    cases e with
    | normal => exact ctl hGL I hE rfl (fun _ => stepG_inScope) (hc _ _ _ q)
    | exit id => obtain ⟨k', hk', hg⟩ := hc _ _ _ q; exact ⟨k', by simp [exitTo, hk'], hg⟩
    | ret => exact fun todo => hc _ _ _ q todo
    | goto l => exact hc _ _ _ q
    | panic ch => exact hc _ _ _ q
    | outgrown => exact hc _ _ _ q)

/-- A deferred call. -/
theorem opsG_defer (hGL : ∀ E, GL E → Closed P main X E) (I : Idle X) {ops : Array Oper} {i : Nat} {rest : List Nat} {o : Oper} {d : Deferred} (ho : ops[i]? = some o) (hw : Region.wanted o (yielded ops a.tmps) = true)
    (hr : ∀ w, (execOp a.eval o).run P w = .ok (.defer d) w ∧ (execOp a.eval o).events P w #[] = #[]) (h : OpsG GL kd fn ops rest Q (Act.put ⟨a.tmps, d :: a.defers⟩ o.dst undef) v) : OpsG GL kd fn ops (i :: rest) Q a v := by
  intro E hE b k cs hb hk hc
  have hke : b.kind ≠ .early := by rw [hk]; cases kd <;> simp [kindOf]
  have hk' : (b.kind == CallKind.early) = false := by simpa using hke
  refine ctl hGL I hE rfl (fun w => ?_) (h E hE b k cs hb hk hc)
  have hfin : (b.at ⟨a.tmps, d :: a.defers⟩ (.inRegion ops (i :: rest) :: k)).finish undef = b.at (Act.put ⟨a.tmps, d :: a.defers⟩ o.dst undef) (.inRegion ops rest :: k) := by rw [Frame.finish_at, ho]; rfl
  have hrun : (execOp a.eval o).runT P w #[] = (.ok (.defer d) w, #[]) := by rw [Sem.runT_eq, (hr w).1, (hr w).2]
  rw [stepG_oper ho hw, ← hfin]
  unfold stepG.apply
  simp only [if_true, hrun, GStep.after, Array.append_empty, G]
  rw [show (b.at a (.inRegion ops (i :: rest) :: k)).kind = b.kind from rfl, hk']
  simp only [Bool.false_eq_true, if_false, seen_none]
  rfl
end
end Go.Proofs.Ytfaadjmglboaoaa
