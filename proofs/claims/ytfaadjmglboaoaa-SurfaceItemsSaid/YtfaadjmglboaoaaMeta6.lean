/-
  ONE STEP OF A GOROUTINE IN A TAME FUNCTION: it goes on (whoever called, whatever stands behind), calls a tame function, is on its way out, or is lost.
-/
import Derived.Test.YtfaadjmglboaoaaMeta5
import Derived.Conc.Own5
import Derived.Conc.CompanyDraw
namespace Go.Proofs.Ytfaadjmglboaoaa
open Go.Conc

def okItem (L : Nat → Bool) : Item → Bool
  | .code c | .inLoop c | .inScope c => okCode L c
  | .inBlock _ => true
  | .inRegion ops _ => ops.all fun o => okOp L o.op
  | _ => false

/-- The variables that wait: none of the program's own beyond its table. -/
structure NoEarly (P : Program) : Prop where
  ahead : P.follows .staticDataAhead = true
  none : ∀ g, P.globals.size ≤ g → P.stepOf g = none

theorem exitTo_app (id : Nat) (k : List Item) : ∀ r : List Item, exitTo id (r ++ k) = match exitTo id r with | some r' => some (r' ++ k) | none => exitTo id k
  | [] => by simp [exitTo]
  | x :: r => by
    have ih := exitTo_app id k r
    cases x <;> simp only [List.cons_append, exitTo] <;> first | exact ih | skip
    rename_i id'
    by_cases h : (id' == id) = true
    · simp [h]
    · simp only [h]; exact ih
theorem exitTo_sub {id : Nat} : ∀ {r r' : List Item}, exitTo id r = some r' → ∀ x ∈ r', x ∈ r
  | [], _, h => by simp [exitTo] at h
  | x :: r, r', h => by
    intro y hy
    cases x <;> simp only [exitTo] at h <;> first | exact List.mem_cons_of_mem _ (exitTo_sub h y hy) | skip
    split at h
    · cases h; exact List.mem_cons_of_mem _ hy
    · exact List.mem_cons_of_mem _ (exitTo_sub h y hy)

/-- The step does not lead on. -/
def Lost (fr : Frame) (cs : List Frame) (s : GStep) : Prop :=
  (∃ o w es, s = .ended o w es) ∨ ∃ chain w es, s = .go (G { fr with mode := .panicking chain } cs) w es

/-- What a step in tame text may be. -/
inductive Out (P : Program) (L : Nat → Bool) (b : Frame) (a : Act) (x : Item) (r : List Item) (w : World) : Prop
  | stay (a' : Act) (r' : List Item) (n : Nat) (w₁ : World) (es : Array Event) (hd : a'.defers = a.defers) (hr : ∀ y ∈ r', okItem L y = true) (he : ∀ e ∈ es, Soft e) (hc : Cl P w₁) (ht : w₁.tape = w.tape) (hn : w₁.drawn = w.drawn + n)
    (h : ∀ τ d, Agree w.tape w.drawn n τ d → ∀ main k cs, stepG P main (G (b.at a (x :: (r ++ k))) cs) (tap w τ d) = .go (G (b.at a' (r' ++ k)) cs) (tap w₁ τ (d + n)) es)
  | ret (h : ∀ w main k cs, stepG P main (G (b.at a (x :: (r ++ k))) cs) w = .go (G { b.at a (x :: (r ++ k)) with mode := .returning } cs) w #[])
  | call (f : FuncId) (args : Array Value) (fn : Func) (c : Code) (ops : Array Oper) (i : Nat) (rest : List Nat) (n : Nat) (w₁ : World) (es : Array Event) (hx : x = .inRegion ops (i :: rest)) (hf : P.funcs[f]? = some fn) (hb : fn.body = some c) (hok : okCode L c = true)
    (he : ∀ e ∈ es, Soft e) (hc : Cl P w₁) (ht : w₁.tape = w.tape) (hn : w₁.drawn = w.drawn + n)
    (h : ∀ τ d, Agree w.tape w.drawn n τ d → ∀ main k cs, stepG P main (G (b.at a (x :: (r ++ k))) cs) (tap w τ d) = .go (G (Frame.enter P f args .normal) (b.at a (x :: (r ++ k)) :: cs)) (tap w₁ τ (d + n)) es)
  | lost (n : Nat) (h : ∀ τ d, Agree w.tape w.drawn n τ d → ∀ main k cs, (∀ id, exitTo id k = none) → Lost (b.at a (x :: (r ++ k))) cs (stepG P main (G (b.at a (x :: (r ++ k))) cs) (tap w τ d)))

section
variable {P : Program} {L : Nat → Bool} {b : Frame} {a : Act} {r : List Item} {w : World}

/-- A step that turns nothing. -/
theorem Out.quiet {x : Item} (a' : Act) (r' : List Item) (hd : a'.defers = a.defers) (hr : ∀ y ∈ r', okItem L y = true) (hc : Cl P w)
    (h : ∀ w main k cs, stepG P main (G (b.at a (x :: (r ++ k))) cs) w = .go (G (b.at a' (r' ++ k)) cs) w #[]) : Out P L b a x r w :=
  .stay a' r' 0 w #[] hd hr (by simp) hc rfl rfl fun τ d _ main k cs => h (tap w τ d) main k cs

theorem put_defers (a : Act) (d : Option Tmp) (v : Value) : (a.put d v).defers = a.defers := by cases d <;> rfl

section
variable {fr : Frame} {cs : List Frame} {s : Sem Next} {w' : World} {es : Array Event}
theorem apply_value {v : Value} (hk : (fr.kind == CallKind.early) = false) (h : s.runT P w #[] = (.ok (.value v) w', es)) : stepG.apply P true fr cs none s w = .go (G (fr.finish v) cs) w' (seen P fr.fn es) := by
  unfold stepG.apply
  simp only [if_true, h, hk, Bool.false_eq_true, if_false, GStep.after, Array.append_empty, G]
theorem apply_skip (hk : (fr.kind == CallKind.early) = false) (h : s.runT P w #[] = (.ok .skip w', es)) : stepG.apply P true fr cs none s w = .go (G (fr.finish undef) cs) w' (seen P fr.fn es) := by
  unfold stepG.apply
  simp only [if_true, h, hk, Bool.false_eq_true, if_false, GStep.after, Array.append_empty, G]
theorem apply_enter {f : FuncId} {args : Array Value} {ops : Array Oper} {l : List Nat} {k : List Item} (ht : fr.todo = .inRegion ops l :: k) (hk : (fr.kind == CallKind.early) = false) (h : s.runT P w #[] = (.ok (.enter f args) w', es)) : stepG.apply P true fr cs none s w = .go (G (Frame.enter P f args .normal) (fr :: cs)) w' (seen P fr.fn es) := by
  unfold stepG.apply
  simp only [if_true, h, hk, Bool.false_eq_true, if_false, GStep.after, Array.append_empty, G, ht]
theorem apply_lost (hE : NoEarly P) (hm : fr.mode = .run) {x : Halt} (hx : Stops P x) (h : s.runT P w #[] = (.halt x w', es)) : Lost fr cs (stepG.apply P true fr cs none s w) := by
  unfold stepG.apply
  cases x with
  | panic v => exact .inr ⟨[{ v, recovered := false }], w', _, by simp only [if_true, h, GStep.after, G, Frame.raise, hm]; rfl⟩
  | stuck s => exact .inl ⟨_, _, _, by simp only [if_true, h, GStep.after]; rfl⟩
  | unsupported u =>
    cases u with
    | initOrder g =>
      have hg : P.globals.size ≤ g := hx
      exact .inl ⟨_, _, _, by simp only [if_true, h, early, hE.ahead, hE.none g hg, Bool.not_true, Bool.false_eq_true, if_false, GStep.after]; rfl⟩
    | _ => exact .inl ⟨_, _, _, by simp only [if_true, h, GStep.after]; rfl⟩
  | _ => exact hx.elim
end

theorem region_step (hT : TameProg P L) (hE : NoEarly P) (hk : b.kind = .normal) {ops : Array Oper} {i : Nat} {rest : List Nat} (hx : okItem L (.inRegion ops (i :: rest)) = true) (hr : ∀ y ∈ r, okItem L y = true) (hc : Cl P w) :
    Out P L b a (.inRegion ops (i :: rest)) r w := by
  have hrest : ∀ y ∈ (Item.inRegion ops rest :: r), okItem L y = true := fun y hy => by
    rcases List.mem_cons.1 hy with rfl | hy
    · exact hx
    · exact hr y hy
  have hke : b.kind ≠ .early := by rw [hk]; simp
  have hk' : (b.kind == CallKind.early) = false := by rw [hk]; rfl
  cases ho : ops[i]? with
  | none => exact Out.quiet a (.inRegion ops rest :: r) rfl hrest hc fun w main k cs => by simp [G, stepG, stepG.exec, Frame.at, ho, Frame.finish]
  | some o =>
    cases hw : Region.wanted o (yielded ops a.tmps) with
    | false => exact Out.quiet (a.put o.dst undef) (.inRegion ops rest :: r) (put_defers ..) hrest hc fun w main k cs => stepG_unwanted ho hw
    | true =>
      have hoo : okOp L o.op = true := by
        have hx' : ∀ (j : Nat) (h : j < ops.size), okOp L (ops[j]).op = true := by simpa [okItem, Array.all_eq_true] using hx
        obtain ⟨hlt, he⟩ := Array.getElem?_eq_some_iff.1 ho
        rw [← he]; exact hx' i hlt
      have hρ : ∀ f, a.eval (.func f) = .func (.func f) #[] #[] := fun _ => rfl
      have hfin : ∀ (k : List Item) v, (b.at a (.inRegion ops (i :: rest) :: k)).finish v = b.at (a.put o.dst v) (.inRegion ops rest :: k) := fun k v => by rw [Frame.finish_at, ho]; rfl
      rcases op_ran hT hρ hoo w hc with ⟨y, w', es', n, hA, hc', hes, ht, hn, hrun⟩ | ⟨n, hhalt⟩
      · have hseen : ∀ e ∈ seen P b.fn es', Soft e := fun e he => hes e (mem_seen he)
        cases y with
        | value v =>
          refine .stay (a.put o.dst v) (.inRegion ops rest :: r) n w' (seen P b.fn es') (put_defers ..) hrest hseen hc' ht hn fun τ d ha main k cs => ?_
          rw [stepG_oper ho hw, apply_value (fr := b.at a (.inRegion ops (i :: rest) :: (r ++ k))) hk' (hrun τ d ha), hfin]; rfl
        | skip =>
          refine .stay (a.put o.dst undef) (.inRegion ops rest :: r) n w' (seen P b.fn es') (put_defers ..) hrest hseen hc' ht hn fun τ d ha main k cs => ?_
          rw [stepG_oper ho hw, apply_skip (fr := b.at a (.inRegion ops (i :: rest) :: (r ++ k))) hk' (hrun τ d ha), hfin]; rfl
        | enter f args =>
          obtain ⟨fn, c, h1, hb, hok⟩ := hA
          refine .call f args fn c ops i rest n w' (seen P b.fn es') rfl h1 hb hok hseen hc' ht hn fun τ d ha main k cs => ?_
          rw [stepG_oper ho hw, apply_enter (fr := b.at a (.inRegion ops (i :: rest) :: (r ++ k))) rfl hk' (hrun τ d ha)]; rfl
        | _ => exact hA.elim
      · refine .lost n fun τ d ha main k cs _ => ?_
        obtain ⟨x, w', es', hx, hs⟩ := hhalt τ d ha
        rw [stepG_oper ho hw]
        exact apply_lost hE rfl hs hx

theorem code_ok {c : Code} (h : okCode L c = true) (hr : ∀ y ∈ r, okItem L y = true) : ∀ y ∈ (Item.code c :: r), okItem L y = true := fun y hy => by
  rcases List.mem_cons.1 hy with rfl | hy
  · exact h
  · exact hr y hy

/-- ████ ONE STEP IN TAME TEXT. ████ -/
theorem item_step (hT : TameProg P L) (hE : NoEarly P) (hk : b.kind = .normal) {x : Item} (hx : okItem L x = true) (hr : ∀ y ∈ r, okItem L y = true) (hc : Cl P w) : Out P L b a x r w := by
  cases x with
  | inBlock id => exact Out.quiet a r rfl hr hc fun w main k cs => stepG_inBlock
  | inScope c => exact Out.quiet a r rfl hr hc fun w main k cs => by simp [G, stepG, stepG.exec, Frame.at]
  | inLoop c => exact Out.quiet a (.code c :: .inLoop c :: r) rfl (code_ok hx fun y hy => by
      rcases List.mem_cons.1 hy with rfl | hy
      · exact hx
      · exact hr y hy) hc fun w main k cs => stepG_inLoop
  | inRegion ops l =>
    cases l with
    | nil => exact Out.quiet a r rfl hr hc fun w main k cs => stepG_region_end
    | cons i rest => exact region_step hT hE hk hx hr hc
  | code c =>
    cases c with
    | skip => exact Out.quiet a r rfl hr hc fun w main k cs => stepG_skip
    | label l => exact Out.quiet a r rfl hr hc fun w main k cs => stepG_label
    | ret => exact .ret fun w main k cs => stepG_ret'
    | refuse m =>
      refine .lost 0 fun τ d' _ main k cs _ => .inl ?_
      exact ⟨_, _, _, by simp only [G, stepG, stepG.exec, Frame.at]; rfl⟩
    | seq c d =>
      have h2 : okCode L c = true ∧ okCode L d = true := by simpa [okItem, okCode] using hx
      exact Out.quiet a (.code c :: .code d :: r) rfl (code_ok h2.1 (code_ok h2.2 hr)) hc fun w main k cs => stepG_seq
    | cond o c d =>
      have h2 : okCode L c = true ∧ okCode L d = true := by simpa [okItem, okCode] using hx
      by_cases ht : ∃ t, a.eval o = .bool t
      · obtain ⟨t, ht⟩ := ht
        exact Out.quiet a (.code (if t then c else d) :: r) rfl (code_ok (by cases t <;> simp [h2]) hr) hc fun w main k cs => stepG_cond ht
      · refine .lost 0 fun τ d' _ main k cs _ => .inl ?_
        have h' : (b.at a (.code (.cond o c d) :: (r ++ k))).eval o = a.eval o := Frame.eval_at ..
        simp only [Frame.at] at h'
        simp only [G, stepG, stepG.exec, Frame.at, h']
        cases hv : a.eval o <;> first | exact ⟨_, _, _, rfl⟩ | exact absurd ⟨_, hv⟩ ht
    | block id c => exact Out.quiet a (.code c :: .inBlock id :: r) rfl (code_ok hx fun y hy => by
        rcases List.mem_cons.1 hy with rfl | hy
        · rfl
        · exact hr y hy) hc fun w main k cs => stepG_block
    | loop c => exact Out.quiet a (.code c :: .inLoop c :: r) rfl (code_ok hx fun y hy => by
        rcases List.mem_cons.1 hy with rfl | hy
        · exact hx
        · exact hr y hy) hc fun w main k cs => stepG_loop
    | scope c => exact Out.quiet a (.code c :: .inScope c :: r) rfl (code_ok hx fun y hy => by
        rcases List.mem_cons.1 hy with rfl | hy
        · exact hx
        · exact hr y hy) hc fun w main k cs => by simp [G, stepG, stepG.exec, Frame.at]
    | exit id =>
      cases he : exitTo id r with
      | some r' => exact Out.quiet a r' rfl (fun y hy => hr y (exitTo_sub he y hy)) hc fun w main k cs => stepG_exit (by rw [exitTo_app, he])
      | none =>
        refine .lost 0 fun τ d' _ main k cs hkk => .inl ?_
        have : exitTo id (r ++ k) = none := by rw [exitTo_app, he]; exact hkk id
        exact ⟨_, _, _, by simp only [G, stepG, stepG.exec, Frame.at, this, Option.elim]; rfl⟩
    | region id ops draw =>
      have hops : ∀ l, okItem L (.inRegion ops l) = true := fun l => hx
      have hin : ∀ l, ∀ y ∈ (Item.inRegion ops l :: r), okItem L y = true := fun l y hy => by
        rcases List.mem_cons.1 hy with rfl | hy
        · exact hops l
        · exact hr y hy
      cases draw with
      | false => exact Out.quiet a (.inRegion ops (List.range ops.size) :: r) rfl (hin _) hc fun w main k cs => stepG_region
      | true =>
        refine .stay a (.inRegion ops (Region.schedule (P.follows .mixedOrders) ops (w.tape w.drawn (.order b.fn id))) :: r) 1 { w with drawn := w.drawn + 1 } #[] rfl (hin _) (by simp) hc rfl rfl fun τ d' ha main k cs => ?_
        have h0 := ha 0 (by omega) (.order b.fn id)
        rw [Nat.add_zero, Nat.add_zero] at h0
        rw [stepG_region_draw, ← h0]; rfl
    | _ => exact absurd hx (by simp [okItem, okCode])
  | _ => exact absurd hx (by simp [okItem])
end
end Go.Proofs.Ytfaadjmglboaoaa
