/-
  A GOROUTINE AND THE FRAMES BELOW IT, DOWN TO A BASE, ALL IN TAME TEXT: one step, whatever stands behind the base's text, whoever called it.
-/
import Derived.Test.YtfaadjmglboaoaaMeta6
namespace Go.Proofs.Ytfaadjmglboaoaa
open Go.Conc

/-- A frame that waits at a call. -/
structure Wait where
  b : Frame
  a : Act
  ops : Array Oper
  i : Nat
  rest : List Nat
  r : List Item

def Wait.fr (x : Wait) (k : List Item) : Frame := x.b.at x.a (.inRegion x.ops (x.i :: x.rest) :: (x.r ++ k))

structure St where
  b : Frame
  a : Act
  items : List Item
  out : Bool
  below : List Wait

/-- The frames that wait; behind the last one's text stands k, below it cs. -/
def plugs : List Wait → List Item → List Frame → List Frame
  | [], _, cs => cs
  | [x], k, cs => x.fr k :: cs
  | x :: y :: l, k, cs => x.fr [] :: plugs (y :: l) k cs

def tailOf (l : List Wait) (k : List Item) : List Item := match l with | [] => k | _ :: _ => []

theorem plugs_cons (x : Wait) (l : List Wait) (k : List Item) (cs : List Frame) : plugs (x :: l) k cs = x.fr (tailOf l k) :: plugs l k cs := by
  cases l <;> rfl

def St.top (s : St) (k : List Item) : Frame := if s.out then { s.b.at s.a (s.items ++ k) with mode := .returning } else s.b.at s.a (s.items ++ k)
def St.plug (s : St) (k : List Item) (cs : List Frame) : Goroutine := G (s.top (tailOf s.below k)) (plugs s.below k cs)

structure Wait.Ok (L : Nat → Bool) (x : Wait) : Prop where
  kind : x.b.kind = .normal
  defers : x.a.defers = []
  ops : okItem L (.inRegion x.ops []) = true
  items : ∀ y ∈ x.r, okItem L y = true

structure St.Ok (L : Nat → Bool) (s : St) : Prop where
  kind : s.b.kind = .normal
  defers : s.a.defers = []
  items : ∀ y ∈ s.items, okItem L y = true
  below : ∀ x ∈ s.below, x.Ok L

/-- At the base's own end: its text is done, or it is on its way out. -/
def St.AtBase (s : St) : Prop := s.below = [] ∧ (s.out = true ∨ s.items = [])

/-- What a step may be. -/
inductive Moves (P : Program) (L : Nat → Bool) (s : St) (w : World) : Prop
  | go (s' : St) (n : Nat) (w₁ : World) (es : Array Event) (hs : s'.Ok L) (he : ∀ e ∈ es, Soft e) (hc : Cl P w₁) (ht : w₁.tape = w.tape) (hn : w₁.drawn = w.drawn + n)
    (h : ∀ τ d, Agree w.tape w.drawn n τ d → ∀ main k cs, stepG P main (s.plug k cs) (tap w τ d) = .go (s'.plug k cs) (tap w₁ τ (d + n)) es)
  | lost (n : Nat) (h : ∀ τ d, Agree w.tape w.drawn n τ d → ∀ main k cs, (∀ id, exitTo id k = none) → Lost (s.top (tailOf s.below k)) (plugs s.below k cs) (stepG P main (s.plug k cs) (tap w τ d)))

section
variable {P : Program} {L : Nat → Bool}

theorem c_results {fn : Func} {tmps : Array Value} : Calm P Any (results fn tmps) := by
  unfold results
  refine cb (c_mapM (fun x => ?_) _) fun vs => cpa
  split
  · exact cpa
  · exact cb c_asAddr fun _ => c_loadVar

/-- The step back into the caller. -/
theorem leave_step {b : Frame} {a : Act} {todo : List Item} (hk : b.kind = .normal) (hd : a.defers = []) {w : World} (hc : Cl P w) :
    (∃ (v : Value) (n : Nat) (w₁ : World) (es : Array Event), (∀ e ∈ es, Soft e) ∧ Cl P w₁ ∧ w₁.tape = w.tape ∧ w₁.drawn = w.drawn + n ∧
      ∀ τ d, Agree w.tape w.drawn n τ d → ∀ main c cs, stepG P main (G { b.at a todo with mode := .returning } (c :: cs)) (tap w τ d) = .go (G (c.finish v) cs) (tap w₁ τ (d + n)) es) ∨
    (∃ n, ∀ τ d, Agree w.tape w.drawn n τ d → ∀ main c cs, ∃ o w' es, stepG P main (G { b.at a todo with mode := .returning } (c :: cs)) (tap w τ d) = .ended o w' es) := by
  cases hf : P.funcs[b.fn]? with
  | none =>
    refine .inl ⟨a.tmps.getD 0 undef, 0, w, #[], by simp, hc, rfl, rfl, fun τ d _ main c cs => ?_⟩
    simp only [G, stepG, unwind, doReturn, Frame.at, hk, hd, hf]; rfl
  | some fn =>
    rcases calm_ran (c_results (fn := fn) (tmps := a.tmps)) w #[] hc (by simp) with ⟨v, w', es', n, _, hc', hes, ht, hn, hrun⟩ | ⟨n, hh⟩
    · refine .inl ⟨v, n, w', seen P b.fn es', fun e he => hes e (mem_seen he), hc', ht, hn, fun τ d ha main c cs => ?_⟩
      simp only [G, stepG, unwind, doReturn, Frame.at, hk, hd, hf, hrun τ d ha, GStep.after, Array.append_empty]
    · refine .inr ⟨n, fun τ d ha main c cs => ?_⟩
      obtain ⟨x, w', es', hx, hs⟩ := hh τ d ha
      cases x <;> exact ⟨_, _, _, by simp only [G, stepG, unwind, Frame.at, hd, hf, hx, GStep.after]; rfl⟩

theorem enter_st {f : FuncId} {fn : Func} {c : Code} (args : Array Value) (hf : P.funcs[f]? = some fn) (hb : fn.body = some c) :
    Frame.enter P f args .normal = (base f).at { tmps := args ++ Array.replicate (fn.ntmps - args.size) undef, defers := [] } [.code c] := enter_at args hf hb

/-- ████ ONE STEP. ████ -/
theorem st_step (hT : TameProg P L) (hE : NoEarly P) {s : St} (hs : s.Ok L) (hb : ¬ s.AtBase) {w : World} (hc : Cl P w) : Moves P L s w := by
  obtain ⟨b, a, items, out, below⟩ := s
  cases out with
  | false =>
    cases items with
    | nil =>
      cases below with
      | nil => exact absurd ⟨rfl, .inr rfl⟩ hb
      | cons y l =>
        refine .go ⟨b, a, [], true, y :: l⟩ 0 w #[] ⟨hs.kind, hs.defers, by simp, hs.below⟩ (by simp) hc rfl rfl fun τ d _ main k cs => ?_
        exact stepG_end
    | cons x r =>
      have hx := hs.items x (List.mem_cons_self ..)
      have hr : ∀ y ∈ r, okItem L y = true := fun y hy => hs.items y (List.mem_cons_of_mem _ hy)
      rcases item_step hT hE hs.kind hx hr hc (a := a) with ⟨a', r', n, w₁, es, hd, hr', he, hc', ht, hn, h⟩ | ⟨h⟩ | ⟨f, args, fn, c, ops, i, rest, n, w₁, es, rfl, hf, hbd, hok, he, hc', ht, hn, h⟩ | ⟨n, h⟩
      · refine .go ⟨b, a', r', false, below⟩ n w₁ es ⟨hs.kind, hd.trans hs.defers, hr', hs.below⟩ he hc' ht hn fun τ d ha main k cs => ?_
        exact h τ d ha main (tailOf below k) (plugs below k cs)
      · refine .go ⟨b, a, x :: r, true, below⟩ 0 w #[] ⟨hs.kind, hs.defers, hs.items, hs.below⟩ (by simp) hc rfl rfl fun τ d _ main k cs => ?_
        exact h (tap w τ d) main (tailOf below k) (plugs below k cs)
      · refine .go ⟨base f, { tmps := args ++ Array.replicate (fn.ntmps - args.size) undef, defers := [] }, [.code c], false, ⟨b, a, ops, i, rest, r⟩ :: below⟩ n w₁ es
          ⟨rfl, rfl, fun y hy => by
            rcases List.mem_singleton.1 hy with rfl
            exact hok, fun y hy => by
            rcases List.mem_cons.1 hy with rfl | hy
            · exact ⟨hs.kind, hs.defers, hx, hr⟩
            · exact hs.below y hy⟩ he hc' ht hn fun τ d ha main k cs => ?_
        have := h τ d ha main (tailOf below k) (plugs below k cs)
        rw [enter_st args hf hbd] at this
        show stepG P main _ _ = .go (G _ (plugs (_ :: below) k cs)) _ _
        rw [plugs_cons]
        exact this
      · refine .lost n fun τ d ha main k cs hk => ?_
        refine h τ d ha main (tailOf below k) (plugs below k cs) fun id => ?_
        cases below with
        | nil => exact hk id
        | cons y l => rfl
  | true =>
    cases below with
    | nil => exact absurd ⟨rfl, .inl rfl⟩ hb
    | cons y l =>
      have hy := hs.below y (List.mem_cons_self ..)
      rcases leave_step (P := P) (b := b) (a := a) (todo := items ++ []) hs.kind hs.defers hc with ⟨v, n, w₁, es, he, hc', ht, hn, h⟩ | ⟨n, h⟩
      · refine .go ⟨y.b, y.a.put ((y.ops[y.i]?).bind (·.dst)) v, .inRegion y.ops y.rest :: y.r, false, l⟩ n w₁ es
          ⟨hy.kind, (put_defers ..).trans hy.defers, fun z hz => by
            rcases List.mem_cons.1 hz with rfl | hz
            · exact hy.ops
            · exact hy.items z hz, fun z hz => hs.below z (List.mem_cons_of_mem _ hz)⟩ he hc' ht hn fun τ d ha main k cs => ?_
        show stepG P main (G _ (plugs (y :: l) k cs)) _ = _
        rw [plugs_cons]
        refine (h τ d ha main (y.fr (tailOf l k)) (plugs l k cs)).trans ?_
        unfold Wait.fr
        rw [Frame.finish_at]; rfl
      · refine .lost n fun τ d ha main k cs _ => .inl ?_
        show ∃ o w' es, stepG P main (G _ (plugs (y :: l) k cs)) _ = _
        rw [plugs_cons]
        exact h τ d ha main (y.fr (tailOf l k)) (plugs l k cs)
end
end Go.Proofs.Ytfaadjmglboaoaa
