/-
  FROM A WALK OF A LAW's TEXT TO ITS ROW.
-/
import Derived.Test.YtfaadjmglboaoaaLex3
import Derived.Conc.LeavingOf
import Derived.ProofKit
import Derived.OpenShut
import Derived.ShutString
import Derived.ChangeOld
import Derived.Below
namespace Go.Proofs.Ytfaadjmglboaoaa
open Go.Conc Go.RowKit

theorem globals_rows : ((List.range Try.prog.globals.size).all fun g => (((begin Try.prog (fun _ _ => 0) default).world.heap[g]?).bind Obj.row?).isSome) = true := by kernel_rfl

theorem cl_of_shape {w : World} (h : w.ShapedOpen Try.prog) : Cl Try.prog w := fun g hg => by
  have := List.all_eq_true.1 globals_rows g (List.mem_range.2 hg)
  obtain ⟨⟨zero, t⟩, hr⟩ := Option.isSome_iff_exists.1 this
  obtain ⟨cs, hc, _⟩ := h.1 g zero t hg hr
  exact ⟨cs, t, _, hc⟩

section
variable {P : Program} {Post : Value → World → Prop}
/-- A law's run ends well, out of its text. -/
theorem ends_of_wp {f : FuncId} {fu : Func} {c : Code} {args : Array Value} {W : World} (hf : P.funcs[f]? = some fu) (hb : fu.body = some c) (hi : P.inits.idxOf? f = none)
    (h : WpG (GL0 P) false f c (fun e a' v' => (e = .normal ∨ e = .ret) ∧ a'.defers = [] ∧ ∃ r u, v' = .a u ∧ ResultsC P fu a'.tmps r ∧ ∀ τ d, Post r (tap u τ d)) { tmps := args ++ Array.replicate (fu.ntmps - args.size) undef, defers := [] } (.a W)) :
    Ends P Post (G (Frame.enter P f args .normal) []) W := by
  show GoalL P Post _ (.a W)
  have hE : GL0 P (GoalL P Post) := ⟨Post, rfl⟩
  rw [enter_at args hf hb]
  have hleave : ∀ (a' : Act) (v' : VL) (todo : List Item), a'.defers = [] → (∃ r u, v' = .a u ∧ ResultsC P fu a'.tmps r ∧ ∀ τ d, Post r (tap u τ d)) → GoalL P Post (G { (base f).at a' todo with mode := .returning } []) v' := by
    rintro a' v' todo hd ⟨r, u, rfl, hr, hp⟩
    exact ends_return (r := r) hi ⟨fun _ _ => 0, 0, rfl, hd, rfl, fu, hf, (hr _).1⟩ hp
  refine h _ hE (base f) [] [] rfl rfl fun e a' v' ⟨he, hd, q⟩ => ?_
  rcases he with rfl | rfl
  · exact ctl gl0 idleL hE rfl (fun _ => stepG_end) (hleave a' v' [] hd q)
  · exact fun todo => hleave a' v' todo hd q
end

section
variable {H : Type} {enc : TypeId × Value → H}
set_option maxRecDepth 100000 in
/-- From a walk from every start to the row's contract. -/
theorem returns_of_ends {a : Assume} {os : Os} {f : FuncId} {fn : Func} {s : ChangeSpec} {conds : List PathCond} {apart fresh handsOn again : Bool}
    (own : ownKnob Try.prog.godebug = none) (started : os.Started) (hfn : Try.prog.funcs[f]? = some fn)
    (witness : ∃ (w : World) (tape : Tape) (i : Input), w.os = os ∧ (w.forCall tape i).Shaped Try.prog ∧ i.vars = [] ∧ Input.okWide Try.prog (w.forCall tape i) .any w.heap.size f i ∧
      s.pre6 enc Try.prog fn conds apart (w.forCall tape i).memory i.args ∧ a.holds Try.prog (lone (Frame.enter Try.prog f i.args .normal) [] (w.forCall tape i)))
    (runs : ∀ (W : World) (base : Nat) (args : Array Value) (ds gs : List (DataW H)) (before : List MemPlace),
      (∀ (j : Nat) t v, fn.params[j]? = some t → args[j]? = some v → Value.okWide Try.prog W .any base t v) →
      DataW.Whole enc Try.prog fn.params.toList s.vars apart W args.toList ds gs before →
      conds.all (PathCond.test Try.prog ⟨fn.params.toList, ds, s.plain.varTypes Try.prog, gs⟩) = true →
      (DataW.weightsEach Try.prog (fn.params.toList ++ s.plain.varTypes Try.prog) (ds ++ gs)).all (· ≤ reachBytes) = true →
      Cl Try.prog W → Ends Try.prog (fun v W' => s.post enc Try.prog fn apart fresh handsOn again W args v W') (G (Frame.enter Try.prog f args .normal) []) W) :
    ReturnsInLeavingWide a Try.checked os f .any (s.pre6 enc Try.prog fn conds apart) (s.post enc Try.prog fn apart fresh handsOn again) := by
  refine returnsInLeavingWide_of_good (C := Try.checked) own started witness ?_
  intro w tape i _ hshape _ hok hpre _
  obtain ⟨_, _, _, fn', hfn', _, _, _, _, hval⟩ := hok
  have e : fn' = fn := Option.some.inj (hfn'.symm.trans hfn)
  subst e
  obtain ⟨⟨ds, gs, before, hw, hc⟩, hz⟩ := hpre
  have hw' := DataW.Whole.of_heap (w' := w.forCall tape i) (by rfl) hw
  have hcl : Cl Try.prog (w.forCall tape i) := cl_of_shape hshape
  obtain ⟨M, last, o, w', t', h1, h2, h3, h4⟩ := Ends.start hcl (runs (w.forCall tape i) w.heap.size i.args ds gs before hval hw' hc (hz.weights hw) hcl)
  exact ⟨M, last, o, w', t', h1, h2, h3, h4.mono fun v hp => ChangeSpec.post_blind hp⟩
end
end Go.Proofs.Ytfaadjmglboaoaa
