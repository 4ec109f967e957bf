/-
  THE OTHER's BEGINNING AND END: it enters its function; behind the function's text a deferred call closes the channel; it leaves.
-/
import Derived.Test.YtfaadjmglboaoaaMeta19
namespace Go.Proofs.Ytfaadjmglboaoaa
open Go.Conc

/-- The goroutine's own frame, its one call made. -/
def bornOut (P : Program) : Frame := { (default : Frame) with fn := P.funcs.size, defers := [], mode := .panicking [goexitEntry] }
/-- The frame of a deferred call. -/
def baseD (f : FuncId) : Frame := { (default : Frame) with fn := f, kind := .deferred }

section
variable {P : Program} {co cq : Nat} {z1 z2 : Value} {f : FuncId} {fn : Func} {c : Code} {args : Array Value}

theorem born_step (hf : P.funcs[f]? = some fn) (hname : (fn.name == "runtime.NumGoroutine") = false) (hb : fn.body = some c) (w : World) :
    stepG P false (born P { target := .fn (.func f) #[], args }) w = .go (G ((baseD f).at { tmps := args ++ Array.replicate (fn.ntmps - args.size) undef, defers := [] } [.code c]) [bornOut P]) w #[] := by
  have h1 : ¬ fn.name = "runtime.NumGoroutine" := by simpa using hname
  have he : Frame.enter P f args .deferred = (baseD f).at { tmps := args ++ Array.replicate (fn.ntmps - args.size) undef, defers := [] } [.code c] := by
    simp [Frame.enter, Frame.at, hf, hb, baseD]
  rw [← he]
  simp [stepG, born, unwind, callDeferred, invoke, callFunc, hf, h1, hb, G, bornOut, seen, GStep.after]

/-- The deferred close. -/
def closer (co : Nat) (ats : Array TypeId) (t : TypeId) (cs : Array Bool) : Deferred := { target := .builtin .close ats t cs, args := #[.chan (some co)] }

theorem close_step {b : Frame} {a : Act} {todo : List Item} {cs : List Frame} {main : Bool} {ats : Array TypeId} {t : TypeId} {cc : Array Bool} {ds : List Deferred} (hd : a.defers = closer co ats t cc :: ds) {w : World} {s r : Nat} {tm : Bool} (hc : w.heap[co]? = some (.chan 0 #[] false s r tm)) :
    stepG P main (G { b.at a todo with mode := .returning } cs) w = .go (G { b.at ⟨a.tmps, ds⟩ todo with mode := .returning } cs) { w with heap := w.heap.setIfInBounds co (.chan 0 #[] true s r tm) } #[⟨.obj co, false, true⟩, ⟨.obj co, true, true⟩] := by
  have hrun : (invoke (.builtin .close ats t cc) #[.chan (some co)]).runT P w #[] = (.ok (.value (.tuple #[])) { w with heap := w.heap.setIfInBounds co (.chan 0 #[] true s r tm) }, #[⟨.obj co, false, true⟩, ⟨.obj co, true, true⟩]) := by
    show (Sem.getObj co fun o => _).runT P w #[] = _
    simp only [Sem.runT, hc]
    show (Sem.setObj co (.chan 0 #[] true s r tm) _).runT P w _ = _
    simp only [Sem.runT, hc]
    rfl
  have hseen : ∀ fn, seen P fn #[⟨.obj co, false, true⟩, ⟨.obj co, true, true⟩] = #[⟨.obj co, false, true⟩, ⟨.obj co, true, true⟩] := fun fn => by
    simp [seen]
  simp only [G, stepG, unwind, Frame.at, hd, closer, callDeferred, hrun, hseen, GStep.after, Array.append_empty]
  rfl

/-- It only leaves. -/
theorem quits_scan {a : Act} {todo : List Item} (hd : a.defers = []) (hf : P.funcs[f]? = some fn) (hr : fn.results = #[]) : QuitsD P 2 0 (G { (baseD f).at a todo with mode := .returning } [bornOut P]) := by
  refine .inr ⟨rfl, G (bornOut P) [], #[], by simp, fun w => ?_, .inr ⟨rfl, { frame := bornOut P, callers := [], status := .finished, dying := none }, #[], by simp, fun w => ?_, rfl, rfl⟩⟩
  · have hrun : (results fn a.tmps).runT P w #[] = (.ok (.tuple #[]) w, #[]) := by
      have := Sem.runT_eq P (results fn a.tmps) w #[]
      rw [this, results_none hr, events_results_none hr]
    simp only [G, stepG, unwind, Frame.at, hd, baseD, hf, hrun, doReturn, bornOut, goexitEntry, GStep.after, seen_none, Array.append_empty]
  · simp [G, stepG, unwind, bornOut, Frame.catches, goexitEntry]
    rfl

/-- What the other sends, out of its function's text. -/
theorem sends_of_wp (hf : P.funcs[f]? = some fn) (hname : (fn.name == "runtime.NumGoroutine") = false) (hb : fn.body = some c) (hr : fn.results = #[]) {h : PH} {xs : List Value}
    (hwp : WpG (GS P co cq z1 z2) true f c (fun e a' v' => (e = .normal ∨ e = .ret) ∧ v'.2 = [] ∧ ∃ ats t cc, a'.defers = [closer co ats t cc]) { tmps := args ++ Array.replicate (fn.ntmps - args.size) undef, defers := [] } (h, xs)) :
    Sends P co cq z1 z2 xs (born P { target := .fn (.func f) #[], args }) h := by
  have hclose : ∀ (a' : Act) (v' : PH × List Value) (todo : List Item), v'.2 = [] → (∃ ats t cc, a'.defers = [closer co ats t cc]) → GoalS P co cq z1 z2 (G { (baseD f).at a' todo with mode := .returning } [bornOut P]) v' := by
    rintro a' ⟨h', xs'⟩ todo rfl ⟨ats, t, cc, hd⟩
    exact Gos.stop ⟨rfl, rfl, 2, _, quits_scan (a := ⟨a'.tmps, []⟩) (todo := todo) rfl hf hr, fun w s r tm hc => close_step hd hc⟩
  show GoalS P co cq z1 z2 _ (h, xs)
  refine ctl gs idleS (rfl : GS P co cq z1 z2 (GoalS P co cq z1 z2)) rfl (fun w => born_step hf hname hb w) ?_
  refine hwp _ rfl (baseD f) [] [bornOut P] rfl rfl fun e a' v' ⟨he, h2, h3⟩ => ?_
  rcases he with rfl | rfl
  · exact ctl gs idleS (rfl : GS P co cq z1 z2 (GoalS P co cq z1 z2)) rfl (fun _ => stepG_end) (hclose a' v' [] h2 h3)
  · exact fun todo => hclose a' v' todo h2 h3
end
end Go.Proofs.Ytfaadjmglboaoaa
