/-
  A LAW's TEXT, walked over memory of one's own: what was there and what the law has made; calls that start goroutines are made from there.
-/
import Derived.Test.YtfaadjmglboaoaaParse31
import Derived.Test.YtfaadjmglboaoaaParse32
namespace Go.Proofs.Ytfaadjmglboaoaa
open Go.Conc Go.RowKit

/-- Goroutine 0's goals, over what is owned since W. -/
def GLB (W : World) : (Goroutine → PH → Prop) → Prop := fun E' => ∃ E, GL0 Try.prog E ∧ Cl Try.prog W ∧ E' = fun g h' => ∀ u, Kept (mine Try.prog W) W u h' → E g (.a u)

theorem mine_sub (W : World) : ∀ r o, mine Try.prog W r = some o → W.heap[r]? = some o := fun r o h => by
  unfold mine at h
  split at h
  · exact h
  · cases h
theorem mine_glob (W : World) : ∀ r, r < Try.prog.globals.size → mine Try.prog W r = none := fun r h => by
  unfold mine
  rw [if_neg (by omega)]

theorem glb {W : World} : ∀ E, GLB W E → Closed Try.prog true viewB E := by
  rintro _ ⟨E, hE, hcl, rfl⟩
  intro g h' hrun hstep u hu
  have hcu := cl_kept hu hcl (mine_glob W)
  refine gl0 E hE g (.a u) hrun ?_
  rintro w ⟨_, τ, d, rfl⟩
  obtain ⟨g', w', es, h'', h1, ⟨h2, h3⟩, h4⟩ := hstep (tap u τ d) (fun r o ho => hu.has r o ho)
  have hk : Kept (mine Try.prog W) W w' h'' := hu.trans ⟨h3.has, h3.size, h3.others, h3.mine, h3.os, h3.output⟩
  exact ⟨g', w', es, .a w', h1, ⟨fun e he => (h2 e he).1, cl_kept hk hcl (mine_glob W), w'.tape, w'.drawn, rfl⟩, h4 w' hk⟩

theorem Kept.grew {h h' : PH} {w u u2 : World} (k : Kept h w u h') (g : Grew u u2) : Kept h w u2 h' :=
  ⟨fun r o hr => by have h1 := k.has r o hr; rw [g.old r (Array.getElem?_eq_some_iff.1 h1).1]; exact h1, Nat.le_trans k.size g.size, fun r hr hn => by
    obtain ⟨h1, h2⟩ := k.others r hr hn
    exact ⟨h1, (g.old r (Nat.lt_of_lt_of_le hr k.size)).trans h2⟩, k.mine, g.os.trans k.os, g.output.trans k.output⟩

section
variable {W : World}
/-- A contract over memory of one's own. -/
theorem callsB {f : FuncId} {args : Array Value} {h : PH} {Post : Value → PH → Prop} (hc : CallsG Try.prog (GB true) f args h Post) : CallsG Try.prog (GLB W) f args h Post := hc.goal glb
/-- A call that starts goroutines and hands back no memory. -/
theorem callsB_plain {f : FuncId} {args : Array Value} {h : PH} {R : Value → Prop} (hc : ∀ u, CallsG Try.prog (GL0 Try.prog) f args (.a u) fun r v' => ∃ u', v' = .a u' ∧ Grew u u' ∧ R r) : CallsG Try.prog (GLB W) f args h fun r h' => h' = h ∧ R r := by
  rintro _ ⟨E, hE, hcl, rfl⟩ c cs hn u hu
  refine hc u E hE c cs ?_
  rintro r _ ⟨u', rfl, hg, hr⟩
  exact hn r h ⟨rfl, hr⟩ u' (hu.grew hg)

/-- A law's run ends well, out of its text. -/
theorem ends_of_wpB {Post : Value → World → Prop} {f : FuncId} {fu : Func} {c : Code} {args : Array Value} (hcl : Cl Try.prog W) (hf : Try.prog.funcs[f]? = some fu) (hb : fu.body = some c) (hi : Try.prog.inits.idxOf? f = none)
    (h : WpG (GLB W) false f c (fun e a' h' => (e = .normal ∨ e = .ret) ∧ a'.defers = [] ∧ ∃ r, ResultsC Try.prog fu a'.tmps r ∧ ∀ u, Kept (mine Try.prog W) W u h' → ∀ τ d, Post r (tap u τ d)) { tmps := args ++ Array.replicate (fu.ntmps - args.size) undef, defers := [] } (mine Try.prog W)) :
    Ends Try.prog Post (G (Frame.enter Try.prog f args .normal) []) W := by
  have hE : GL0 Try.prog (GoalL Try.prog Post) := ⟨Post, rfl⟩
  have hG : GLB W (fun g h' => ∀ u, Kept (mine Try.prog W) W u h' → GoalL Try.prog Post g (.a u)) := ⟨_, hE, hcl, rfl⟩
  have key : ∀ u, Kept (mine Try.prog W) W u (mine Try.prog W) → GoalL Try.prog Post (G (Frame.enter Try.prog f args .normal) []) (.a u) := by
    rw [enter_at args hf hb]
    have hleave : ∀ (a' : Act) (h' : PH) (todo : List Item), a'.defers = [] → (∃ r, ResultsC Try.prog fu a'.tmps r ∧ ∀ u, Kept (mine Try.prog W) W u h' → ∀ τ d, Post r (tap u τ d)) → ∀ u, Kept (mine Try.prog W) W u h' → GoalL Try.prog Post (G { (base f).at a' todo with mode := .returning } []) (.a u) := by
      rintro a' h' todo hd ⟨r, hr, hp⟩ u hu
      exact ends_return (r := r) hi ⟨fun _ _ => 0, 0, rfl, hd, rfl, fu, hf, (hr _).1⟩ (hp u hu)
    refine h _ hG (base f) [] [] rfl rfl fun e a' h' ⟨he, hd, q⟩ => ?_
    rcases he with rfl | rfl
    · exact ctl glb idleB hG rfl (fun _ => stepG_end) (hleave a' h' [] hd q)
    · exact fun todo => hleave a' h' todo hd q
  exact key W ⟨mine_sub W, Nat.le_refl _, fun r _ h => ⟨h, rfl⟩, fun _ h => h, rfl, rfl⟩
theorem grew_of_mine {u : World} {h' : PH} (k : Kept (mine Try.prog W) W u h') (e : Ext (mine Try.prog W) h') : Grew W u := grew_of_ext (mine_sub W) k e
end

/-! ### surface.Read -/
/-- The tokens among items. -/
def tok3 (l : List It) : List T3 := l.flatMap fun x => if x.e = 0 then [⟨x.k, x.p, x.t⟩] else []
theorem tok3_flat (l : List It) : flat (tok3 l) = toks l := by
  induction l with
  | nil => rfl
  | cons x l ih =>
    have e1 : tok3 (x :: l) = (if x.e = 0 then [⟨x.k, x.p, x.t⟩] else []) ++ tok3 l := rfl
    have e2 : toks (x :: l) = x.tok ++ toks l := rfl
    rw [e1, e2, flat_append, ih]
    congr 1
    unfold It.tok
    split <;> rfl
theorem tok3_length (l : List It) : (tok3 l).length = cnt l := by
  induction l with
  | nil => rfl
  | cons x l ih =>
    have e1 : tok3 (x :: l) = (if x.e = 0 then [⟨x.k, x.p, x.t⟩] else []) ++ tok3 l := rfl
    have e2 : cnt (x :: l) = x.one + cnt l := by simp [cnt]
    rw [e1, e2, List.length_append, ih]
    congr 1
    unfold It.one
    split <;> rfl

/-- What Read answers. -/
def ReadRes (h : PH) (fresh : Nat → Prop) (l : List It) (r : Value) : Prop :=
  if (lastBad l).e = 0 then (match parse (tok3 l) with
    | .ok row => ∃ v, r = .tuple #[v, .int .i64 0, .int .i64 0] ∧ OwnK h 63 3 v row.length (flat row) ∧ (∀ g, v.ownBlock = some g → fresh g) ∧ row.length ≤ cnt l
    | .err p e => r = .tuple #[.slice none 0 0, .int .i64 p, .int .i64 e])
  else r = .tuple #[.slice none 0 0, .int .i64 (lastBad l).p, .int .i64 (lastBad l).e]

theorem POwn.k {h : PH} {e : TypeId} {v : Value} {n : Nat} {xs : List Value} (x : POwn h e v n xs) : OwnK h e 3 v n xs := x
end Go.Proofs.Ytfaadjmglboaoaa
