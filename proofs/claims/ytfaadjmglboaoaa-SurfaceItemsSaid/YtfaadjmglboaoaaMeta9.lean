/-
  WALKS OF A GOROUTINE THAT IS NOT ALONE: what is asked of a goal ('Closed'), what a piece of code does ('Wp'), what a call does ('CallsV'); and the lift of lone walks beside goroutines that only leave.
-/
import Derived.Test.YtfaadjmglboaoaaMeta8
namespace Go.Proofs.Ytfaadjmglboaoaa
open Go.Conc

/-- What a walk holds of the world ('Holds'), and what is asked of one of its steps ('St'). -/
structure View (V : Type) where
  Holds : V → World → Prop
  St : V → World → World → Array Event → V → Prop

section
variable {V : Type} (P : Program) (main : Bool) (X : View V)

/-- A goal to which every own step leads back. -/
def Closed (E : Goroutine → V → Prop) : Prop :=
  ∀ g v, g.status = .running → (∀ w, X.Holds v w → ∃ g' w' es v', stepG P main g w = .go g' w' es ∧ X.St v w w' es v' ∧ E g' v') → E g v

/-- Where the walk goes on. -/
def Then (E : Goroutine → V → Prop) (b : Frame) (k : List Item) (cs : List Frame) : Exit → Act → V → Prop
  | .normal, a, v => E (G (b.at a k) cs) v
  | .exit id, a, v => ∃ k', exitTo id k = some k' ∧ E (G (b.at a k') cs) v
  | .ret, a, v => ∀ todo, E (G { b.at a todo with mode := .returning } cs) v
  | _, _, _ => False

def Wp (fn : FuncId) (c : Code) (Q : Exit → Act → V → Prop) (a : Act) (v : V) : Prop :=
  ∀ E, Closed P main X E → ∀ (b : Frame) (k : List Item) (cs : List Frame), b.fn = fn → b.kind = .normal → (∀ e a' v', Q e a' v' → Then E b k cs e a' v') → E (G (b.at a (.code c :: k)) cs) v

def CallsV (f : FuncId) (args : Array Value) (v : V) (Post : Value → V → Prop) : Prop :=
  ∀ E, Closed P main X E → ∀ (c : Frame) (cs : List Frame), (∀ r v', Post r v' → E (G (c.finish r) cs) v') → E (G (Frame.enter P f args .normal) (c :: cs)) v
end

/-- Beside goroutines that only leave: the world is known but for the answers to come. -/
def viewA (P : Program) : View World where
  Holds v w := Cl P v ∧ ∃ τ d, w = tap v τ d
  St _ _ w' es v' := (∀ e ∈ es, Soft e) ∧ Cl P w' ∧ ∃ τ d, w' = tap v' τ d

section lift
variable {P : Program} {L : Nat → Bool}

theorem plugs_length (l : List Wait) (k : List Item) (cs : List Frame) : (plugs l k cs).length = l.length + cs.length := by
  induction l with
  | nil => simp [plugs]
  | cons x l ih => rw [plugs_cons]; simp [ih]; omega

theorem okItem_noCall {x : Item} (h : okItem L x = true) : Item.noCall x = true := by cases x <;> first | rfl | simp [okItem] at h

theorem plugs_under {kv : List Item} (hkv : ∀ x ∈ kv, Item.noCall x = true) : ∀ {l : List Wait}, (∀ x ∈ l, x.Ok L) → Under (plugs l kv [poison])
  | [], _ => .base
  | x :: l, h => by
    rw [plugs_cons]
    have hx := h x (List.mem_cons_self ..)
    refine .cons rfl hx.defers (fun y hy => ?_) (plugs_under hkv fun y hy => h y (List.mem_cons_of_mem _ hy))
    have hy' : y ∈ (Item.inRegion x.ops (x.i :: x.rest) :: (x.r ++ tailOf l kv)) := hy
    rcases List.mem_cons.1 hy' with rfl | hy'
    · rfl
    · rcases List.mem_append.1 hy' with hy' | hy'
      · exact okItem_noCall (hx.items y hy')
      · cases l with
        | nil => exact hkv y hy'
        | cons z l => cases hy'

theorem lost_dead {s : St} (hs : s.Ok L) {kv : List Item} (hkv : ∀ x ∈ kv, Item.noCall x = true) {w : World}
    (h : Lost (s.top (tailOf s.below kv)) (plugs s.below kv [poison]) (stepG P true (s.plug kv [poison]) w)) :
    (∃ o w', step P (lo (s.plug kv [poison]) w) = .ended o w') ∨ ∃ m, step P (lo (s.plug kv [poison]) w) = .next m ∧ Doomed m := by
  rcases h with ⟨o, w', es, h⟩ | ⟨chain, w', es, h⟩
  · exact .inl ⟨o, w', step_lo_ended h⟩
  · refine .inr ⟨_, step_lo h, .panicking rfl ?_ (fun x hx => ?_) (plugs_under hkv hs.below)⟩
    · show (s.top _).defers = []
      unfold St.top
      split <;> exact hs.defers
    · have hx' : x ∈ s.items ++ tailOf s.below kv := by
        have : x ∈ (s.top (tailOf s.below kv)).todo := hx
        unfold St.top at this
        split at this <;> exact this
      rcases List.mem_append.1 hx' with hx' | hx'
      · exact okItem_noCall (hs.items x hx')
      · cases hb : s.below with
        | nil => rw [hb] at hx'; exact hkv x hx'
        | cons z l => rw [hb] at hx'; cases hx'

theorem dead_piece {S : Type} {vm : S → (Nat → Question → Nat) → Nat → Machine} {Bad : S → Prop} {Dead : Machine → Prop} {s : S} (τ : Nat → Question → Nat) (d n : Nat)
    (h : ∀ τ' d', Agree τ d n τ' d' → (∃ o w, step P (vm s τ' d') = .ended o w) ∨ ∃ m, step P (vm s τ' d') = .next m ∧ Dead m) : Nonempty (Piece (P := P) vm Bad Dead s) := ⟨⟨τ, d, n, none, h⟩⟩

/-- A goal that is not met is not met further on either, or the way is lost. -/
theorem adv_inner (hT : TameProg P L) (hE : NoEarly P) {E : Goroutine → World → Prop} (hcl : Closed P true (viewA P) E) {k kv : List Item} {cs : List Frame} (hkv : ∀ x ∈ kv, Item.noCall x = true) (hkx : ∀ id, exitTo id kv = none)
    {s : St} {v : World} (hs : s.Ok L) (hb : ¬ s.AtBase) (hc : Cl P v) (hne : ¬ E (s.plug k cs) v) :
    Nonempty (Piece (P := P) (fun (s : St × World) τ d => lo (s.1.plug kv [poison]) (tap s.2 τ d)) (fun s => s.1.Ok L ∧ Cl P s.2 ∧ ¬ E (s.1.plug k cs) s.2) Doomed (s, v)) := by
  have hex : ∃ w, (viewA P).Holds v w ∧ ¬ ∃ g' w' es v', stepG P true (s.plug k cs) w = .go g' w' es ∧ (viewA P).St v w w' es v' ∧ E g' v' := by
    apply Classical.byContradiction
    intro hn
    exact hne (hcl _ v rfl fun w hw => Classical.byContradiction fun hx => hn ⟨w, hw, hx⟩)
  obtain ⟨w, ⟨_, τ, d, rfl⟩, hbad⟩ := hex
  rcases st_step hT hE hs hb (w := tap v τ d) (hc.tap τ d) with ⟨s', n, w₁, es, hs', he, hc', _, _, h⟩ | ⟨n, h⟩
  · have h0 := h τ d (fun i _ q => rfl) true k cs
    have hne' : ¬ E (s'.plug k cs) w₁ := fun hx => hbad ⟨_, _, es, w₁, h0, ⟨he, hc'.tap _ _, _, _, rfl⟩, hx⟩
    exact ⟨{ τ := τ, d := d, n := n, nx := some ⟨(s', w₁), hs', hc', hne'⟩, ok := fun τ' d' ha => step_lo (h τ' d' ha true kv [poison]) }⟩
  · exact ⟨{ τ := τ, d := d, n := n, nx := none, ok := fun τ' d' ha => lost_dead hs hkv (h τ' d' ha true kv [poison] hkx) }⟩

theorem under_not {fr : Frame} {w : World} {m : Machine} (h : Doomed m) (he : m = lo (G fr [poison]) w) (hm : ∀ chain, fr.mode ≠ .panicking chain) : False := by
  cases h with
  | panicking hm' =>
    simp only [lo, G, Machine.mk.injEq, Array.mk.injEq, List.cons.injEq, Goroutine.mk.injEq] at he
    obtain ⟨_, ⟨⟨rfl, _⟩, _⟩, _⟩ := he
    exact hm _ hm'
  | raised => simp [lo, G] at he
  | back => simp [lo, G] at he

theorem lo_inj {g g' : Goroutine} {w w' : World} (h : lo g w = lo g' w') : g = g' ∧ w = w' := by
  simp only [lo, Machine.mk.injEq, Array.mk.injEq, List.cons.injEq] at h
  exact ⟨h.2.1.1, h.1⟩
theorem G_inj {fr fr' : Frame} {cs cs' : List Frame} (h : G fr cs = G fr' cs') : fr = fr' ∧ cs = cs' := by
  simp only [G, Goroutine.mk.injEq] at h
  exact ⟨h.1, h.2.1⟩

/-- ████ THE LIFT OF A PIECE OF CODE. ████ -/
theorem lift_code (hT : TameProg P L) (hE : NoEarly P) {fn : FuncId} {c : Code} (hok : okCode L c = true) {a : Act} (ha : a.defers = []) {v : World} {Q : Exit → Act → World → Prop} (hQ : ∀ e a' w', Q e a' w' → e = .normal ∨ e = .ret)
    (hwp : ∀ τ d, c.wp P Q a (tap v τ d)) : Wp P true (viewA P) fn c (fun e a' v' => ∃ τ d, Q e a' (tap v' τ d)) a v := by
  intro E hcl b k cs hfn hkind hafter
  apply Classical.byContradiction
  intro hne
  have hc : Cl P v := Classical.byContradiction fun hx => hne (hcl _ v rfl fun w hw => (hx hw.1).elim)
  let kv : List Item := [.code (.refuse "")]
  have hkv : ∀ x ∈ kv, Item.noCall x = true := fun x hx => by rcases List.mem_singleton.1 hx with rfl; rfl
  let s0 : St := ⟨b, a, [.code c], false, []⟩
  have hs0 : s0.Ok L := ⟨hkind, ha, fun y hy => by rcases List.mem_singleton.1 hy with rfl; exact hok, by simp [s0]⟩
  obtain ⟨τ, d, hsp⟩ := splice (P := P) (fun (s : St × World) τ d => lo (s.1.plug kv [poison]) (tap s.2 τ d)) (fun s => s.1.Ok L ∧ Cl P s.2 ∧ ¬ E (s.1.plug k cs) s.2) Doomed
    (fun ⟨s, v⟩ ⟨hs, hc, hne⟩ => by
      by_cases hb : s.AtBase
      · -- the base's text is done: the lone walk has no more to do
        obtain ⟨b, a, items, out, below⟩ := s
        obtain ⟨hb1, hb2⟩ := hb
        simp only at hb1 hb2
        subst hb1
        cases out with
        | true =>
          rcases leave_step (P := P) (b := b) (a := a) (todo := items ++ kv) hs.kind hs.defers hc with ⟨x, n, w₁, es, he, hc', ht, hn, h⟩ | ⟨n, h⟩
          · exact dead_piece v.tape v.drawn n fun τ' d' hag => .inr ⟨_, step_lo (h τ' d' hag true poison []), .back⟩
          · refine dead_piece v.tape v.drawn n fun τ' d' hag => ?_
            obtain ⟨o, w', es, h'⟩ := h τ' d' hag true poison []
            exact .inl ⟨o, w', step_lo_ended h'⟩
        | false =>
          obtain rfl : items = [] := hb2.resolve_left (by simp)
          exact dead_piece v.tape v.drawn 0 fun τ' d' hag => .inl ⟨_, _, step_lo_ended (by simp only [G, stepG, stepG.exec, Frame.at, kv, tailOf, List.nil_append, St.top, Bool.false_eq_true, if_false]; rfl)⟩
      · exact adv_inner hT hE hcl hkv (fun id => rfl) hs hb hc hne)
    doomed_step (s0, v) ⟨hs0, hc, hne⟩
  obtain ⟨e, a', w', q, harr⟩ := hwp τ d b kv [poison]
  have inv : ∀ (fr : Frame) (hm : ∀ chain, fr.mode ≠ .panicking chain) (hst : Steps P (lone (b.at a (.code c :: kv)) [poison] (tap v τ d)) (lone fr [poison] w')), ∃ (s' : St) (v' : World) (d' : Nat), ¬ E (s'.plug k cs) v' ∧ s'.below = [] ∧ fr = s'.top kv ∧ w' = tap v' τ d' := by
    intro fr hm ⟨N, hN⟩
    rcases hsp N _ hN with ⟨⟨s', v'⟩, d', ⟨hs', hc', hne'⟩, hm'⟩ | hdoom
    · obtain ⟨hg, hw⟩ := lo_inj (show lo (G fr [poison]) w' = lo (s'.plug kv [poison]) (tap v' τ d') from hm')
      obtain ⟨hfr, hcs⟩ := G_inj (show G fr [poison] = G (s'.top (tailOf s'.below kv)) (plugs s'.below kv [poison]) from hg)
      have hlen := congrArg List.length hcs
      rw [plugs_length] at hlen
      have hbel : s'.below = [] := List.length_eq_zero_iff.1 (by simpa using hlen)
      rw [hbel] at hfr
      exact ⟨s', v', d', hne', hbel, hfr, hw⟩
    · exact (under_not hdoom (show _ = lo (G fr [poison]) w' from rfl) hm).elim
  rcases hQ e a' w' q with rfl | rfl
  · obtain ⟨s', v', d', hne', hbel, hfr, rfl⟩ := inv (b.at a' kv) (by simp [Frame.at]) harr
    obtain ⟨b', a'', items, out, below⟩ := s'
    simp only at hbel
    subst hbel
    cases out with
    | true => simp [St.top, Frame.at] at hfr
    | false =>
      simp only [St.top, Bool.false_eq_true, if_false, Frame.at, Frame.mk.injEq] at hfr
      obtain ⟨h1, h2, h3, h4, _, h5, _⟩ := hfr
      have hi : items = [] := by
        have := congrArg List.length h3
        simp [kv] at this
        exact this
      subst hi
      refine hne' ?_
      have := hafter .normal a' v' ⟨τ, d', q⟩
      show E (G (b'.at a'' ([] ++ k)) cs) v'
      have e1 : b'.at a'' ([] ++ k) = b.at a' k := by
        simp only [Frame.at, List.nil_append, Frame.mk.injEq]
        exact ⟨h1.symm, h2.symm, trivial, h4.symm, trivial, h5.symm, trivial⟩
      rw [e1]; exact this
  · obtain ⟨todo, hst⟩ := harr
    obtain ⟨s', v', d', hne', hbel, hfr, rfl⟩ := inv _ (by simp) hst
    obtain ⟨b', a'', items, out, below⟩ := s'
    simp only at hbel
    subst hbel
    cases out with
    | false => simp [St.top, Frame.at] at hfr
    | true =>
      simp only [St.top, if_true, Frame.at, Frame.mk.injEq] at hfr
      obtain ⟨h1, h2, h3, h4, _, h5, _⟩ := hfr
      refine hne' ?_
      have := hafter .ret a' v' ⟨τ, d', q⟩ (items ++ k)
      show E (G { b'.at a'' (items ++ k) with mode := .returning } cs) v'
      have e1 : ({ b'.at a'' (items ++ k) with mode := .returning } : Frame) = { b.at a' (items ++ k) with mode := .returning } := by
        simp only [Frame.at, Frame.mk.injEq]
        exact ⟨h1.symm, h2.symm, trivial, h4.symm, trivial, h5.symm, trivial⟩
      rw [e1]; exact this

/-- The frame on its way out hands its results to the caller. -/
theorem leave_closed {E : Goroutine → World → Prop} (hcl : Closed P true (viewA P) E) {fr c : Frame} {cs : List Frame} {v : World} {r : Value} (hv : ∃ τ d, fr.leaving P (tap v τ d) (.returned r)) (h : ∀ v', (∃ τ d, v' = tap v τ d) → E (G (c.finish r) cs) v') : E (G fr (c :: cs)) v := by
  refine hcl _ v rfl fun w hw => ?_
  obtain ⟨hc, τ, d, rfl⟩ := hw
  obtain ⟨τ₀, d₀, hm, hd, hk, fn, hf, hr⟩ := hv
  rcases calm_ran (c_results (fn := fn) (tmps := fr.tmps)) (tap v τ₀ d₀) #[] hc (by simp) with ⟨x, w', es', n, _, hc', hes, ht, hn, hrun⟩ | ⟨n, hh⟩
  · have h0 := hrun τ₀ d₀ (fun i _ q => rfl)
    rw [tap_tap, Sem.runT_eq, hr] at h0
    have e1 := congrArg Prod.fst h0
    simp only [Result.ok.injEq] at e1
    obtain ⟨rfl, e2⟩ := e1
    have hn0 : n = 0 := by
      have := congrArg World.drawn e2
      simp only [tap_drawn] at this
      omega
    subst hn0
    have e3 : ∀ τ d, tap w' τ d = tap v τ d := fun τ d => by
      have := congrArg (fun w => tap w τ d) e2
      simpa using this.symm
    have h1 := hrun τ d (fun i hi => absurd hi (by omega))
    rw [tap_tap, e3] at h1
    refine ⟨G (c.finish r) cs, tap v τ d, seen P fr.fn es', tap v τ d, ?_, ⟨fun e he => hes e (mem_seen he), hc.tap τ d, _, _, rfl⟩, h _ ⟨τ, d, rfl⟩⟩
    simp only [G, stepG, hm, unwind, hd, doReturn, hk, hf, h1, GStep.after, Array.append_empty, Nat.add_zero]
  · obtain ⟨x, w', es', hx, _⟩ := hh τ₀ d₀ (fun i _ q => rfl)
    rw [tap_tap, Sem.runT_eq, hr] at hx
    cases hx

/-- ████ THE LIFT OF A CALL. ████ -/
theorem lift_call (hT : TameProg P L) (hE : NoEarly P) {f : FuncId} (hf : L f = true) {args : Array Value} {v : World} {R : Ending → World → Prop} (hR : ∀ e w', R e w' → ∃ r, e = .returned r)
    (hcall : ∀ τ d, Calls P f args (tap v τ d) R) (hbody : (P.funcs[f]?).any (·.body.isSome) = true) : CallsV P true (viewA P) f args v (fun r v' => ∃ τ d, R (.returned r) (tap v' τ d)) := by
  intro E hcl c0 cs hafter
  apply Classical.byContradiction
  intro hne
  have hc : Cl P v := Classical.byContradiction fun hx => hne (hcl _ v rfl fun w hw => (hx hw.1).elim)
  obtain ⟨fn, hfn, _, hfb⟩ := hT.fn f hf
  rw [hfn] at hbody
  obtain ⟨c, hb, hok⟩ : ∃ c, fn.body = some c ∧ okCode L c = true := by
    rcases hfb with h | ⟨h, _⟩
    · exact h
    · simp [h] at hbody
  have hkv : ∀ x ∈ ([] : List Item), Item.noCall x = true := fun x hx => by cases hx
  let a0 : Act := { tmps := args ++ Array.replicate (fn.ntmps - args.size) undef, defers := [] }
  let s0 : St := ⟨base f, a0, [.code c], false, []⟩
  have hs0 : s0.Ok L := ⟨rfl, rfl, fun y hy => by rcases List.mem_singleton.1 hy with rfl; exact hok, by simp [s0]⟩
  have he0 : Frame.enter P f args .normal = (base f).at a0 [.code c] := enter_st args hfn hb
  obtain ⟨τ, d, hsp⟩ := splice (P := P) (fun (s : St × World) τ d => lo (s.1.plug [] [poison]) (tap s.2 τ d)) (fun s => s.1.Ok L ∧ Cl P s.2 ∧ ¬ E (s.1.plug [] (c0 :: cs)) s.2) Doomed
    (fun ⟨s, v⟩ ⟨hs, hc, hne⟩ => by
      by_cases hb : s.AtBase
      · obtain ⟨b, a, items, out, below⟩ := s
        obtain ⟨hb1, hb2⟩ := hb
        simp only at hb1 hb2
        subst hb1
        cases out with
        | true =>
          rcases leave_step (P := P) (b := b) (a := a) (todo := items ++ []) hs.kind hs.defers hc with ⟨x, n, w₁, es, he, hc', ht, hn, h⟩ | ⟨n, h⟩
          · exact dead_piece v.tape v.drawn n fun τ' d' hag => .inr ⟨_, step_lo (h τ' d' hag true poison []), .back⟩
          · refine dead_piece v.tape v.drawn n fun τ' d' hag => ?_
            obtain ⟨o, w', es, h'⟩ := h τ' d' hag true poison []
            exact .inl ⟨o, w', step_lo_ended h'⟩
        | false =>
          obtain rfl : items = [] := hb2.resolve_left (by simp)
          -- the text is done: on the way out
          have hstep : ∀ w main cs, stepG P main (G (b.at a []) cs) w = .go (G { b.at a [] with mode := .returning } cs) w := fun w main cs => stepG_end
          have hex : ∃ w, (viewA P).Holds v w ∧ ¬ ∃ g' w' es v', stepG P true ((⟨b, a, [], false, []⟩ : St).plug [] (c0 :: cs)) w = .go g' w' es ∧ (viewA P).St v w w' es v' ∧ E g' v' := by
            apply Classical.byContradiction
            intro hn
            exact hne (hcl _ v rfl fun w hw => Classical.byContradiction fun hx => hn ⟨w, hw, hx⟩)
          obtain ⟨w, ⟨_, τ, d, rfl⟩, hbad⟩ := hex
          have hne' : ¬ E ((⟨b, a, [], true, []⟩ : St).plug [] (c0 :: cs)) (tap v τ d) := fun hx => hbad ⟨_, _, _, tap v τ d, hstep _ _ _, ⟨by simp, hc.tap τ d, τ, d, rfl⟩, hx⟩
          exact ⟨⟨τ, d, 0, some ⟨(⟨b, a, [], true, []⟩, tap v τ d), ⟨hs.kind, hs.defers, by simp, by simp⟩, hc.tap τ d, hne'⟩, fun τ' d' _ => step_lo (hstep _ _ _)⟩⟩
      · exact adv_inner hT hE hcl hkv (fun id => rfl) hs hb hc hne)
    doomed_step (s0, v) ⟨hs0, hc, by rw [he0] at hne; exact hne⟩
  obtain ⟨e, w', fr, hr, hcomes, hfr, hleave⟩ := hcall τ d [poison]
  obtain ⟨r, rfl⟩ := hR e w' hr
  obtain ⟨N, hN⟩ := hcomes
  rw [he0] at hN
  rcases hsp N _ hN with ⟨⟨s', v'⟩, d', ⟨hs', hc', hne'⟩, hm'⟩ | hdoom
  · obtain ⟨hg, rfl⟩ := lo_inj (show lo (G fr [poison]) w' = lo (s'.plug [] [poison]) (tap v' τ d') from hm')
    obtain ⟨hfr', hcs⟩ := G_inj (show G fr [poison] = G (s'.top (tailOf s'.below [])) (plugs s'.below [] [poison]) from hg)
    have hlen := congrArg List.length hcs
    rw [plugs_length] at hlen
    have hbel : s'.below = [] := List.length_eq_zero_iff.1 (by simpa using hlen)
    refine hne' ?_
    have e1 : s'.plug [] (c0 :: cs) = G fr (c0 :: cs) := by
      unfold St.plug
      rw [hfr', hbel]; rfl
    rw [e1]
    exact leave_closed hcl ⟨τ, d', hleave⟩ fun v'' ⟨τ₁, d₁, e⟩ => hafter r v'' ⟨τ, d', by rw [e, tap_tap]; exact hr⟩
  · exact under_not hdoom (show _ = lo (G fr [poison]) w' from rfl) (by rw [hleave.1]; simp)
end lift
end Go.Proofs.Ytfaadjmglboaoaa
