/-
  THE LIFT: what a lone walk shows of tame text on whatever tape, the same text does beside goroutines that only leave: if it did not, there would be a way that never comes to the stop; the answers that were drawn along it are put together to one tape; on that tape the lone walk would not come to its stop either.
-/
import Derived.Test.YtfaadjmglboaoaaMeta7
namespace Go.Proofs.Ytfaadjmglboaoaa
open Go.Conc

/-! ### One tape out of many -/

section splice
variable {P : Program} {S : Type} (vm : S → (Nat → Question → Nat) → Nat → Machine) (Bad : S → Prop) (Dead : Machine → Prop)

structure Piece (s : S) where
  τ : Nat → Question → Nat
  d : Nat
  n : Nat
  nx : Option {s' : S // Bad s'}
  ok : match nx with
    | some s' => ∀ τ' d', Agree τ d n τ' d' → step P (vm s τ' d') = .next (vm s'.1 τ' (d' + n))
    | none => ∀ τ' d', Agree τ d n τ' d' → (∃ o w, step P (vm s τ' d') = .ended o w) ∨ ∃ m, step P (vm s τ' d') = .next m ∧ Dead m

theorem splice (adv : ∀ s, Bad s → Nonempty (Piece (P := P) vm Bad Dead s)) (dead : ∀ m, Dead m → (∃ o w, step P m = .ended o w) ∨ ∃ m', step P m = .next m' ∧ Dead m') (s0 : S) (h0 : Bad s0) :
    ∃ τ d, ∀ N m, runN P N (vm s0 τ d) = .next m → (∃ s' d', Bad s' ∧ m = vm s' τ d') ∨ Dead m := by
  classical
  have pc : ∀ s : {s : S // Bad s}, Piece (P := P) vm Bad Dead s.1 := fun s => Classical.choice (adv s.1 s.2)
  let sq : Nat → Option {s : S // Bad s} := fun i => Nat.rec (some ⟨s0, h0⟩) (fun _ o => o.bind fun s => (pc s).nx) i
  have sq0 : sq 0 = some ⟨s0, h0⟩ := rfl
  have sqS : ∀ i, sq (i + 1) = (sq i).bind fun s => (pc s).nx := fun i => rfl
  let len : Nat → Nat := fun i => match sq i with | some s => (pc s).n | none => 0
  let D : Nat → Nat := fun i => Nat.rec 0 (fun i d => d + len i) i
  have DS : ∀ i, D (i + 1) = D i + len i := fun i => rfl
  have Dmono : ∀ i j, i ≤ j → D i ≤ D j := fun i j h => by
    induction h with
    | refl => exact Nat.le_refl _
    | step h ih => exact Nat.le_trans ih (by rw [DS]; omega)
  let τ : Nat → Question → Nat := fun p q =>
    if h : ∃ i, D i ≤ p ∧ p < D (i + 1) then
      match sq h.choose with
      | some s => (pc s).τ ((pc s).d + (p - D h.choose)) q
      | none => 0
    else 0
  have hag : ∀ i s, sq i = some s → Agree (pc s).τ (pc s).d (pc s).n τ (D i) := by
    intro i s hi j hj q
    have hl : len i = (pc s).n := by simp only [len, hi]
    have hex : ∃ i', D i' ≤ D i + j ∧ D i + j < D (i' + 1) := ⟨i, by omega, by rw [DS, hl]; omega⟩
    have huniq : hex.choose = i := by
      obtain ⟨h1, h2⟩ := hex.choose_spec
      rcases Nat.lt_trichotomy hex.choose i with h | h | h
      · have := Dmono (hex.choose + 1) i h; omega
      · exact h
      · have := Dmono (i + 1) hex.choose h
        rw [DS, hl] at this; omega
    show (if h : ∃ i', D i' ≤ D i + j ∧ D i + j < D (i' + 1) then _ else 0) = _
    rw [dif_pos hex, huniq, hi]
    simp only []
    rw [show D i + j - D i = j from by omega]
  refine ⟨τ, 0, ?_⟩
  have key : ∀ N, (∀ s, sq N = some s → runN P N (vm s0 τ 0) = .next (vm s.1 τ (D N))) ∧ (sq N = none → (∃ o w, runN P N (vm s0 τ 0) = .ended o w) ∨ ∃ m, runN P N (vm s0 τ 0) = .next m ∧ Dead m) := by
    intro N
    induction N with
    | zero => exact ⟨fun s hs => by rw [sq0] at hs; cases hs; rfl, fun hs => by rw [sq0] at hs; cases hs⟩
    | succ N ih =>
      have hrun : runN P (N + 1) (vm s0 τ 0) = match runN P N (vm s0 τ 0) with | .next m => runN P 1 m | e => e := runN_add P N 1 _
      cases hN : sq N with
      | none =>
        refine ⟨fun s hs => (by rw [sqS, hN] at hs; cases hs), fun _ => ?_⟩
        rcases ih.2 hN with ⟨o, w, e⟩ | ⟨m, e, hd⟩
        · exact .inl ⟨o, w, by rw [hrun, e]⟩
        · rcases dead m hd with ⟨o, w, e'⟩ | ⟨m', e', hd'⟩
          · exact .inl ⟨o, w, by rw [hrun, e]; simp only [runN, e']⟩
          · exact .inr ⟨m', by rw [hrun, e]; simp only [runN, e'], hd'⟩
      | some s =>
        have e := ih.1 s hN
        have hok := (pc s).ok
        have hl : len N = (pc s).n := by simp only [len, hN]
        have hsq : sq (N + 1) = (pc s).nx := by rw [sqS, hN]; rfl
        cases hnx : (pc s).nx with
        | some s' =>
          rw [hnx] at hok
          have := hok τ (D N) (hag N s hN)
          refine ⟨fun s'' hs => ?_, fun hs => by rw [hsq, hnx] at hs; cases hs⟩
          rw [hsq, hnx] at hs
          cases hs
          rw [hrun, e]
          simp only [runN, this, DS, hl]
        | none =>
          rw [hnx] at hok
          refine ⟨fun s'' hs => (by rw [hsq, hnx] at hs; cases hs), fun _ => ?_⟩
          rcases hok τ (D N) (hag N s hN) with ⟨o, w, e'⟩ | ⟨m, e', hd⟩
          · exact .inl ⟨o, w, by rw [hrun, e]; simp only [runN, e']⟩
          · exact .inr ⟨m, by rw [hrun, e]; simp only [runN, e'], hd⟩
  intro N m hm
  cases hN : sq N with
  | some s =>
    have := (key N).1 s hN
    rw [hm] at this
    cases this
    exact .inl ⟨s.1, D N, s.2, rfl⟩
  | none =>
    rcases (key N).2 hN with ⟨o, w, e⟩ | ⟨m', e, hd⟩
    · rw [hm] at e; cases e
    · rw [hm] at e; cases e; exact .inr hd
end splice

/-! ### A caller in whom nothing goes on -/

def poison : Frame := { fn := 0, tmps := #[], todo := [.code (.refuse "")], defers := [{ target := .nil, args := #[] }], mode := .run, kind := .normal }

def lo (g : Goroutine) (w : World) : Machine := { world := w, gs := #[g], rest := { timers := #[], alone := none, slice := none } }

theorem step_lo {P : Program} {fr fr' : Frame} {cs cs' : List Frame} {w w' : World} {es : Array Event} (h : stepG P true (G fr cs) w = .go (G fr' cs') w' es) : step P (lo (G fr cs) w) = .next (lo (G fr' cs') w') :=
  step_lone_go (by rw [show ({ frame := fr, callers := cs, status := .running, dying := none } : Goroutine) = G fr cs from rfl, h]; rfl)
theorem step_lo_ended {P : Program} {fr : Frame} {cs : List Frame} {w w' : World} {o : Outcome} {es : Array Event} (h : stepG P true (G fr cs) w = .ended o w' es) : step P (lo (G fr cs) w) = .ended o w' :=
  step_lone_ended (by rw [show ({ frame := fr, callers := cs, status := .running, dying := none } : Goroutine) = G fr cs from rfl, h]; rfl)

def Item.noCall : Item → Bool
  | .call .. => false
  | _ => true

/-- Callers down to the one in whom nothing goes on. -/
inductive Under : List Frame → Prop
  | base : Under [poison]
  | cons {f : Frame} {cs : List Frame} (hm : f.mode = .run) (hd : f.defers = []) (ht : ∀ x ∈ f.todo, Item.noCall x = true) (h : Under cs) : Under (f :: cs)

/-- It never comes to a stop. -/
inductive Doomed : Machine → Prop
  | panicking {fr : Frame} {cs : List Frame} {w : World} {chain : List PanicEntry} (hm : fr.mode = .panicking chain) (hd : fr.defers = []) (ht : ∀ x ∈ fr.todo, Item.noCall x = true) (h : Under cs) : Doomed (lo (G fr cs) w)
  | raised {w : World} {chain : List PanicEntry} : Doomed (lo (G { poison with mode := .panicking chain } []) w)
  | back {w : World} : Doomed (lo (G poison []) w)

theorem catches_no {P : Program} {fr : Frame} (ht : ∀ x ∈ fr.todo, Item.noCall x = true) : fr.catches P = false := by
  unfold Frame.catches
  split
  · rename_i h
    rw [h] at ht
    have := ht _ (List.mem_cons_self ..)
    simp [Item.noCall] at this
  · rfl

theorem doomed_step {P : Program} : ∀ m, Doomed m → (∃ o w, step P m = .ended o w) ∨ ∃ m', step P m = .next m' ∧ Doomed m' := by
  intro m h
  cases h with
  | @panicking fr cs w chain hm hd ht hu =>
    have hc := catches_no (P := P) ht
    obtain ⟨fn, tmps, todo, defers, mode, kind, ro⟩ := fr
    simp only at hm hd ht
    subst hm hd
    cases hu with
    | base =>
      exact .inr ⟨_, step_lo (fr' := { poison with mode := .panicking chain }) (es := #[]) (by simp only [G, stepG, unwind, hc, Bool.false_eq_true, if_false]; rfl), .raised⟩
    | @cons f cs hm' hd' ht' hu' =>
      refine .inr ⟨_, step_lo (fr' := { f with mode := .panicking chain }) (w' := w) (es := #[]) (by simp only [G, stepG, unwind, hc, Bool.false_eq_true, if_false, Frame.raise, hm']), .panicking rfl hd' ht' hu'⟩
  | raised => exact .inl ⟨_, _, step_lo_ended (by simp only [G, stepG, unwind, poison, callDeferred]; rfl)⟩
  | back => exact .inl ⟨_, _, step_lo_ended (by simp only [G, stepG, stepG.exec, poison]; rfl)⟩
end Go.Proofs.Ytfaadjmglboaoaa
