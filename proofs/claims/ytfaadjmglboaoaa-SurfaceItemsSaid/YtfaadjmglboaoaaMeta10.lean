/-
  THE MACHINE BESIDE GOROUTINES THAT ONLY LEAVE: 'the run ends well' is a goal to which every own step of goroutine 0 leads back.
-/
import Derived.Test.YtfaadjmglboaoaaMeta9
import Derived.Conc.Beside
namespace Go.Proofs.Ytfaadjmglboaoaa
open Go.Conc
open Go.ConcN (sumTo upd sumTo_upd upd_ne upd_same)

/-- What is held of the trace: no race; goroutine 0 knows every touch of memory; all is handed over; goroutine 0 hears. -/
structure Past (t : Trace) : Prop where
  clean : ∀ said, ¬ Race said t
  known : ∀ i a, touchAt t i = some a → a.loc.isMemory = true → Knows t 0 i
  over : t.HandedOver
  hears : Deaf t 0 = 0

section
variable {t u : Trace}
theorem Past.app0 (h : Past t) (hu : ∀ op ∈ u, op.g = 0) (hd : Deaf (t ++ u) 0 = Deaf t 0) : Past (t ++ u) := by
  refine ⟨fun said => noRace_append (h.clean said) hu fun i a ha op hop b hb hc => h.known i a ha hc.2.1, fun i a ha hm => ?_, handedOver_app h.over fun op hop => .inl (hu op hop), hd.trans h.hears⟩
  obtain ⟨x, hx, hxa⟩ := touch_of ha
  rcases getElem?_append_cases hx with ⟨_, hx'⟩ | ⟨_, hxu⟩
  · exact (h.known i a (by rw [touchAt_of hx']; exact hxa) hm).app u
  · have := knows_own hx
    rwa [hu x hxu] at this
theorem Past.own (h : Past t) {fn : FuncId} {pos : String} {es : Array Event} (hes : ∀ e ∈ es, Soft e) : Past (t ++ MemOp.ofEvents 0 fn pos es) := by
  refine h.app0 (fun op hop => by obtain ⟨e, _, rfl⟩ := Go.Conc.mem_ofEvents hop; rfl) ?_
  rw [Deaf_own]
  exact deafBehind_still (fun e he => hes e he) _
theorem Past.mute (h : Past t) {g : Nat} (hg : g ≠ 0) {fn : FuncId} {pos : String} {es : Array Event} (hm : ∀ e ∈ es, e.mute = true) : Past (t ++ MemOp.ofEvents g fn pos es) := by
  have hu : ∀ op ∈ MemOp.ofEvents g fn pos es, op.g = g := fun op hop => by obtain ⟨e, _, rfl⟩ := Go.Conc.mem_ofEvents hop; rfl
  have hn : ∀ op ∈ MemOp.ofEvents g fn pos es, op.act.touch? = none := fun op hop => by obtain ⟨e, he, rfl⟩ := Go.Conc.mem_ofEvents hop; exact touch_mute (hm e he)
  refine ⟨fun said => noRace_append (h.clean said) hu fun i a _ op hop b hb _ => (by rw [hn op hop] at hb; cases hb), fun i a ha hmm => ?_, handedOver_app h.over fun op hop => .inr (hn op hop), (Deaf_other t hg _ hu).trans h.hears⟩
  obtain ⟨x, hx, hxa⟩ := touch_of ha
  rcases getElem?_append_cases hx with ⟨_, hx'⟩ | ⟨_, hxu⟩
  · exact (h.known i a (by rw [touchAt_of hx']; exact hxa) hmm).app _
  · rw [hn x hxu] at hxa; cases hxa
end

/-- From this machine the run ends well. -/
def Well (P : Program) (Post : Value → World → Prop) (m : Machine) (t : Trace) : Prop :=
  ∃ N last o w' t', runNT P (N + 1) m t = (.ended o w', t') ∧ runN P N m = .next last ∧ step P last = .ended o w' ∧ Good P Post last o w' t'

theorem Well.head {P : Program} {Post : Value → World → Prop} {m m' : Machine} {t ops : Trace} (hs : stepT P m = (.next m', ops)) (h : Well P Post m' (t ++ ops)) : Well P Post m t := by
  obtain ⟨n, last, o, w, t', h1, h2, h3, h4⟩ := h
  exact ⟨n + 1, last, o, w, t', by rw [runNT_succ_next hs]; exact h1, by rw [runN_succ_next hs]; exact h2, h3, h4⟩
theorem Well.last {P : Program} {Post : Value → World → Prop} {m : Machine} {t ops : Trace} {o : Outcome} {w : World} (hs : stepT P m = (.ended o w, ops)) (h : Good P Post m o w (t ++ ops)) : Well P Post m t :=
  ⟨0, m, o, w, t ++ ops, by simp [runNT, hs], rfl, by simp [step, hs], h⟩

/-- Goroutine 0 stands at g, beside goroutines that only leave: the run ends well, whatever the tape. -/
def Ends (P : Program) (Post : Value → World → Prop) (g : Goroutine) (v : World) : Prop :=
  ∀ (gs : Array Goroutine) (w : World) (sl : Option (Nat × Nat)) (t : Trace) (q : Nat → Nat), gs[0]? = some g → (viewA P).Holds v w → Leavers P t gs q → Past t → Well P Post (crowd gs w sl) t

section
variable {P : Program} {Post : Value → World → Prop}

theorem holds_at {v w : World} (h : (viewA P).Holds v w) (d : Nat) : (viewA P).Holds v (w.at d) := by
  obtain ⟨hc, τ, d', rfl⟩ := h
  exact ⟨hc, τ, d, rfl⟩

theorem leavers_go {gs : Array Goroutine} {q : Nat → Nat} {t : Trace} {g a' : Goroutine} {w' : World} {fn : FuncId} {pos : String} {es : Array Event} (hL : Leavers P t gs q) (hlt : 0 < gs.size) :
    Leavers P (t ++ MemOp.ofEvents 0 fn pos es) ((gs.map (woken P g a' w')).setIfInBounds 0 a') q := by
  refine ⟨fun j x hj hx => ?_, fun j hj => ?_⟩
  · have hne : 0 ≠ j := by omega
    rw [Array.getElem?_setIfInBounds_ne hne, Array.getElem?_map] at hx
    obtain ⟨y, hy, rfl⟩ := Option.map_eq_some_iff.1 hx
    have hq := hL.old j y hj hy
    rw [woken_quitsD hq, Deaf_other t (by omega) _ (fun op hop => by obtain ⟨e, _, rfl⟩ := Go.Conc.mem_ofEvents hop; rfl)]
    exact hq
  · simp at hj
    rw [Deaf_other t (g' := 0) (by omega) _ (fun op hop => by obtain ⟨e, _, rfl⟩ := Go.Conc.mem_ofEvents hop; rfl)]
    exact hL.above j hj

/-- Beside leavers goroutine 0's turn comes. -/
theorem beside_own {g : Goroutine} {v : World} (hrun : g.status = .running)
    (h : ∀ (gs : Array Goroutine) (w w0 : World) (sl sl0 : Option (Nat × Nat)) (t : Trace) (q : Nat → Nat), gs[0]? = some g → (viewA P).Holds v w → Leavers P t gs q → Past t →
      stepT P (crowd gs w0 sl0) = runT P (crowd gs w sl) 0 → Well P Post (crowd gs w0 sl0) t) : Ends P Post g v := by
  have key : ∀ (M : Nat) (gs : Array Goroutine) (w : World) (sl : Option (Nat × Nat)) (t : Trace) (q : Nat → Nat), sumTo gs.size q ≤ M → gs[0]? = some g → (viewA P).Holds v w → Leavers P t gs q → Past t → Well P Post (crowd gs w sl) t := by
    intro M
    induction M with
    | zero =>
      intro gs w sl t q hM h0 hH hL hP
      have haw : ∀ g ∈ gs, awake g := by
        intro x hx
        obtain ⟨i, hi, rfl⟩ := Array.mem_iff_getElem.1 hx
        rcases Nat.eq_zero_or_pos i with rfl | hpos
        · have : gs[0] = g := by simpa [Array.getElem?_eq_getElem hi] using h0
          rw [this]; exact awake_of (.inl hrun)
        · exact awake_of ((hL.old i _ hpos (Array.getElem?_eq_getElem hi)).status.elim .inl fun x => .inr (.inr x))
      obtain ⟨i, y, d, sl', hi, hg, hst⟩ := crowd_pick (P := P) (w := w) (sl := sl) haw ⟨0, g, h0, hrun⟩
      rcases Nat.eq_zero_or_pos i with rfl | hpos
      · exact h gs (w.at d) w sl' sl t q h0 (holds_at hH d) hL hP hst
      · have hq := hL.old i y hpos hi
        have hlt : i < gs.size := (Array.getElem?_eq_some_iff.1 hi).1
        have hqi : q i = 0 := by
          have h1 : sumTo gs.size (upd q i 0) + q i = sumTo gs.size q + 0 := sumTo_upd q 0 id hlt
          omega
        rw [hqi] at hq; rw [hq.1] at hg; cases hg
    | succ M ih =>
      intro gs w sl t q hM h0 hH hL hP
      have haw : ∀ g ∈ gs, awake g := by
        intro x hx
        obtain ⟨i, hi, rfl⟩ := Array.mem_iff_getElem.1 hx
        rcases Nat.eq_zero_or_pos i with rfl | hpos
        · have : gs[0] = g := by simpa [Array.getElem?_eq_getElem hi] using h0
          rw [this]; exact awake_of (.inl hrun)
        · exact awake_of ((hL.old i _ hpos (Array.getElem?_eq_getElem hi)).status.elim .inl fun x => .inr (.inr x))
      obtain ⟨i, y, d, sl', hi, hg, hst⟩ := crowd_pick (P := P) (w := w) (sl := sl) haw ⟨0, g, h0, hrun⟩
      rcases Nat.eq_zero_or_pos i with rfl | hpos
      · exact h gs (w.at d) w sl' sl t q h0 (holds_at hH d) hL hP hst
      · have hq := hL.old i y hpos hi
        have hi0 : (i == 0) = false := by simp; omega
        have hlt : i < gs.size := (Array.getElem?_eq_some_iff.1 hi).1
        cases hqi : q i with
        | zero => rw [hqi] at hq; rw [hq.1] at hg; cases hg
        | succ k =>
          rw [hqi] at hq
          rcases hq with ⟨hf, _⟩ | ⟨_, g', es, hm, hstp, hq'⟩
          · rw [hf] at hg; cases hg
          have hrunT := runT_crowd_go (P := P) (sl := sl') (i := i) hi (by rw [hi0]; exact hstp (w.at d))
          have hsz : ((gs.map (woken P y g' (w.at d))).setIfInBounds i g').size = gs.size := by simp
          have hsum : sumTo gs.size (upd q i k) + (k + 1) = sumTo gs.size q + k := by
            have := sumTo_upd q k id hlt
            simpa [hqi] using this
          refine Well.head (hst.trans hrunT) (ih _ (w.at d) sl' _ (upd q i k) (by rw [hsz]; omega) ?_ (holds_at hH d) ⟨fun j x hj hx => ?_, fun j hj => ?_⟩ (hP.mute (by omega) hm))
          · have hne : i ≠ 0 := by omega
            rw [Array.getElem?_setIfInBounds_ne hne, Array.getElem?_map, h0]
            simp [woken_run hrun]
          · by_cases hji : i = j
            · subst hji
              rw [Array.getElem?_setIfInBounds_self_of_lt (by simpa using hlt)] at hx
              obtain rfl := Option.some.inj hx
              rw [upd_same, Deaf_own]
              exact hq'
            · rw [Array.getElem?_setIfInBounds_ne hji, Array.getElem?_map] at hx
              obtain ⟨z, hz, rfl⟩ := Option.map_eq_some_iff.1 hx
              have hqj := hL.old j z hj hz
              rw [woken_quitsD hqj, upd_ne q k (Ne.symm hji), Deaf_other t hji _ (fun op hop => by obtain ⟨e, _, rfl⟩ := Go.Conc.mem_ofEvents hop; rfl)]
              exact hqj
          · rw [Deaf_other t (g' := i) (by simp at hj; omega) _ (fun op hop => by obtain ⟨e, _, rfl⟩ := Go.Conc.mem_ofEvents hop; rfl)]
            exact hL.above j (by simpa using hj)
  exact fun gs w sl t q h0 hH hL hP => key _ gs w sl t q (Nat.le_refl _) h0 hH hL hP

/-- ████ 'THE RUN ENDS WELL' IS A GOAL. ████ -/
theorem ends_closed : Closed P true (viewA P) (Ends P Post) := by
  intro g v hrun hstep
  refine beside_own hrun fun gs w w0 sl sl0 t q h0 hH hL hP hst => ?_
  obtain ⟨g', w', es, v', hgo, ⟨hes, hc', τ, d, rfl⟩, hE⟩ := hstep w hH
  have hlt : 0 < gs.size := (Array.getElem?_eq_some_iff.1 h0).1
  have hrunT := runT_crowd_go (P := P) (sl := sl) (i := 0) h0 (show stepG P (0 == 0) g w = _ from hgo)
  exact Well.head (hst.trans hrunT) (hE _ _ sl _ q (by simp [hlt]) ⟨hc', τ, d, rfl⟩ (leavers_go hL hlt) (hP.own hes))

/-- The last frame hands back its results. -/
theorem ends_return {fr : Frame} {v : World} {r : Value} (hi : P.inits.idxOf? fr.fn = none) (hv : ∃ τ d, fr.leaving P (tap v τ d) (.returned r)) (hp : ∀ τ d, Post r (tap v τ d)) : Ends P Post (G fr []) v := by
  refine beside_own rfl fun gs w w0 sl sl0 t q h0 hH hL hP hst => ?_
  obtain ⟨hc, τ, d, rfl⟩ := hH
  obtain ⟨τ₀, d₀, hm, hd, hk, fn, hf, hr⟩ := hv
  rcases calm_ran (c_results (fn := fn) (tmps := fr.tmps)) (tap v τ₀ d₀) #[] hc (by simp) with ⟨x, w', es', n, _, hc', hes, ht, hn, hrun⟩ | ⟨n, hh⟩
  · have h0' := hrun τ₀ d₀ (fun i _ q => rfl)
    rw [tap_tap, Sem.runT_eq, hr] at h0'
    have e1 := congrArg Prod.fst h0'
    simp only [Result.ok.injEq] at e1
    obtain ⟨rfl, e2⟩ := e1
    have hn0 : n = 0 := by
      have := congrArg World.drawn e2
      simp only [tap_drawn] at this
      omega
    subst hn0
    have e3 : ∀ τ d, tap w' τ d = tap v τ d := fun τ d => by
      have := congrArg (fun w => tap w τ d) e2
      simpa using this.symm
    have h1 := hrun τ d (fun i hi => absurd hi (by omega))
    rw [tap_tap, e3] at h1
    have hend : stepG P true (G fr []) (tap v τ d) = .ended (.done r) (tap v τ d) (seen P fr.fn es') := by
      simp only [G, stepG, hm, unwind, hd, doReturn, hk, hf, h1, GStep.after, Array.append_empty, hi, Bool.not_true, Bool.false_eq_true, if_false, Nat.add_zero]
    have hrunT := runT_many_ended (P := P) (sl := sl) (i := 0) h0 (show stepG P (0 == 0) (G fr []) (tap v τ d) = _ from hend)
    have hP' := hP.own (fn := (G fr []).frame.fn) (pos := (G fr []).frame.place) (fun e he => hes e (mem_seen he) : ∀ e ∈ seen P fr.fn es', Soft e)
    refine Well.last (hst.trans hrunT) ⟨r, rfl, hp τ d, hP'.clean, hP'.over, ⟨fun x hx => ?_, rfl⟩, fun j x hx hj => ?_⟩
    · obtain ⟨j, hj⟩ := List.mem_iff_getElem?.1 hx
      rw [List.getElem?_drop] at hj
      exact ⟨_, (hL.old (1 + j) x (by omega) (by simpa [crowd] using hj)).leaves⟩
    · have hq := hL.old j x (by omega) hx
      refine ⟨q j, ?_⟩
      have e : (t ++ MemOp.ofEvents 0 (G fr []).frame.fn (G fr []).frame.place (seen P fr.fn es')).deaf j (t ++ MemOp.ofEvents 0 (G fr []).frame.fn (G fr []).frame.place (seen P fr.fn es')).size = Deaf t j :=
        Deaf_other t (g := j) (g' := 0) (by omega) _ (fun op hop => by obtain ⟨e, _, rfl⟩ := Go.Conc.mem_ofEvents hop; rfl)
      rw [e]
      exact hq.hears _
  · obtain ⟨x, w', es', hx, _⟩ := hh τ₀ d₀ (fun i _ q => rfl)
    rw [tap_tap, Sem.runT_eq, hr] at hx
    cases hx

theorem past_nil : Past #[] :=
  ⟨fun said => by rintro ⟨i, j, _, ⟨a, b, ha, _⟩, _⟩; simp [Trace.act?] at ha, fun i a ha => by simp [touchAt, Trace.act?] at ha, fun i g hg => by simp [Trace.g?] at hg, rfl⟩

/-- From the call's entry: nothing has been done, goroutine 0 is alone. -/
theorem Ends.start {g : Goroutine} {w : World} (hc : Cl P w) (h : Ends P Post g w) : Well P Post (solo g w) #[] :=
  h #[g] w none #[] (fun _ => 0) rfl ⟨hc, w.tape, w.drawn, rfl⟩ (leavers_one P g) past_nil
end
end Go.Proofs.Ytfaadjmglboaoaa
