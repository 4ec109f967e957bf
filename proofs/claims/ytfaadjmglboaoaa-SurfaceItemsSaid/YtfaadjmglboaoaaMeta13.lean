/-
  THE PHASE: goroutine 0 receives from a channel until it is closed; another goroutine offers it values, by a select of a send there and a receive elsewhere, closes the channel and leaves; both are at work at once, each over memory of its own; others only leave.
-/
import Derived.Test.YtfaadjmglboaoaaMeta12
namespace Go.Proofs.Ytfaadjmglboaoaa
open Go.Conc
open Go.ConcN (sumTo upd sumTo_upd upd_ne upd_same)

section
variable (P : Program) (co cq : Nat) (z z1 z2 : Value)

def selCases (x : Value) : Array CommCase := #[scase co x z1, rcase cq z2]

/-- It stands at the receive. -/
def AtRecv (g : Goroutine) : Prop := g.status = .running ∧ ∀ w, stepG P true g w = .comm g #[rcase co z] true (.recv true) w #[]
/-- It stands at the select, which offers x. -/
def AtSel (x : Value) (g : Goroutine) : Prop := g.status = .running ∧ ∀ w, stepG P false g w = .comm g (selCases co cq z1 z2 x) true .select w #[]
/-- It stands at the close, and only leaves behind it. -/
def AtClose (g : Goroutine) : Prop := g.status = .running ∧ mayWake P g = true ∧ ∃ n g', QuitsD P n 0 g' ∧
  ∀ w s r tm, w.heap[co]? = some (.chan 0 #[] false s r tm) → stepG P false g w = .go g' { w with heap := w.heap.setIfInBounds co (.chan 0 #[] true s r tm) } #[⟨.obj co, false, true⟩, ⟨.obj co, true, true⟩]

def Recvs (K : Goroutine → PH → Prop) : List Value → Goroutine → PH → Prop
  | [] => Gos P true viewB fun g h => AtRecv P co z g ∧ K (Go.Conc.served g (.tuple #[z, .bool false])) h
  | x :: xs => Gos P true viewB fun g h => AtRecv P co z g ∧ Recvs K xs (Go.Conc.served g (.tuple #[x, .bool true])) h

def Sends : List Value → Goroutine → PH → Prop
  | [] => Gos P false viewB fun g _ => AtClose P co g
  | x :: xs => Gos P false viewB fun g h => AtSel P co cq z1 z2 x g ∧ Sends xs (g.finishComm P (selCases co cq z1 z2 x) .select 0 undef false) h
end

/-- What is known of the memory at the end. -/
structure After (co n0 : Nat) (v0 : World) (h : PH) (v : World) : Prop where
  has : ∀ r o, h r = some o → v.heap[r]? = some o
  base : ∀ r, r < n0 → r ≠ co → v.heap[r]? = v0.heap[r]?
  size : n0 ≤ v.heap.size
  os : v.os = v0.os
  output : v.output = v0.output
  new : ∀ r, h r ≠ none → n0 ≤ r
  out : ∃ s r, v.heap[co]? = some (.chan 0 #[] true s r false)

structure Sit (P : Program) (c co cq n0 p : Nat) (v0 : World) (a b : Goroutine) (hp hc : PH) (gs : Array Goroutine) (w : World) (t : Trace) (q : Nat → Nat) : Prop where
  i0 : gs[0]? = some a
  ic : gs[c]? = some b
  c0 : 0 < c
  old : ∀ i g, 0 < i → i ≠ c → gs[i]? = some g → QuitsD P (q i) (Deaf t i) g
  above : ∀ j, gs.size ≤ j → Deaf t j = 0
  hasp : ∀ r o, hp r = some o → w.heap[r]? = some o
  hasc : ∀ r o, hc r = some o → w.heap[r]? = some o
  disj : ∀ r, hp r = none ∨ hc r = none
  newp : ∀ r, hp r ≠ none → n0 ≤ r
  newc : ∀ r, hc r ≠ none → n0 ≤ r
  co_lt : co < n0
  cq_lt : cq < n0
  ne : cq ≠ co
  out : ∃ s r, w.heap[co]? = some (.chan 0 #[] false s r false)
  quit : ∃ s r tm, v0.heap[cq]? = some (.chan 0 #[] false s r tm)
  base : ∀ r, r < n0 → r ≠ co → w.heap[r]? = v0.heap[r]?
  size : n0 ≤ w.heap.size
  os : w.os = v0.os
  output : w.output = v0.output
  tr : Mid t p c hp hc

section
variable {P : Program} {c co cq n0 p : Nat} {v0 : World} {a b : Goroutine} {hp hc : PH} {gs : Array Goroutine} {w : World} {t : Trace} {q : Nat → Nat}

theorem Sit.at (S : Sit P c co cq n0 p v0 a b hp hc gs w t q) (d : Nat) : Sit P c co cq n0 p v0 a b hp hc gs (w.at d) t q :=
  ⟨S.i0, S.ic, S.c0, S.old, S.above, S.hasp, S.hasc, S.disj, S.newp, S.newc, S.co_lt, S.cq_lt, S.ne, S.out, S.quit, S.base, S.size, S.os, S.output, S.tr⟩

theorem Sit.quitw (S : Sit P c co cq n0 p v0 a b hp hc gs w t q) : ∃ s r tm, w.heap[cq]? = some (.chan 0 #[] false s r tm) := by
  obtain ⟨s, r, tm, h⟩ := S.quit
  exact ⟨s, r, tm, by rw [S.base cq S.cq_lt S.ne]; exact h⟩

/-- Nobody else's step turns its record. -/
def Fix (P : Program) (w : World) (a : Goroutine) : Prop := ∀ x y, woken P x y w a = a

theorem fix_run {a : Goroutine} (h : a.status = .running) : Fix P w a := fun _ _ => woken_run h

theorem Sit.fix_recv (S : Sit P c co cq n0 p v0 a b hp hc gs w t q) (g : Goroutine) (z : Value) : Fix P w (parked g #[rcase co z] (.recv true)) := fun x y => by
  obtain ⟨s, r, h⟩ := S.out
  exact woken_recv_open x y h
theorem Sit.fix_sel (S : Sit P c co cq n0 p v0 a b hp hc gs w t q) (g : Goroutine) (x z1 z2 : Value) : Fix P w (parked g (selCases co cq z1 z2 x) .select) := fun x y => by
  obtain ⟨s, r, h⟩ := S.out
  obtain ⟨s', r', tm, h'⟩ := S.quitw
  exact woken_sel_open x y h h'

/-- A leaver's step. -/
theorem Sit.leaver (S : Sit P c co cq n0 p v0 a b hp hc gs w t q) (fa : Fix P w a) (fb : Fix P w b) {j k : Nat} {g g' : Goroutine} {es : Array Event} {fn : FuncId} {pos : String} (hj0 : 0 < j) (hjc : j ≠ c) (hj : gs[j]? = some g)
    (hm : ∀ e ∈ es, Event.mute e = true) (hq' : QuitsD P k (deafBehind (Deaf t j) es) g') : Sit P c co cq n0 p v0 a b hp hc ((gs.map (woken P g g' w)).setIfInBounds j g') w (t ++ MemOp.ofEvents j fn pos es) (upd q j k) := by
  have hu : ∀ op ∈ MemOp.ofEvents j fn pos es, op.g = j := own_of_ofEvents
  have hlt : j < gs.size := (Array.getElem?_eq_some_iff.1 hj).1
  refine { S with i0 := ?_, ic := ?_, old := fun i x hi hic hx => ?_, above := fun i hi => ?_, tr := ?_ }
  · rw [Array.getElem?_setIfInBounds_ne (by omega), Array.getElem?_map, S.i0]; simp [fa g g']
  · rw [Array.getElem?_setIfInBounds_ne hjc, Array.getElem?_map, S.ic]; simp [fb g g']
  · by_cases hji : j = i
    · subst hji
      rw [Array.getElem?_setIfInBounds_self_of_lt (by simpa using hlt)] at hx
      obtain rfl := Option.some.inj hx
      rw [upd_same, Deaf_own]
      exact hq'
    · rw [Array.getElem?_setIfInBounds_ne hji, Array.getElem?_map] at hx
      obtain ⟨y, hy, rfl⟩ := Option.map_eq_some_iff.1 hx
      have hqj := S.old i y hi hic hy
      rw [woken_quitsD hqj, upd_ne q k (Ne.symm hji), Deaf_other t hji _ hu]
      exact hqj
  · rw [Deaf_other t (g' := j) (by simp at hi; omega) _ hu]
    exact S.above i (by simpa using hi)
  · refine S.tr.mute (fun op hop => ?_) (Deaf_other t (by omega) _ hu) (Deaf_other t hjc _ hu)
    obtain ⟨e, he, rfl⟩ := Go.Conc.mem_ofEvents hop
    exact touch_mute (hm e he)

theorem kept_new {h h' : PH} {w w' : World} (K : Kept h w w' h') {r : Nat} (hr : h' r ≠ none) : h r ≠ none ∨ w.heap.size ≤ r := by
  rcases Nat.lt_or_ge r w.heap.size with hlt | hge
  · by_cases hn : h r = none
    · exact absurd (K.others r hlt hn).1 hr
    · exact .inl hn
  · exact .inr hge

theorem lt_of_has {h : PH} {w : World} (hh : ∀ r o, h r = some o → w.heap[r]? = some o) {r : Nat} (hr : h r ≠ none) : r < w.heap.size := by
  cases e : h r with
  | none => exact absurd e hr
  | some o => exact (Array.getElem?_eq_some_iff.1 (hh r o e)).1

/-- Goroutine 0's step. -/
theorem Sit.own0 (S : Sit P c co cq n0 p v0 a b hp hc gs w t q) {a' : Goroutine} {w' : World} {es : Array Event} {hp' : PH} {fn : FuncId} {pos : String} (K : viewB.St hp w w' es hp') (fb : ∀ x y, woken P x y w' b = b) :
    Sit P c co cq n0 p v0 a' b hp' hc ((gs.map (woken P a a' w')).setIfInBounds 0 a') w' (t ++ MemOp.ofEvents 0 fn pos es) q := by
  obtain ⟨hes, K⟩ := K
  have hu : ∀ op ∈ MemOp.ofEvents 0 fn pos es, op.g = 0 := own_of_ofEvents
  have hlt : 0 < gs.size := (Array.getElem?_eq_some_iff.1 S.i0).1
  have hdis : ∀ r, hp' r = none ∨ hc r = none := fun r => by
    by_cases h1 : hp' r = none
    · exact .inl h1
    · by_cases h2 : hc r = none
      · exact .inr h2
      · rcases kept_new K h1 with h3 | h3
        · exact absurd ((S.disj r).resolve_left h3) h2
        · have := lt_of_has S.hasc h2; omega
  have hkeep : ∀ r, r < n0 → w'.heap[r]? = w.heap[r]? := fun r hr => by
    have hn : hp r = none := Classical.byContradiction fun h => by have := S.newp r h; omega
    exact (K.others r (by have := S.size; omega) hn).2
  refine { S with i0 := by simp [hlt], ic := ?_, old := fun i x hi hic hx => ?_, above := fun i hi => ?_, hasp := K.has, hasc := fun r o h => ?_, disj := hdis, newp := fun r h => ?_, out := ?_, base := fun r hr hne => ?_, size := by have := S.size; have := K.size; omega, os := K.os.trans S.os, output := K.output.trans S.output, tr := S.tr.own0 (by have := S.c0; omega) K.mine hdis hes }
  · have := S.c0
    rw [Array.getElem?_setIfInBounds_ne (by omega), Array.getElem?_map, S.ic]; simp [fb a a']
  · rw [Array.getElem?_setIfInBounds_ne (by omega), Array.getElem?_map] at hx
    obtain ⟨y, hy, rfl⟩ := Option.map_eq_some_iff.1 hx
    have hqj := S.old i y hi hic hy
    rw [woken_quitsD hqj, Deaf_other t (by omega) _ hu]
    exact hqj
  · rw [Deaf_other t (g' := 0) (by simp at hi; omega) _ hu]
    exact S.above i (by simpa using hi)
  · have hlt' := lt_of_has S.hasc (r := r) (by rw [h]; simp)
    have hn : hp r = none := (S.disj r).resolve_right (by rw [h]; simp)
    rw [(K.others r hlt' hn).2]
    exact S.hasc r o h
  · rcases kept_new K h with h3 | h3
    · exact S.newp r h3
    · have := S.size; omega
  · obtain ⟨s, r, h⟩ := S.out
    exact ⟨s, r, by rw [hkeep co S.co_lt]; exact h⟩
  · rw [hkeep r hr]; exact S.base r hr hne

/-- The other's step. -/
theorem Sit.ownc (S : Sit P c co cq n0 p v0 a b hp hc gs w t q) {b' : Goroutine} {w' : World} {es : Array Event} {hc' : PH} {fn : FuncId} {pos : String} (K : viewB.St hc w w' es hc') (fa : ∀ x y, woken P x y w' a = a) :
    Sit P c co cq n0 p v0 a b' hp hc' ((gs.map (woken P b b' w')).setIfInBounds c b') w' (t ++ MemOp.ofEvents c fn pos es) q := by
  obtain ⟨hes, K⟩ := K
  have hu : ∀ op ∈ MemOp.ofEvents c fn pos es, op.g = c := own_of_ofEvents
  have hlt : c < gs.size := (Array.getElem?_eq_some_iff.1 S.ic).1
  have hc0 := S.c0
  have hdis : ∀ r, hp r = none ∨ hc' r = none := fun r => by
    by_cases h1 : hc' r = none
    · exact .inr h1
    · by_cases h2 : hp r = none
      · exact .inl h2
      · rcases kept_new K h1 with h3 | h3
        · exact absurd ((S.disj r).resolve_right h3) h2
        · have := lt_of_has S.hasp h2; omega
  have hkeep : ∀ r, r < n0 → w'.heap[r]? = w.heap[r]? := fun r hr => by
    have hn : hc r = none := Classical.byContradiction fun h => by have := S.newc r h; omega
    exact (K.others r (by have := S.size; omega) hn).2
  refine { S with i0 := ?_, ic := by simp [hlt], old := fun i x hi hic hx => ?_, above := fun i hi => ?_, hasp := fun r o h => ?_, hasc := K.has, disj := hdis, newc := fun r h => ?_, out := ?_, base := fun r hr hne => ?_, size := by have := S.size; have := K.size; omega, os := K.os.trans S.os, output := K.output.trans S.output, tr := S.tr.ownc (by omega) K.mine hdis hes }
  · rw [Array.getElem?_setIfInBounds_ne (by omega), Array.getElem?_map, S.i0]; simp [fa b b']
  · rw [Array.getElem?_setIfInBounds_ne (Ne.symm hic), Array.getElem?_map] at hx
    obtain ⟨y, hy, rfl⟩ := Option.map_eq_some_iff.1 hx
    have hqj := S.old i y hi hic hy
    rw [woken_quitsD hqj, Deaf_other t (Ne.symm hic) _ hu]
    exact hqj
  · rw [Deaf_other t (g' := c) (by simp at hi; omega) _ hu]
    exact S.above i (by simpa using hi)
  · have hlt' := lt_of_has S.hasp (r := r) (by rw [h]; simp)
    have hn : hc r = none := (S.disj r).resolve_left (by rw [h]; simp)
    rw [(K.others r hlt' hn).2]
    exact S.hasp r o h
  · rcases kept_new K h with h3 | h3
    · exact S.newc r h3
    · have := S.size; omega
  · obtain ⟨s, r, h⟩ := S.out
    exact ⟨s, r, by rw [hkeep co S.co_lt]; exact h⟩
  · rw [hkeep r hr]; exact S.base r hr hne

variable {Post : Value → World → Prop}

/-- Whoever can go on comes to its turn. -/
theorem phase_turn (run : a.status = .running ∨ b.status = .running) (awa : awake a) (awb : awake b)
    (fa : ∀ gs w t q, Sit P c co cq n0 p v0 a b hp hc gs w t q → Fix P w a) (fb : ∀ gs w t q, Sit P c co cq n0 p v0 a b hp hc gs w t q → Fix P w b)
    (h0 : a.status = .running → ∀ gs w w0 sl sl0 t q, Sit P c co cq n0 p v0 a b hp hc gs w t q → stepT P (crowd gs w0 sl0) = runT P (crowd gs w sl) 0 → Well P Post (crowd gs w0 sl0) t)
    (h1 : b.status = .running → ∀ gs w w0 sl sl0 t q, Sit P c co cq n0 p v0 a b hp hc gs w t q → stepT P (crowd gs w0 sl0) = runT P (crowd gs w sl) c → Well P Post (crowd gs w0 sl0) t) :
    ∀ gs w sl t q, Sit P c co cq n0 p v0 a b hp hc gs w t q → Well P Post (crowd gs w sl) t := by
  have key : ∀ (M : Nat) gs w sl t q, sumTo gs.size q < M → Sit P c co cq n0 p v0 a b hp hc gs w t q → Well P Post (crowd gs w sl) t := by
    intro M
    induction M with
    | zero => intro gs w sl t q hM; omega
    | succ M ih =>
      intro gs w sl t q hM S
      have haw : ∀ g ∈ gs, awake g := by
        intro x hx
        obtain ⟨i, hi, rfl⟩ := Array.mem_iff_getElem.1 hx
        have hi' : gs[i]? = some gs[i] := Array.getElem?_eq_getElem hi
        rcases Nat.eq_zero_or_pos i with rfl | hpos
        · have : gs[0] = a := Option.some.inj (hi'.symm.trans S.i0)
          rw [this]; exact awa
        · by_cases hic : i = c
          · subst hic
            have : gs[i] = b := Option.some.inj (hi'.symm.trans S.ic)
            rw [this]; exact awb
          · exact awake_of ((S.old i _ hpos hic hi').status.elim .inl fun x => .inr (.inr x))
      obtain ⟨i, y, d, sl', hi, hg, hst⟩ := crowd_pick (P := P) (w := w) (sl := sl) haw (run.elim (fun h => ⟨0, a, S.i0, h⟩) fun h => ⟨c, b, S.ic, h⟩)
      rcases Nat.eq_zero_or_pos i with rfl | hpos
      · obtain rfl : y = a := Option.some.inj (hi.symm.trans S.i0)
        exact h0 hg gs (w.at d) w sl' sl t q (S.at d) hst
      · by_cases hic : i = c
        · subst hic
          obtain rfl : y = b := Option.some.inj (hi.symm.trans S.ic)
          exact h1 hg gs (w.at d) w sl' sl t q (S.at d) hst
        · have hq := S.old i y hpos hic hi
          have hi0 : (i == 0) = false := by simp; omega
          have hlt : i < gs.size := (Array.getElem?_eq_some_iff.1 hi).1
          cases hqi : q i with
          | zero => rw [hqi] at hq; rw [hq.1] at hg; cases hg
          | succ k =>
            rw [hqi] at hq
            rcases hq with ⟨hf, _⟩ | ⟨_, g', es, hm, hstp, hq'⟩
            · rw [hf] at hg; cases hg
            have hrunT := runT_crowd_go (P := P) (sl := sl') (i := i) hi (by rw [hi0]; exact hstp (w.at d))
            have hsum : sumTo gs.size (upd q i k) + (k + 1) = sumTo gs.size q + k := by
              have := sumTo_upd q k id hlt
              simpa [hqi] using this
            have S' := (S.at d).leaver (fn := y.frame.fn) (pos := y.frame.place) (fa _ _ _ _ (S.at d)) (fb _ _ _ _ (S.at d)) hpos hic hi hm hq'
            exact Well.head (hst.trans hrunT) (ih _ _ _ _ _ (by simp; omega) S')
  exact fun gs w sl t q S => key _ gs w sl t q (Nat.lt_succ_self _) S
end
end Go.Proofs.Ytfaadjmglboaoaa
