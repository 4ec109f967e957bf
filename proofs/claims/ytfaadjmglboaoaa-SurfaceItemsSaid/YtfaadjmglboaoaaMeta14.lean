/-
  THE PHASE, ON: who meets whom; the close; the end.
-/
import Derived.Test.YtfaadjmglboaoaaMeta13
namespace Go.Proofs.Ytfaadjmglboaoaa
open Go.Conc
open Go.ConcN (sumTo upd sumTo_upd upd_ne upd_same)

theorem Deaf_nomark {t u : Trace} (g : Nat) (hu : ∀ op ∈ u, ∀ m, op.act ≠ .mark m) : Deaf (t ++ u) g = Deaf t g := by
  obtain ⟨l⟩ := u
  rw [Deaf_append]
  induction l generalizing t with
  | nil => rfl
  | cons y l ih =>
    have e1 : deafStep g (Deaf t g) y = Deaf t g := by
      have := hu y (by simp)
      unfold deafStep
      split
      · exact absurd ‹_› (this _)
      · exact absurd ‹_› (this _)
      · rfl
    rw [List.foldl_cons, e1]
    exact ih fun op hop => hu op (by simp at hop ⊢; exact .inr hop)

section
variable {P : Program} {c co cq n0 p : Nat} {v0 : World} {a b : Goroutine} {hp hc : PH} {gs : Array Goroutine} {w : World} {t : Trace} {q : Nat → Nat} {Post : Value → World → Prop}

theorem Sit.partners0 (S : Sit P c co cq n0 p v0 a b hp hc gs w t q) (r : Nat) (send : Bool) : partners (gs.setIfInBounds 0 ph) r send = (offersAt b r send).map fun k => (c, k) := by
  refine partners_one ?_ fun k x hk hx => ?_
  · rw [Array.getElem?_setIfInBounds_ne (by have := S.c0; omega)]; exact S.ic
  · rcases getElem?_stand gs 0 k x hx with ⟨_, rfl⟩ | ⟨hk0, hx⟩
    · exact offersAt_ph r send
    · exact offersAt_of_not_blocked (by rcases (S.old k x (by omega) hk hx).status with h | h <;> rw [h] <;> simp) r send
theorem Sit.partnersc (S : Sit P c co cq n0 p v0 a b hp hc gs w t q) (r : Nat) (send : Bool) : partners (gs.setIfInBounds c ph) r send = (offersAt a r send).map fun k => (0, k) := by
  refine partners_one ?_ fun k x hk hx => ?_
  · rw [Array.getElem?_setIfInBounds_ne (by have := S.c0; omega)]; exact S.i0
  · rcases getElem?_stand gs c k x hx with ⟨_, rfl⟩ | ⟨hkc, hx⟩
    · exact offersAt_ph r send
    · exact offersAt_of_not_blocked (by rcases (S.old k x (by omega) hkc hx).status with h | h <;> rw [h] <;> simp) r send

theorem Sit.park0 (S : Sit P c co cq n0 p v0 a b hp hc gs w t q) (a' : Goroutine) : Sit P c co cq n0 p v0 a' b hp hc (gs.setIfInBounds 0 a') w t q := by
  have hlt : 0 < gs.size := (Array.getElem?_eq_some_iff.1 S.i0).1
  have hc0 := S.c0
  refine { S with i0 := by simp [hlt], ic := by rw [Array.getElem?_setIfInBounds_ne (by omega)]; exact S.ic, old := fun i x hi hic hx => ?_, above := fun i hi => S.above i (by simpa using hi) }
  rw [Array.getElem?_setIfInBounds_ne (by omega)] at hx
  exact S.old i x hi hic hx
theorem Sit.parkc (S : Sit P c co cq n0 p v0 a b hp hc gs w t q) (b' : Goroutine) : Sit P c co cq n0 p v0 a b' hp hc (gs.setIfInBounds c b') w t q := by
  have hlt : c < gs.size := (Array.getElem?_eq_some_iff.1 S.ic).1
  have hc0 := S.c0
  refine { S with i0 := by rw [Array.getElem?_setIfInBounds_ne (by omega)]; exact S.i0, ic := by simp [hlt], old := fun i x hi hic hx => ?_, above := fun i hi => S.above i (by simpa using hi) }
  rw [Array.getElem?_setIfInBounds_ne (Ne.symm hic)] at hx
  exact S.old i x hi hic hx

/-- They have met: the channel's block counts it; the trace gains entries that touch nothing. -/
theorem Sit.met (S : Sit P c co cq n0 p v0 a b hp hc gs w t q) {u : Trace} (s r : Nat) (hu : ∀ op ∈ u, op.act.touch? = none ∧ ∀ m, op.act ≠ .mark m) : Sit P c co cq n0 p v0 a b hp hc gs (w.setChan co 0 #[] false s r false) (t ++ u) q := by
  have hsz : (w.setChan co 0 #[] false s r false).heap.size = w.heap.size := by simp [World.setChan]
  have hne : ∀ x, x ≠ co → (w.setChan co 0 #[] false s r false).heap[x]? = w.heap[x]? := fun x hx => by simp only [World.setChan, Array.getElem?_setIfInBounds_ne (Ne.symm hx)]
  have hd : ∀ g, Deaf (t ++ u) g = Deaf t g := fun g => Deaf_nomark g fun op hop => (hu op hop).2
  refine { S with old := fun i x hi hic hx => by rw [hd]; exact S.old i x hi hic hx, above := fun i hi => by rw [hd]; exact S.above i hi, hasp := fun x o h => ?_, hasc := fun x o h => ?_, out := ⟨s, r, ?_⟩, base := fun x hx hxc => by rw [hne x hxc]; exact S.base x hx hxc, size := by rw [hsz]; exact S.size, os := S.os, output := S.output, tr := S.tr.mute (fun op hop => (hu op hop).1) (hd 0) (hd c) }
  · have : x ≠ co := fun e => by have := S.newp x (by rw [h]; simp); have := S.co_lt; omega
    rw [hne x this]; exact S.hasp x o h
  · have : x ≠ co := fun e => by have := S.newc x (by rw [h]; simp); have := S.co_lt; omega
    rw [hne x this]; exact S.hasc x o h
  · have : co < w.heap.size := by have := S.size; have := S.co_lt; omega
    simp [World.setChan, this]

theorem comm_ops {u : Trace} {o1 o2 o3 o4 : MemOp} (hu : u = #[o1, o2, o3, o4]) (h : ∀ o ∈ [o1, o2, o3, o4], o.act.touch? = none ∧ ∀ m, o.act ≠ .mark m) : ∀ op ∈ u, op.act.touch? = none ∧ ∀ m, op.act ≠ .mark m := fun op hop => h op (by rw [hu] at hop; simpa using hop)

/-- Both walk. -/
theorem walk_both {Sa Sb : Goroutine → PH → Prop}
    (HA : ∀ a hp, Sa a hp → a.status = .running ∧ ∀ b hc, Gos P false viewB Sb b hc → b.status = .running → ∀ gs w w0 sl sl0 t q, Sit P c co cq n0 p v0 a b hp hc gs w t q → stepT P (crowd gs w0 sl0) = runT P (crowd gs w sl) 0 → Well P Post (crowd gs w0 sl0) t)
    (HB : ∀ b hc, Sb b hc → b.status = .running ∧ ∀ a hp, Gos P true viewB Sa a hp → a.status = .running → ∀ gs w w0 sl sl0 t q, Sit P c co cq n0 p v0 a b hp hc gs w t q → stepT P (crowd gs w0 sl0) = runT P (crowd gs w sl) c → Well P Post (crowd gs w0 sl0) t) :
    ∀ {a hp}, Gos P true viewB Sa a hp → ∀ {b hc}, Gos P false viewB Sb b hc → ∀ gs w sl t q, Sit P c co cq n0 p v0 a b hp hc gs w t q → Well P Post (crowd gs w sl) t := by
  intro a hp ga
  induction ga with
  | @stop a hp hS =>
    intro b hc gb
    have ra := (HA a hp hS).1
    induction gb with
    | @stop b hc hT =>
      have rb := (HB b hc hT).1
      exact phase_turn (.inl ra) (awake_of (.inl ra)) (awake_of (.inl rb)) (fun _ _ _ _ _ => fix_run ra) (fun _ _ _ _ _ => fix_run rb) (fun _ => (HA a hp hS).2 b hc (.stop hT) rb) (fun _ => (HB b hc hT).2 a hp (.stop hS) ra)
    | @step b hc rb ng nv nw ne hs hst hG ihb =>
      refine phase_turn (.inl ra) (awake_of (.inl ra)) (awake_of (.inl rb)) (fun _ _ _ _ _ => fix_run ra) (fun _ _ _ _ _ => fix_run rb) (fun _ => (HA a hp hS).2 b hc (.step rb ng nv nw ne hs hst hG) rb) fun _ gs w w0 sl sl0 t q S hT => ?_
      have hi0 : (c == 0) = false := by have := S.c0; simp; omega
      have hrunT := runT_crowd_go (P := P) (sl := sl) (i := c) S.ic (show stepG P (c == 0) b w = _ by rw [hi0]; exact hs w S.hasc)
      exact Well.head (hT.trans hrunT) (ihb w S.hasc _ _ _ _ _ (S.ownc (hst w S.hasc) fun x y => fix_run ra x y))
  | @step a hp ra ng nv nw ne hs hst hG iha =>
    intro b hc gb
    have own : ∀ {b hc}, Gos P false viewB Sb b hc → b.status = .running → ∀ gs w w0 sl sl0 t q, Sit P c co cq n0 p v0 a b hp hc gs w t q → stepT P (crowd gs w0 sl0) = runT P (crowd gs w sl) 0 → Well P Post (crowd gs w0 sl0) t := by
      intro b hc gb rb gs w w0 sl sl0 t q S hT
      have hrunT := runT_crowd_go (P := P) (sl := sl) (i := 0) S.i0 (show stepG P (0 == 0) a w = _ from hs w S.hasp)
      exact Well.head (hT.trans hrunT) (iha w S.hasp gb _ _ _ _ _ (S.own0 (hst w S.hasp) fun x y => fix_run rb x y))
    induction gb with
    | @stop b hc hT =>
      have rb := (HB b hc hT).1
      exact phase_turn (.inl ra) (awake_of (.inl ra)) (awake_of (.inl rb)) (fun _ _ _ _ _ => fix_run ra) (fun _ _ _ _ _ => fix_run rb) (fun _ => own (.stop hT) rb) (fun _ => (HB b hc hT).2 a hp (.step ra ng nv nw ne hs hst hG) ra)
    | @step b hc rb ng' nv' nw' ne' hs' hst' hG' ihb =>
      refine phase_turn (.inl ra) (awake_of (.inl ra)) (awake_of (.inl rb)) (fun _ _ _ _ _ => fix_run ra) (fun _ _ _ _ _ => fix_run rb) (fun _ => own (.step rb ng' nv' nw' ne' hs' hst' hG') rb) fun _ gs w w0 sl sl0 t q S hT => ?_
      have hi0 : (c == 0) = false := by have := S.c0; simp; omega
      have hrunT := runT_crowd_go (P := P) (sl := sl) (i := c) S.ic (show stepG P (c == 0) b w = _ by rw [hi0]; exact hs' w S.hasc)
      exact Well.head (hT.trans hrunT) (ihb w S.hasc _ _ _ _ _ (S.ownc (hst' w S.hasc) fun x y => fix_run ra x y))

/-- Both channels stand open. -/
def Open (co cq : Nat) (w : World) : Prop := (∃ s r, w.heap[co]? = some (.chan 0 #[] false s r false)) ∧ ∃ s r tm, w.heap[cq]? = some (.chan 0 #[] false s r tm)

theorem Sit.opn (S : Sit P c co cq n0 p v0 a b hp hc gs w t q) : Open co cq w := ⟨S.out, S.quitw⟩
theorem Sit.open0 (S : Sit P c co cq n0 p v0 a b hp hc gs w t q) {w' : World} {es : Array Event} {hp' : PH} (K : viewB.St hp w w' es hp') : Open co cq w' := by
  have hkeep : ∀ r, r < n0 → w'.heap[r]? = w.heap[r]? := fun r hr => by
    have hn : hp r = none := Classical.byContradiction fun h => by have := S.newp r h; omega
    exact (K.2.others r (by have := S.size; omega) hn).2
  unfold Open
  rw [hkeep co S.co_lt, hkeep cq S.cq_lt]
  exact S.opn
theorem Sit.openc (S : Sit P c co cq n0 p v0 a b hp hc gs w t q) {w' : World} {es : Array Event} {hc' : PH} (K : viewB.St hc w w' es hc') : Open co cq w' := by
  have hkeep : ∀ r, r < n0 → w'.heap[r]? = w.heap[r]? := fun r hr => by
    have hn : hc r = none := Classical.byContradiction fun h => by have := S.newc r h; omega
    exact (K.2.others r (by have := S.size; omega) hn).2
  unfold Open
  rw [hkeep co S.co_lt, hkeep cq S.cq_lt]
  exact S.opn

theorem fix_recv {w : World} (h : Open co cq w) (g : Goroutine) (z : Value) : Fix P w (parked g #[rcase co z] (.recv true)) := fun x y => by
  obtain ⟨⟨s, r, h⟩, _⟩ := h
  exact woken_recv_open x y h
theorem fix_sel {w : World} (h : Open co cq w) (g : Goroutine) (x z1 z2 : Value) : Fix P w (parked g (selCases co cq z1 z2 x) .select) := fun a b => by
  obtain ⟨⟨s, r, h⟩, s', r', tm, h'⟩ := h
  exact woken_sel_open a b h h'

/-- Goroutine 0 walks; the other is parked. -/
theorem walk_a {Sa : Goroutine → PH → Prop} {b : Goroutine} {hc : PH} (hbl : b.status = .blocked) (fb : ∀ w, Open co cq w → Fix P w b)
    (HA : ∀ a hp, Sa a hp → a.status = .running ∧ ∀ gs w w0 sl sl0 t q, Sit P c co cq n0 p v0 a b hp hc gs w t q → stepT P (crowd gs w0 sl0) = runT P (crowd gs w sl) 0 → Well P Post (crowd gs w0 sl0) t) :
    ∀ {a hp}, Gos P true viewB Sa a hp → ∀ gs w sl t q, Sit P c co cq n0 p v0 a b hp hc gs w t q → Well P Post (crowd gs w sl) t := by
  have awb : awake b := fun t h => by rw [hbl] at h; cases h
  intro a hp ga
  induction ga with
  | @stop a hp hS =>
    have ra := (HA a hp hS).1
    exact phase_turn (.inl ra) (awake_of (.inl ra)) awb (fun _ _ _ _ _ => fix_run ra) (fun _ _ _ _ S => fb _ S.opn) (fun _ => (HA a hp hS).2) (fun h => by rw [hbl] at h; cases h)
  | @step a hp ra ng nv nw ne hs hst hG iha =>
    refine phase_turn (.inl ra) (awake_of (.inl ra)) awb (fun _ _ _ _ _ => fix_run ra) (fun _ _ _ _ S => fb _ S.opn) (fun _ gs w w0 sl sl0 t q S hT => ?_) (fun h => by rw [hbl] at h; cases h)
    have hrunT := runT_crowd_go (P := P) (sl := sl) (i := 0) S.i0 (show stepG P (0 == 0) a w = _ from hs w S.hasp)
    exact Well.head (hT.trans hrunT) (iha w S.hasp _ _ _ _ _ (S.own0 (hst w S.hasp) (fb _ (S.open0 (hst w S.hasp)))))

/-- The other walks; goroutine 0 is parked. -/
theorem walk_b {Sb : Goroutine → PH → Prop} {a : Goroutine} {hp : PH} (hbl : a.status = .blocked) (fa : ∀ w, Open co cq w → Fix P w a)
    (HB : ∀ b hc, Sb b hc → b.status = .running ∧ ∀ gs w w0 sl sl0 t q, Sit P c co cq n0 p v0 a b hp hc gs w t q → stepT P (crowd gs w0 sl0) = runT P (crowd gs w sl) c → Well P Post (crowd gs w0 sl0) t) :
    ∀ {b hc}, Gos P false viewB Sb b hc → ∀ gs w sl t q, Sit P c co cq n0 p v0 a b hp hc gs w t q → Well P Post (crowd gs w sl) t := by
  have awa : awake a := fun t h => by rw [hbl] at h; cases h
  intro b hc gb
  induction gb with
  | @stop b hc hS =>
    have rb := (HB b hc hS).1
    exact phase_turn (.inr rb) awa (awake_of (.inl rb)) (fun _ _ _ _ S => fa _ S.opn) (fun _ _ _ _ _ => fix_run rb) (fun h => by rw [hbl] at h; cases h) (fun _ => (HB b hc hS).2)
  | @step b hc rb ng nv nw ne hs hst hG ihb =>
    refine phase_turn (.inr rb) awa (awake_of (.inl rb)) (fun _ _ _ _ S => fa _ S.opn) (fun _ _ _ _ _ => fix_run rb) (fun h => by rw [hbl] at h; cases h) (fun _ gs w w0 sl sl0 t q S hT => ?_)
    have hi0 : (c == 0) = false := by have := S.c0; simp; omega
    have hrunT := runT_crowd_go (P := P) (sl := sl) (i := c) S.ic (show stepG P (c == 0) b w = _ by rw [hi0]; exact hs w S.hasc)
    exact Well.head (hT.trans hrunT) (ihb w S.hasc _ _ _ _ _ (S.ownc (hst w S.hasc) (fa _ (S.openc (hst w S.hasc)))))

/-! ### The channel is closed -/

structure Sit4 (P : Program) (c co n0 p pc : Nat) (v0 : World) (S : Nat → Prop) (a : Goroutine) (hp : PH) (gs : Array Goroutine) (w : World) (t : Trace) (q : Nat → Nat) : Prop where
  i0 : gs[0]? = some a
  c0 : 0 < c
  lv : Leavers P t gs q
  has : ∀ r o, hp r = some o → w.heap[r]? = some o
  new : ∀ r, hp r ≠ none → n0 ≤ r
  co_lt : co < n0
  base : ∀ r, r < n0 → r ≠ co → w.heap[r]? = v0.heap[r]?
  size : n0 ≤ w.heap.size
  os : w.os = v0.os
  output : w.output = v0.output
  out : ∃ s r, w.heap[co]? = some (.chan 0 #[] true s r false)
  sdis : ∀ r, S r → hp r = none ∧ r < w.heap.size
  tr : Shut t p pc c co hp S

theorem Sit4.at {pc : Nat} {S : Nat → Prop} (h : Sit4 P c co n0 p pc v0 S a hp gs w t q) (d : Nat) : Sit4 P c co n0 p pc v0 S a hp gs (w.at d) t q :=
  ⟨h.i0, h.c0, h.lv, h.has, h.new, h.co_lt, h.base, h.size, h.os, h.output, h.out, h.sdis, h.tr⟩

theorem Sit4.own {pc : Nat} {S : Nat → Prop} (h : Sit4 P c co n0 p pc v0 S a hp gs w t q) {a' : Goroutine} {w' : World} {es : Array Event} {hp' : PH} {fn : FuncId} {pos : String} (K : viewB.St hp w w' es hp') :
    Sit4 P c co n0 p pc v0 S a' hp' ((gs.map (woken P a a' w')).setIfInBounds 0 a') w' (t ++ MemOp.ofEvents 0 fn pos es) q := by
  obtain ⟨hes, K⟩ := K
  have hlt : 0 < gs.size := (Array.getElem?_eq_some_iff.1 h.i0).1
  have hkeep : ∀ r, r < n0 → w'.heap[r]? = w.heap[r]? := fun r hr => by
    have hn : hp r = none := Classical.byContradiction fun x => by have := h.new r x; omega
    exact (K.others r (by have := h.size; omega) hn).2
  have hS : ∀ r, S r → hp' r = none := fun r hr => (K.others r (h.sdis r hr).2 (h.sdis r hr).1).1
  refine ⟨by simp [hlt], h.c0, leavers_go h.lv hlt, K.has, fun r x => ?_, h.co_lt, fun r hr hne => by rw [hkeep r hr]; exact h.base r hr hne, by have := h.size; have := K.size; omega, K.os.trans h.os, K.output.trans h.output, ?_, fun r hr => ⟨hS r hr, by have := (h.sdis r hr).2; have := K.size; omega⟩, h.tr.own0 (by have := h.c0; omega) K.mine (fun r => ?_) hes⟩
  · rcases kept_new K x with h3 | h3
    · exact h.new r h3
    · have := h.size; omega
  · obtain ⟨s, r, x⟩ := h.out
    exact ⟨s, r, by rw [hkeep co h.co_lt]; exact x⟩
  · by_cases hr : S r
    · exact .inl (hS r hr)
    · exact .inr hr

theorem shut_turn {pc : Nat} {S : Nat → Prop} (ra : a.status = .running)
    (h0 : ∀ gs w w0 sl sl0 t q, Sit4 P c co n0 p pc v0 S a hp gs w t q → stepT P (crowd gs w0 sl0) = runT P (crowd gs w sl) 0 → Well P Post (crowd gs w0 sl0) t) :
    ∀ gs w sl t q, Sit4 P c co n0 p pc v0 S a hp gs w t q → Well P Post (crowd gs w sl) t := by
  have key : ∀ (M : Nat) gs w sl t q, sumTo gs.size q < M → Sit4 P c co n0 p pc v0 S a hp gs w t q → Well P Post (crowd gs w sl) t := by
    intro M
    induction M with
    | zero => intro gs w sl t q hM; omega
    | succ M ih =>
      intro gs w sl t q hM h
      have haw : ∀ g ∈ gs, awake g := by
        intro x hx
        obtain ⟨i, hi, rfl⟩ := Array.mem_iff_getElem.1 hx
        have hi' : gs[i]? = some gs[i] := Array.getElem?_eq_getElem hi
        rcases Nat.eq_zero_or_pos i with rfl | hpos
        · have : gs[0] = a := Option.some.inj (hi'.symm.trans h.i0)
          rw [this]; exact awake_of (.inl ra)
        · exact awake_of ((h.lv.old i _ hpos hi').status.elim .inl fun x => .inr (.inr x))
      obtain ⟨i, y, d, sl', hi, hg, hst⟩ := crowd_pick (P := P) (w := w) (sl := sl) haw ⟨0, a, h.i0, ra⟩
      rcases Nat.eq_zero_or_pos i with rfl | hpos
      · exact h0 gs (w.at d) w sl' sl t q (h.at d) hst
      · have hq := h.lv.old i y hpos hi
        have hi0 : (i == 0) = false := by simp; omega
        have hlt : i < gs.size := (Array.getElem?_eq_some_iff.1 hi).1
        cases hqi : q i with
        | zero => rw [hqi] at hq; rw [hq.1] at hg; cases hg
        | succ k =>
          rw [hqi] at hq
          rcases hq with ⟨hf, _⟩ | ⟨_, g', es, hm, hstp, hq'⟩
          · rw [hf] at hg; cases hg
          have hrunT := runT_crowd_go (P := P) (sl := sl') (i := i) hi (by rw [hi0]; exact hstp (w.at d))
          have hsum : sumTo gs.size (upd q i k) + (k + 1) = sumTo gs.size q + k := by
            have := sumTo_upd q k id hlt
            simpa [hqi] using this
          have hu : ∀ op ∈ MemOp.ofEvents i y.frame.fn y.frame.place es, op.g = i := own_of_ofEvents
          refine Well.head (hst.trans hrunT) (ih _ (w.at d) sl' _ (upd q i k) (by simp; omega) { h.at d with i0 := ?_, lv := ⟨fun j x hj hx => ?_, fun j hj => ?_⟩, tr := ?_ })
          · rw [Array.getElem?_setIfInBounds_ne (by omega), Array.getElem?_map, h.i0]
            simp [woken_run ra]
          · by_cases hji : i = j
            · subst hji
              rw [Array.getElem?_setIfInBounds_self_of_lt (by simpa using hlt)] at hx
              obtain rfl := Option.some.inj hx
              rw [upd_same, Deaf_own]
              exact hq'
            · rw [Array.getElem?_setIfInBounds_ne hji, Array.getElem?_map] at hx
              obtain ⟨z, hz, rfl⟩ := Option.map_eq_some_iff.1 hx
              have hqj := h.lv.old j z hj hz
              rw [woken_quitsD hqj, upd_ne q k (Ne.symm hji), Deaf_other t hji _ hu]
              exact hqj
          · rw [Deaf_other t (g' := i) (by simp at hj; omega) _ hu]
            exact h.lv.above j (by simpa using hj)
          · refine h.tr.mute (fun op hop => ?_) (Deaf_other t (by omega) _ hu)
            obtain ⟨e, he, rfl⟩ := Go.Conc.mem_ofEvents hop
            exact touch_mute (hm e he)
  exact fun gs w sl t q h => key _ gs w sl t q (Nat.lt_succ_self _) h

section
variable {z : Value} {K : Goroutine → PH → Prop}

/-- Goroutine 0 finds the channel closed. -/
theorem shut_stop (hcl : Cl P v0) (hcg : ∀ r, r < P.globals.size → r < n0 ∧ r ≠ co) (hK : ∀ g h v, K g h → After co n0 v0 h v → Ends P Post g v) {pc : Nat} {S : Nat → Prop} {g₂ : Goroutine} (ra : a.status = .running)
    (hstep : ∀ w, stepG P true a w = .comm g₂ #[rcase co z] true (.recv true) w #[]) (hk : K (Go.Conc.served g₂ (.tuple #[z, .bool false])) hp) :
    ∀ gs w sl t q, Sit4 P c co n0 p pc v0 S a hp gs w t q → Well P Post (crowd gs w sl) t := by
  refine shut_turn ra fun gs w w0 sl sl0 t q h hT => ?_
  obtain ⟨s, r, hout⟩ := h.out
  have hlt : 0 < gs.size := (Array.getElem?_eq_some_iff.1 h.i0).1
  have hpn : partners (gs.setIfInBounds 0 ph) co true = [] := partners_nil fun j x hx => by
    rcases getElem?_stand gs 0 j x hx with ⟨_, rfl⟩ | ⟨hj0, hx⟩
    · exact offersAt_ph co true
    · exact offersAt_of_not_blocked (by rcases (h.lv.old j x (by omega) hx).status with h | h <;> rw [h] <;> simp) co true
  have hrunT := crowd_recv_closed (P := P) (sl := sl) (i := 0) h.i0 (show stepG P (0 == 0) a w = _ from hstep w) hout hpn
  rw [finishComm_recv] at hrunT
  have hA : After co n0 v0 hp w := ⟨h.has, h.base, h.size, h.os, h.output, h.new, h.out⟩
  have hclw : Cl P w := fun g hg => by
    obtain ⟨h1, h2⟩ := hcg g hg
    rw [h.base g h1 h2]; exact hcl g hg
  refine Well.head (hT.trans hrunT) (hK _ _ w hk hA _ w sl _ q (by simp [hlt]; rfl) ⟨hclw, w.tape, w.drawn, rfl⟩ ⟨fun j x hj hx => ?_, fun j hj => ?_⟩ ?_)
  · rw [Array.getElem?_setIfInBounds_ne (by omega)] at hx
    rw [ofEvents_none, Array.empty_append, Deaf_nomark j (by simp)]
    exact h.lv.old j x hj hx
  · rw [ofEvents_none, Array.empty_append, Deaf_nomark j (by simp)]
    exact h.lv.above j (by simpa using hj)
  · rw [ofEvents_none, Array.empty_append]
    exact h.tr.end_ (by have := h.c0; omega)

/-- .. when it comes there. -/
theorem shut_run (hcl : Cl P v0) (hcg : ∀ r, r < P.globals.size → r < n0 ∧ r ≠ co) (hK : ∀ g h v, K g h → After co n0 v0 h v → Ends P Post g v) {pc : Nat} {S : Nat → Prop} :
    ∀ {a hp}, Gos P true viewB (fun g h => AtRecv P co z g ∧ K (Go.Conc.served g (.tuple #[z, .bool false])) h) a hp → ∀ gs w sl t q, Sit4 P c co n0 p pc v0 S a hp gs w t q → Well P Post (crowd gs w sl) t := by
  intro a hp ga
  induction ga with
  | @stop a hp hS => exact shut_stop hcl hcg hK hS.1.1 hS.1.2 hS.2
  | @step a hp ra ng nv nw ne hs hst hG iha =>
    refine shut_turn ra fun gs w w0 sl sl0 t q h hT => ?_
    have hrunT := runT_crowd_go (P := P) (sl := sl) (i := 0) h.i0 (show stepG P (0 == 0) a w = _ from hs w h.has)
    exact Well.head (hT.trans hrunT) (iha w h.has _ _ _ _ _ (h.own (hst w h.has)))

/-- The close. -/
theorem Sit.close (S : Sit P c co cq n0 p v0 a b hp hc gs w t q) {b' a' : Goroutine} {fn : FuncId} {pos : String} {n : Nat} (hq : QuitsD P n 0 b') (s r : Nat)
    (ha : woken P b b' { w with heap := w.heap.setIfInBounds co (.chan 0 #[] true s r false) } a = a') :
    Sit4 P c co n0 p (t.size + 1) v0 (fun r => hc r ≠ none ∨ r = co) a' hp ((gs.map (woken P b b' { w with heap := w.heap.setIfInBounds co (.chan 0 #[] true s r false) })).setIfInBounds c b') { w with heap := w.heap.setIfInBounds co (.chan 0 #[] true s r false) }
      (t ++ MemOp.ofEvents c fn pos #[⟨.obj co, false, true⟩, ⟨.obj co, true, true⟩]) (upd q c n) := by
  have hlt : c < gs.size := (Array.getElem?_eq_some_iff.1 S.ic).1
  have hc0 := S.c0
  have hcolt : co < w.heap.size := by have := S.size; have := S.co_lt; omega
  have hu : ∀ op ∈ MemOp.ofEvents c fn pos #[⟨.obj co, false, true⟩, ⟨.obj co, true, true⟩], op.g = c := own_of_ofEvents
  have hne : ∀ x, x ≠ co → ({ w with heap := w.heap.setIfInBounds co (.chan 0 #[] true s r false) } : World).heap[x]? = w.heap[x]? := fun x hx => by simp only [Array.getElem?_setIfInBounds_ne (Ne.symm hx)]
  have hpo : hp co = none := Classical.byContradiction fun x => by have := S.newp co x; have := S.co_lt; omega
  refine ⟨?_, S.c0, ⟨fun j x hj hx => ?_, fun j hj => ?_⟩, fun x o hx => ?_, S.newp, S.co_lt, fun x hx hxc => by rw [hne x hxc]; exact S.base x hx hxc, by simpa using S.size, S.os, S.output, ⟨s, r, by simp [hcolt]⟩, fun x hx => ?_, S.tr.close (by omega) hpo⟩
  · rw [Array.getElem?_setIfInBounds_ne (by omega), Array.getElem?_map, S.i0]; simp [ha]
  · by_cases hjc : c = j
    · subst hjc
      rw [Array.getElem?_setIfInBounds_self_of_lt (by simpa using hlt)] at hx
      obtain rfl := Option.some.inj hx
      rw [upd_same, Deaf_own, S.tr.hearsc]
      exact hq
    · rw [Array.getElem?_setIfInBounds_ne hjc, Array.getElem?_map] at hx
      obtain ⟨y, hy, rfl⟩ := Option.map_eq_some_iff.1 hx
      have hqj := S.old j y hj (Ne.symm hjc) hy
      rw [woken_quitsD hqj, upd_ne q n (Ne.symm hjc), Deaf_other t hjc _ hu]
      exact hqj
  · rw [Deaf_other t (g' := c) (by simp at hj; omega) _ hu]
    exact S.above j (by simpa using hj)
  · have : x ≠ co := fun e => by rw [e, hpo] at hx; cases hx
    rw [hne x this]; exact S.hasp x o hx
  · rcases hx with hx | rfl
    · exact ⟨(S.disj x).resolve_right hx, by have := lt_of_has S.hasc hx; simpa using this⟩
    · exact ⟨hpo, by simpa using hcolt⟩
end
end
end Go.Proofs.Ytfaadjmglboaoaa
