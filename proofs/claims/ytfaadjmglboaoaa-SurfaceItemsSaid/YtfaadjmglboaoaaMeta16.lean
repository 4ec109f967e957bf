/-
  THE FORK: goroutine 0, beside goroutines that only leave, starts the other.
-/
import Derived.Test.YtfaadjmglboaoaaMeta15
namespace Go.Proofs.Ytfaadjmglboaoaa
open Go.Conc

section
variable {P : Program} {co cq : Nat} {v : World} {Post : Value → World → Prop} {z z1 z2 : Value} {K : Goroutine → PH → Prop}

theorem past_spawn {t : Trace} {c : Nat} (h : Past t) (hdc : Deaf t c = 0) (fn fn' : FuncId) (pos : String) {hp hc : PH} :
    Mid (t ++ #[({ g := 0, fn, pos, act := .go c } : MemOp), { g := c, fn := fn', pos, act := .start }]) (t.size + 2) c hp hc := by
  have g1 : (t ++ #[({ g := 0, fn, pos, act := .go c } : MemOp), { g := c, fn := fn', pos, act := .start }])[t.size]? = some { g := 0, fn, pos, act := .go c } := by
    rw [Array.getElem?_append_right (Nat.le_refl _)]; simp
  have g2 : (t ++ #[({ g := 0, fn, pos, act := .go c } : MemOp), { g := c, fn := fn', pos, act := .start }])[t.size + 1]? = some { g := c, fn := fn', pos, act := .start } := by
    rw [Array.getElem?_append_right (by omega)]; simp
  have hsz : (t ++ #[({ g := 0, fn, pos, act := .go c } : MemOp), { g := c, fn := fn', pos, act := .start }]).size = t.size + 2 := by simp
  have hu : ∀ op ∈ (#[({ g := 0, fn, pos, act := .go c } : MemOp), { g := c, fn := fn', pos, act := .start }] : Trace), op.act.touch? = none ∧ ∀ m, op.act ≠ .mark m := fun op hop => by
    simp only [List.mem_toArray, List.mem_cons, List.not_mem_nil, or_false] at hop
    rcases hop with rfl | rfl <;> exact ⟨rfl, fun m => by simp⟩
  generalize (#[({ g := 0, fn, pos, act := .go c } : MemOp), { g := c, fn := fn', pos, act := .start }] : Trace) = u at *
  have hd : ∀ g, Deaf (t ++ u) g = Deaf t g := fun g => Deaf_nomark g fun op hop => (hu op hop).2
  have hedge : HappensBefore (t ++ u) t.size (t.size + 1) := by
    refine .single (.inr ⟨.spawn (child := c) (act?_of g1) (act?_of g2) (by simp [Trace.g?, g2]), ⟨0, by simp [Trace.g?, g1], ?_⟩, ⟨c, by simp [Trace.g?, g2], ?_⟩⟩)
    · rw [deaf_old (Nat.le_refl _)]; exact h.hears
    · rw [deaf_succ g1, deaf_old (Nat.le_refl _)]; exact hdc
  have hnew : ∀ i a, touchAt (t ++ u) i = some a → i < t.size ∧ touchAt t i = some a := fun i a ha => by
    rcases touch_cases ha with h1 | ⟨_, op, hop, _, hoa⟩
    · exact h1
    · rw [(hu op hop).1] at hoa; cases hoa
  refine ⟨fun said => noRace_none (h.clean said) fun op hop => (hu op hop).1, fun i a _ ha hm => ?_, fun i a hi ha hm => ?_, fun i g hg hne _ hcnt => ?_, (hd 0).trans h.hears, (hd c).trans hdc, by rw [hsz]; exact Nat.le_refl _⟩
  · have hk := h.known i a (hnew i a ha).2 hm
    exact ⟨hk.app u, ⟨t.size + 1, _, g2, rfl, .inr ((hk.hb_new (Nat.le_refl _) g1 rfl).trans hedge)⟩⟩
  · have := (hnew i a ha).1; omega
  · obtain ⟨x, hx, hx2⟩ := hcnt
    have hn := hnew i x hx
    obtain ⟨j, hj, hb⟩ := h.over i g (by simpa [Trace.g?, getElem?_append_old hn.1] using hg) hne ((counts_old hn.1).1 ⟨x, hx, hx2⟩)
    have hjl : j < t.size := by
      unfold Trace.g? at hj
      obtain ⟨y, hy, _⟩ := Option.map_eq_some_iff.1 hj
      exact lt_size_of_getElem? hy
    exact ⟨j, by simpa [Trace.g?, getElem?_append_old hjl] using hj, hb_app u hb⟩

/-- No memory of one's own. -/
def noneOwn : PH := fun _ => none

theorem After.of_tap {h : PH} {w : World} {τ : Nat → Question → Nat} {d n0 : Nat} (x : After co n0 (tap v τ d) h w) : After co n0 v h w := ⟨x.has, x.base, x.size, x.os, x.output, x.new, x.out⟩

/-- ████ THE FORK, AND ALL THAT FOLLOWS. ████ -/
theorem ends_fork (hcl : Cl P v) {g g' child : Goroutine} (hrun : g.status = .running) (hstep : ∀ τ d, stepG P true g (tap v τ d) = .spawn g' child (tap v τ d) #[])
    (hco : ∃ s r, v.heap[co]? = some (.chan 0 #[] false s r false)) (hcq : ∃ s r tm, v.heap[cq]? = some (.chan 0 #[] false s r tm)) (hne : cq ≠ co) (xs : List Value)
    (ha : Recvs P co z K xs g' noneOwn) (hb : Sends P co cq z1 z2 xs child noneOwn) (hK : ∀ g h w, K g h → After co v.heap.size v h w → Ends P Post g w) : Ends P Post g v := by
  refine beside_own hrun fun gs w w0 sl sl0 t q h0 hH hL hP hst => ?_
  obtain ⟨_, τ, d, rfl⟩ := hH
  have hlt : 0 < gs.size := (Array.getElem?_eq_some_iff.1 h0).1
  have hrunT := runT_crowd_spawn (P := P) (sl := sl) (i := 0) h0 (show stepG P (0 == 0) g (tap v τ d) = _ from hstep τ d)
  refine Well.head (hst.trans hrunT) ?_
  have eT : t ++ (((MemOp.ofEvents 0 g.frame.fn g.frame.place #[]).push { g := 0, fn := g.frame.fn, pos := g.frame.place, act := .go gs.size }).push { g := gs.size, fn := child.frame.fn, pos := g.frame.place, act := .start }) =
      t ++ #[({ g := 0, fn := g.frame.fn, pos := g.frame.place, act := .go gs.size } : MemOp), { g := gs.size, fn := child.frame.fn, pos := g.frame.place, act := .start }] := by
    rw [ofEvents_none]; rfl
  rw [eT]
  obtain ⟨s, r, hco⟩ := hco
  obtain ⟨s', r', tm, hcq⟩ := hcq
  have hcolt := (Array.getElem?_eq_some_iff.1 hco).1
  have hcqlt := (Array.getElem?_eq_some_iff.1 hcq).1
  have hd : ∀ j, Deaf (t ++ #[({ g := 0, fn := g.frame.fn, pos := g.frame.place, act := .go gs.size } : MemOp), { g := gs.size, fn := child.frame.fn, pos := g.frame.place, act := .start }]) j = Deaf t j := fun j => Deaf_nomark j fun op hop => by
    simp only [List.mem_toArray, List.mem_cons, List.not_mem_nil, or_false] at hop
    rcases hop with rfl | rfl <;> simp
  refine phase (v0 := tap v τ d) (n0 := v.heap.size) (co := co) (cq := cq) (z := z) (z1 := z1) (z2 := z2) (K := K) (p := t.size + 2) (c := gs.size) (hcl.tap τ d) (fun r hr => ?_) (fun g h w hk hA => hK g h w hk hA.of_tap) xs ha hb _ _ _ _ q
    ⟨by rw [Array.getElem?_push, if_neg (by simp; omega)]; simp [hlt], by rw [Array.getElem?_push, if_pos (by simp)], hlt, fun i x hi hic hx => ?_, fun j hj => ?_, fun r o h => (by cases h), fun r o h => (by cases h), fun r => .inl rfl, fun r h => absurd rfl h, fun r h => absurd rfl h, hcolt, hcqlt, hne, ⟨s, r, hco⟩, ⟨s', r', tm, hcq⟩, fun r _ _ => rfl, Nat.le_refl _, rfl, rfl,
      past_spawn hP (hL.above gs.size (Nat.le_refl _)) _ _ _⟩
  · obtain ⟨c1, c2, c3, e⟩ := hcl r hr
    exact ⟨(Array.getElem?_eq_some_iff.1 e).1, fun x => by subst x; rw [hco] at e; cases e⟩
  · rw [hd]
    have hlt' : i < gs.size := by
      have := (Array.getElem?_eq_some_iff.1 hx).1
      simp at this
      omega
    rw [Array.getElem?_push, if_neg (by simp; omega), Array.getElem?_setIfInBounds_ne (by omega)] at hx
    exact hL.old i x hi hx
  · rw [hd]
    exact hL.above j (by simp at hj; omega)
end
end Go.Proofs.Ytfaadjmglboaoaa
