/-
  COMMUNICATIONS of a receiver and a goroutine that stands at a select of a send and a receive; a walk in company over memory of its own.
-/
import Derived.Test.YtfaadjmglboaoaaMeta10
import Derived.Conc.CrowdSel
namespace Go.Proofs.Ytfaadjmglboaoaa
open Go.Conc

section
variable {P : Program} {gs : Array Goroutine} {w w₁ : World} {sl : Option (Nat × Nat)} {i j k : Nat} {g g₂ gj : Goroutine} {es : Array Event} {c cap s r : Nat} {buf : Array Value} {tm closed : Bool} {v z zj : Value}
  {blocking : Bool} {shape shj : CommShape} {cs cases : Array CommCase}

/-- A receive meets the one goroutine that is parked at cases of which the k-th is a send there. -/
theorem crowd_recv_meets_sel (hi : gs[i]? = some g) (h : stepG P (i == 0) g w = .comm g₂ #[rcase c z] blocking shape w₁ es) (hc : w₁.heap[c]? = some (.chan cap #[] closed s r tm))
    (hij : j ≠ i) (hj : gs[j]? = some (parked gj cs shj)) (hk : cs[k]? = some (scase c v zj)) (hp : partners (gs.setIfInBounds i ph) c true = [(j, k)]) :
    runT P (crowd gs w sl) i = (.next (crowd ((gs.setIfInBounds j (gj.finishComm P cs shj k undef false)).setIfInBounds i (g₂.finishComm P #[rcase c z] shape 0 v true)) (w₁.setChan c cap #[] closed (s + 1) (r + 1) tm) sl),
      MemOp.ofEvents i g.frame.fn g.frame.place es ++ #[{ g := j, fn := gj.frame.fn, pos := gj.frame.place, act := .send c s }, { g := i, fn := g₂.frame.fn, pos := g₂.frame.place, act := .recv c r cap },
        { g := j, fn := gj.frame.fn, pos := gj.frame.place, act := .sendDone c s }, { g := i, fn := g₂.frame.fn, pos := g₂.frame.place, act := .recvDone c r }]) := by
  rw [runT_crowd_comm hi h]
  have hj' := stand_get (i := i) hij hj
  have hfp := finishPartner_at P (gs.setIfInBounds i ph) hj' (cs := cs) (sh := shj) rfl k undef
  have hgd : (gs.setIfInBounds i ph).getD j default = parked gj cs shj := by rw [Array.getD_eq_getD_getElem?, hj']; rfl
  have hov : offeredValue (gs.setIfInBounds i ph) j k = v := by simp [offeredValue, hj', parked, scase, hk]
  simp [communicate, ways, rcase, hc, hp, choose, Sem.run, Question.forced, bind, Sem.bind, pure, World.setChan, crowd, hfp, hgd, hov, set_stand2, scase, parked, hk]
  rfl

/-- n cases, the k-th a send at a channel where one receiver is parked; no other case has a way. -/
theorem crowd_sel_send_meets (hi : gs[i]? = some g) (h : stepG P (i == 0) g w = .comm g₂ cases blocking shape w₁ es) (hk : cases[k]? = some (scase c v z))
    (ho : ∀ (m : Nat) (c' : CommCase), m ≠ k → cases[m]? = some c' → NoWays w₁ (gs.setIfInBounds i ph) c')
    (hc : w₁.heap[c]? = some (.chan cap buf false s r tm)) (hij : j ≠ i) (hj : gs[j]? = some (parked gj #[rcase c zj] shj)) (hp : partners (gs.setIfInBounds i ph) c false = [(j, 0)]) :
    runT P (crowd gs w sl) i = (.next (crowd ((gs.setIfInBounds j (gj.finishComm P #[rcase c zj] shj 0 v true)).setIfInBounds i (g₂.finishComm P cases shape k undef false)) (w₁.setChan c cap buf false (s + 1) (r + 1) tm) sl),
      MemOp.ofEvents i g.frame.fn g.frame.place es ++ #[{ g := i, fn := g₂.frame.fn, pos := g₂.frame.place, act := .send c s }, { g := j, fn := gj.frame.fn, pos := gj.frame.place, act := .recv c r cap },
        { g := i, fn := g₂.frame.fn, pos := g₂.frame.place, act := .sendDone c s }, { g := j, fn := gj.frame.fn, pos := gj.frame.place, act := .recvDone c r }]) := by
  have hw : ways w₁ (gs.setIfInBounds i ph) (scase c v z) = [.partner j 0] := by simp [ways, scase, hc, hp]
  have hj' := stand_get (i := i) hij hj
  have hfp := finishPartner_at P (gs.setIfInBounds i ph) hj' (cs := #[rcase c zj]) (sh := shj) rfl 0 v
  have hgd : (gs.setIfInBounds i ph).getD j default = parked gj #[rcase c zj] shj := by rw [Array.getD_eq_getD_getElem?, hj']; rfl
  rw [runT_crowd_comm hi h]
  unfold communicate
  simp only [ready_one hk (by rw [hw]; simp) ho, hw]
  rw [if_neg]
  · simp [choose, Sem.run, Question.forced, bind, Sem.bind, pure, scase, crowd, hc, hfp, hgd, set_stand2, rcase, parked, World.setChan]
    rfl
  · rw [Bool.not_eq_true]; exact any_ill (made_of_one hk (made_send v z hc) ho)
end

section
variable {P : Program} {g : Goroutine} {w : World} {co cq s r s' r' cap cap' : Nat} {buf buf' : Array Value} {tm tm' : Bool} {x z z' : Value} {sh : CommShape}

theorem again_sel_open (hc : w.heap[co]? = some (.chan cap buf false s r tm)) (hq : w.heap[cq]? = some (.chan cap' buf' false s' r' tm')) : (parked g #[scase co x z, rcase cq z'] sh).again w = parked g #[scase co x z, rcase cq z'] sh := by
  simp [Goroutine.again, parked, scase, rcase, hc, hq]
theorem woken_sel_open (a a' : Goroutine) (hc : w.heap[co]? = some (.chan cap buf false s r tm)) (hq : w.heap[cq]? = some (.chan cap' buf' false s' r' tm')) : woken P a a' w (parked g #[scase co x z, rcase cq z'] sh) = parked g #[scase co x z, rcase cq z'] sh := by
  unfold woken
  split
  · exact again_sel_open hc hq
  · rfl
theorem offers_sel_send : offersAt (parked g #[scase co x z, rcase cq z'] sh) co true = [0] := by
  simp [offersAt, parked, scase, rcase]
theorem offers_sel_recv (hne : cq ≠ co) : offersAt (parked g #[scase co x z, rcase cq z'] sh) co false = [] := by
  simp [offersAt, parked, scase, rcase, hne]
theorem offers_sel_quit (hne : cq ≠ co) : offersAt (parked g #[scase co x z, rcase cq z'] sh) cq true = [] := by
  simp [offersAt, parked, scase, rcase, Ne.symm hne]
end

/-! ### A walk over memory of its own -/

/-- Blocks of one's own. -/
abbrev PH := Nat → Option Obj

/-- The block that a touch lies in. -/
def blkOf : Loc → Option Nat
  | .cell a => some a.block
  | .obj r => some r
  | _ => none

/-- An entry that touches memory of one's own alone. -/
def OwnEv (h : PH) (e : Event) : Prop := Soft e ∧ ∀ x, (MemAct.ofEvent e).touch? = some x → x.loc.isMemory = true → ∃ r, blkOf x.loc = some r ∧ h r ≠ none

/-- What a step does to the memory. -/
structure Kept (h : PH) (w w' : World) (h' : PH) : Prop where
  has : ∀ r o, h' r = some o → w'.heap[r]? = some o
  size : w.heap.size ≤ w'.heap.size
  others : ∀ r, r < w.heap.size → h r = none → h' r = none ∧ w'.heap[r]? = w.heap[r]?
  mine : ∀ r, h r ≠ none → h' r ≠ none
  os : w'.os = w.os
  output : w'.output = w.output

def viewB : View PH where
  Holds h w := ∀ r o, h r = some o → w.heap[r]? = some o
  St h w w' es h' := (∀ e ∈ es, OwnEv h' e) ∧ Kept h w w' h'

theorem kept_refl {h : PH} {w : World} (hh : viewB.Holds h w) : Kept h w w h := ⟨hh, Nat.le_refl _, fun _ _ h => ⟨h, rfl⟩, fun _ h => h, rfl, rfl⟩
theorem stB_idle {h : PH} {w : World} (hh : viewB.Holds h w) : viewB.St h w w #[] h := ⟨by simp, kept_refl hh⟩

/-- On its way to a stop, whatever the others do to the rest of the world meanwhile. -/
inductive Gos {V : Type} (P : Program) (main : Bool) (X : View V) (Stop : Goroutine → V → Prop) : Goroutine → V → Prop
  | stop {g : Goroutine} {v : V} (h : Stop g v) : Gos P main X Stop g v
  | step {g : Goroutine} {v : V} (hrun : g.status = .running) (ng : ∀ w, X.Holds v w → Goroutine) (nv : ∀ w, X.Holds v w → V) (nw : ∀ w, X.Holds v w → World) (ne : ∀ w, X.Holds v w → Array Event)
    (hs : ∀ w hw, stepG P main g w = .go (ng w hw) (nw w hw) (ne w hw)) (hst : ∀ w hw, X.St v w (nw w hw) (ne w hw) (nv w hw)) (h : ∀ w hw, Gos P main X Stop (ng w hw) (nv w hw)) : Gos P main X Stop g v

theorem gos_closed {V : Type} {P : Program} {main : Bool} {X : View V} {Stop : Goroutine → V → Prop} : Closed P main X (Gos P main X Stop) := by
  intro g v hrun h
  classical
  have h' : ∀ w, ∀ hw : X.Holds v w, ∃ x : Goroutine × World × Array Event × V, stepG P main g w = .go x.1 x.2.1 x.2.2.1 ∧ X.St v w x.2.1 x.2.2.1 x.2.2.2 ∧ Gos P main X Stop x.1 x.2.2.2 := fun w hw => by
    obtain ⟨g', w', es, v', h1, h2, h3⟩ := h w hw
    exact ⟨⟨g', w', es, v'⟩, h1, h2, h3⟩
  exact .step hrun (fun w hw => (h' w hw).choose.1) (fun w hw => (h' w hw).choose.2.2.2) (fun w hw => (h' w hw).choose.2.1) (fun w hw => (h' w hw).choose.2.2.1)
    (fun w hw => (h' w hw).choose_spec.1) (fun w hw => (h' w hw).choose_spec.2.1) (fun w hw => (h' w hw).choose_spec.2.2)
end Go.Proofs.Ytfaadjmglboaoaa
