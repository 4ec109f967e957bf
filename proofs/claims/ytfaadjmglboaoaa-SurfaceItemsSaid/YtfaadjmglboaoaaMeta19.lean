/-
  THE VIEWS OF THE TWO: goroutine 0's, which passes from 'beside leavers' into the phase and back; the other's, with the values that it still has to send.
-/
import Derived.Test.YtfaadjmglboaoaaMeta18
namespace Go.Proofs.Ytfaadjmglboaoaa
open Go.Conc

/-- What the phase knows of its beginning: the channels, the world. -/
structure Ctx where
  co : Nat
  cq : Nat
  z : Value
  v0 : World

/-- Goroutine 0's view. -/
inductive VL where
  | a (v : World)
  | b (h : PH) (xs : List Value) (c : Ctx)

def viewL (P : Program) : View VL where
  Holds v w := match v with
    | .a v => (viewA P).Holds v w
    | .b h _ _ => viewB.Holds h w
  St v w w' es v' := match v, v' with
    | .a v, .a v' => (viewA P).St v w w' es v'
    | .b h xs c, .b h' xs' c' => viewB.St h w w' es h' ∧ xs' = xs ∧ c' = c
    | _, _ => False

/-- Behind the phase the run ends well. -/
def KL (P : Program) (Post : Value → World → Prop) (c : Ctx) (g : Goroutine) (h : PH) : Prop := ∀ v, After c.co c.v0.heap.size c.v0 h v → Ends P Post g v

/-- Goroutine 0's goal. -/
def GoalL (P : Program) (Post : Value → World → Prop) (g : Goroutine) : VL → Prop
  | .a v => Ends P Post g v
  | .b h xs c => Recvs P c.co c.z (KL P Post c) xs g h

abbrev GL0 (P : Program) : (Goroutine → VL → Prop) → Prop := fun E => ∃ Post, E = GoalL P Post

theorem recvs_closed {P : Program} {co : Nat} {z : Value} {K : Goroutine → PH → Prop} (xs : List Value) : Closed P true viewB (Recvs P co z K xs) := by
  cases xs with
  | nil => exact gos_closed
  | cons x xs => exact gos_closed

theorem idleL {P : Program} : Idle (viewL P) := fun v w hw => by
  cases v with
  | a v => exact idleA v w hw
  | b h xs c => exact ⟨idleB h w hw, rfl, rfl⟩

theorem drawsL {P : Program} : ∀ (h : PH) (xs : List Value) (c : Ctx) (w : World), (viewL P).Holds (.b h xs c) w → (viewL P).St (.b h xs c) w { w with drawn := w.drawn + 1 } #[] (.b h xs c) := fun h _ _ w hw => ⟨drawsB h w hw, rfl, rfl⟩

theorem gl0 {P : Program} : ∀ E, GL0 P E → Closed P true (viewL P) E := by
  rintro _ ⟨Post, rfl⟩
  intro g v hrun hstep
  cases v with
  | a v =>
    refine ends_closed g v hrun fun w hw => ?_
    obtain ⟨g', w', es, v', h1, h2, h3⟩ := hstep w hw
    cases v' with
    | a v' => exact ⟨g', w', es, v', h1, h2, h3⟩
    | b h xs c => exact h2.elim
  | b h xs c =>
    refine recvs_closed xs g h hrun fun w hw => ?_
    obtain ⟨g', w', es, v', h1, h2, h3⟩ := hstep w hw
    cases v' with
    | a v' => exact h2.elim
    | b h' xs' c' =>
      obtain ⟨h2, rfl, rfl⟩ := h2
      exact ⟨g', w', es, h', h1, h2, h3⟩

/-- What holds beside leavers holds in goroutine 0's view. -/
theorem closedA {P : Program} {E : Goroutine → VL → Prop} (hE : GL0 P E) : Closed P true (viewA P) fun g v => E g (.a v) := fun g v hrun hstep => by
  refine gl0 E hE g (.a v) hrun fun w hw => ?_
  obtain ⟨g', w', es, v', h1, h2, h3⟩ := hstep w hw
  exact ⟨g', w', es, .a v', h1, h2, h3⟩
theorem closedBL {P : Program} {E : Goroutine → VL → Prop} (hE : GL0 P E) (xs : List Value) (c : Ctx) : Closed P true viewB fun g h => E g (.b h xs c) := fun g h hrun hstep => by
  refine gl0 E hE g (.b h xs c) hrun fun w hw => ?_
  obtain ⟨g', w', es, h', h1, h2, h3⟩ := hstep w hw
  exact ⟨g', w', es, .b h' xs c, h1, ⟨h2, rfl, rfl⟩, h3⟩

section
variable {P : Program} {fn : FuncId} {a : Act} {v : World}
theorem wpG_lift {c : Code} {Q : Exit → Act → World → Prop} (h : Wp P true (viewA P) fn c Q a v) : WpG (GL0 P) false fn c (fun e a' v' => ∃ u, v' = .a u ∧ Q e a' u) a (.a v) := fun E hE b k cs hb hk hc =>
  h _ (closedA hE) b k cs hb hk fun e a' v' q => by
    have := hc e a' (.a v') ⟨v', rfl, q⟩
    cases e <;> exact this
theorem callsG_lift {f : FuncId} {args : Array Value} {Post : Value → World → Prop} (h : CallsV P true (viewA P) f args v Post) : CallsG P (GL0 P) f args (.a v) (fun r v' => ∃ u, v' = .a u ∧ Post r u) := fun _ hE c cs hc =>
  h _ (closedA hE) c cs fun r v' q => hc r (.a v') ⟨v', rfl, q⟩
theorem callsG_own {f : FuncId} {args : Array Value} {h : PH} {xs : List Value} {c : Ctx} {Post : Value → PH → Prop} (hc : CallsG P (Closed P true viewB) f args h Post) : CallsG P (GL0 P) f args (.b h xs c) (fun r v' => ∃ h', v' = .b h' xs c ∧ Post r h') := fun _ hE c0 cs hn =>
  hc _ (closedBL hE xs c) c0 cs fun r h' q => hn r (.b h' xs c) ⟨h', rfl, q⟩
end

/-! ### The other's -/

/-- The other's view: its memory, the values that it has still to send. -/
def viewS : View (PH × List Value) where
  Holds v w := viewB.Holds v.1 w
  St v w w' es v' := viewB.St v.1 w w' es v'.1 ∧ v'.2 = v.2

def GoalS (P : Program) (co cq : Nat) (z1 z2 : Value) (g : Goroutine) (v : PH × List Value) : Prop := Sends P co cq z1 z2 v.2 g v.1

theorem sends_closed {P : Program} {co cq : Nat} {z1 z2 : Value} (xs : List Value) : Closed P false viewB (Sends P co cq z1 z2 xs) := by
  cases xs with
  | nil => exact gos_closed
  | cons x xs => exact gos_closed

abbrev GS (P : Program) (co cq : Nat) (z1 z2 : Value) : (Goroutine → PH × List Value → Prop) → Prop := fun E => E = GoalS P co cq z1 z2

section
variable {P : Program} {co cq : Nat} {z1 z2 : Value}
theorem gs : ∀ E, GS P co cq z1 z2 E → Closed P false viewS E := by
  rintro _ rfl
  intro g v hrun hstep
  refine sends_closed v.2 g v.1 hrun fun w hw => ?_
  obtain ⟨g', w', es, v', h1, h2, h3⟩ := hstep w hw
  obtain ⟨h2, h4⟩ := h2
  refine ⟨g', w', es, v'.1, h1, h2, ?_⟩
  rw [← h4]
  exact h3
theorem idleS : Idle viewS := fun v w hw => ⟨idleB v.1 w hw, rfl⟩
theorem drawsS : Draws viewS := fun v w hw => ⟨drawsB v.1 w hw, rfl⟩
theorem callsS_own {f : FuncId} {args : Array Value} {h : PH} {xs : List Value} {Post : Value → PH → Prop} (hc : CallsG P (Closed P false viewB) f args h Post) : CallsG P (GS P co cq z1 z2) f args (h, xs) (fun r v' => v'.2 = xs ∧ Post r v'.1) := fun E hE c0 cs hn => by
  subst hE
  exact hc _ (sends_closed xs) c0 cs fun r h' q => hn r (h', xs) ⟨rfl, q⟩

variable {kd : Bool} {fn : FuncId} {Q : Exit → Act → PH × List Value → Prop} {a : Act} {h : PH} {x : Value} {xs : List Value}
/-- THE SELECT: it offers x; behind it x is sent. -/
theorem opsS_select {ops : Array Oper} {i : Nat} {rest : List Nat} {o : Oper} (ho : ops[i]? = some o) (hw : Region.wanted o (yielded ops a.tmps) = true)
    (hr : ∀ w, (execOp a.eval o).run P w = .ok (.comm (selCases co cq z1 z2 x) true .select) w ∧ (execOp a.eval o).events P w #[] = #[])
    (hn : OpsG (GS P co cq z1 z2) kd fn ops rest Q (a.put o.dst (commResult (selCases co cq z1 z2 x) .select 0 undef false)) (h, xs)) : OpsG (GS P co cq z1 z2) kd fn ops (i :: rest) Q a (h, x :: xs) := by
  intro E hE b k cs hb hk hc
  have hke : b.kind ≠ .early := by rw [hk]; cases kd <;> simp [kindOf]
  have hfin : ∀ r, (b.at a (.inRegion ops (i :: rest) :: k)).finish r = b.at (a.put o.dst r) (.inRegion ops rest :: k) := fun r => by rw [Frame.finish_at, ho]; rfl
  have := hn E hE b k cs hb hk hc
  subst hE
  refine Gos.stop ⟨⟨rfl, fun w => ?_⟩, ?_⟩
  · rw [stepG_comm ho hw hke (hr w).1]
    unfold listed
    rw [(hr w).2, seen_none]
  · show Sends P co cq z1 z2 xs { G (b.at a (.inRegion ops (i :: rest) :: k)) cs with frame := (b.at a (.inRegion ops (i :: rest) :: k)).finish _, status := .running, offers := none } h
    rw [hfin]
    exact this
end

/-! ### Goroutine 0's communications -/
section
variable {P : Program} {fn : FuncId} {Q : Exit → Act → VL → Prop} {a : Act} {h : PH} {x : Value} {xs : List Value} {c : Ctx} {ops : Array Oper} {i : Nat} {rest : List Nat} {o : Oper}

/-- A receive, where a value is still to come. -/
theorem opsL_recv (ho : ops[i]? = some o) (hw : Region.wanted o (yielded ops a.tmps) = true)
    (hr : ∀ w, (execOp a.eval o).run P w = .ok (.comm #[rcase c.co c.z] true (.recv true)) w ∧ (execOp a.eval o).events P w #[] = #[])
    (hn : OpsG (GL0 P) false fn ops rest Q (a.put o.dst (.tuple #[x, .bool true])) (.b h xs c)) : OpsG (GL0 P) false fn ops (i :: rest) Q a (.b h (x :: xs) c) := by
  intro E hE b k cs hb hk hc
  have hke : b.kind ≠ .early := by rw [hk]; simp [kindOf]
  have hfin : ∀ r, (b.at a (.inRegion ops (i :: rest) :: k)).finish r = b.at (a.put o.dst r) (.inRegion ops rest :: k) := fun r => by rw [Frame.finish_at, ho]; rfl
  have := hn E hE b k cs hb hk hc
  obtain ⟨Post, rfl⟩ := hE
  refine Gos.stop ⟨⟨rfl, fun w => ?_⟩, ?_⟩
  · rw [stepG_comm ho hw hke (hr w).1]
    unfold listed
    rw [(hr w).2, seen_none]
  · show Recvs P c.co c.z (KL P Post c) xs { G (b.at a (.inRegion ops (i :: rest) :: k)) cs with frame := (b.at a (.inRegion ops (i :: rest) :: k)).finish _, status := .running, offers := none } h
    rw [hfin]
    exact this

/-- A receive, where the channel will be found closed: the phase is over. -/
theorem opsL_end (ho : ops[i]? = some o) (hw : Region.wanted o (yielded ops a.tmps) = true)
    (hr : ∀ w, (execOp a.eval o).run P w = .ok (.comm #[rcase c.co c.z] true (.recv true)) w ∧ (execOp a.eval o).events P w #[] = #[])
    (hn : ∀ v, After c.co c.v0.heap.size c.v0 h v → OpsG (GL0 P) false fn ops rest Q (a.put o.dst (.tuple #[c.z, .bool false])) (.a v)) : OpsG (GL0 P) false fn ops (i :: rest) Q a (.b h [] c) := by
  intro E hE b k cs hb hk hc
  have hke : b.kind ≠ .early := by rw [hk]; simp [kindOf]
  have hfin : ∀ r, (b.at a (.inRegion ops (i :: rest) :: k)).finish r = b.at (a.put o.dst r) (.inRegion ops rest :: k) := fun r => by rw [Frame.finish_at, ho]; rfl
  have hn' := fun v hv => hn v hv E hE b k cs hb hk hc
  obtain ⟨Post, rfl⟩ := hE
  refine Gos.stop ⟨⟨rfl, fun w => ?_⟩, fun v hv => ?_⟩
  · rw [stepG_comm ho hw hke (hr w).1]
    unfold listed
    rw [(hr w).2, seen_none]
  · show Ends P Post { G (b.at a (.inRegion ops (i :: rest) :: k)) cs with frame := (b.at a (.inRegion ops (i :: rest) :: k)).finish _, status := .running, offers := none } v
    rw [hfin]
    exact hn' v hv

/-- THE FORK. -/
theorem opsL_fork {v : World} {d : Deferred} {f : Fn} {cap : Array Value} {z1 z2 : Value} (hcl : Cl P v) (ho : ops[i]? = some o) (hw : Region.wanted o (yielded ops a.tmps) = true)
    (hr : ∀ w, (execOp a.eval o).run P w = .ok (.spawn d) w ∧ (execOp a.eval o).events P w #[] = #[]) (hd : d.target = .fn f cap)
    (hv : c.v0 = v) (hco : ∃ s r, v.heap[c.co]? = some (.chan 0 #[] false s r false)) (hcq : ∃ s r tm, v.heap[c.cq]? = some (.chan 0 #[] false s r tm)) (hne : c.cq ≠ c.co)
    (hchild : Sends P c.co c.cq z1 z2 xs (born P d) noneOwn) (hn : OpsG (GL0 P) false fn ops rest Q (a.put o.dst undef) (.b noneOwn xs c)) : OpsG (GL0 P) false fn ops (i :: rest) Q a (.a v) := by
  intro E hE b k cs hb hk hc
  have hke : b.kind ≠ .early := by rw [hk]; simp [kindOf]
  have := hn E hE b k cs hb hk hc
  obtain ⟨Post, rfl⟩ := hE
  refine ends_fork hcl rfl (fun τ d' => ?_) hco hcq hne xs this hchild fun g h w hk' hA => hk' w (by rw [hv]; exact hA)
  rw [stepG_spawn ho hw hke (hr _).1 hd]
  unfold listed
  rw [(hr _).2, seen_none]
end
end Go.Proofs.Ytfaadjmglboaoaa
