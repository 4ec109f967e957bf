/-
  THE MODEL's OPERATIONS ARE LOCAL IN THE TAPE: what an operation does hangs on the heap, the outside and the answers that it draws, not on where on the tape they stand. And a class of operations ('Calm') that never say 'disable' or 'enable'.
-/
import GoSem.Step
import Derived.StepT
namespace Go.Proofs.Ytfaadjmglboaoaa

/-- The world with another tape, of which so many answers are drawn. -/
def tap (w : World) (τ : Nat → Question → Nat) (d : Nat) : World := { w with tape := τ, drawn := d }

@[simp] theorem tap_heap (w : World) (τ : Nat → Question → Nat) (d : Nat) : (tap w τ d).heap = w.heap := rfl
@[simp] theorem tap_os (w : World) (τ : Nat → Question → Nat) (d : Nat) : (tap w τ d).os = w.os := rfl
@[simp] theorem tap_output (w : World) (τ : Nat → Question → Nat) (d : Nat) : (tap w τ d).output = w.output := rfl
@[simp] theorem tap_tape (w : World) (τ : Nat → Question → Nat) (d : Nat) : (tap w τ d).tape = τ := rfl
@[simp] theorem tap_drawn (w : World) (τ : Nat → Question → Nat) (d : Nat) : (tap w τ d).drawn = d := rfl
@[simp] theorem tap_tap (w : World) (τ τ' : Nat → Question → Nat) (d d' : Nat) : tap (tap w τ d) τ' d' = tap w τ' d' := rfl
theorem tap_self (w : World) : tap w w.tape w.drawn = w := rfl

/-- From d on the tape τ' gives what τ gives from d₀ on, for n answers. -/
def Agree (τ : Nat → Question → Nat) (d₀ n : Nat) (τ' : Nat → Question → Nat) (d : Nat) : Prop := ∀ i, i < n → ∀ q, τ' (d + i) q = τ (d₀ + i) q

theorem Agree.mono {τ τ' : Nat → Question → Nat} {d₀ n m d : Nat} (h : Agree τ d₀ n τ' d) (hm : m ≤ n) : Agree τ d₀ m τ' d := fun i hi => h i (Nat.lt_of_lt_of_le hi hm)
theorem Agree.later {τ τ' : Nat → Question → Nat} {d₀ n d : Nat} (k m : Nat) (h : Agree τ d₀ n τ' d) (hm : k + m ≤ n) : Agree τ (d₀ + k) m τ' (d + k) := fun i hi q => by
  have := h (k + i) (by omega) q
  rwa [← Nat.add_assoc, ← Nat.add_assoc] at this

theorem farLoad_tap (P : Program) (w : World) (τ : Nat → Question → Nat) (d : Nat) (a : Addr) (b : Bool) : (tap w τ d).farLoad P a b = w.farLoad P a b := rfl

theorem farStore_tap (P : Program) (w : World) (τ : Nat → Question → Nat) (d : Nat) (a : Addr) (v : Value) (b : Bool) :
    (tap w τ d).farStore P a v b = match w.farStore P a v b with
      | .ok (w', l) => .ok (tap w' τ d, l)
      | .error h => .error h := by
  unfold World.farStore
  show (match w.heap[a.block]? with
    | some (.view at_ u) => match (tap w τ d).viewStore P at_ u a v b with
      | .ok r => Except.ok r
      | .error why => Except.error (Halt.unsupported (.unsafePointer why))
    | _ => Except.error (w.noCell a "store: no such cell")) = _
  cases hb : w.heap[a.block]? with
  | none => rfl
  | some o =>
    cases o with
    | view at_ u =>
      simp only []
      have : (tap w τ d).viewStore P at_ u a v b = match w.viewStore P at_ u a v b with
          | .ok (w', l) => .ok (tap w' τ d, l)
          | .error h => .error h := by
        unfold World.viewStore
        have hs : (tap w τ d).seen P at_ u a b = w.seen P at_ u a b := rfl
        simp only [hs, bind, Except.bind, pure, Except.pure]
        repeat' split
        all_goals first | rfl | (simp_all; done) | (rename_i h; simp only [Except.ok.injEq, Prod.mk.injEq] at h; obtain ⟨rfl, rfl⟩ := h; rfl)
      rw [this]
      cases w.viewStore P at_ u a v b <;> rfl
    | _ => rfl

/-! ### Calm operations -/

/-- How a calm operation may stop: by a panic, or by an end of the run. -/
def CalmHalt : Halt → Prop
  | .panic _ | .stuck _ => True
  | .unsupported (.initOrder _) => False
  | .unsupported _ => True
  | _ => False

/-- IT NEVER SAYS 'disable' OR 'enable', it asks nothing of the outside, what it hands back meets A. -/
inductive Calm {α : Type} (P : Program) (A : α → Prop) : Sem α → Prop
  | pure {a : α} (h : A a) : Calm P A (.pure a)
  | load {m : Mode} {a : Addr} {k : Value → Sem α} (h : ∀ v, Calm P A (k v)) : Calm P A (.load m a k)
  | store {m : Mode} {a : Addr} {v : Value} {k : Sem α} (h : Calm P A k) : Calm P A (.store m a v k)
  | new {o : Obj} {k : Nat → Sem α} (h : ∀ n, Calm P A (k n)) : Calm P A (.new o k)
  | shape {r : Nat} {k : Option (TypeId × Nat) → Sem α} (h : ∀ x, Calm P A (k x)) : Calm P A (.shape r k)
  | freeze {a : Addr} {n : Nat} {k : Sem α} (h : Calm P A k) : Calm P A (.freeze a n k)
  | frozen {a : Addr} {k : Bool → Sem α} (h : ∀ b, Calm P A (k b)) : Calm P A (.frozen a k)
  | getObj {r : Nat} {k : Obj → Sem α} (h : ∀ o, Calm P A (k o)) : Calm P A (.getObj r k)
  | setObj {r : Nat} {o : Obj} {k : Sem α} (h : Calm P A k) : Calm P A (.setObj r o k)
  | choose {q : Question} {k : Nat → Sem α} (h : ∀ n, Calm P A (k n)) : Calm P A (.choose q k)
  | program {k : Program → Sem α} (h : Calm P A (k P)) : Calm P A (.program k)
  | mark {m : Mark} {k : Sem α} (h1 : m ≠ .disable) (h2 : m ≠ .enable) (h : Calm P A k) : Calm P A (.mark m k)
  | halt {h : Halt} (hh : CalmHalt h) : Calm P A (.halt h)

/-- The program's variables lie as rows of cells. -/
def Cl (P : Program) (w : World) : Prop := ∀ g, g < P.globals.size → ∃ c t f, w.heap[g]? = some (.cells c t f)

theorem Cl.tap {P : Program} {w : World} (h : Cl P w) (τ : Nat → Question → Nat) (d : Nat) : Cl P (tap w τ d) := h
theorem Cl.new {P : Program} {w : World} (h : Cl P w) (o : Obj) : Cl P { w with heap := w.heap.push o } := fun g hg => by
  obtain ⟨c, t, f, e⟩ := h g hg
  have hlt : g < w.heap.size := (Array.getElem?_eq_some_iff.1 e).1
  exact ⟨c, t, f, by rw [Array.getElem?_push, if_neg (by omega)]; exact e⟩
theorem Cl.setCell {P : Program} {w : World} (h : Cl P w) (a : Addr) (v : Value) : Cl P (w.setCell a v) := fun g hg => by
  obtain ⟨c, t, f, e⟩ := h g hg
  simp only [World.setCell, Array.getElem?_modify]
  by_cases hb : a.block = g
  · rw [if_pos hb, e]; exact ⟨_, _, _, rfl⟩
  · rw [if_neg hb, e]; exact ⟨_, _, _, rfl⟩
theorem Cl.freeze {P : Program} {w : World} (h : Cl P w) (a : Addr) (n : Nat) : Cl P (w.freeze a n) := fun g hg => by
  obtain ⟨c, t, f, e⟩ := h g hg
  unfold World.freeze
  split
  · exact ⟨c, t, f, e⟩
  · simp only [Array.getElem?_modify]
    by_cases hb : a.block = g
    · rw [if_pos hb, e]; obtain ⟨lo, hi⟩ := f; exact ⟨_, _, _, rfl⟩
    · rw [if_neg hb, e]; exact ⟨_, _, _, rfl⟩

theorem viewStore_heap {P : Program} {w w' : World} {at_ : Addr} {u : TypeId} {k : Addr} {v : Value} {b : Bool} {l : List Addr} (h : w.viewStore P at_ u k v b = .ok (w', l)) :
    ∃ c e f, w' = { w with heap := w.heap.setIfInBounds at_.block (.cells c e f) } := by
  unfold World.viewStore at h
  simp only [bind, Except.bind, pure, Except.pure] at h
  repeat' split at h
  all_goals first | (cases h; done) | (simp only [Except.ok.injEq, Prod.mk.injEq] at h; obtain ⟨rfl, _⟩ := h; exact ⟨_, _, _, rfl⟩)

theorem farStore_heap {P : Program} {w w' : World} {a : Addr} {v : Value} {b : Bool} {l : List Addr} (h : w.farStore P a v b = .ok (w', l)) :
    ∃ r c e f, w' = { w with heap := w.heap.setIfInBounds r (.cells c e f) } := by
  unfold World.farStore at h
  split at h
  · split at h
    · rename_i r hr
      cases h
      obtain ⟨c, e, f, rfl⟩ := viewStore_heap hr
      exact ⟨_, c, e, f, rfl⟩
    · cases h
  · cases h

theorem Cl.far {P : Program} {w w' : World} (h : Cl P w) {a : Addr} {v : Value} {b : Bool} {l : List Addr} (hs : w.farStore P a v b = .ok (w', l)) : Cl P w' := fun g hg => by
  obtain ⟨c, t, f, e⟩ := h g hg
  obtain ⟨r, c', e', f', rfl⟩ := farStore_heap hs
  have hlt : g < w.heap.size := (Array.getElem?_eq_some_iff.1 e).1
  by_cases hb : r = g
  · subst hb
    exact ⟨c', e', f', by simp [hlt]⟩
  · exact ⟨c, t, f, by simp only [Array.getElem?_setIfInBounds_ne hb]; exact e⟩

/-- How a calm operation stops, in a world whose variables lie as rows of cells. -/
def Stops (P : Program) : Halt → Prop
  | .panic _ | .stuck _ => True
  | .unsupported (.initOrder g) => P.globals.size ≤ g
  | .unsupported _ => True
  | _ => False

theorem noCell_stops {P : Program} {w : World} (h : Cl P w) (a : Addr) (s : String) : Stops P (w.noCell a s) := by
  unfold World.noCell
  split
  · rename_i hp
    show P.globals.size ≤ a.block
    rcases Nat.lt_or_ge a.block P.globals.size with hlt | hge
    · obtain ⟨c, t, f, e⟩ := h _ hlt
      rw [e] at hp; cases hp
    · exact hge
  · trivial
  · trivial

theorem farLoad_stops {P : Program} {w : World} (h : Cl P w) {a : Addr} {b : Bool} {x : Halt} (he : w.farLoad P a b = .error x) : Stops P x := by
  unfold World.farLoad at he
  split at he
  · split at he
    · cases he
    · cases he; trivial
  · cases he; exact noCell_stops h _ _
theorem farStore_stops {P : Program} {w : World} (h : Cl P w) {a : Addr} {v : Value} {b : Bool} {x : Halt} (he : w.farStore P a v b = .error x) : Stops P x := by
  unfold World.farStore at he
  split at he
  · split at he
    · cases he
    · cases he; trivial
  · cases he; exact noCell_stops h _ _
theorem farStore_same {P : Program} {w w' : World} {a : Addr} {v : Value} {b : Bool} {l : List Addr} (h : w.farStore P a v b = .ok (w', l)) : w'.tape = w.tape ∧ w'.drawn = w.drawn := by
  obtain ⟨r, c, e, f, rfl⟩ := farStore_heap h
  exact ⟨rfl, rfl⟩

/-- An entry that says neither 'disable' nor 'enable'. -/
def Soft (e : Event) : Prop := e.loc ≠ .mark .disable ∧ e.loc ≠ .mark .enable

/-- What is known of a calm operation's run: it comes out, or it stops; and it hangs on so many answers of the tape. -/
def Ran {α : Type} (P : Program) (A : α → Prop) (s : Sem α) (w : World) (es : Array Event) : Prop :=
  (∃ a w' es' n, A a ∧ Cl P w' ∧ (∀ e ∈ es', Soft e) ∧ w'.tape = w.tape ∧ w'.drawn = w.drawn + n ∧ ∀ τ d, Agree w.tape w.drawn n τ d → s.runT P (tap w τ d) es = (.ok a (tap w' τ (d + n)), es')) ∨
  (∃ n, ∀ τ d, Agree w.tape w.drawn n τ d → ∃ x w' es', s.runT P (tap w τ d) es = (.halt x w', es') ∧ Stops P x)

theorem soft_push {es : Array Event} {e : Event} (h : ∀ e ∈ es, Soft e) (he : Soft e) : ∀ x ∈ es.push e, Soft x := fun x hx => by
  rcases Array.mem_push.1 hx with hx | rfl
  · exact h x hx
  · exact he
theorem soft_cells {es : Array Event} {l : List Addr} {wr sy : Bool} (h : ∀ e ∈ es, Soft e) : ∀ x ∈ es ++ l.toArray.map (fun a => (⟨.cell a, wr, sy⟩ : Event)), Soft x := fun x hx => by
  rcases Array.mem_append.1 hx with hx | hx
  · exact h x hx
  · obtain ⟨a, _, rfl⟩ := Array.mem_map.1 hx
    exact ⟨by simp, by simp⟩

theorem ran_step {α : Type} {P : Program} {A : α → Prop} {s s' : Sem α} {w w₁ : World} {es es₁ : Array Event} (ht : w₁.tape = w.tape) (hd : w₁.drawn = w.drawn)
    (e : ∀ τ d, s.runT P (tap w τ d) es = s'.runT P (tap w₁ τ d) es₁) (h : Ran P A s' w₁ es₁) : Ran P A s w es := by
  unfold Ran at h ⊢
  simp only [e]
  rw [ht, hd] at h
  exact h

theorem ran_halt {α : Type} {P : Program} {A : α → Prop} {s : Sem α} {w : World} {es : Array Event} {x : Halt} (h : Stops P x) (e : ∀ τ d, s.runT P (tap w τ d) es = (.halt x (tap w τ d), es)) : Ran P A s w es :=
  .inr ⟨0, fun τ d _ => ⟨x, _, _, e τ d, h⟩⟩

theorem calm_ran {α : Type} {P : Program} {A : α → Prop} {s : Sem α} (hs : Calm P A s) : ∀ (w : World) (es : Array Event), Cl P w → (∀ e ∈ es, Soft e) → Ran P A s w es := by
  induction hs with
  | @pure a h => exact fun w es hc he => .inl ⟨a, w, es, 0, h, hc, he, rfl, rfl, fun τ d _ => rfl⟩
  | @load m a k h ih =>
    intro w es hc he
    cases hv : w.cell? a with
    | some v =>
      refine ran_step rfl rfl (fun τ d => ?_) (ih v w (es.push ⟨.cell a, false, m == .atomic⟩) hc (soft_push he ⟨by simp, by simp⟩))
      have : (tap w τ d).cell? a = some v := hv
      simp only [Sem.runT, this]
    | none =>
      cases hf : w.farLoad P a (m == .atomic) with
      | error x =>
        refine ran_halt (farLoad_stops hc hf) fun τ d => ?_
        have h1 : (tap w τ d).cell? a = none := hv
        have h2 : (tap w τ d).farLoad P a (m == .atomic) = .error x := by rw [farLoad_tap]; exact hf
        simp only [Sem.runT, h1, h2]
      | ok r =>
        obtain ⟨v, l⟩ := r
        refine ran_step rfl rfl (fun τ d => ?_) (ih v w (es ++ l.toArray.map (⟨.cell ·, false, m == .atomic⟩)) hc (soft_cells he))
        have h1 : (tap w τ d).cell? a = none := hv
        have h2 : (tap w τ d).farLoad P a (m == .atomic) = .ok (v, l) := by rw [farLoad_tap]; exact hf
        simp only [Sem.runT, h1, h2]
  | @store m a v k h ih =>
    intro w es hc he
    by_cases hagg : (∃ x, v = .agg x) ∨ ∃ x, v = .tuple x
    · rcases hagg with ⟨x, rfl⟩ | ⟨x, rfl⟩
      · exact ran_halt (x := .stuck "store: not the value of one cell") trivial fun τ d => rfl
      · exact ran_halt (x := .stuck "store: not the value of one cell") trivial fun τ d => rfl
    · have e : ∀ w : World, (Sem.store m a v k).runT P w es = match w.cell? a with
          | some _ =>
            if w.frozen? a then (.halt (.unsupported (.unsafePointer "a write to bytes that a string shares")) w, es)
            else k.runT P (w.setCell a v) (es.push ⟨.cell a, true, m == .atomic⟩)
          | none => match w.farStore P a v (m == .atomic) with
            | .ok (w, touched) => k.runT P w (es ++ touched.toArray.map (⟨.cell ·, true, m == .atomic⟩))
            | .error h => (.halt h w, es) := fun w => by
        cases v <;> first | rfl | exact absurd (.inl ⟨_, rfl⟩) hagg | exact absurd (.inr ⟨_, rfl⟩) hagg
      cases hv : w.cell? a with
      | some v' =>
        cases hz : w.frozen? a with
        | true =>
          refine ran_halt (x := .unsupported (.unsafePointer "a write to bytes that a string shares")) trivial fun τ d => ?_
          have h1 : (tap w τ d).cell? a = some v' := hv
          have h2 : (tap w τ d).frozen? a = true := hz
          rw [e]; simp only [h1, h2]; rfl
        | false =>
          refine ran_step (w₁ := w.setCell a v) rfl rfl (fun τ d => ?_) (ih (w.setCell a v) (es.push ⟨.cell a, true, m == .atomic⟩) (hc.setCell a v) (soft_push he ⟨by simp, by simp⟩))
          have h1 : (tap w τ d).cell? a = some v' := hv
          have h2 : (tap w τ d).frozen? a = false := hz
          rw [e]; simp only [h1, h2]; rfl
      | none =>
        cases hf : w.farStore P a v (m == .atomic) with
        | error x =>
          refine ran_halt (farStore_stops hc hf) fun τ d => ?_
          have h1 : (tap w τ d).cell? a = none := hv
          have h2 := farStore_tap P w τ d a v (m == .atomic)
          rw [hf] at h2
          rw [e]; simp only [h1, h2]
        | ok r =>
          obtain ⟨w₁, l⟩ := r
          obtain ⟨t1, t2⟩ := farStore_same hf
          refine ran_step t1 t2 (fun τ d => ?_) (ih w₁ (es ++ l.toArray.map (⟨.cell ·, true, m == .atomic⟩)) (hc.far hf) (soft_cells he))
          have h1 : (tap w τ d).cell? a = none := hv
          have h2 := farStore_tap P w τ d a v (m == .atomic)
          rw [hf] at h2
          rw [e]; simp only [h1, h2]
  | @new o k h ih =>
    intro w es hc he
    exact ran_step (w₁ := { w with heap := w.heap.push o }) rfl rfl (fun τ d => rfl) (ih w.heap.size _ es (hc.new o) he)
  | @shape r k h ih => exact fun w es hc he => ran_step (w₁ := w) rfl rfl (fun τ d => rfl) (ih (w.shape? r) w es hc he)
  | @freeze a n k h ih =>
    intro w es hc he
    have e : ∀ τ d, (tap w τ d).freeze a n = tap (w.freeze a n) τ d := fun τ d => by
      unfold World.freeze; split <;> rfl
    have e1 : (w.freeze a n).tape = w.tape ∧ (w.freeze a n).drawn = w.drawn := by unfold World.freeze; split <;> exact ⟨rfl, rfl⟩
    refine ran_step (w₁ := w.freeze a n) e1.1 e1.2 (fun τ d => ?_) (ih (w.freeze a n) es (hc.freeze a n) he)
    simp only [Sem.runT, e]
  | @frozen a k h ih => exact fun w es hc he => ran_step (w₁ := w) rfl rfl (fun τ d => rfl) (ih (w.frozen? a) w es hc he)
  | @getObj r k h ih =>
    intro w es hc he
    cases hr : w.heap[r]? with
    | none =>
      refine ran_halt (x := .stuck "getObj: no such block") trivial fun τ d => ?_
      have h1 : (tap w τ d).heap[r]? = none := hr
      simp only [Sem.runT, h1]
    | some o =>
      by_cases ho : ∃ c t f, o = .cells c t f
      · obtain ⟨c, t, f, rfl⟩ := ho
        refine ran_halt (x := .stuck "getObj: a row of cells") trivial fun τ d => ?_
        have h1 : (tap w τ d).heap[r]? = some (.cells c t f) := hr
        simp only [Sem.runT, h1]
      · refine ran_step (w₁ := w) rfl rfl (fun τ d => ?_) (ih o w (es.push ⟨.obj r, false, o.isChan⟩) hc (soft_push he ⟨by simp, by simp⟩))
        have : (tap w τ d).heap[r]? = some o := hr
        cases o <;> first | exact absurd ⟨_, _, _, rfl⟩ ho | (simp only [Sem.runT, this])
  | @setObj r o k h ih =>
    intro w es hc he
    cases hr : w.heap[r]? with
    | none =>
      refine ran_halt (x := .stuck "setObj: no such block") trivial fun τ d => ?_
      have h1 : (tap w τ d).heap[r]? = none := hr
      simp only [Sem.runT, h1]
    | some o' =>
      by_cases ho : ∃ c t f, o' = .cells c t f
      · obtain ⟨c, t, f, rfl⟩ := ho
        refine ran_halt (x := .stuck "setObj: a row of cells") trivial fun τ d => ?_
        have h1 : (tap w τ d).heap[r]? = some (.cells c t f) := hr
        simp only [Sem.runT, h1]
      · have hc' : Cl P { w with heap := w.heap.setIfInBounds r o } := fun g hg => by
          obtain ⟨c, t, f, e⟩ := hc g hg
          have hne : r ≠ g := fun x => ho ⟨c, t, f, by subst x; rw [hr] at e; exact Option.some.inj e⟩
          exact ⟨c, t, f, by simp only [Array.getElem?_setIfInBounds_ne hne]; exact e⟩
        refine ran_step (w₁ := { w with heap := w.heap.setIfInBounds r o }) rfl rfl (fun τ d => ?_) (ih _ (es.push ⟨.obj r, true, o.isChan⟩) hc' (soft_push he ⟨by simp, by simp⟩))
        have : (tap w τ d).heap[r]? = some o' := hr
        cases o' <;> first | exact absurd ⟨_, _, _, rfl⟩ ho | (simp only [Sem.runT, this]; rfl)
  | @choose q k h ih =>
    intro w es hc he
    by_cases hf : q.forced = true
    · refine ran_step (w₁ := w) rfl rfl (fun τ d => ?_) (ih 0 w es hc he)
      simp only [Sem.runT, hf, if_true]
    · have e : ∀ w : World, (Sem.choose q k).runT P w es = (k (q.cut (w.tape w.drawn q))).runT P { w with drawn := w.drawn + 1 } es := fun w => by
        simp only [Sem.runT]; rw [if_neg hf]
      have h1 := ih (q.cut (w.tape w.drawn q)) { w with drawn := w.drawn + 1 } es hc he
      have hstep : ∀ τ d n, Agree w.tape w.drawn (n + 1) τ d → (Sem.choose q k).runT P (tap w τ d) es = (k (q.cut (w.tape w.drawn q))).runT P (tap { w with drawn := w.drawn + 1 } τ (d + 1)) es := fun τ d n ha => by
        have h0 := ha 0 (by omega) q
        rw [Nat.add_zero, Nat.add_zero] at h0
        rw [e]
        show (k (q.cut (τ d q))).runT P (tap w τ (d + 1)) es = _
        rw [h0]; rfl
      rcases h1 with ⟨a, w', es', n, p1, p2, p3, p4, p5, p6⟩ | ⟨n, p⟩
      · refine .inl ⟨a, w', es', n + 1, p1, p2, p3, p4, by rw [p5]; show w.drawn + 1 + n = _; omega, fun τ d ha => ?_⟩
        rw [hstep τ d n ha]
        have := p6 τ (d + 1) (ha.later 1 n (by omega))
        rw [show d + 1 + n = d + (n + 1) from by omega] at this
        exact this
      · refine .inr ⟨n + 1, fun τ d ha => ?_⟩
        rw [hstep τ d n ha]
        exact p τ (d + 1) (ha.later 1 n (by omega))
  | @program k h ih => exact fun w es hc he => ran_step (w₁ := w) rfl rfl (fun τ d => rfl) (ih w es hc he)
  | @mark m k h1 h2 h ih =>
    exact fun w es hc he => ran_step (w₁ := w) rfl rfl (fun τ d => rfl) (ih w (es.push ⟨.mark m, false, true⟩) hc (soft_push he ⟨by simpa using h1, by simpa using h2⟩))
  | @halt x hh =>
    intro w es hc he
    refine ran_halt (x := x) ?_ fun τ d => rfl
    cases x <;> first | trivial | exact hh.elim | skip
    rename_i u
    cases u <;> first | trivial | exact hh.elim
end Go.Proofs.Ytfaadjmglboaoaa
