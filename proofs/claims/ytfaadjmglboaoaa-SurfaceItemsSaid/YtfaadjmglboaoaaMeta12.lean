/-
  THE TRACE of two goroutines at work at once, each over memory of its own, which communicate over channels; the one closes a channel and leaves, the other notices it.
-/
import Derived.Test.YtfaadjmglboaoaaMeta11
namespace Go.Proofs.Ytfaadjmglboaoaa
open Go.Conc

theorem noRace_none {said : Bool} {t u : Trace} (h : ¬ Race said t) (hu : ∀ op ∈ u, op.act.touch? = none) : ¬ Race said (t ++ u) := by
  rintro ⟨i, j, hij, ⟨a, b, ha, hb, hc⟩, n1, n2⟩
  obtain ⟨x, hx, hxa⟩ := touch_of ha
  obtain ⟨y, hy, hyb⟩ := touch_of hb
  rcases getElem?_append_cases hy with ⟨hj, hy'⟩ | ⟨_, hyu⟩
  · have hi : i < t.size := Nat.lt_trans hij hj
    have hx' : t[i]? = some x := by rw [← getElem?_append_old (u := u) hi]; exact hx
    exact h ⟨i, j, hij, ⟨a, b, by simp [Trace.act?, hx', hxa], by simp [Trace.act?, hy', hyb], hc⟩, fun e => n1 (hb_app u e), fun e => n2 (hb_app u e)⟩
  · rw [hu y hyu] at hyb; cases hyb

/-- A touch of the longer trace stands in the shorter one, or among what was appended. -/
theorem touch_cases {t u : Trace} {i : Nat} {a : Touch} (h : touchAt (t ++ u) i = some a) : (i < t.size ∧ touchAt t i = some a) ∨ (t.size ≤ i ∧ ∃ op ∈ u, (t ++ u)[i]? = some op ∧ op.act.touch? = some a) := by
  obtain ⟨x, hx, hxa⟩ := touch_of h
  rcases getElem?_append_cases hx with ⟨hi, hx'⟩ | ⟨hi, hxu⟩
  · exact .inl ⟨hi, by rw [touchAt_of hx']; exact hxa⟩
  · exact .inr ⟨hi, x, hxu, hx, hxa⟩

/-- What was handed over stays so; what is appended by goroutine 0 or touches nothing adds nothing. -/
theorem over_app {t u : Trace} {K : Nat → Prop} (h : ∀ i g, t.g? i = some g → g ≠ 0 → K g → t.counts i → ∃ j, t.g? j = some 0 ∧ HappensBefore t i j) (hu : ∀ op ∈ u, op.g = 0 ∨ ¬ K op.g ∨ op.act.touch? = none) :
    ∀ i g, (t ++ u).g? i = some g → g ≠ 0 → K g → (t ++ u).counts i → ∃ j, (t ++ u).g? j = some 0 ∧ HappensBefore (t ++ u) i j := by
  intro i g hg hne hK hc
  obtain ⟨x, hx, _⟩ := hc
  obtain ⟨op, hop, hox⟩ := touch_of hx
  rcases getElem?_append_cases hop with ⟨hi, hop'⟩ | ⟨_, hopu⟩
  · obtain ⟨j, hj, hb⟩ := h i g (by simpa [Trace.g?, getElem?_append_old hi] using hg) hne hK ((counts_old hi).1 ⟨x, hx, ‹_›⟩)
    have hjl : j < t.size := by
      unfold Trace.g? at hj
      obtain ⟨z, hz, _⟩ := Option.map_eq_some_iff.1 hj
      exact lt_size_of_getElem? hz
    exact ⟨j, by simpa [Trace.g?, getElem?_append_old hjl] using hj, hb_app u hb⟩
  · have hgo : op.g = g := by simpa [Trace.g?, hop] using hg
    rcases hu op hopu with h0 | h0 | h0
    · exact absurd (hgo.symm.trans h0) hne
    · exact absurd (hgo ▸ hK) h0
    · rw [h0] at hox; cases hox

/-- Both are at work. p: where the second was started. -/
structure Mid (t : Trace) (p c : Nat) (hp hc : PH) : Prop where
  clean : ∀ said, ¬ Race said t
  old : ∀ i a, i < p → touchAt t i = some a → a.loc.isMemory = true → Knows t 0 i ∧ Knows t c i
  new : ∀ i a, p ≤ i → touchAt t i = some a → a.loc.isMemory = true → ∃ r, blkOf a.loc = some r ∧ ((hp r ≠ none ∧ Knows t 0 i) ∨ (hc r ≠ none ∧ Knows t c i))
  over : ∀ i g, t.g? i = some g → g ≠ 0 → g ≠ c → t.counts i → ∃ j, t.g? j = some 0 ∧ HappensBefore t i j
  hears0 : Deaf t 0 = 0
  hearsc : Deaf t c = 0
  le : p ≤ t.size

section
variable {t u : Trace} {p c : Nat} {hp hc : PH}

theorem Mid.mute (h : Mid t p c hp hc) (hu : ∀ op ∈ u, op.act.touch? = none) (h0 : Deaf (t ++ u) 0 = Deaf t 0) (h1 : Deaf (t ++ u) c = Deaf t c) : Mid (t ++ u) p c hp hc := by
  refine ⟨fun said => noRace_none (h.clean said) hu, fun i a hi ha hm => ?_, fun i a hi ha hm => ?_, fun i g hg hne hnc => over_app (K := fun g => g ≠ c) h.over (fun op hop => .inr (.inr (hu op hop))) i g hg hne hnc, h0.trans h.hears0, h1.trans h.hearsc, by have := h.le; simp; omega⟩
  · rcases touch_cases ha with ⟨_, ha'⟩ | ⟨_, op, hop, _, hoa⟩
    · exact (h.old i a hi ha' hm).imp (·.app u) (·.app u)
    · rw [hu op hop] at hoa; cases hoa
  · rcases touch_cases ha with ⟨_, ha'⟩ | ⟨_, op, hop, _, hoa⟩
    · obtain ⟨r, h1, h2⟩ := h.new i a hi ha' hm
      exact ⟨r, h1, h2.imp (fun x => ⟨x.1, x.2.app u⟩) (fun x => ⟨x.1, x.2.app u⟩)⟩
    · rw [hu op hop] at hoa; cases hoa

theorem touch_ofEvents {g : Nat} {fn : FuncId} {pos : String} {es : Array Event} {h' : PH} (hes : ∀ e ∈ es, OwnEv h' e) {op : MemOp} (hop : op ∈ MemOp.ofEvents g fn pos es) {a : Touch} (ha : op.act.touch? = some a) (hm : a.loc.isMemory = true) : op.g = g ∧ ∃ r, blkOf a.loc = some r ∧ h' r ≠ none := by
  obtain ⟨e, he, rfl⟩ := Go.Conc.mem_ofEvents hop
  exact ⟨rfl, (hes e he).2 a ha hm⟩

theorem own_of_ofEvents {g : Nat} {fn : FuncId} {pos : String} {es : Array Event} : ∀ op ∈ MemOp.ofEvents g fn pos es, op.g = g := fun op hop => by
  obtain ⟨e, _, rfl⟩ := Go.Conc.mem_ofEvents hop; rfl

/-- A step of goroutine 0's over its own memory. -/
theorem Mid.own0 (h : Mid t p c hp hc) (hc0 : 0 ≠ c) {hp' : PH} (hmine : ∀ r, hp r ≠ none → hp' r ≠ none) (hdis : ∀ r, hp' r = none ∨ hc r = none) {fn : FuncId} {pos : String} {es : Array Event} (hes : ∀ e ∈ es, OwnEv hp' e) : Mid (t ++ MemOp.ofEvents 0 fn pos es) p c hp' hc := by
  have hu : ∀ op ∈ MemOp.ofEvents 0 fn pos es, op.g = 0 := own_of_ofEvents
  refine ⟨fun said => noRace_append (h.clean said) hu fun i a ha op hop b hb hcf => ?_, fun i a hi ha hm => ?_, fun i a hi ha hm => ?_, fun i g hg hne hnc => over_app (K := fun g => g ≠ c) h.over (fun op hop => .inl (hu op hop)) i g hg hne hnc, ?_, (Deaf_other t hc0 _ hu).trans h.hearsc, by have := h.le; simp; omega⟩
  · rcases Nat.lt_or_ge i p with hi | hi
    · exact (h.old i a hi ha hcf.2.1).1
    · obtain ⟨r, hr, h1 | h1⟩ := h.new i a hi ha hcf.2.1
      · exact h1.2
      · obtain ⟨_, r', hr', h2⟩ := touch_ofEvents hes hop hb (hcf.1 ▸ hcf.2.1)
        rw [← hcf.1, hr] at hr'
        cases hr'
        rcases hdis r with h3 | h3
        · exact absurd h3 h2
        · exact absurd h3 h1.1
  · rcases touch_cases ha with ⟨_, ha'⟩ | ⟨hge, _⟩
    · exact (h.old i a hi ha' hm).imp (·.app _) (·.app _)
    · have := h.le; omega
  · rcases touch_cases ha with ⟨_, ha'⟩ | ⟨_, op, hop, hat, hoa⟩
    · obtain ⟨r, h1, h2⟩ := h.new i a hi ha' hm
      exact ⟨r, h1, h2.imp (fun x => ⟨hmine r x.1, x.2.app _⟩) (fun x => ⟨x.1, x.2.app _⟩)⟩
    · obtain ⟨hg, r, hr, h2⟩ := touch_ofEvents hes hop hoa hm
      have := knows_own hat
      rw [hg] at this
      exact ⟨r, hr, .inl ⟨h2, this⟩⟩
  · rw [Deaf_own]
    exact (deafBehind_still (fun e he => (hes e he).1) _).trans h.hears0

/-- A step of the other's over its own memory. -/
theorem Mid.ownc (h : Mid t p c hp hc) (hc0 : 0 ≠ c) {hc' : PH} (hmine : ∀ r, hc r ≠ none → hc' r ≠ none) (hdis : ∀ r, hp r = none ∨ hc' r = none) {fn : FuncId} {pos : String} {es : Array Event} (hes : ∀ e ∈ es, OwnEv hc' e) : Mid (t ++ MemOp.ofEvents c fn pos es) p c hp hc' := by
  have hu : ∀ op ∈ MemOp.ofEvents c fn pos es, op.g = c := own_of_ofEvents
  refine ⟨fun said => noRace_append (h.clean said) hu fun i a ha op hop b hb hcf => ?_, fun i a hi ha hm => ?_, fun i a hi ha hm => ?_, fun i g hg hne hnc => over_app (K := fun g => g ≠ c) h.over (fun op hop => .inr (.inl (by simp [hu op hop]))) i g hg hne hnc, (Deaf_other t (Ne.symm hc0) _ hu).trans h.hears0, ?_, by have := h.le; simp; omega⟩
  · rcases Nat.lt_or_ge i p with hi | hi
    · exact (h.old i a hi ha hcf.2.1).2
    · obtain ⟨r, hr, h1 | h1⟩ := h.new i a hi ha hcf.2.1
      · obtain ⟨_, r', hr', h2⟩ := touch_ofEvents hes hop hb (hcf.1 ▸ hcf.2.1)
        rw [← hcf.1, hr] at hr'
        cases hr'
        rcases hdis r with h3 | h3
        · exact absurd h3 h1.1
        · exact absurd h3 h2
      · exact h1.2
  · rcases touch_cases ha with ⟨_, ha'⟩ | ⟨hge, _⟩
    · exact (h.old i a hi ha' hm).imp (·.app _) (·.app _)
    · have := h.le; omega
  · rcases touch_cases ha with ⟨_, ha'⟩ | ⟨_, op, hop, hat, hoa⟩
    · obtain ⟨r, h1, h2⟩ := h.new i a hi ha' hm
      exact ⟨r, h1, h2.imp (fun x => ⟨x.1, x.2.app _⟩) (fun x => ⟨hmine r x.1, x.2.app _⟩)⟩
    · obtain ⟨hg, r, hr, h2⟩ := touch_ofEvents hes hop hoa hm
      have := knows_own hat
      rw [hg] at this
      exact ⟨r, hr, .inr ⟨h2, this⟩⟩
  · rw [Deaf_own]
    exact (deafBehind_still (fun e he => (hes e he).1) _).trans h.hearsc
end

/-- The other has closed the channel (its operation number pc), and only leaves. S: the blocks that it has touched. -/
structure Shut (t : Trace) (p pc c co : Nat) (hp : PH) (S : Nat → Prop) : Prop where
  clean : ∀ said, ¬ Race said t
  at_ : ∃ op, t[pc]? = some op ∧ op.g = c ∧ op.act = .close co
  heard : t.heard pc
  old : ∀ i a, i < p → touchAt t i = some a → a.loc.isMemory = true → Knows t 0 i
  new : ∀ i a, p ≤ i → touchAt t i = some a → a.loc.isMemory = true → ∃ r, blkOf a.loc = some r ∧ ((hp r ≠ none ∧ Knows t 0 i) ∨ (S r ∧ Before t i pc))
  over : ∀ i g, t.g? i = some g → g ≠ 0 → g ≠ c → t.counts i → ∃ j, t.g? j = some 0 ∧ HappensBefore t i j
  left : ∀ i, t.g? i = some c → (∃ a, touchAt t i = some a) → Before t i pc
  hears0 : Deaf t 0 = 0
  le : p ≤ t.size

section
variable {t u : Trace} {p pc c co : Nat} {hp hc : PH} {S : Nat → Prop}

/-- The close: a read of the channel's state, and the close itself. -/
theorem Mid.close (h : Mid t p c hp hc) (hc0 : 0 ≠ c) (hpo : hp co = none) {fn : FuncId} {pos : String} :
    Shut (t ++ MemOp.ofEvents c fn pos #[⟨.obj co, false, true⟩, ⟨.obj co, true, true⟩]) p (t.size + 1) c co hp (fun r => hc r ≠ none ∨ r = co) := by
  have hu : ∀ op ∈ MemOp.ofEvents c fn pos #[⟨.obj co, false, true⟩, ⟨.obj co, true, true⟩], op.g = c := own_of_ofEvents
  have e0 : MemOp.ofEvents c fn pos #[⟨.obj co, false, true⟩, ⟨.obj co, true, true⟩] = #[{ g := c, fn, pos, act := .access ⟨.obj co, false, true⟩ }, { g := c, fn, pos, act := .close co }] := by simp [MemOp.ofEvents, MemAct.ofEvent]
  rw [e0] at hu ⊢
  have g1 : (t ++ #[({ g := c, fn, pos, act := .access ⟨.obj co, false, true⟩ } : MemOp), { g := c, fn, pos, act := .close co }])[t.size]? = some { g := c, fn, pos, act := .access ⟨.obj co, false, true⟩ } := by
    rw [Array.getElem?_append_right (Nat.le_refl _)]; simp
  have g2 : (t ++ #[({ g := c, fn, pos, act := .access ⟨.obj co, false, true⟩ } : MemOp), { g := c, fn, pos, act := .close co }])[t.size + 1]? = some { g := c, fn, pos, act := .close co } := by
    rw [Array.getElem?_append_right (by omega)]; simp
  generalize hue : (#[({ g := c, fn, pos, act := .access ⟨.obj co, false, true⟩ } : MemOp), { g := c, fn, pos, act := .close co }] : Trace) = u at *
  have hkb : ∀ i, Knows t c i → Before (t ++ u) i (t.size + 1) := fun i hk => .inr (hk.hb_new (by omega) g2 rfl)
  have htouch : ∀ op ∈ u, ∀ a, op.act.touch? = some a → op.act = .access ⟨.obj co, false, true⟩ ∧ a = ⟨.obj co, false, .atomic⟩ := fun op hop a ha => by
    rw [← hue] at hop
    simp only [List.mem_toArray, List.mem_cons, List.not_mem_nil, or_false] at hop
    rcases hop with rfl | rfl
    · simp [MemAct.touch?] at ha; exact ⟨rfl, ha.symm⟩
    · simp [MemAct.touch?] at ha
  refine ⟨fun said => noRace_append (h.clean said) hu fun i a ha op hop b hb hcf => ?_, ⟨_, g2, rfl, rfl⟩, ⟨c, by simp [Trace.g?, g2], ?_⟩, fun i a hi ha hm => ?_, fun i a hi ha hm => ?_, fun i g hg hne hnc => over_app (K := fun g => g ≠ c) h.over (fun op hop => .inr (.inl (by simp [hu op hop]))) i g hg hne hnc, fun i hg ⟨a, ha⟩ => ?_, (Deaf_other t (Ne.symm hc0) _ hu).trans h.hears0, by have := h.le; simp; omega⟩
  · rcases Nat.lt_or_ge i p with hi | hi
    · exact (h.old i a hi ha hcf.2.1).2
    · obtain ⟨r, hr, h1 | h1⟩ := h.new i a hi ha hcf.2.1
      · obtain ⟨_, rfl⟩ := htouch op hop b hb
        rw [hcf.1] at hr
        simp [blkOf] at hr
        subst hr
        exact absurd hpo h1.1
      · exact h1.2
  · show (t ++ u).deaf c (t.size + 1) = 0
    rw [deaf_succ g1, deaf_old (Nat.le_refl _)]
    simp only [deafStep]
    exact h.hearsc
  · rcases touch_cases ha with ⟨_, ha'⟩ | ⟨hge, _⟩
    · exact (h.old i a hi ha' hm).1.app u
    · have := h.le; omega
  · rcases touch_cases ha with ⟨_, ha'⟩ | ⟨hge, op, hop, hat, hoa⟩
    · obtain ⟨r, h1, h2⟩ := h.new i a hi ha' hm
      exact ⟨r, h1, h2.imp (fun x => ⟨x.1, x.2.app u⟩) (fun x => ⟨.inl x.1, hkb i x.2⟩)⟩
    · obtain ⟨hoe, rfl⟩ := htouch op hop a hoa
      refine ⟨co, rfl, .inr ⟨.inr rfl, ?_⟩⟩
      have hi2 : i < t.size + 2 := by
        have := lt_size_of_getElem? hat
        rw [Array.size_append, ← hue] at this
        simpa using this
      rcases Nat.lt_or_ge i (t.size + 1) with hlt | hge'
      · exact .inr (hb_po hlt hat g2 (hu op hop))
      · exact .inl (by omega)
  · rcases touch_cases ha with ⟨hlt, ha'⟩ | ⟨hge, op, hop, hat, hoa⟩
    · obtain ⟨z, hz, hzg⟩ := Option.map_eq_some_iff.1 (show (t[i]?).map (·.g) = some c by rw [← getElem?_append_old (u := u) hlt]; exact hg)
      have := knows_own hz
      rw [hzg] at this
      exact hkb i this
    · have hi2 : i < t.size + 2 := by
        have := lt_size_of_getElem? hat
        rw [Array.size_append, ← hue] at this
        simpa using this
      rcases Nat.lt_or_ge i (t.size + 1) with hlt | hge'
      · exact .inr (hb_po hlt hat g2 (hu op hop))
      · exact .inl (by omega)

theorem heard_app (u : Trace) (h : t.heard pc) : (t ++ u).heard pc := by
  obtain ⟨g, hg, hd⟩ := h
  have hlt : pc < t.size := by
    unfold Trace.g? at hg
    obtain ⟨z, hz, _⟩ := Option.map_eq_some_iff.1 hg
    exact lt_size_of_getElem? hz
  exact (heard_old hlt).2 ⟨g, hg, hd⟩

theorem Shut.own0 (h : Shut t p pc c co hp S) (hc0 : 0 ≠ c) {hp' : PH} (hmine : ∀ r, hp r ≠ none → hp' r ≠ none) (hdis : ∀ r, hp' r = none ∨ ¬ S r) {fn : FuncId} {pos : String} {es : Array Event} (hes : ∀ e ∈ es, OwnEv hp' e) : Shut (t ++ MemOp.ofEvents 0 fn pos es) p pc c co hp' S := by
  have hu : ∀ op ∈ MemOp.ofEvents 0 fn pos es, op.g = 0 := own_of_ofEvents
  obtain ⟨cop, hcop, hcg, hca⟩ := h.at_
  refine ⟨fun said => noRace_append (h.clean said) hu fun i a ha op hop b hb hcf => ?_, ⟨cop, by rw [getElem?_append_old (lt_size_of_getElem? hcop)]; exact hcop, hcg, hca⟩, heard_app _ h.heard, fun i a hi ha hm => ?_, fun i a hi ha hm => ?_, fun i g hg hne hnc => over_app (K := fun g => g ≠ c) h.over (fun op hop => .inl (hu op hop)) i g hg hne hnc, fun i hg ⟨a, ha⟩ => ?_, ?_, by have := h.le; simp; omega⟩
  · rcases Nat.lt_or_ge i p with hi | hi
    · exact h.old i a hi ha hcf.2.1
    · obtain ⟨r, hr, h1 | h1⟩ := h.new i a hi ha hcf.2.1
      · exact h1.2
      · obtain ⟨_, r', hr', h2⟩ := touch_ofEvents hes hop hb (hcf.1 ▸ hcf.2.1)
        rw [← hcf.1, hr] at hr'
        cases hr'
        rcases hdis r with h3 | h3
        · exact absurd h3 h2
        · exact absurd h1.1 h3
  · rcases touch_cases ha with ⟨_, ha'⟩ | ⟨hge, _⟩
    · exact (h.old i a hi ha' hm).app _
    · have := h.le; omega
  · rcases touch_cases ha with ⟨_, ha'⟩ | ⟨_, op, hop, hat, hoa⟩
    · obtain ⟨r, h1, h2⟩ := h.new i a hi ha' hm
      exact ⟨r, h1, h2.imp (fun x => ⟨hmine r x.1, x.2.app _⟩) (fun x => ⟨x.1, x.2.app _⟩)⟩
    · obtain ⟨hg, r, hr, h2⟩ := touch_ofEvents hes hop hoa hm
      have := knows_own hat
      rw [hg] at this
      exact ⟨r, hr, .inl ⟨h2, this⟩⟩
  · rcases touch_cases ha with ⟨hlt, ha'⟩ | ⟨_, op, hop, hat, hoa⟩
    · exact (h.left i (by simpa [Trace.g?, getElem?_append_old hlt] using hg) ⟨a, ha'⟩).app _
    · have : op.g = c := by simpa [Trace.g?, hat] using hg
      exact absurd ((hu op hop).symm.trans this) hc0
  · rw [Deaf_own]
    exact (deafBehind_still (fun e he => (hes e he).1) _).trans h.hears0

theorem Shut.mute (h : Shut t p pc c co hp S) (hu : ∀ op ∈ u, op.act.touch? = none) (h0 : Deaf (t ++ u) 0 = Deaf t 0) : Shut (t ++ u) p pc c co hp S := by
  obtain ⟨cop, hcop, hcg, hca⟩ := h.at_
  refine ⟨fun said => noRace_none (h.clean said) hu, ⟨cop, by rw [getElem?_append_old (lt_size_of_getElem? hcop)]; exact hcop, hcg, hca⟩, heard_app _ h.heard, fun i a hi ha hm => ?_, fun i a hi ha hm => ?_, fun i g hg hne hnc => over_app (K := fun g => g ≠ c) h.over (fun op hop => .inr (.inr (hu op hop))) i g hg hne hnc, fun i hg ⟨a, ha⟩ => ?_, h0.trans h.hears0, by have := h.le; simp; omega⟩
  · rcases touch_cases ha with ⟨_, ha'⟩ | ⟨_, op, hop, _, hoa⟩
    · exact (h.old i a hi ha' hm).app u
    · rw [hu op hop] at hoa; cases hoa
  · rcases touch_cases ha with ⟨_, ha'⟩ | ⟨_, op, hop, _, hoa⟩
    · obtain ⟨r, h1, h2⟩ := h.new i a hi ha' hm
      exact ⟨r, h1, h2.imp (fun x => ⟨x.1, x.2.app u⟩) (fun x => ⟨x.1, x.2.app u⟩)⟩
    · rw [hu op hop] at hoa; cases hoa
  · rcases touch_cases ha with ⟨hlt, ha'⟩ | ⟨_, op, hop, _, hoa⟩
    · exact (h.left i (by simpa [Trace.g?, getElem?_append_old hlt] using hg) ⟨a, ha'⟩).app u
    · rw [hu op hop] at hoa; cases hoa

/-- Goroutine 0 finds the channel closed: it knows all. -/
theorem Shut.end_ (h : Shut t p pc c co hp S) (hc0 : 0 ≠ c) {fn : FuncId} {pos : String} : Past (t ++ #[{ g := 0, fn, pos, act := .recvClosed co }]) := by
  obtain ⟨cop, hcop, hcg, hca⟩ := h.at_
  have hlt := lt_size_of_getElem? hcop
  have g1 : (t ++ #[({ g := 0, fn, pos, act := .recvClosed co } : MemOp)])[t.size]? = some { g := 0, fn, pos, act := .recvClosed co } := by
    rw [Array.getElem?_append_right (Nat.le_refl _)]; simp
  have hu : ∀ op ∈ (#[({ g := 0, fn, pos, act := .recvClosed co } : MemOp)] : Trace), op.act.touch? = none ∧ op.g = 0 := fun op hop => by
    simp only [List.mem_toArray, List.mem_cons, List.not_mem_nil, or_false] at hop
    subst hop
    exact ⟨rfl, rfl⟩
  have hd0 : Deaf (t ++ #[({ g := 0, fn, pos, act := .recvClosed co } : MemOp)]) 0 = Deaf t 0 := by rw [Deaf_push]; rfl
  generalize (#[({ g := 0, fn, pos, act := .recvClosed co } : MemOp)] : Trace) = u at *
  have hedge : HappensBefore (t ++ u) pc t.size := by
    refine .single (.inr ⟨.closed (c := co) ?_ ?_, heard_app u h.heard, ⟨0, by simp [Trace.g?, g1], ?_⟩⟩)
    · rw [act?_of (by rw [getElem?_append_old hlt]; exact hcop), hca]
    · rw [act?_of g1]
    · rw [deaf_old (Nat.le_refl _)]; exact h.hears0
  have hk0 : Knows (t ++ u) 0 t.size := ⟨t.size, _, g1, rfl, .inl rfl⟩
  have hbk : ∀ i, Before t i pc → HappensBefore (t ++ u) i t.size := fun i hb => (hb.app u).hb hedge
  refine ⟨fun said => noRace_none (h.clean said) fun op hop => (hu op hop).1, fun i a ha hm => ?_, fun i g hg hne hcnt => ?_, hd0.trans h.hears0⟩
  · rcases touch_cases ha with ⟨_, ha'⟩ | ⟨_, op, hop, _, hoa⟩
    · rcases Nat.lt_or_ge i p with hi | hi
      · exact (h.old i a hi ha' hm).app u
      · obtain ⟨r, hr, h1 | h1⟩ := h.new i a hi ha' hm
        · exact h1.2.app u
        · exact Knows.of_before (.inr (hbk i h1.2)) hk0
    · rw [(hu op hop).1] at hoa; cases hoa
  · by_cases hgc : g = c
    · subst hgc
      obtain ⟨x, hx, hx2⟩ := hcnt
      rcases touch_cases (show touchAt (t ++ u) i = some x from hx) with ⟨hil, ha'⟩ | ⟨_, op, hop, _, hoa⟩
      · exact ⟨t.size, by simp [Trace.g?, g1], hbk i (h.left i (by simpa [Trace.g?, getElem?_append_old hil] using hg) ⟨x, ha'⟩)⟩
      · rw [(hu op hop).1] at hoa; cases hoa
    · exact over_app (K := fun g => g ≠ c) h.over (fun op hop => .inl (hu op hop).2) i g hg hne hgc hcnt
end
end Go.Proofs.Ytfaadjmglboaoaa
