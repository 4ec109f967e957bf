/-
  A SLICE OF THREE-CELL STRUCTS THAT CAME IN: what it holds; and it reads behind the call as it did.
-/
import Derived.Test.YtfaadjmglboaoaaRead
import Derived.Test.YtfaadjmglboaoaaSame
import Derived.Carry
import Derived.Deep.Strs
namespace Go.Proofs.Ytfaadjmglboaoaa
open Go.ChangeShapes Go.WideShapes Go.ChangeAt Go.RowKit Go.Conc Go.Deep

instance : Inhabited T3 := ⟨⟨0, 0, { data := #[] }⟩⟩

theorem globals_one : ((List.range Try.prog.globals.size).all fun g => decide ((((begin Try.prog (fun _ _ => 0) default).world.heap[g]?).bind Obj.row?).map (·.1.size) = some 1)) = true := by kernel_rfl

/-- A global's block has one cell. -/
def OneG (W : World) : Prop := ∀ g, g < Try.prog.globals.size → ∀ i v, W.cell? ⟨g, i, none⟩ = some v → i = 0

theorem one_of_shape {w : World} (h : w.ShapedOpen Try.prog) : OneG w := fun g hg i v hv => by
  have := of_decide_eq_true (List.all_eq_true.1 globals_one g (List.mem_range.2 hg))
  obtain ⟨⟨zero, t⟩, hr, hz⟩ := Option.map_eq_some_iff.1 this
  obtain ⟨cs, hc, hs, _⟩ := h.1 g zero t hg hr
  simp only [World.cell?, hc, Option.isSome_none, if_neg (by decide : ¬ (false = true))] at hv
  have hi := (Array.getElem?_eq_some_iff.1 hv).1
  simp only at hz
  omega

theorem flat_cell (l : List T3) (q : Nat) (x : T3) (hq : l[q]? = some x) (r : Nat) (hr : r < 3) : (flat l)[q * 3 + r]? = x.cells[r]? := by
  induction l generalizing q with
  | nil => simp at hq
  | cons y l ih =>
    have e : flat (y :: l) = y.cells ++ flat l := rfl
    have hy : y.cells.length = 3 := rfl
    rw [e]
    cases q with
    | zero =>
      simp at hq
      subst hq
      rw [List.getElem?_append_left (by omega)]; congr 1; omega
    | succ q =>
      rw [List.getElem?_append_right (by omega), hy, show (q + 1) * 3 + r - 3 = q * 3 + r by omega]
      exact ih q (by simpa using hq)

/-- What three cells are. -/
def T3.good (x : T3) : Prop := (Lit.int .i64 x.a).wf = true ∧ (Lit.int .i64 x.b).wf = true ∧ x.s.size ≤ maxLen

theorem three_of {cs : List Value} (h : cs.length = 3) : ∃ a b c, cs = [a, b, c] := by
  match cs, h with
  | [a, b, c], _ => exact ⟨_, _, _, rfl⟩

section
variable {H : Type} {enc : TypeId × Value → H} {W : World}
theorem open_t3 {t e : TypeId} {a : Option Addr} {len cap : Nat} {d : DataW H} {ps : List MemPlace} {f0 f1 f2 : Field} (hone : OneG W) (ht : Try.prog.underlying t = some (.slice e)) (he : Try.prog.underlying e = some (.struct #[f0, f1, f2]))
    (hc : Try.prog.cellsOf e = 3) (h0 : f0.offset = 0) (h1 : f1.offset = 1) (h2 : f2.offset = 2) (k0 : f0.type = 3) (k1 : f1.type = 3) (k2 : f2.type = 9)
    (h : DataW.Trod enc Try.prog W 0 (fun _ => true) true t (.slice a len cap) d ps) :
    ∃ l : List T3, l.length = len ∧ RSl (mine Try.prog W) 3 (.slice a l.length cap) l.length (flat l) ∧ ∀ x ∈ l, x.good := by
  obtain ⟨fuel, hf⟩ := h
  rcases open_slice ht hf with ⟨hcs, _⟩ | ⟨x, l, c, m, n, D, Pl, hcs, _, hl, _, hm, _, hel⟩
  · simp [Value.cells] at hcs
    obtain ⟨rfl, rfl, rfl⟩ := hcs
    exact ⟨[], rfl, ⟨rfl, .inl ⟨rfl, _, _, rfl⟩⟩, by simp⟩
  · simp [Value.cells] at hcs
    obtain ⟨rfl, rfl, rfl⟩ := hcs
    rw [if_pos rfl] at hm
    subst hm
    have hi3 : Try.prog.cellsOf 3 = 1 := by kernel_rfl
    have hi9 : Try.prog.cellsOf 9 = 1 := by kernel_rfl
    have hall : ∀ i, i < len → ∃ y : T3, y.good ∧ W.cells? 0 (x.add (i * 3)) 3 = some y.cells := by
      intro i hi
      obtain ⟨cs, e1, e2⟩ := hel i (by omega)
      rw [hc] at e1
      obtain ⟨y0, y1, y2, n', _, e3, e4, e5, e6⟩ := trod_struct3 he e2
      rw [hc] at e3
      obtain ⟨c0, c1, c2, rfl⟩ := three_of e3
      rw [k0, h0, hi3] at e4
      rw [k1, h1, hi3] at e5
      rw [k2, h2, hi9] at e6
      obtain ⟨v0, q0, _, g0⟩ := DataW.trod_int Try.underlying3 e4
      obtain ⟨v1, q1, _, g1⟩ := DataW.trod_int Try.underlying3 e5
      obtain ⟨v2, q2, _, g2⟩ := DataW.trod_string Try.underlying9 e6
      simp at q0 q1 q2
      subst q0; subst q1; subst q2
      exact ⟨⟨v0, v1, v2⟩, ⟨g0, g1, g2⟩, e1⟩
    obtain ⟨F, hF⟩ := choose_lt hall
    have hlen : ((List.range len).map F).length = len := by simp
    have hget : ∀ i, i < len → ((List.range len).map F)[i]? = some (F i) := fun i hi => by simp [hi]
    refine ⟨(List.range len).map F, hlen, ?_, ?_⟩
    · rw [hlen]
      refine ⟨by rw [flat_length, hlen], ?_⟩
      rcases Nat.eq_zero_or_pos len with hz | hp
      · subst hz; exact .inl ⟨rfl, _, _, rfl⟩
      · right
        have hcell : ∀ i, i < len → ∀ r, r < 3 → W.cell? (x.add (i * 3 + r)) = (F i).cells[r]? := fun i hi r hr => by
          have := (World.cells?_some (hF i hi).2).2.2 r hr
          rwa [add_add] at this
        have hcell1 := hcell 0 hp 1 (by decide)
        have hsp := World.cell?_spot (hcell 0 hp 0 (by decide))
        obtain ⟨B, o, sp⟩ := x
        simp only [Addr.add] at hsp
        obtain rfl : sp = none := hsp
        have hcell' : ∀ i, i < len → ∀ r, r < 3 → W.cell? ⟨B, o + (i * 3 + r), none⟩ = (F i).cells[r]? := fun i hi r hr => by
          have := hcell i hi r hr
          unfold Addr.add at this
          split at this
          · rename_i hz; rw [hz, Nat.add_zero]; exact this
          · exact this
        have hB : Try.prog.globals.size ≤ B := by
          rcases Nat.lt_or_ge B Try.prog.globals.size with hlt | hge
          · have := hone B hlt _ _ (hcell' 0 hp 1 (by decide))
            omega
          · exact hge
        refine ⟨B, o, _, rfl, ?_⟩
        have hc0 := hcell' 0 hp 0 (by decide)
        unfold World.cell? at hc0
        cases hb : W.heap[B]? with
        | none => rw [hb] at hc0; cases hc0
        | some ob =>
          rw [hb] at hc0
          cases ob with
          | cells cur ty f =>
            refine ⟨cur, ty, f, by unfold mine; rw [if_pos hB]; exact hb, fun i v hv => ?_⟩
            have hi : i < len * 3 := by
              have := (List.getElem?_eq_some_iff.1 hv).1
              rwa [flat_length, hlen] at this
            have hq : i / 3 < len := by omega
            have hsplit : i = i / 3 * 3 + i % 3 := by omega
            have h3 := flat_cell _ (i / 3) _ (hget _ hq) (i % 3) (by omega)
            rw [← hsplit, hv] at h3
            have h4 := hcell' (i / 3) hq (i % 3) (by omega)
            rw [← hsplit, ← h3] at h4
            unfold World.cell? at h4
            rw [hb] at h4
            simpa using h4
          | _ => cases hc0
    · intro y hy
      obtain ⟨i, hi, rfl⟩ := List.mem_map.1 hy
      exact (hF i (List.mem_range.1 hi)).1

theorem laidOut : laidOutB Try.prog = true := by kernel_rfl

/-- It reads as it did. -/
theorem trod_grew {u : World} {τ : Nat → Question → Nat} {d' : Nat} {t : TypeId} {v : Value} {d : DataW H} {ps : List MemPlace} (hr : Try.prog.readableRec t = true) (hrow : t < Try.prog.types.size) (h : DataW.Trod enc Try.prog W 0 (fun _ => true) true t v d ps) (hg : Grew W u) :
    DataW.Trod enc Try.prog (tap u τ d') 0 (fun b => decide (b < W.heap.size)) true t v d ps := by
  have hlt : ∀ x ∈ ps, x.block < W.heap.size := by obtain ⟨m, hm⟩ := h; exact DataW.trod_lt m _ _ _ hm
  refine WideElems.Trod_stays laidOut hr hrow h (fun x hx => ?_) (fun x hx => by simpa using hlt x hx)
  have hb : ∀ k, k < W.heap.size → (tap u τ d').heap[k]? = W.heap[k]? := hg.old
  cases x with
  | cell b o => exact World.cell?_of_block (w := W) (hb b (hlt _ hx))
  | map b => exact hb b (hlt _ hx)

theorem grew_frame {W u : World} (h : Grew W u) (τ : Nat → Question → Nat) (d : Nat) (may : MemPlace → Prop) : W.keptBut (tap u τ d) may := by
  refine ⟨h.os, h.output, fun i hi => ?_⟩
  rw [show (tap u τ d).heap[i]? = W.heap[i]? from h.old i hi]
  split <;> simp_all

set_option maxRecDepth 100000 in
/-- From a walk from every start to the row's contract; the walk is told that a global's block has one cell. -/
theorem returns_of_ends2 {a : Assume} {os : Os} {f : FuncId} {fn : Func} {s : ChangeSpec} {conds : List PathCond} {apart fresh handsOn again : Bool}
    (own : ownKnob Try.prog.godebug = none) (started : os.Started) (hfn : Try.prog.funcs[f]? = some fn)
    (witness : ∃ (w : World) (tape : Tape) (i : Input), w.os = os ∧ (w.forCall tape i).Shaped Try.prog ∧ i.vars = [] ∧ Input.okWide Try.prog (w.forCall tape i) .any w.heap.size f i ∧
      s.pre6 enc Try.prog fn conds apart (w.forCall tape i).memory i.args ∧ a.holds Try.prog (lone (Frame.enter Try.prog f i.args .normal) [] (w.forCall tape i)))
    (runs : ∀ (W : World) (base : Nat) (args : Array Value) (ds gs : List (DataW H)) (before : List MemPlace),
      (∀ (j : Nat) t v, fn.params[j]? = some t → args[j]? = some v → Value.okWide Try.prog W .any base t v) →
      DataW.Whole enc Try.prog fn.params.toList s.vars apart W args.toList ds gs before →
      conds.all (PathCond.test Try.prog ⟨fn.params.toList, ds, s.plain.varTypes Try.prog, gs⟩) = true →
      (DataW.weightsEach Try.prog (fn.params.toList ++ s.plain.varTypes Try.prog) (ds ++ gs)).all (· ≤ reachBytes) = true →
      Cl Try.prog W → OneG W → Ends Try.prog (fun v W' => s.post enc Try.prog fn apart fresh handsOn again W args v W') (G (Frame.enter Try.prog f args .normal) []) W) :
    ReturnsInLeavingWide a Try.checked os f .any (s.pre6 enc Try.prog fn conds apart) (s.post enc Try.prog fn apart fresh handsOn again) := by
  refine returnsInLeavingWide_of_good (C := Try.checked) own started witness ?_
  intro w tape i _ hshape _ hok hpre _
  obtain ⟨_, _, _, fn', hfn', _, _, _, _, hval⟩ := hok
  have e : fn' = fn := Option.some.inj (hfn'.symm.trans hfn)
  subst e
  obtain ⟨⟨ds, gs, before, hw, hc⟩, hz⟩ := hpre
  have hw' := DataW.Whole.of_heap (w' := w.forCall tape i) (by rfl) hw
  have hcl : Cl Try.prog (w.forCall tape i) := cl_of_shape hshape
  obtain ⟨M, last, o, w', t', h1, h2, h3, h4⟩ := Ends.start hcl (runs (w.forCall tape i) w.heap.size i.args ds gs before hval hw' hc (hz.weights hw) hcl (one_of_shape hshape))
  exact ⟨M, last, o, w', t', h1, h2, h3, h4.mono fun v hp => ChangeSpec.post_blind hp⟩
end
end Go.Proofs.Ytfaadjmglboaoaa
