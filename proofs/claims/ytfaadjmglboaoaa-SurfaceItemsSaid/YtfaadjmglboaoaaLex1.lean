/-
  RULES FOR GOROUTINE 0: beside leavers, in the phase, at its return.
-/
import Derived.Test.YtfaadjmglboaoaaApp
import Derived.Conc.AppendWalk
namespace Go.Proofs.Ytfaadjmglboaoaa
open Go.Conc Go.RowKit

/-- A view that shows memory, for reading. -/
structure LensR {V : Type} (X : View V) (v : V) (h : PH) : Prop where
  holds : ∀ w, X.Holds v w → viewB.Holds h w
  st : ∀ w es, X.Holds v w → (∀ e ∈ es, OwnEv h e) → X.St v w w es v

theorem Lens.r {V : Type} {X : View V} {v : V} {h : PH} {mk : PH → V} (L : Lens X v h mk) : LensR X v h :=
  ⟨L.holds, fun w es hw he => by have := L.st w w es h hw ⟨he, kept_refl (L.holds w hw)⟩; rw [L.at_] at this; exact this⟩

/-- The whole memory. -/
def allOf (u : World) : PH := fun r => u.heap[r]?
theorem lensA {P : Program} (u : World) : LensR (viewL P) (.a u) (allOf u) :=
  ⟨fun w ⟨_, τ, d, hw⟩ r o ho => (by subst hw; exact ho), fun w es ⟨hc, τ, d, hw⟩ he => ⟨fun e x => (he e x).1, by subst hw; exact hc.tap τ d, τ, d, hw⟩⟩

section rules
variable {V : Type} {main : Bool} {X : View V} {GL : (Goroutine → V → Prop) → Prop} {kd : Bool} {fn : FuncId} {Q : Exit → Act → V → Prop} {v : V} {h : PH} {mk : PH → V} {d n : Nat} {x : Value} {σ : Nat → Value} {l : List (Nat × Value)} {ds : List Deferred} {ops : Array Oper} {md : Region.Mode}

theorem opsF_rdR (hGL : ∀ E, GL E → Closed Try.prog main X E) (L : LensR X v h) {i : Nat} {rest : List Nat} {o : Oper} (ho : ops[i]? = some o) (hw : Region.wanted o (yielded ops (fr n σ l ds).tmps) = true) (hd : o.dst = some d)
    (hy : Rds h (ev n σ l) o x) (hn : OpsG GL kd fn ops rest Q (fr n σ ((d, x) :: l) ds) v) : OpsG GL kd fn ops (i :: rest) Q (fr n σ l ds) v := by
  refine opsG_read hGL ho hw fun w hw' => ?_
  have hy := hy w (L.holds w hw')
  rw [← fr_eval (n := n) (σ := σ) (l := l) (ds := ds)] at hy
  refine ⟨fun K hK => ?_, L.st w _ hw' fun e he => hy.2 e (mem_listed he)⟩
  rw [hy.1]
  refine hK _ ?_
  rw [hd, fr_put]
  exact hn
theorem anyF_rdR {S : V → Prop} (hSv : S v) {i : Nat} {o : Oper} {fuel : Nat} {lst : Array Bool} (hi : ops[i]? = some o) (hs : Region.noSelect ops = true) (hf : Region.free md ops lst i = true) (hr : (Region.ready md ops lst).contains i = true)
    (hw : Region.wanted o (yielded ops (fr n σ l ds).tmps) = true) (hd : o.dst = some d) (hy : ∀ u, S u → ∃ h, LensR X u h ∧ Rds h (ev n σ l) o x)
    (hn : AnyV Try.prog X GL fn md ops Q S fuel (lst.setIfInBounds i true) (fr n σ ((d, x) :: l) ds) v) : AnyV Try.prog X GL fn md ops Q S (fuel + 1) lst (fr n σ l ds) v := by
  refine anyV_take hi hs hf hr (.inl ⟨hw, fun u hu w hw' => ?_⟩) hSv (x := x) (by rw [hd, fr_put]; exact hn)
  obtain ⟨h, L, hy⟩ := hy u hu
  have hy := hy w (L.holds w hw')
  rw [← fr_eval (n := n) (σ := σ) (l := l) (ds := ds)] at hy
  exact ⟨hy.1, L.st w _ hw' fun e he => hy.2 e (mem_listed he)⟩
/-- One that only reckons. -/
theorem anyF_val (I : Idle X) {S : V → Prop} (hSv : S v) {i : Nat} {o : Oper} {fuel : Nat} {lst : Array Bool} (hi : ops[i]? = some o) (hs : Region.noSelect ops = true) (hf : Region.free md ops lst i = true) (hr : (Region.ready md ops lst).contains i = true)
    (hw : Region.wanted o (yielded ops (fr n σ l ds).tmps) = true) (hd : o.dst = some d) (hy : Ylds (ev n σ l) o x)
    (hn : AnyV Try.prog X GL fn md ops Q S fuel (lst.setIfInBounds i true) (fr n σ ((d, x) :: l) ds) v) : AnyV Try.prog X GL fn md ops Q S (fuel + 1) lst (fr n σ l ds) v := by
  refine anyV_take hi hs hf hr (.inl ⟨hw, fun u hu w hw' => ?_⟩) hSv (x := x) (by rw [hd, fr_put]; exact hn)
  have hy := hy w
  rw [← fr_eval (n := n) (σ := σ) (l := l) (ds := ds)] at hy
  exact ⟨hy.1, by rw [listed_nil hy.2]; exact I u w hw'⟩

/-- append. -/
theorem opsF_append (hGL : ∀ E, GL E → Closed Try.prog main X E) (L : Lens X v h mk) {i : Nat} {rest : List Nat} {o : Oper} {a b : Operand} {m : Nat} {xs : List Value} {A : Nat} {x y z s : Value} (ho : ops[i]? = some o) (hw : Region.wanted o (yielded ops (fr n σ l ds).tmps) = true) (hd : o.dst = some d)
    (hop : o.op = .call { callee := .builtin .append, args := #[a, b], argTypes := #[36, 36] }) (ha : ev n σ l a = s) (hb : ev n σ l b = .slice (some ⟨A, 0, none⟩) 1 1)
    (hO : POwn h 40 s m xs) (hA : h A = some (.cells #[x, y, z] 40)) (h1 : x.oneCell' = true ∧ y.oneCell' = true ∧ z.oneCell' = true) (hm : m ≤ 2 ^ 40)
    (hn : ∀ v' h', POwn h' 40 v' (m + 1) (xs ++ [x, y, z]) → (∀ r o, h r = some o → some r ≠ s.ownBlock → h' r = some o) → OpsG GL kd fn ops rest Q (fr n σ ((d, v') :: l) ds) (mk h')) : OpsG GL kd fn ops (i :: rest) Q (fr n σ l ds) v := by
  refine opsG_cons hGL ho hw fun w hw' => ?_
  rw [← fr_eval (n := n) (σ := σ) (l := l) (ds := ds)] at ha hb
  obtain ⟨v', w', h', hr, he, hk, hO', hold⟩ := append_b (ty := o.type) (L.holds w hw') hO hA h1 hm
  refine uponK_append (o := o) a b 36 hop ha hb hr ⟨mk h', L.st _ _ _ _ hw' ⟨fun e hx => he e ?_, hk⟩, ?_⟩
  · have := mem_listed hx
    rw [events_append_op a b 36 hop ha hb] at this
    exact this
  · rw [hd, fr_put]
    exact hn v' h' hO' hold
end rules

section
variable {ρ : Operand → Value} {d : Option Tmp} {ty : TypeId} {pos : String} {af : Array Edge} {gu : Option (Nat × Bool)}
theorem y_gtr {x y : Operand} {m k : Int} (hx : ρ x = .int .i64 m) (hy : ρ y = .int .i64 k) {r : Bool} (hr : decide (k < m) = r) : Ylds ρ ⟨d, .binOp .gtr 3 x y 3, ty, pos, af, gu⟩ (.bool r) := fun w =>
  ⟨eq_of_K fun K hK => by subst hr; go_simp; exact hK, by simp [go_sem, hx, hy]⟩
theorem rd_load40 {h : PH} {a : Operand} {N k : Nat} {ty0 : TypeId} {c : Array Value} {f : Nat × Nat} {x0 x1 x2 : Value} (ha : ρ a = .pointer (some ⟨N, k, none⟩)) (hN : h N = some (.cells c ty0 f)) (h0 : c[k]? = some x0) (h1 : c[k + 1]? = some x1) (h2 : c[k + 2]? = some x2) : Rds h ρ ⟨d, .load 40 a, ty, pos, af, gu⟩ (.agg #[x0, x1, x2]) := fun w hw => by
  have c0 : w.cell? ⟨N, k, none⟩ = some x0 := cell_of hw hN h0
  have c1 : w.cell? ⟨N, k + 1, none⟩ = some x1 := cell_of hw hN h1
  have c2 : w.cell? ⟨N, k + 2, none⟩ = some x2 := cell_of hw hN h2
  refine ⟨eq_of_K fun K hK => by go_simp; exact hK, fun e he => ?_⟩
  simp [go_sem, ha, c0, c1, c2] at he
  rcases he with rfl | rfl | rfl <;> exact ownEv_cell (by simp [hN])
theorem run_chan {c : Operand} (hc : ρ c = .int .i64 0) (t : TypeId) (ht : t = 75 ∨ t = 76) (w : World) :
    (execOp ρ ⟨d, .makeChan t c, ty, pos, af, gu⟩).run Try.prog w = .ok (.value (.chan (some w.heap.size))) { w with heap := w.heap.push (.chan 0 #[] false 0 0 false) } ∧
    (execOp ρ ⟨d, .makeChan t c, ty, pos, af, gu⟩).events Try.prog w #[] = #[] := by
  rcases ht with rfl | rfl
  all_goals
    constructor
    · simp [go_sem, hc, Instr.makeChan, underlying, asIntOf]
    · simp [go_sem, hc, Instr.makeChan, underlying, asIntOf]
theorem run_recv {a : Operand} {co : Nat} (ha : ρ a = .chan (some co)) (w : World) : (execOp ρ ⟨d, .recv 75 a true, ty, pos, af, gu⟩).run Try.prog w = .ok (.comm #[rcase co zItem] true (.recv true)) w ∧ (execOp ρ ⟨d, .recv 75 a true, ty, pos, af, gu⟩).events Try.prog w #[] = #[] := by
  constructor
  · simp [go_sem, ha, rcase, zItem]
  · simp [go_sem]
end

/-! ### Beside leavers -/
section beside
variable {P : Program} {fn : FuncId} {Q : Exit → Act → VL → Prop} {v : World} {d n : Nat} {σ : Nat → Value} {l : List (Nat × Value)} {ds : List Deferred} {ops : Array Oper}

/-- A new block, in whatever order. -/
theorem opV_newA {GL : (Goroutine → VL → Prop) → Prop} {i : Nat} {o : Oper} {K : Act → VL → Prop} {x : Value} {ob : Obj} (hi : ops[i]? = some o) (hw : Region.wanted o (yielded ops (fr n σ l ds).tmps) = true) (hd : o.dst = some d)
    (hr : ∀ w, w.heap = v.heap → (execOp (ev n σ l) o).run Try.prog w = .ok (.value x) { w with heap := w.heap.push ob } ∧ (execOp (ev n σ l) o).events Try.prog w #[] = #[])
    (h : K (fr n σ ((d, x) :: l) ds) (.a { v with heap := v.heap.push ob })) : OpV Try.prog (viewL Try.prog) GL fn ops i K (fr n σ l ds) (.a v) := by
  unfold OpV
  simp only [hi, hw, if_true]
  rintro w ⟨hc, τ, d', rfl⟩
  have hr := hr (tap v τ d') rfl
  rw [← fr_eval (n := n) (σ := σ) (l := l) (ds := ds)] at hr
  rw [hr.1]
  refine ⟨.a { v with heap := v.heap.push ob }, ?_, by rw [hd, fr_put]; exact h⟩
  rw [listed_nil hr.2]
  exact ⟨by simp, (hc.new ob).tap τ d', τ, d', rfl⟩

/-- What is known of the world where a walk goes on. -/
theorem callsG_cl {f : FuncId} {args : Array Value} {Post : Value → VL → Prop} (h : Cl P v → CallsG P (GL0 P) f args (.a v) Post) : CallsG P (GL0 P) f args (.a v) Post := fun E hE c cs hc => by
  by_cases hcl : Cl P v
  · exact h hcl E hE c cs hc
  · exact gl0 E hE _ _ rfl fun w hw => absurd hw.1 hcl

theorem tap_setHeap (u : World) (τ : Nat → Question → Nat) (d : Nat) (hp : Array Obj) : ({ tap u τ d with heap := hp } : World) = tap { u with heap := hp } τ d := rfl

/-- A callee's contract, out of its text; it may leave the closing of a channel for its return. -/
theorem callsL_of_wp {f : FuncId} {fu : Func} {c : Code} {args : Array Value} {Post : Value → VL → Prop} (hf : P.funcs[f]? = some fu) (hb : fu.body = some c)
    (h : WpG (GL0 P) false f c (fun e a' v' => (e = .normal ∨ e = .ret) ∧ ∃ r, ResultsC P fu a'.tmps r ∧ ((a'.defers = [] ∧ Post r v') ∨
      ∃ u cq ats t cc s k tm, v' = .a u ∧ a'.defers = [closer cq ats t cc] ∧ u.heap[cq]? = some (.chan 0 #[] false s k tm) ∧ Post r (.a { u with heap := u.heap.setIfInBounds cq (.chan 0 #[] true s k tm) })))
      { tmps := args ++ Array.replicate (fu.ntmps - args.size) undef, defers := [] } (.a v)) : CallsG P (GL0 P) f args (.a v) Post := by
  intro E hE c0 cs hc
  rw [enter_at args hf hb]
  have hleave : ∀ (a' : Act) (v' : VL) (todo : List Item) (r : Value), a'.defers = [] → ResultsC P fu a'.tmps r → Post r v' → E (G { (base f).at a' todo with mode := .returning } (c0 :: cs)) v' := by
    intro a' v' todo r hd hr hp
    exact ctl gl0 idleL hE rfl (fun w => stepG_leave (b := base f) rfl hd hf (hr w).1 (hr w).2) (hc r v' hp)
  have hend : ∀ (a' : Act) (v' : VL) (todo : List Item), (∃ r, ResultsC P fu a'.tmps r ∧ ((a'.defers = [] ∧ Post r v') ∨
      ∃ u cq ats t cc s k tm, v' = .a u ∧ a'.defers = [closer cq ats t cc] ∧ u.heap[cq]? = some (.chan 0 #[] false s k tm) ∧ Post r (.a { u with heap := u.heap.setIfInBounds cq (.chan 0 #[] true s k tm) }))) →
      E (G { (base f).at a' todo with mode := .returning } (c0 :: cs)) v' := by
    rintro a' v' todo ⟨r, hr, ⟨hd, hp⟩ | ⟨u, cq, ats, t, cc, s, k, tm, rfl, hd, hq, hp⟩⟩
    · exact hleave a' v' todo r hd hr hp
    · refine gl0 E hE _ (.a u) rfl ?_
      rintro w ⟨hcl, τ, d, rfl⟩
      refine ⟨_, _, _, .a { u with heap := u.heap.setIfInBounds cq (.chan 0 #[] true s k tm) }, close_step (b := base f) (a := a') (todo := todo) hd hq, ⟨?_, ?_, τ, d, rfl⟩, hleave ⟨a'.tmps, []⟩ _ todo r rfl hr hp⟩
      · intro e he
        simp at he
        rcases he with rfl | rfl <;> exact ⟨by simp, by simp⟩
      · intro g hg
        obtain ⟨c, t, f, e⟩ := hcl g hg
        refine ⟨c, t, f, ?_⟩
        show (u.heap.setIfInBounds cq _)[g]? = _
        rw [Array.getElem?_setIfInBounds_ne]
        · exact e
        · rintro rfl
          rw [e] at hq; cases hq
  refine h E hE (base f) [] (c0 :: cs) rfl rfl fun e a' v' ⟨he, q⟩ => ?_
  rcases he with rfl | rfl
  · exact ctl gl0 idleL hE rfl (fun _ => stepG_end) (hend a' v' [] q)
  · exact fun todo => hend a' v' todo q

theorem opsF_defer (hv : VL) {kd : Bool} {i : Nat} {rest : List Nat} {o : Oper} {df : Deferred} (ho : ops[i]? = some o) (hw : Region.wanted o (yielded ops (fr n σ l ds).tmps) = true) (hd : o.dst = none)
    (hr : ∀ w, (execOp (ev n σ l) o).run P w = .ok (.defer df) w ∧ (execOp (ev n σ l) o).events P w #[] = #[]) (h : OpsG (GL0 P) kd fn ops rest Q (fr n σ l (df :: ds)) hv) : OpsG (GL0 P) kd fn ops (i :: rest) Q (fr n σ l ds) hv := by
  rw [← fr_eval (n := n) (σ := σ) (l := l) (ds := ds)] at hr
  refine opsG_defer gl0 idleL ho hw hr ?_
  rw [hd]
  exact h
theorem run_closer {ρ : Operand → Value} {d : Option Tmp} {ty : TypeId} {pos : String} {af : Array Edge} {gu : Option (Nat × Bool)} {a : Nat} {co : Nat} {t : TypeId} (ha : ρ (.tmp a) = .chan (some co)) (w : World) :
    (execOp ρ ⟨d, .defer { callee := .builtin .close, args := #[.tmp a], argTypes := #[t] }, ty, pos, af, gu⟩).run P w = .ok (.defer (closer co #[t] ty #[false])) w ∧ (execOp ρ ⟨d, .defer { callee := .builtin .close, args := #[.tmp a], argTypes := #[t] }, ty, pos, af, gu⟩).events P w #[] = #[] := by
  constructor
  · simp [go_sem, ha, closer]
  · simp [go_sem]
theorem resultsC_tmp3 {P : Program} {fn : Func} {t u x : Tmp} (h : fn.results = #[.tmp t, .tmp u, .tmp x]) (tmps : Array Value) : ResultsC P fn tmps (.tuple #[tmps.getD t undef, tmps.getD u undef, tmps.getD x undef]) := fun w => by
  constructor
  · simp [results, h]
  · simp [results, h]
end beside
end Go.Proofs.Ytfaadjmglboaoaa
