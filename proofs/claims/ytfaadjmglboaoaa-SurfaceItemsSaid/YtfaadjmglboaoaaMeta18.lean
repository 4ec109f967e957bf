/-
  A REGION THAT ASKS THE TAPE FOR ITS ORDER, in whatever view (after the kit's CompanyDraw, with calls borne).
-/
import Derived.Test.YtfaadjmglboaoaaMeta17
import Derived.OrdersHeld
namespace Go.Proofs.Ytfaadjmglboaoaa
open Go.Conc

section
variable {V : Type} (P : Program) (X : View V) (GL : (Goroutine → V → Prop) → Prop) (fn : FuncId)

/-- What an operation that is carried out leaves. -/
def StepV (o : Oper) (K : Act → V → Prop) (a : Act) (v : V) (w : World) : Result Next → Prop
  | .ok (.value x) w' => ∃ v', X.St v w w' (listed P fn a o w) v' ∧ K (a.put o.dst x) v'
  | .ok .skip w' => ∃ v', X.St v w w' (listed P fn a o w) v' ∧ K (a.put o.dst undef) v'
  | .ok (.enter f args) w' => w' = w ∧ listed P fn a o w = #[] ∧ ∃ Post, CallsG P GL f args v Post ∧ ∀ r v', Post r v' → K (a.put o.dst r) v'
  | _ => False

/-- Operation number i comes up. -/
def OpV (ops : Array Oper) (i : Nat) (K : Act → V → Prop) (a : Act) (v : V) : Prop :=
  match ops[i]? with
  | none => False
  | some o => if Region.wanted o (yielded ops a.tmps) then ∀ w, X.Holds v w → StepV P X GL fn o K a v w ((execOp a.eval o).run P w) else K (a.put o.dst undef) v

/-- In every view that meets S the operation yields x and turns nothing. -/
def YieldsV (ops : Array Oper) (S : V → Prop) (o : Oper) (x : Value) (a : Act) : Prop :=
  (Region.wanted o (yielded ops a.tmps) = true ∧ ∀ v, S v → ∀ w, X.Holds v w → (execOp a.eval o).run P w = .ok (.value x) w ∧ X.St v w w (listed P fn a o w) v) ∨
  (Region.wanted o (yielded ops a.tmps) = false ∧ x = undef)

/-- Whatever order is picked from here on. -/
def AnyV (md : Region.Mode) (ops : Array Oper) (Q : Exit → Act → V → Prop) (S : V → Prop) : Nat → Array Bool → Act → V → Prop
  | 0, listed, a, v => Region.ready md ops listed = [] ∧ Q .normal a v
  | fuel + 1, listed, a, v =>
    (Region.ready md ops listed = [] → Q .normal a v) ∧
    ∀ i ∈ Region.ready md ops listed, OpV P X GL fn ops i (fun a' v' => S v' ∧ AnyV md ops Q S fuel (listed.setIfInBounds i true) a' v') a v
end

section
variable {V : Type} {P : Program} {main : Bool} {X : View V} {GL : (Goroutine → V → Prop) → Prop} {kd : Bool} {fn : FuncId} {ops : Array Oper} {md : Region.Mode} {Q : Exit → Act → V → Prop} {S : V → Prop}

theorem StepV_mono {o : Oper} {K K' : Act → V → Prop} (h : ∀ a v, K a v → K' a v) {a : Act} {v : V} {w : World} {r : Result Next} (hh : StepV P X GL fn o K a v w r) : StepV P X GL fn o K' a v w r := by
  cases r with
  | ok n w' =>
    cases n <;> first | exact hh.elim | skip
    · obtain ⟨v', x, y⟩ := hh; exact ⟨v', x, h _ _ y⟩
    · obtain ⟨v', x, y⟩ := hh; exact ⟨v', x, h _ _ y⟩
    · obtain ⟨e1, e2, Post, x, y⟩ := hh; exact ⟨e1, e2, Post, x, fun r v' q => h _ _ (y r v' q)⟩
  | halt x w' => exact hh.elim

theorem OpV_mono {i : Nat} {a : Act} {v : V} {K K' : Act → V → Prop} (h : ∀ a v, K a v → K' a v) (hh : OpV P X GL fn ops i K a v) : OpV P X GL fn ops i K' a v := by
  unfold OpV at *
  split
  · simp_all
  · rename_i o ho
    simp only [ho] at hh
    split
    · rename_i hw; simp only [hw, if_true] at hh; exact fun w hw' => StepV_mono h (hh w hw')
    · rename_i hw; simp only [hw] at hh; exact h _ _ hh

theorem opsG_of_opV (hGL : ∀ E, GL E → Closed P main X E) (I : Idle X) {i : Nat} {rest : List Nat} {a : Act} {v : V} (h : OpV P X GL fn ops i (fun a' v' => OpsG GL kd fn ops rest Q a' v') a v) : OpsG GL kd fn ops (i :: rest) Q a v := by
  unfold OpV at h
  split at h
  · exact h.elim
  · rename_i o ho
    split at h
    · rename_i hw
      intro E hE b k cs hb hk hc
      have hke : b.kind ≠ .early := by rw [hk]; cases kd <;> simp [kindOf]
      subst hb
      have hfin : ∀ r, (b.at a (.inRegion ops (i :: rest) :: k)).finish r = b.at (a.put o.dst r) (.inRegion ops rest :: k) := fun r => by rw [Frame.finish_at, ho]; rfl
      refine hGL E hE _ v rfl fun w hw' => ?_
      have := h w hw'
      generalize hr : (execOp a.eval o).run P w = r at this
      match r, this with
      | .ok (.value x) w', ⟨v', hst, h'⟩ => exact ⟨_, w', _, v', stepG_value ho hw hke hr, hst, h' E hE b k cs rfl hk hc⟩
      | .ok .skip w', ⟨v', hst, h'⟩ => exact ⟨_, w', _, v', stepG_none ho hw hke hr, hst, h' E hE b k cs rfl hk hc⟩
      | .ok (.enter f args) w', ⟨e1, e2, Post, hcall, h'⟩ =>
        subst e1
        refine ⟨_, w', #[], v, ?_, I v w' hw', hcall E hE (b.at a (.inRegion ops (i :: rest) :: k)) cs fun r v' q => ?_⟩
        · rw [stepG_enter ho hw hke hr, e2]
        · rw [hfin]
          exact h' r v' q E hE b k cs rfl hk hc
    · rename_i hw; exact opsG_unwanted hGL I ho (by simpa using hw) h

theorem YieldsV.of_same {o : Oper} {x : Value} {a a' : Act} (hy : YieldsV P X fn ops S o x a) (he : execOp a'.eval o = execOp a.eval o)
    (hw : Region.wanted o (yielded ops a'.tmps) = Region.wanted o (yielded ops a.tmps)) : YieldsV P X fn ops S o x a' := by
  unfold YieldsV listed at *
  rw [he, hw]
  exact hy

/-- It serves every order that the tape can pick. -/
theorem anyV_sound (hGL : ∀ E, GL E → Closed P main X E) (I : Idle X) : ∀ (fuel t : Nat) (listed : Array Bool) (a : Act) (v : V), AnyV P X GL fn md ops Q S fuel listed a v →
    OpsG GL kd fn ops (Region.linearise.go md ops fuel t listed []) Q a v := by
  intro fuel
  induction fuel with
  | zero => intro t listed a v h; simpa [Region.linearise.go] using opsG_nil hGL I h.2
  | succ fuel ih =>
    intro t listed a v h
    obtain ⟨h₀, h₁⟩ := h
    simp only [Region.linearise.go]
    change OpsG GL kd fn ops (match (Region.ready md ops listed)[t % (Region.ready md ops listed).length]? with
      | some i => Region.linearise.go md ops fuel (t / (Region.ready md ops listed).length) (listed.setIfInBounds i true) [i]
      | none => [].reverse) Q a v
    cases hi : (Region.ready md ops listed)[t % (Region.ready md ops listed).length]? with
    | none =>
      have hnil : Region.ready md ops listed = [] := by
        cases hr : Region.ready md ops listed with
        | nil => rfl
        | cons x xs =>
          rw [hr] at hi
          have hlt : t % (x :: xs).length < (x :: xs).length := Nat.mod_lt _ (by simp)
          simp at hi
          simp at hlt
          omega
      simpa using opsG_nil hGL I (h₀ hnil)
    | some i =>
      simp only []
      rw [linearise_go_acc, List.reverse_singleton, List.singleton_append]
      exact opsG_of_opV hGL I (OpV_mono (fun a' v' x => ih _ _ a' v' x.2) (h₁ i (List.mem_of_getElem? hi)))

theorem YieldsV.opV {i : Nat} {o : Oper} {x : Value} {a : Act} (hi : ops[i]? = some o) (hy : YieldsV P X fn ops S o x a) {K : Act → V → Prop} {v : V} (hS : S v) (h : K (a.put o.dst x) v) : OpV P X GL fn ops i K a v := by
  unfold OpV
  simp only [hi]
  rcases hy with ⟨hw, hv⟩ | ⟨hw, rfl⟩
  · simp only [hw, if_true]
    intro w hw'
    rw [(hv v hS w hw').1]
    exact ⟨v, (hv v hS w hw').2, h⟩
  · simp only [hw, Bool.false_eq_true, if_false]; exact h

theorem OpV_put {j : Nat} {oi oj : Oper} {x : Value} (hj : ops[j]? = some oj) (hap : oi.apart ops oj = true) (hsi : ∀ cs b, oi.op ≠ .select cs b) (hsj : ∀ cs b, oj.op ≠ .select cs b) {K : Act → V → Prop} {a : Act} {v : V}
    (hy : YieldsV P X fn ops S oi x a) (h : OpV P X GL fn ops j K (a.put oi.dst x) v) : OpV P X GL fn ops j (fun a' v' => YieldsV P X fn ops S oi x a' ∧ K (a'.put oi.dst x) v') a v := by
  obtain ⟨h1, h2, h3⟩ := Oper.apart_spec hap
  have keep : ∀ (a : Act), YieldsV P X fn ops S oi x a → ∀ u, YieldsV P X fn ops S oi x (a.put oj.dst u) := fun a hy u =>
    hy.of_same (execOp_put oi hsi a oj.dst u h3) (wanted_put oi a oj.dst u h3)
  unfold OpV at *
  simp only [hj] at *
  rw [wanted_put oj a oi.dst x h1] at h
  split
  · rename_i hw
    simp only [hw, if_true] at h
    intro w hw'
    have h := h w hw'
    unfold StepV listed at *
    rw [execOp_put oj hsj a oi.dst x h1] at h
    generalize (execOp a.eval oj).run P w = r at *
    cases r with
    | ok n w' =>
      cases n <;> first | exact h.elim | skip
      case value u => obtain ⟨v', p, q⟩ := h; exact ⟨v', p, keep a hy u, by rw [← Act.put_comm a x u h2]; exact q⟩
      case skip => obtain ⟨v', p, q⟩ := h; exact ⟨v', p, keep a hy _, by rw [← Act.put_comm a x undef h2]; exact q⟩
      case enter f args => obtain ⟨e1, e2, Post, p, q⟩ := h; exact ⟨e1, e2, Post, p, fun r v' z => ⟨keep a hy r, by rw [← Act.put_comm a x r h2]; exact q r v' z⟩⟩
    | halt x w' => exact h.elim
  · rename_i hw
    simp only [hw] at h
    exact ⟨keep a hy _, by rw [← Act.put_comm a x undef h2]; exact h⟩

/-- An operation that may come up now may be taken first. -/
theorem anyV_first {i : Nat} {oi : Oper} {x : Value} (hi : ops[i]? = some oi) (hsel : ∀ (j : Nat) (o : Oper) cs b, ops[j]? = some o → o.op ≠ .select cs b) :
    ∀ (fuel : Nat) (listed : Array Bool) (a : Act) (v : V),
      (∀ j oj, ops[j]? = some oj → j ≠ i → listed.getD j true = false → (∀ e ∈ oj.after, Region.binds md e = true → e.on ≠ i) → oi.apart ops oj = true) →
      i ∈ Region.ready md ops listed → YieldsV P X fn ops S oi x a → S v →
      AnyV P X GL fn md ops Q S fuel (listed.setIfInBounds i true) (a.put oi.dst x) v → AnyV P X GL fn md ops Q S (fuel + 1) listed a v := by
  intro fuel
  induction fuel with
  | zero =>
    intro listed a v _ hr hy hS H
    refine ⟨fun h => (by rw [h] at hr; cases hr), fun j hj => ?_⟩
    by_cases hji : j = i
    · subst hji; exact hy.opV hi hS ⟨hS, H⟩
    · have := ready_mono hj hji
      rw [H.1] at this
      cases this
  | succ fuel ih =>
    intro listed a v hfree hr hy hS H
    refine ⟨fun h => (by rw [h] at hr; cases hr), fun j hj => ?_⟩
    by_cases hji : j = i
    · subst hji; exact hy.opV hi hS ⟨hS, H⟩
    · have h1 := H.2 j (ready_mono hj hji)
      obtain ⟨hjun, oj, hoj, hall⟩ := mem_ready.1 hj
      have hnot : ∀ e ∈ oj.after, Region.binds md e = true → e.on ≠ i := fun e he hb heq => by
        have h1 := hall e he hb
        have h0 := (mem_ready.1 hr).1
        rw [heq] at h1
        rcases Nat.lt_or_ge i listed.size with h' | h'
        · simp [h'] at h0 h1; rw [h0] at h1; cases h1
        · simp [Array.getElem?_eq_none h'] at h1
      have h2 := OpV_put hoj (hfree j oj hoj hji hjun hnot) (fun cs b => hsel i oi cs b hi) (fun cs b => hsel j oj cs b hoj) hy h1
      have hfree' : ∀ k ok, ops[k]? = some ok → k ≠ i → (listed.setIfInBounds j true).getD k true = false →
          (∀ e ∈ ok.after, Region.binds md e = true → e.on ≠ i) → oi.apart ops ok = true := fun k ok hk hki hun hno => by
        refine hfree k ok hk hki ?_ hno
        by_cases hjk : j = k
        · subst hjk; exact hjun
        · rw [getD_set_ne true hjk] at hun; exact hun
      refine OpV_mono (fun a' v' h3 => ⟨h3.2.1, ih (listed.setIfInBounds j true) a' v' hfree' (ready_mono hr (Ne.symm hji)) h3.1 h3.2.1 ?_⟩) h2
      rw [Array.setIfInBounds_comm _ _ hji]
      exact h3.2.2

/-- Take number i first. -/
theorem anyV_take {i : Nat} {oi : Oper} {x : Value} {fuel : Nat} {listed : Array Bool} {a : Act} {v : V} (hi : ops[i]? = some oi)
    (hs : Region.noSelect ops = true) (hf : Region.free md ops listed i = true) (hr : (Region.ready md ops listed).contains i = true)
    (hy : YieldsV P X fn ops S oi x a) (hS : S v) (h : AnyV P X GL fn md ops Q S fuel (listed.setIfInBounds i true) (a.put oi.dst x) v) : AnyV P X GL fn md ops Q S (fuel + 1) listed a v :=
  anyV_first hi (Region.noSelect_spec hs) fuel listed a v (Region.free_spec hi hf) (by simpa using hr) hy hS h
/-- Whichever may come up. -/
theorem anyV_all {rs : List Nat} {fuel : Nat} {listed : Array Bool} {a : Act} {v : V} (hr : Region.ready md ops listed = rs) (hne : rs ≠ [])
    (h : ∀ i ∈ rs, OpV P X GL fn ops i (fun a' v' => S v' ∧ AnyV P X GL fn md ops Q S fuel (listed.setIfInBounds i true) a' v') a v) : AnyV P X GL fn md ops Q S (fuel + 1) listed a v :=
  ⟨fun h0 => absurd (hr ▸ h0) hne, hr ▸ h⟩
/-- All have come up. -/
theorem anyV_done {listed : Array Bool} {a : Act} {v : V} (hr : Region.ready md ops listed = []) (h : Q .normal a v) : ∀ fuel, AnyV P X GL fn md ops Q S fuel listed a v
  | 0 => ⟨hr, h⟩
  | _ + 1 => ⟨fun _ => h, fun i hi => by rw [hr] at hi; cases hi⟩

/-- The draw itself is allowed. -/
def Draws (X : View V) : Prop := ∀ v w, X.Holds v w → X.St v w { w with drawn := w.drawn + 1 } #[] v

/-- THE BEGINNING. -/
theorem wpG_region_held (hGL : ∀ E, GL E → Closed P main X E) (I : Idle X) (D : Draws X) {id : Nat} {a : Act} {v : V} (hm : P.follows .mixedOrders = true)
    (h : AnyV P X GL fn .any ops Q S ops.size (Array.replicate ops.size false) a v) : WpG GL kd fn (.region id ops true) Q a v := by
  intro E hE b k cs hb hk hc
  refine hGL E hE _ v rfl fun w hw => ⟨_, _, #[], v, stepG_region_draw, D v w hw, ?_⟩
  simp only [Region.schedule, hm, Bool.true_or, if_true]
  exact anyV_sound hGL I ops.size _ _ a v h E hE b k cs hb hk hc
end

theorem drawsB : Draws viewB := fun _ _ h => ⟨by simp, h, Nat.le_refl _, fun _ _ h => ⟨h, rfl⟩, fun _ h => h, rfl, rfl⟩
end Go.Proofs.Ytfaadjmglboaoaa
