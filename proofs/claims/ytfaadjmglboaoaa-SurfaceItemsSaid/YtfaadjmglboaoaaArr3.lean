/-
  RULES for slices, more: slices of slices, literals of one element, an append of nothing, a call inside a region that draws its order and makes memory.
-/
import Derived.Test.YtfaadjmglboaoaaThings
namespace Go.Proofs.Ytfaadjmglboaoaa
open Go.Conc Go.RowKit

section rules
variable {main : Bool} {V : Type} {X : View V} {GL : (Goroutine → V → Prop) → Prop} {kd : Bool} {fn : FuncId} {Q : Exit → Act → V → Prop} {v : V} {d n : Nat} {σ : Nat → Value} {l : List (Nat × Value)} {ds : List Deferred} {ops : Array Oper} {md : Region.Mode} {S : V → Prop}
/-- The last one makes a call. -/
theorem anyF_callS {i : Nat} {o : Oper} {fuel : Nat} {lst : Array Bool} {f : FuncId} {args : Array Value} {Post : Value → V → Prop} (hi : ops[i]? = some o) (hr : Region.ready md ops lst = [i])
    (hw : Region.wanted o (yielded ops (fr n σ l ds).tmps) = true) (hd : o.dst = some d) (hy : ∀ w, (execOp (ev n σ l) o).run Try.prog w = .ok (.enter f args) w ∧ ∀ es, (execOp (ev n σ l) o).events Try.prog w es = es)
    (hcall : CallsG Try.prog GL f args v Post) (hn : ∀ r v', Post r v' → S v' ∧ AnyV Try.prog X GL fn md ops Q S fuel (lst.setIfInBounds i true) (fr n σ ((d, r) :: l) ds) v') : AnyV Try.prog X GL fn md ops Q S (fuel + 1) lst (fr n σ l ds) v := by
  refine anyV_all hr (by simp) fun j hj => ?_
  obtain rfl := List.mem_singleton.1 hj
  rw [← fr_eval (n := n) (σ := σ) (l := l) (ds := ds)] at hy
  refine OpV.enter hi hw hy hcall fun r v' q => ?_
  obtain ⟨h1, h2⟩ := hn r v' q
  refine ⟨h1, ?_⟩
  rw [hd, fr_put]
  exact h2
end rules

theorem equal_nil44 (D : Nat) (a : Addr) (n c : Nat) (w : World) : (Op.equalIn (D + 1) 44 (.slice (some a) n c) (.slice none 0 0)).run Try.prog w = .ok false w ∧ Sem.events Try.prog (Op.equalIn (D + 1) 44 (.slice (some a) n c) (.slice none 0 0)) w #[] = #[] := by
  have ht := Try.underlying44
  unfold Op.equalIn
  constructor <;> simp [underlying, ht, go_sem]

section ylds
variable {ρ : Operand → Value} {d : Option Tmp} {ty : TypeId} {pos : String} {af : Array Edge} {gu : Option (Nat × Bool)}
theorem y_slice_mid {T E k b : Nat} {z : Value} (ET : ElemTy T E k b z) {x i j : Operand} {B o n c lo hi : Nat} (hx : ρ x = .slice (some ⟨B, o, none⟩) n c) (hl : ρ i = .int .i64 lo) (hh : ρ j = .int .i64 hi) (h1 : lo < hi) (h2 : hi ≤ c) : Ylds ρ ⟨d, .slice T x (some i) (some j) none, ty, pos, af, gu⟩ (.slice (some ⟨B, o + lo * k, none⟩) (hi - lo) (c - lo)) := fun w => by
  have hu := ET.under
  obtain ⟨ti, hti, hk, _, _⟩ := ET.info
  have h0 : lo ≤ hi := by omega
  have hne : ¬ c = lo := by omega
  have hadd : ∀ (B o j : Nat), (⟨B, o, none⟩ : Addr).add j = ⟨B, o + j, none⟩ := fun B o j => by unfold Addr.add; split <;> simp_all
  constructor
  · simp [go_sem, hx, hl, hh, Instr.sliceAt, Instr.slice, Instr.sliceBounds, Instr.sliceBound, asIntOf, run_underlying hu, sizeOf, typeInfo, hti, h0, h2, hne, hadd, hk]
  · simp [go_sem, hx, hl, hh, Instr.sliceAt, Instr.slice, Instr.sliceBounds, Instr.sliceBound, asIntOf, sizeOf, typeInfo, hti, h0, h2, underlying, hu]
theorem y_slice_nil {T E k b : Nat} {z : Value} (ET : ElemTy T E k b z) {x j : Operand} (hx : ρ x = .slice none 0 0) (hj : ρ j = .int .i64 0) : Ylds ρ ⟨d, .slice T x none (some j) none, ty, pos, af, gu⟩ (.slice none 0 0) := fun w => by
  have hu := ET.under
  obtain ⟨ti, hti, hk, _, _⟩ := ET.info
  constructor
  · simp [go_sem, hx, hj, Instr.sliceAt, Instr.slice, Instr.sliceBounds, Instr.sliceBound, asIntOf, run_underlying hu, sizeOf, typeInfo, hti]
  · simp [go_sem, hx, hj, Instr.sliceAt, Instr.slice, Instr.sliceBounds, Instr.sliceBound, asIntOf, sizeOf, typeInfo, hti, underlying, hu]
theorem y_append0 {T E k b : Nat} {z : Value} (ET : ElemTy T E k b z) {x y : Operand} {p q : Option Addr} {n c e : Nat} (hx : ρ x = .slice p n c) (hy : ρ y = .slice q 0 e) (h : n ≤ c) : Ylds ρ ⟨d, .call { callee := .builtin .append, args := #[x, y], argTypes := #[T, T] }, ty, pos, af, gu⟩ (.slice p n c) := fun w => by
  have hu := ET.under
  obtain ⟨ti, hti, hk, _, _⟩ := ET.info
  constructor
  · cases p <;> cases q <;> simp [go_sem, hx, hy, Builtin.append_, run_underlying hu, sizeOf, typeInfo, hti, Builtin.lenOf, h, Builtin.firstCells, storeCells]
  · cases p <;> cases q <;> simp [go_sem, hx, hy, Builtin.append_, sizeOf, typeInfo, hti, Builtin.lenOf, h, Builtin.firstCells, storeCells, underlying, hu]
theorem y_neq_strg {x y : Operand} {s t : ByteArray} (hx : ρ x = .string s) (hy : ρ y = .string t) {r : Bool} (hr : (!decide (s = t)) = r) : Ylds ρ ⟨d, .binOp .neq 9 x y 9, ty, pos, af, gu⟩ (.bool r) := fun w => by
  subst hr
  have e : (s.toList == t.toList) = decide (s = t) := by
    rw [ByteArray.toList_eq, ByteArray.toList_eq]
    by_cases h : s = t
    · subst h; simp
    · rw [decide_eq_false h]
      refine beq_eq_false_iff_ne.2 fun e => h ?_
      exact ByteArray.ext (Array.toList_inj.1 e)
  exact ⟨eq_of_K fun K hK => by simp [go_sem, hx, hy, e]; exact hK, by simp [go_sem, hx, hy]⟩
theorem y_eql_nil44 {x y : Operand} {a : Addr} {n c : Nat} (hx : ρ x = .slice (some a) n c) (hy : ρ y = .slice none 0 0) : Ylds ρ ⟨d, .binOp .eql 44 x y 44, ty, pos, af, gu⟩ (.bool false) := fun w => by
  constructor
  · simp [go_sem, hx, hy]
    simp [binOp, Op.equal, go_sem]
    have h := (equal_nil44 9999 a n c w).1
    rw [show (9999 + 1 : Nat) = Op.maxDepth by decide] at h
    rw [h]
    rfl
  · simp [go_sem, hx, hy]
    simp [binOp, Op.equal, go_sem]
    exact (equal_nil44 9999 a n c w).2
theorem run_bs1 {T E : TypeId} (hT : (T = 29 ∧ E = 3) ∨ (T = 56 ∧ E = 44) ∨ (T = 59 ∧ E = 47)) {a : Operand} {v : Value} (ha : ρ a = v) (hv : (∃ m, v = .int .i64 m ∧ T = 29) ∨ (∃ p n c, v = .slice p n c ∧ T ≠ 29)) (w : World) :
    (execOp ρ ⟨d, .buildSlice T 1 #[(0, a)], ty, pos, af, gu⟩).run Try.prog w = .ok (.value (.slice (some ⟨w.heap.size, 0, none⟩) 1 1)) { w with heap := w.heap.push (.cells #[v] E) } ∧ (execOp ρ ⟨d, .buildSlice T 1 #[(0, a)], ty, pos, af, gu⟩).events Try.prog w #[] = #[] := by
  rcases hT with ⟨rfl, rfl⟩ | ⟨rfl, rfl⟩ | ⟨rfl, rfl⟩
  · obtain ⟨m, rfl, _⟩ := hv.resolve_right (by rintro ⟨_, _, _, _, h⟩; exact h rfl)
    exact ⟨eq_of_K fun K hK => by go_simp; exact hK, by simp [go_sem, ha]⟩
  · obtain ⟨p, n, c, rfl, _⟩ := hv.resolve_left (by rintro ⟨_, _, h⟩; cases h)
    exact ⟨eq_of_K fun K hK => by go_simp; exact hK, by simp [go_sem, ha]⟩
  · obtain ⟨p, n, c, rfl, _⟩ := hv.resolve_left (by rintro ⟨_, _, h⟩; cases h)
    exact ⟨eq_of_K fun K hK => by go_simp; exact hK, by simp [go_sem, ha]⟩
end ylds
end Go.Proofs.Ytfaadjmglboaoaa
