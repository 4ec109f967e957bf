/-
  RULES for slices in memory of one's own.
-/
import Derived.Test.YtfaadjmglboaoaaArr
namespace Go.Proofs.Ytfaadjmglboaoaa
open Go.Conc Go.RowKit

section rules
variable {main : Bool} {GL : (Goroutine → PH → Prop) → Prop} {kd : Bool} {fn : FuncId} {Q : Exit → Act → PH → Prop} {h : PH} {d n : Nat} {σ : Nat → Value} {l : List (Nat × Value)} {ds : List Deferred} {ops : Array Oper} {md : Region.Mode}

theorem opsB_append (hGL : ∀ E, GL E → Closed Try.prog main viewB E) {T E k b : Nat} {z : Value} (ET : ElemTy T E k b z) {i : Nat} {rest : List Nat} {o : Oper} {x y : Operand} {c m j B q : Nat} {xs news : List Value} {s : Value} (ho : ops[i]? = some o) (hw : Region.wanted o (yielded ops (fr n σ l ds).tmps) = true) (hd : o.dst = some d)
    (hop : o.op = .call { callee := .builtin .append, args := #[x, y], argTypes := #[T, T] }) (hx : ev n σ l x = s) (hy : ev n σ l y = .slice (some ⟨B, q, none⟩) m c)
    (hO : OwnK h E k s j xs) (hA : SlAt h B q news) (hl : news.length = m * k) (hm : 0 < m) (h1 : ∀ u ∈ news, u.oneCell' = true) (hjm : j + m ≤ 2 ^ 40)
    (hn : ∀ v' h', OwnK h' E k v' (j + m) (xs ++ news) → (∀ r o, h r = some o → some r ≠ s.ownBlock → h' r = some o) → (v'.ownBlock = s.ownBlock ∨ ∀ g, v'.ownBlock = some g → h g = none) → OpsG GL kd fn ops rest Q (fr n σ ((d, v') :: l) ds) h') : OpsG GL kd fn ops (i :: rest) Q (fr n σ l ds) h := by
  refine opsG_cons hGL ho hw fun w hw' => ?_
  rw [← fr_eval (n := n) (σ := σ) (l := l) (ds := ds)] at hx hy
  obtain ⟨v', w', h', hr, he, hk, hO', hold, hb⟩ := append_k (ty := o.type) (c := c) ET hw' hO hA hl hm h1 hjm
  refine uponK_append (o := o) x y T hop hx hy hr ⟨h', ⟨fun e hxe => he e ?_, hk⟩, ?_⟩
  · have := mem_listed hxe
    rw [events_append_op x y T hop hx hy] at this
    exact this
  · rw [hd, fr_put]
    exact hn v' h' hO' hold hb

/-- A new block, the last to come up. -/
theorem anyB_new {S : PH → Prop} {i : Nat} {o : Oper} {fuel : Nat} {lst : Array Bool} (hi : ops[i]? = some o) (hr : Region.ready md ops lst = [i])
    (hw : Region.wanted o (yielded ops (fr n σ l ds).tmps) = true) (hd : o.dst = some d) (ob : Obj) (xn : Nat → Value)
    (hrun : ∀ w, (execOp (ev n σ l) o).run Try.prog w = .ok (.value (xn w.heap.size)) { w with heap := w.heap.push ob } ∧ (execOp (ev n σ l) o).events Try.prog w #[] = #[])
    (hn : ∀ N, h N = none → S (put h N ob) ∧ AnyV Try.prog viewB GL fn md ops Q S fuel (lst.setIfInBounds i true) (fr n σ ((d, xn N) :: l) ds) (put h N ob)) : AnyV Try.prog viewB GL fn md ops Q S (fuel + 1) lst (fr n σ l ds) h := by
  refine anyV_all hr (by simp) fun j hj => ?_
  obtain rfl := List.mem_singleton.1 hj
  unfold OpV
  simp only [hi, hw, if_true]
  intro w hw'
  have hrun := hrun w
  rw [← fr_eval (n := n) (σ := σ) (l := l) (ds := ds)] at hrun
  rw [hrun.1]
  refine ⟨put h w.heap.size ob, by rw [listed_nil hrun.2]; exact stB_new hw', ?_⟩
  rw [hd, fr_put]
  refine hn _ ?_
  cases e : h w.heap.size with
  | none => rfl
  | some x =>
    have := (Array.getElem?_eq_some_iff.1 (hw' _ _ e)).1
    omega

theorem stepV_uponK {P : Program} {V : Type} {X : View V} {GL : (Goroutine → V → Prop) → Prop} {fn : FuncId} {o : Oper} {K : Act → V → Prop} {a : Act} {v : V} {w : World} {r : Result Next} (h : uponK o a (fun a' w' => ∃ v', X.St v w w' (listed P fn a o w) v' ∧ K a' v') r) : StepV P X GL fn o K a v w r := by
  cases r with
  | ok n w' => cases n <;> first | exact h | exact h.elim
  | halt x w' => exact h.elim

theorem anyB_append {S : PH → Prop} {T E k b : Nat} {z : Value} (ET : ElemTy T E k b z) {i : Nat} {fuel : Nat} {lst : Array Bool} {o : Oper} {x y : Operand} {c m j B q : Nat} {xs news : List Value} {s : Value} (ho : ops[i]? = some o) (hr : Region.ready md ops lst = [i]) (hw : Region.wanted o (yielded ops (fr n σ l ds).tmps) = true) (hd : o.dst = some d)
    (hop : o.op = .call { callee := .builtin .append, args := #[x, y], argTypes := #[T, T] }) (hx : ev n σ l x = s) (hy : ev n σ l y = .slice (some ⟨B, q, none⟩) m c)
    (hO : OwnK h E k s j xs) (hA : SlAt h B q news) (hl : news.length = m * k) (hm : 0 < m) (h1 : ∀ u ∈ news, u.oneCell' = true) (hjm : j + m ≤ 2 ^ 40)
    (hn : ∀ v' h', OwnK h' E k v' (j + m) (xs ++ news) → (∀ r o, h r = some o → some r ≠ s.ownBlock → h' r = some o) → (v'.ownBlock = s.ownBlock ∨ ∀ g, v'.ownBlock = some g → h g = none) → S h' ∧ AnyV Try.prog viewB GL fn md ops Q S fuel (lst.setIfInBounds i true) (fr n σ ((d, v') :: l) ds) h') : AnyV Try.prog viewB GL fn md ops Q S (fuel + 1) lst (fr n σ l ds) h := by
  refine anyV_all hr (by simp) fun j' hj => ?_
  obtain rfl := List.mem_singleton.1 hj
  unfold OpV
  simp only [ho, hw, if_true]
  intro w hw'
  rw [← fr_eval (n := n) (σ := σ) (l := l) (ds := ds)] at hx hy
  obtain ⟨v', w', h', hr, he, hk, hO', hold, hb⟩ := append_k (ty := o.type) (c := c) ET hw' hO hA hl hm h1 hjm
  refine stepV_uponK (uponK_append (o := o) x y T hop hx hy hr ⟨h', ⟨fun e hxe => he e ?_, hk⟩, ?_⟩)
  · have := mem_listed hxe
    rw [events_append_op x y T hop hx hy] at this
    exact this
  · rw [hd, fr_put]
    exact hn v' h' hO' hold hb
/-- A guarded operation that is not wanted. -/
theorem anyF_skip {V : Type} {X : View V} {GL : (Goroutine → V → Prop) → Prop} {Q : Exit → Act → V → Prop} {v : V} {S : V → Prop} (hSv : S v) {i : Nat} {o : Oper} {fuel : Nat} {lst : Array Bool} (hi : ops[i]? = some o) (hs : Region.noSelect ops = true) (hf : Region.free md ops lst i = true) (hr : (Region.ready md ops lst).contains i = true)
    (hw : Region.wanted o (yielded ops (fr n σ l ds).tmps) = false) (hd : o.dst = some d)
    (hn : AnyV Try.prog X GL fn md ops Q S fuel (lst.setIfInBounds i true) (fr n σ ((d, undef) :: l) ds) v) : AnyV Try.prog X GL fn md ops Q S (fuel + 1) lst (fr n σ l ds) v :=
  anyV_take hi hs hf hr (.inr ⟨hw, rfl⟩) hSv (by rw [hd, fr_put]; exact hn)
end rules

section ylds
variable {ρ : Operand → Value} {d : Option Tmp} {ty : TypeId} {pos : String} {af : Array Edge} {gu : Option (Nat × Bool)}
theorem y_ix {T E k b : Nat} {z : Value} (ET : ElemTy T E k b z) {x i : Operand} {B o m n c : Nat} (hx : ρ x = .slice (some ⟨B, o, none⟩) n c) (hi : ρ i = .int .i64 m) (h1 : m < n) : Ylds ρ ⟨d, .indexAddr T x i, ty, pos, af, gu⟩ (.pointer (some ⟨B, o + m * k, none⟩)) := fun w => by
  have hu := ET.under
  obtain ⟨ti, hti, hk, _, _⟩ := ET.info
  have hadd : ∀ (B o j : Nat), (⟨B, o, none⟩ : Addr).add j = ⟨B, o + j, none⟩ := fun B o j => by unfold Addr.add; split <;> simp_all
  constructor
  · simp [go_sem, hx, hi, Instr.indexAt, run_underlying hu, asIntOf, sizeOf, typeInfo, hti, hk, hadd]
    intro h; omega
  · simp [go_sem, hx, hi, Instr.indexAt, hu, asIntOf, h1, sizeOf, typeInfo, hti, underlying]
theorem y_fld {S k off : Nat} {x : Operand} {B q : Nat} (hS : (S = 40 ∨ S = 43 ∨ S = 63 ∨ S = 84) ∧ k < 3 ∧ off = k) (hx : ρ x = .pointer (some ⟨B, q, none⟩)) : Ylds ρ ⟨d, .fieldAddr S x k, ty, pos, af, gu⟩ (.pointer (some ⟨B, q + off, none⟩)) := fun w => by
  obtain ⟨hS, hk, rfl⟩ := hS
  have hadd : ∀ (B o j : Nat), (⟨B, o, none⟩ : Addr).add j = ⟨B, o + j, none⟩ := fun B o j => by unfold Addr.add; split <;> simp_all
  obtain rfl | rfl | rfl : off = 0 ∨ off = 1 ∨ off = 2 := by omega
  all_goals
    rcases hS with rfl | rfl | rfl | rfl
    all_goals exact ⟨eq_of_K fun K hK => by go_simp; exact hK, by simp [go_sem, hx]⟩
theorem y_fld82 {k off : Nat} {x : Operand} {B q : Nat} (hS : k < 2 ∧ off = k) (hx : ρ x = .pointer (some ⟨B, q, none⟩)) : Ylds ρ ⟨d, .fieldAddr 82 x k, ty, pos, af, gu⟩ (.pointer (some ⟨B, q + off, none⟩)) := fun w => by
  obtain ⟨hk, rfl⟩ := hS
  have hadd : ∀ (B o j : Nat), (⟨B, o, none⟩ : Addr).add j = ⟨B, o + j, none⟩ := fun B o j => by unfold Addr.add; split <;> simp_all
  obtain rfl | rfl : off = 0 ∨ off = 1 := by omega
  all_goals exact ⟨eq_of_K fun K hK => by go_simp; exact hK, by simp [go_sem, hx]⟩
theorem y_nilCheck {x : Operand} {a : Addr} (hx : ρ x = .pointer (some a)) : Ylds ρ ⟨d, .nilCheck x, ty, pos, af, gu⟩ (.pointer (some a)) := fun w =>
  ⟨eq_of_K fun K hK => by go_simp; exact hK, by simp [go_sem, hx]⟩
theorem y_slice_arr {T E k b : Nat} {z : Value} (ET : ElemTy T E k b z) {x j : Operand} {B o n c m : Nat} (hx : ρ x = .slice (some ⟨B, o, none⟩) n c) (hj : ρ j = .int .i64 m) (h1 : m ≤ c) : Ylds ρ ⟨d, .slice T x none (some j) none, ty, pos, af, gu⟩ (.slice (some ⟨B, o, none⟩) m c) := fun w => by
  have hu := ET.under
  obtain ⟨ti, hti, hk, _, _⟩ := ET.info
  constructor
  · simp [go_sem, hx, hj, Instr.sliceAt, Instr.slice, Instr.sliceBounds, Instr.sliceBound, asIntOf, run_underlying hu, sizeOf, typeInfo, hti, h1]
  · simp [go_sem, hx, hj, Instr.sliceAt, Instr.slice, Instr.sliceBounds, Instr.sliceBound, asIntOf, sizeOf, typeInfo, hti, h1, underlying, hu]

theorem rd_cell {h : PH} {a : Operand} {B o i : Nat} {t : TypeId} {xs : List Value} {x : Value} (ht : t = 3 ∨ t = 9 ∨ t = 23 ∨ t = 44 ∨ t = 47) (hS : SlAt h B o xs) (hx : xs[i]? = some x) (ha : ρ a = .pointer (some ⟨B, o + i, none⟩)) : Rds h ρ ⟨d, .load t a, ty, pos, af, gu⟩ x := fun w hw => by
  have hc : w.cell? ⟨B, o + i, none⟩ = some x := hS.get hw hx
  have hB := hS.own
  rcases ht with rfl | rfl | rfl | rfl | rfl
  all_goals
    refine ⟨eq_of_K fun K hK => by go_simp; exact hK, fun e he => ?_⟩
    simp [go_sem, ha, hc] at he
    subst he
    exact ownEv_cell hB
theorem rd_three {h : PH} {a : Operand} {B o i : Nat} {t : TypeId} {xs : List Value} {x0 x1 x2 : Value} (ht : t = 40 ∨ t = 43 ∨ t = 63 ∨ t = 84) (hS : SlAt h B o xs) (h0 : xs[i]? = some x0) (h1 : xs[i + 1]? = some x1) (h2 : xs[i + 2]? = some x2) (ha : ρ a = .pointer (some ⟨B, o + i, none⟩)) : Rds h ρ ⟨d, .load t a, ty, pos, af, gu⟩ (.agg #[x0, x1, x2]) := fun w hw => by
  have c0 : w.cell? ⟨B, o + i, none⟩ = some x0 := hS.get hw h0
  have c1 : w.cell? ⟨B, o + i + 1, none⟩ = some x1 := hS.get hw h1
  have c2 : w.cell? ⟨B, o + i + 2, none⟩ = some x2 := hS.get hw h2
  have hB := hS.own
  generalize o + i = q at *
  rcases ht with rfl | rfl | rfl | rfl
  all_goals
    refine ⟨eq_of_K fun K hK => by go_simp; exact hK, fun e he => ?_⟩
    simp [go_sem, ha, c0, c1, c2] at he
    rcases he with rfl | rfl | rfl <;> exact ownEv_cell hB
theorem y_b3 {S : Nat} {x0 x1 x2 : Operand} {p q : Int} {t : ByteArray} (hS : S = 40 ∨ S = 43 ∨ S = 63 ∨ S = 84) (h0 : ρ x0 = .int .i64 p) (h1 : ρ x1 = .int .i64 q) (h2 : ρ x2 = .string t) : Ylds ρ ⟨d, .build S #[(0, x0), (1, x1), (2, x2)], ty, pos, af, gu⟩ (.agg #[.int .i64 p, .int .i64 q, .string t]) := fun w => by
  rcases hS with rfl | rfl | rfl | rfl <;> exact ⟨eq_of_K fun K hK => by go_simp; exact hK, by simp [go_sem, h0, h1, h2]⟩
theorem y_b3_none {S : Nat} (hS : S = 40 ∨ S = 43 ∨ S = 63 ∨ S = 84) : Ylds ρ ⟨d, .build S #[], ty, pos, af, gu⟩ (.agg #[.int .i64 0, .int .i64 0, .string { data := #[] }]) := fun w => by
  rcases hS with rfl | rfl | rfl | rfl <;> exact ⟨eq_of_K fun K hK => by go_simp; exact hK, by simp [go_sem]⟩
theorem y_b3_1 {S : Nat} {x1 : Operand} {q : Int} (hS : S = 40 ∨ S = 43 ∨ S = 63 ∨ S = 84) (h1 : ρ x1 = .int .i64 q) : Ylds ρ ⟨d, .build S #[(1, x1)], ty, pos, af, gu⟩ (.agg #[.int .i64 0, .int .i64 q, .string { data := #[] }]) := fun w => by
  rcases hS with rfl | rfl | rfl | rfl <;> exact ⟨eq_of_K fun K hK => by go_simp; exact hK, by simp [go_sem, h1]⟩
theorem y_b3_12 {S : Nat} {x1 x2 : Operand} {q : Int} {t : ByteArray} (hS : S = 40 ∨ S = 43 ∨ S = 63 ∨ S = 84) (h1 : ρ x1 = .int .i64 q) (h2 : ρ x2 = .string t) : Ylds ρ ⟨d, .build S #[(1, x1), (2, x2)], ty, pos, af, gu⟩ (.agg #[.int .i64 0, .int .i64 q, .string t]) := fun w => by
  rcases hS with rfl | rfl | rfl | rfl <;> exact ⟨eq_of_K fun K hK => by go_simp; exact hK, by simp [go_sem, h1, h2]⟩
theorem y_b3_01 {S : Nat} {x0 x1 : Operand} {p q : Int} (hS : S = 40 ∨ S = 43 ∨ S = 63 ∨ S = 84) (h0 : ρ x0 = .int .i64 p) (h1 : ρ x1 = .int .i64 q) : Ylds ρ ⟨d, .build S #[(0, x0), (1, x1)], ty, pos, af, gu⟩ (.agg #[.int .i64 p, .int .i64 q, .string { data := #[] }]) := fun w => by
  rcases hS with rfl | rfl | rfl | rfl <;> exact ⟨eq_of_K fun K hK => by go_simp; exact hK, by simp [go_sem, h0, h1]⟩
theorem y_b3_0 {S : Nat} {x0 : Operand} {p : Int} (hS : S = 40 ∨ S = 43 ∨ S = 63 ∨ S = 84) (h0 : ρ x0 = .int .i64 p) : Ylds ρ ⟨d, .build S #[(0, x0)], ty, pos, af, gu⟩ (.agg #[.int .i64 p, .int .i64 0, .string { data := #[] }]) := fun w => by
  rcases hS with rfl | rfl | rfl | rfl <;> exact ⟨eq_of_K fun K hK => by go_simp; exact hK, by simp [go_sem, h0]⟩
theorem y_b2_none : Ylds ρ ⟨d, .build 82 #[], ty, pos, af, gu⟩ (.agg #[.int .i64 0, .int .i64 0]) := fun w =>
  ⟨eq_of_K fun K hK => by go_simp; exact hK, by simp [go_sem]⟩
theorem y_b2_0 {x0 : Operand} {p : Int} (h0 : ρ x0 = .int .i64 p) : Ylds ρ ⟨d, .build 82 #[(0, x0)], ty, pos, af, gu⟩ (.agg #[.int .i64 p, .int .i64 0]) := fun w =>
  ⟨eq_of_K fun K hK => by go_simp; exact hK, by simp [go_sem, h0]⟩
theorem run_bs3 {T E : TypeId} (hT : (T = 36 ∧ E = 40) ∨ (T = 42 ∧ E = 43) ∨ (T = 44 ∧ E = 63) ∨ (T = 47 ∧ E = 84)) {a : Operand} {p q : Int} {t : ByteArray} (ha : ρ a = .agg #[.int .i64 p, .int .i64 q, .string t]) (w : World) :
    (execOp ρ ⟨d, .buildSlice T 1 #[(0, a)], ty, pos, af, gu⟩).run Try.prog w = .ok (.value (.slice (some ⟨w.heap.size, 0, none⟩) 1 1)) { w with heap := w.heap.push (.cells #[.int .i64 p, .int .i64 q, .string t] E) } ∧ (execOp ρ ⟨d, .buildSlice T 1 #[(0, a)], ty, pos, af, gu⟩).events Try.prog w #[] = #[] := by
  rcases hT with ⟨rfl, rfl⟩ | ⟨rfl, rfl⟩ | ⟨rfl, rfl⟩ | ⟨rfl, rfl⟩ <;> exact ⟨eq_of_K fun K hK => by go_simp; exact hK, by simp [go_sem, ha]⟩
theorem run_bs2 {a : Operand} {p q : Int} (ha : ρ a = .agg #[.int .i64 p, .int .i64 q]) (w : World) :
    (execOp ρ ⟨d, .buildSlice 83 1 #[(0, a)], ty, pos, af, gu⟩).run Try.prog w = .ok (.value (.slice (some ⟨w.heap.size, 0, none⟩) 1 1)) { w with heap := w.heap.push (.cells #[.int .i64 p, .int .i64 q] 82) } ∧ (execOp ρ ⟨d, .buildSlice 83 1 #[(0, a)], ty, pos, af, gu⟩).events Try.prog w #[] = #[] :=
  ⟨eq_of_K fun K hK => by go_simp; exact hK, by simp [go_sem, ha]⟩
theorem run_bs0 {T E : TypeId} (hT : (T = 36 ∧ E = 40) ∨ (T = 42 ∧ E = 43) ∨ (T = 44 ∧ E = 63) ∨ (T = 47 ∧ E = 84) ∨ (T = 59 ∧ E = 47)) (w : World) :
    (execOp ρ ⟨d, .buildSlice T 0 #[], ty, pos, af, gu⟩).run Try.prog w = .ok (.value (.slice (some ⟨w.heap.size, 0, none⟩) 0 0)) { w with heap := w.heap.push (.cells #[] E) } ∧ (execOp ρ ⟨d, .buildSlice T 0 #[], ty, pos, af, gu⟩).events Try.prog w #[] = #[] := by
  rcases hT with ⟨rfl, rfl⟩ | ⟨rfl, rfl⟩ | ⟨rfl, rfl⟩ | ⟨rfl, rfl⟩ | ⟨rfl, rfl⟩ <;> exact ⟨eq_of_K fun K hK => by go_simp; exact hK, by simp [go_sem]⟩
/-- A store of a number. -/
theorem wr_int {h : PH} {a s : Operand} {B q : Nat} {cur : Array Value} {t0 : TypeId} {m : Int} (ha : ρ a = .pointer (some ⟨B, q, none⟩)) (hs : ρ s = .int .i64 m) (hB : h B = some (.cells cur t0)) (hq : q < cur.size) : Wrs h B (.cells (cur.setIfInBounds q (.int .i64 m)) t0) ρ ⟨d, .store 3 a s, ty, pos, af, gu⟩ := by
  refine ⟨⟨_, hB⟩, fun w hw => ?_⟩
  have hb := hw B _ hB
  have hcell : w.cell? ⟨B, q, none⟩ = some cur[q] := by simp [World.cell?, hb, hq]
  have hfro : w.frozen? ⟨B, q, none⟩ = false := by simp [World.frozen?, hb]
  have hset : w.setCell ⟨B, q, none⟩ (.int .i64 m) = { w with heap := w.heap.setIfInBounds B (.cells (cur.setIfInBounds q (.int .i64 m)) t0) } := by
    rw [setCell_eq_setRow w B q cur t0 (0, 0) _ hb, setRow_set hb]
  constructor
  · simp only [execOp, ha, hs, Instr.storeAt, Instr.sureAddr, Sem.run_bind, Sem.run_pure, Result.andThen_ok, storeVar]
    simp [go_sem, Value.cells, hcell, hfro, hset]
  · intro e he
    simp only [execOp, ha, hs, Instr.storeAt, Instr.sureAddr, storeVar, Sem.events_bind, Sem.run_bind, Sem.run_pure, Result.andThen_ok, Result.evThen_ok, Sem.events_pure, Value.cells] at he
    simp [go_sem, hcell, hfro] at he
    subst he
    exact ownEv_cell (by rw [hB]; simp)
end ylds
end Go.Proofs.Ytfaadjmglboaoaa
