/-
  A FRAME WITH MANY SLOTS, of which a few are known: the known ones stand in a list. What single operations yield.
-/
import Derived.Test.YtfaadjmglboaoaaRules
import Derived.Conc.AppendEvents
import Derived.Laws.Tables
import Derived.Test.YtfaadjmglboaoaaMeta21
namespace Go.Proofs.Ytfaadjmglboaoaa
open Go.Conc Go.RowKit

/-- The known slots, ahead of all others. -/
def putAll (σ : Nat → Value) : List (Nat × Value) → Nat → Value
  | [], j => σ j
  | (d, x) :: l, j => bif Nat.beq d j then x else putAll σ l j

/-- A frame's slots. -/
def fr (n : Nat) (σ : Nat → Value) (l : List (Nat × Value)) (ds : List Deferred) : Act := ⟨((List.range n).map (putAll σ l)).toArray, ds⟩

/-- What an operand is. -/
def ev (n : Nat) (σ : Nat → Value) (l : List (Nat × Value)) : Operand → Value
  | .tmp t => bif Nat.ble (t + 1) n then putAll σ l t else undef
  | .const v => v
  | .global g => .pointer (some ⟨g, 0, none⟩)
  | .func f => .func (.func f) #[] #[]

variable {n : Nat} {σ : Nat → Value} {l : List (Nat × Value)} {ds : List Deferred}

theorem fr_get (t : Nat) : (fr n σ l ds).tmps[t]? = if t < n then some (putAll σ l t) else none := by
  simp only [fr, List.getElem?_toArray, List.getElem?_map]
  by_cases h : t < n
  · simp [h]
  · simp [h]

theorem fr_eval : (fr n σ l ds).eval = ev n σ l := by
  funext x
  cases x with
  | tmp t =>
    show (fr n σ l ds).tmps.getD t undef = bif Nat.ble (t + 1) n then _ else _
    rw [Array.getD_eq_getD_getElem?, fr_get]
    have hb : Nat.ble (t + 1) n = decide (t < n) := by
      rw [Bool.eq_iff_iff, Nat.ble_eq, decide_eq_true_iff]
      exact Iff.rfl
    rw [hb]
    by_cases h : t < n <;> simp [h]
  | _ => rfl

theorem fr_put (d : Nat) (x : Value) : (fr n σ l ds).put (some d) x = fr n σ ((d, x) :: l) ds := by
  have h1 : (Act.put (fr n σ l ds) (some d) x).tmps = (fr n σ ((d, x) :: l) ds).tmps := by
    apply Array.ext_getElem?
    intro i
    rw [fr_get]
    show ((fr n σ l ds).tmps.setIfInBounds d x)[i]? = _
    rw [Array.getElem?_setIfInBounds, fr_get]
    by_cases h : d = i
    · subst h
      by_cases h2 : d < n <;> simp [putAll, h2, fr]
    · have hb : Nat.beq d i = false := by
        rw [Bool.eq_false_iff]; intro hh; exact h (Nat.eq_of_beq_eq_true hh)
      simp [if_neg h, putAll, hb]
  show Act.mk _ _ = Act.mk _ _
  exact congrArg (fun t => Act.mk t ds) h1

theorem fr_put_none (x : Value) : (fr n σ l ds).put none x = fr n σ l ds := rfl


/-- What an operation yields; it turns nothing and lists nothing. -/
def Ylds (ρ : Operand → Value) (o : Oper) (x : Value) : Prop := ∀ w, (execOp ρ o).run Try.prog w = .ok (.value x) w ∧ (execOp ρ o).events Try.prog w #[] = #[]

section ylds
variable {ρ : Operand → Value} {d : Option Tmp} {ty : TypeId} {pos : String} {af : Array Edge} {gu : Option (Nat × Bool)}
theorem y_move {s : Operand} {x : Value} (h : ρ s = x) : Ylds ρ ⟨d, .move s, ty, pos, af, gu⟩ x := fun w => by subst h; exact ⟨rfl, rfl⟩
theorem y_assign {s : Operand} {x : Value} (h : ρ s = x) : Ylds ρ ⟨d, .assign s, ty, pos, af, gu⟩ x := fun w => by subst h; exact ⟨rfl, rfl⟩
theorem y_len_string {s : Operand} {b : ByteArray} (h : ρ s = .string b) : Ylds ρ ⟨d, .call { callee := .builtin .len, args := #[s], argTypes := #[9] }, ty, pos, af, gu⟩ (.int .i64 b.size) := fun w =>
  ⟨eq_of_K fun K hK => by go_simp; exact hK, by simp [go_sem, ev_len, h]⟩
theorem y_len_rules {s : Operand} {p : Option Addr} {n c : Nat} (h : ρ s = .slice p n c) : Ylds ρ ⟨d, .call { callee := .builtin .len, args := #[s], argTypes := #[97] }, ty, pos, af, gu⟩ (.int .i64 n) := fun w =>
  ⟨eq_of_K fun K hK => by go_simp; exact hK, by simp [go_sem, Builtin.len_, underlying, h]⟩
theorem y_lss {x y : Operand} {m k : Int} (hx : ρ x = .int .i64 m) (hy : ρ y = .int .i64 k) {r : Bool} (hr : decide (m < k) = r) : Ylds ρ ⟨d, .binOp .lss 3 x y 3, ty, pos, af, gu⟩ (.bool r) := fun w =>
  ⟨eq_of_K fun K hK => by subst hr; go_simp; exact hK, by simp [go_sem, hx, hy]⟩
theorem y_eql {x y : Operand} {m k : Int} {t : TypeId} (ht : t = 3 ∨ t = 23) (hx : ρ x = .int .i64 m) (hy : ρ y = .int .i64 k) {r : Bool} (hr : (m == k) = r) : Ylds ρ ⟨d, .binOp .eql t x y t, ty, pos, af, gu⟩ (.bool r) := fun w => by
  rcases ht with rfl | rfl <;> exact ⟨eq_of_K fun K hK => by subst hr; go_simp; exact hK, by simp [go_sem, hx, hy]⟩
theorem y_neq {x y : Operand} {m k : Int} {t : TypeId} (ht : t = 3 ∨ t = 23) (hx : ρ x = .int .i64 m) (hy : ρ y = .int .i64 k) {r : Bool} (hr : (m != k) = r) : Ylds ρ ⟨d, .binOp .neq t x y t, ty, pos, af, gu⟩ (.bool r) := fun w => by
  rcases ht with rfl | rfl <;> exact ⟨eq_of_K fun K hK => by subst hr; go_simp; exact hK, by simp [go_sem, hx, hy]⟩
theorem y_add {x y : Operand} {m k : Int} (hx : ρ x = .int .i64 m) (hy : ρ y = .int .i64 k) {r : Int} (hr : IntKind.i64.wrap (m + k) = r) : Ylds ρ ⟨d, .binOp .add 3 x y 3, ty, pos, af, gu⟩ (.int .i64 r) := fun w =>
  ⟨eq_of_K fun K hK => by subst hr; go_simp; exact hK, by simp [go_sem, hx, hy]⟩
theorem y_extract {t : Operand} {ix : Nat} {xs : Array Value} {x : Value} (h : ρ t = .tuple xs) (hx : xs[ix]? = some x) : Ylds ρ ⟨d, .extract t ix, ty, pos, af, gu⟩ x := fun w =>
  ⟨eq_of_K fun K hK => by go_simp; exact hK, by simp [go_sem, h, hx]⟩
theorem y_pick {c x y : Operand} {t : Bool} {z : Value} (h : ρ c = .bool t) (hz : (if t then ρ x else ρ y) = z) : Ylds ρ ⟨d, .pick c x y, ty, pos, af, gu⟩ z := fun w =>
  ⟨eq_of_K fun K hK => by subst hz; go_simp; exact hK, by simp [go_sem, h]⟩
theorem y_index {x i : Operand} {s : ByteArray} {m : Nat} (hx : ρ x = .string s) (hi : ρ i = .int .i64 m) (h1 : m < s.size) : Ylds ρ ⟨d, .index 9 x i, ty, pos, af, gu⟩ (.int .u8 (s[m].toNat : Int)) := fun w => by
  have h0 : (0 : Int) ≤ m := by omega
  have h2 : (m : Int) < s.size := by omega
  exact ⟨eq_of_K fun K hK => by go_simp; exact hK, by simp [go_sem, ev_index, hx, hi, h2]⟩
theorem y_build40 {x1 x2 x3 : Operand} {k p : Int} {t : ByteArray} (h1 : ρ x1 = .int .i64 k) (h2 : ρ x2 = .int .i64 p) (h3 : ρ x3 = .string t) : Ylds ρ ⟨d, .build 40 #[(0, x1), (1, x2), (2, x3)], ty, pos, af, gu⟩ (.agg #[.int .i64 k, .int .i64 p, .string t]) := fun w =>
  ⟨eq_of_K fun K hK => by go_simp; exact hK, by simp [go_sem, h1, h2, h3]⟩
theorem y_build79 {x1 x2 : Operand} {k p e : Int} {t : ByteArray} (h1 : ρ x1 = .agg #[.int .i64 k, .int .i64 p, .string t]) (h2 : ρ x2 = .int .i64 e) : Ylds ρ ⟨d, .build 79 #[(0, x1), (1, x2)], ty, pos, af, gu⟩ (.agg #[.int .i64 k, .int .i64 p, .string t, .int .i64 e]) := fun w =>
  ⟨eq_of_K fun K hK => by go_simp; exact hK, by simp [go_sem, h1, h2]⟩
theorem y_indexAddr {x i : Operand} {R m n c : Nat} (hx : ρ x = .slice (some ⟨R, 0, none⟩) n c) (hi : ρ i = .int .i64 m) (h1 : m < n) : Ylds ρ ⟨d, .indexAddr 97 x i, ty, pos, af, gu⟩ (.pointer (some ⟨R, m * 3, none⟩)) := fun w => by
  have h0 : (0 : Int) ≤ m := by omega
  have h2 : (m : Int) < n := by omega
  exact ⟨eq_of_K fun K hK => by go_simp; exact hK, by simp [go_sem, hx, hi, h2]⟩
theorem y_fieldAddr101 {x : Operand} {N k : Nat} (hx : ρ x = .pointer (some ⟨N, 0, none⟩)) (hk : k < 3) : Ylds ρ ⟨d, .fieldAddr 101 x k, ty, pos, af, gu⟩ (.pointer (some ⟨N, k, none⟩)) := fun w => by
  obtain rfl | rfl | rfl : k = 0 ∨ k = 1 ∨ k = 2 := by omega
  all_goals exact ⟨eq_of_K fun K hK => by go_simp; exact hK, by simp [go_sem, hx]⟩
theorem y_fieldAddr79 {x : Operand} {N : Nat} (hx : ρ x = .pointer (some ⟨N, 0, none⟩)) {k r : Nat} (hk : k = 0 ∧ r = 0 ∨ k = 1 ∧ r = 3) : Ylds ρ ⟨d, .fieldAddr 79 x k, ty, pos, af, gu⟩ (.pointer (some ⟨N, r, none⟩)) := fun w => by
  rcases hk with ⟨rfl, rfl⟩ | ⟨rfl, rfl⟩
  all_goals exact ⟨eq_of_K fun K hK => by go_simp; exact hK, by simp [go_sem, hx]⟩
theorem y_fieldAddr40 {x : Operand} {N k : Nat} (hx : ρ x = .pointer (some ⟨N, 0, none⟩)) (hk : k < 3) : Ylds ρ ⟨d, .fieldAddr 40 x k, ty, pos, af, gu⟩ (.pointer (some ⟨N, k, none⟩)) := fun w => by
  obtain rfl | rfl | rfl : k = 0 ∨ k = 1 ∨ k = 2 := by omega
  all_goals exact ⟨eq_of_K fun K hK => by go_simp; exact hK, by simp [go_sem, hx]⟩
theorem y_slice_lo {x i : Operand} {s : ByteArray} {m : Nat} (hx : ρ x = .string s) (hi : ρ i = .int .i64 m) (h1 : m ≤ s.size) : Ylds ρ ⟨d, .slice 9 x (some i) none none, ty, pos, af, gu⟩ (.string (s.extract m s.size)) := fun w => by
  have h0 : (0 : Int) ≤ m := by omega
  have h2 : (m : Int) ≤ s.size := by omega
  exact ⟨eq_of_K fun K hK => by go_simp; exact hK, by simp [Instr.sliceAt, Instr.slice, Instr.sliceBounds, Instr.sliceBound, asIntOf, underlying, go_sem, hx, hi, h1]⟩
theorem y_slice {x i j : Operand} {s : ByteArray} {m k : Nat} (hx : ρ x = .string s) (hi : ρ i = .int .i64 m) (hj : ρ j = .int .i64 k) (h1 : m ≤ k) (h2 : k ≤ s.size) : Ylds ρ ⟨d, .slice 9 x (some i) (some j) none, ty, pos, af, gu⟩ (.string (s.extract m k)) := fun w => by
  exact ⟨eq_of_K fun K hK => by go_simp; exact hK, by simp [Instr.sliceAt, Instr.slice, Instr.sliceBounds, Instr.sliceBound, asIntOf, underlying, go_sem, hx, hi, hj, h1, h2]⟩
end ylds

/-- A view that shows memory of one's own. -/
structure Lens {V : Type} (X : View V) (v : V) (h : PH) (mk : PH → V) : Prop where
  holds : ∀ w, X.Holds v w → viewB.Holds h w
  st : ∀ w w' es h', X.Holds v w → viewB.St h w w' es h' → X.St v w w' es (mk h')
  at_ : mk h = v

theorem lensB (h : PH) : Lens viewB h h id := ⟨fun _ x => x, fun _ _ _ _ _ x => x, rfl⟩
theorem lensS (h : PH) (xs : List Value) : Lens viewS (h, xs) h (fun h' => (h', xs)) := ⟨fun _ x => x, fun _ _ _ _ _ x => ⟨x, rfl⟩, rfl⟩
theorem lensL {P : Program} (h : PH) (xs : List Value) (c : Ctx) : Lens (viewL P) (.b h xs c) h (fun h' => .b h' xs c) := ⟨fun _ x => x, fun _ _ _ _ _ x => ⟨x, rfl, rfl⟩, rfl⟩

/-- What an operation yields that reads memory of one's own. -/
def Rds (h : PH) (ρ : Operand → Value) (o : Oper) (x : Value) : Prop := ∀ w, viewB.Holds h w → (execOp ρ o).run Try.prog w = .ok (.value x) w ∧ ∀ e ∈ (execOp ρ o).events Try.prog w #[], OwnEv h e

theorem Ylds.rds {h : PH} {ρ : Operand → Value} {o : Oper} {x : Value} (y : Ylds ρ o x) : Rds h ρ o x := fun w _ => ⟨(y w).1, fun e he => by rw [(y w).2] at he; simp at he⟩

section frames
variable {V : Type} {main : Bool} {X : View V} {GL : (Goroutine → V → Prop) → Prop} {kd : Bool} {fn : FuncId} {Q : Exit → Act → V → Prop} {v : V} {h : PH} {mk : PH → V} {d : Nat} {x : Value}

theorem opsF_val (hGL : ∀ E, GL E → Closed Try.prog main X E) (I : Idle X) {ops : Array Oper} {i : Nat} {rest : List Nat} {o : Oper} (ho : ops[i]? = some o) (hw : Region.wanted o (yielded ops (fr n σ l ds).tmps) = true) (hd : o.dst = some d)
    (hy : Ylds (ev n σ l) o x) (hn : OpsG GL kd fn ops rest Q (fr n σ ((d, x) :: l) ds) v) : OpsG GL kd fn ops (i :: rest) Q (fr n σ l ds) v := by
  refine opsG_pure hGL I ho hw fun w _ => ?_
  rw [fr_eval]
  refine ⟨fun K hK => ?_, (hy w).2⟩
  rw [(hy w).1]
  refine hK _ ?_
  rw [hd, fr_put]
  exact hn
theorem opsF_rd (hGL : ∀ E, GL E → Closed Try.prog main X E) (L : Lens X v h mk) {ops : Array Oper} {i : Nat} {rest : List Nat} {o : Oper} (ho : ops[i]? = some o) (hw : Region.wanted o (yielded ops (fr n σ l ds).tmps) = true) (hd : o.dst = some d)
    (hy : Rds h (ev n σ l) o x) (hn : OpsG GL kd fn ops rest Q (fr n σ ((d, x) :: l) ds) v) : OpsG GL kd fn ops (i :: rest) Q (fr n σ l ds) v := by
  refine opsG_read hGL ho hw fun w hw' => ?_
  have hy := hy w (L.holds w hw')
  rw [← fr_eval (n := n) (σ := σ) (l := l) (ds := ds)] at hy
  refine ⟨fun K hK => ?_, ?_⟩
  · rw [hy.1]
    refine hK _ ?_
    rw [hd, fr_put]
    exact hn
  · have := L.st w w (listed Try.prog fn (fr n σ l ds) o w) h hw' (stB_read (L.holds w hw') hy.2)
    rw [L.at_] at this
    exact this
theorem opsF_skip (hGL : ∀ E, GL E → Closed Try.prog main X E) (I : Idle X) {ops : Array Oper} {i : Nat} {rest : List Nat} {o : Oper} (ho : ops[i]? = some o) (hw : Region.wanted o (yielded ops (fr n σ l ds).tmps) = false) (hd : o.dst = some d)
    (hn : OpsG GL kd fn ops rest Q (fr n σ ((d, undef) :: l) ds) v) : OpsG GL kd fn ops (i :: rest) Q (fr n σ l ds) v := by
  refine opsG_unwanted hGL I ho hw ?_
  rw [hd, fr_put]
  exact hn
/-- One operation that makes a block. -/
theorem opsF_new (hGL : ∀ E, GL E → Closed Try.prog main X E) (L : Lens X v h mk) {ops : Array Oper} {i : Nat} {rest : List Nat} {o : Oper} (ho : ops[i]? = some o) (hw : Region.wanted o (yielded ops (fr n σ l ds).tmps) = true) (hd : o.dst = some d) (ob : Obj) (xn : Nat → Value)
    (hr : ∀ w, (execOp (ev n σ l) o).run Try.prog w = .ok (.value (xn w.heap.size)) { w with heap := w.heap.push ob } ∧ (execOp (ev n σ l) o).events Try.prog w #[] = #[])
    (hn : ∀ N, h N = none → OpsG GL kd fn ops rest Q (fr n σ ((d, xn N) :: l) ds) (mk (put h N ob))) : OpsG GL kd fn ops (i :: rest) Q (fr n σ l ds) v := by
  refine opsG_cons hGL ho hw fun w hw' => ?_
  have hr := hr w
  rw [← fr_eval (n := n) (σ := σ) (l := l) (ds := ds)] at hr
  have hh := L.holds w hw'
  rw [hr.1]
  refine ⟨mk (put h w.heap.size ob), L.st _ _ _ _ hw' (by rw [listed_nil hr.2]; exact stB_new hh), ?_⟩
  rw [hd, fr_put]
  refine hn _ ?_
  cases e : h w.heap.size with
  | none => rfl
  | some x =>
    have := (Array.getElem?_eq_some_iff.1 (hh _ _ e)).1
    omega

theorem stB_set {w : World} {N : Nat} {o o' : Obj} (hh : viewB.Holds h w) (hN : h N = some o) {es : Array Event} (he : ∀ e ∈ es, OwnEv h e) : viewB.St h w { w with heap := w.heap.setIfInBounds N o' } es (put h N o') := by
  have hlt := (Array.getElem?_eq_some_iff.1 (hh _ _ hN)).1
  have hm : ∀ r, h r ≠ none → put h N o' r ≠ none := fun r hr => by
    unfold put
    split
    · simp
    · exact hr
  refine ⟨fun e hx => ⟨(he e hx).1, fun x hx1 hx2 => ?_⟩, fun r x hx => ?_, by simp, fun r hr hnr => ?_, hm, rfl, rfl⟩
  · obtain ⟨r, h1, h2⟩ := (he e hx).2 x hx1 hx2
    exact ⟨r, h1, hm r h2⟩
  · unfold put at hx
    split at hx
    · rename_i e
      subst e
      cases hx
      simp [hlt]
    · rename_i e
      show (w.heap.setIfInBounds N o')[r]? = _
      rw [Array.getElem?_setIfInBounds_ne (Ne.symm e)]
      exact hh _ _ hx
  · have hne : r ≠ N := by rintro rfl; rw [hN] at hnr; cases hnr
    refine ⟨?_, ?_⟩
    · unfold put
      rw [if_neg hne]
      exact hnr
    · show (w.heap.setIfInBounds N o')[r]? = _
      rw [Array.getElem?_setIfInBounds_ne (Ne.symm hne)]

/-- What an operation does that writes a block of one's own. -/
def Wrs (h : PH) (N : Nat) (o' : Obj) (ρ : Operand → Value) (o : Oper) : Prop := (∃ ob, h N = some ob) ∧ ∀ w, viewB.Holds h w → (execOp ρ o).run Try.prog w = .ok .skip { w with heap := w.heap.setIfInBounds N o' } ∧ ∀ e ∈ (execOp ρ o).events Try.prog w #[], OwnEv h e

theorem opsF_store (hGL : ∀ E, GL E → Closed Try.prog main X E) (L : Lens X v h mk) {ops : Array Oper} {i : Nat} {rest : List Nat} {o : Oper} {N : Nat} {o' : Obj} (ho : ops[i]? = some o) (hw : Region.wanted o (yielded ops (fr n σ l ds).tmps) = true) (hd : o.dst = none)
    (hy : Wrs h N o' (ev n σ l) o) (hn : OpsG GL kd fn ops rest Q (fr n σ l ds) (mk (put h N o'))) : OpsG GL kd fn ops (i :: rest) Q (fr n σ l ds) v := by
  refine opsG_cons hGL ho hw fun w hw' => ?_
  obtain ⟨⟨ob, hob⟩, hy⟩ := hy
  have hy := hy w (L.holds w hw')
  rw [← fr_eval (n := n) (σ := σ) (l := l) (ds := ds)] at hy
  rw [hy.1]
  refine ⟨mk (put h N o'), L.st _ _ _ _ hw' (stB_set (L.holds w hw') hob fun e he => hy.2 e (mem_listed he)), ?_⟩
  rw [hd, fr_put_none]
  exact hn
end frames

section anys
variable {V : Type} {main : Bool} {X : View V} {GL : (Goroutine → V → Prop) → Prop} {kd : Bool} {fn : FuncId} {Q : Exit → Act → V → Prop} {v : V} {h : PH} {mk : PH → V} {d : Nat} {x : Value} {ops : Array Oper} {md : Region.Mode}

/-- Take number i first; it yields x. -/
theorem anyF_rd (L : Lens X v h mk) {i : Nat} {o : Oper} {fuel : Nat} {lst : Array Bool} (hi : ops[i]? = some o) (hs : Region.noSelect ops = true) (hf : Region.free md ops lst i = true) (hr : (Region.ready md ops lst).contains i = true)
    (hw : Region.wanted o (yielded ops (fr n σ l ds).tmps) = true) (hd : o.dst = some d) (hy : Rds h (ev n σ l) o x)
    (hn : AnyV Try.prog X GL fn md ops Q (fun u => u = v) fuel (lst.setIfInBounds i true) (fr n σ ((d, x) :: l) ds) v) : AnyV Try.prog X GL fn md ops Q (fun u => u = v) (fuel + 1) lst (fr n σ l ds) v := by
  refine anyV_take hi hs hf hr (.inl ⟨hw, fun u hu w hw' => ?_⟩) rfl (x := x) (by rw [hd, fr_put]; exact hn)
  subst hu
  have hy := hy w (L.holds w hw')
  rw [← fr_eval (n := n) (σ := σ) (l := l) (ds := ds)] at hy
  refine ⟨hy.1, ?_⟩
  have := L.st w w (listed Try.prog fn (fr n σ l ds) o w) h hw' (stB_read (L.holds w hw') hy.2)
  rw [L.at_] at this
  exact this
/-- Take number i first; it yields x in whatever view meets S. -/
theorem anyF_rdS {S : V → Prop} (hSv : S v) {i : Nat} {o : Oper} {fuel : Nat} {lst : Array Bool} (hi : ops[i]? = some o) (hs : Region.noSelect ops = true) (hf : Region.free md ops lst i = true) (hr : (Region.ready md ops lst).contains i = true)
    (hw : Region.wanted o (yielded ops (fr n σ l ds).tmps) = true) (hd : o.dst = some d) (hy : ∀ u, S u → ∃ h mk, Lens X u h mk ∧ Rds h (ev n σ l) o x)
    (hn : AnyV Try.prog X GL fn md ops Q S fuel (lst.setIfInBounds i true) (fr n σ ((d, x) :: l) ds) v) : AnyV Try.prog X GL fn md ops Q S (fuel + 1) lst (fr n σ l ds) v := by
  refine anyV_take hi hs hf hr (.inl ⟨hw, fun u hu w hw' => ?_⟩) hSv (x := x) (by rw [hd, fr_put]; exact hn)
  obtain ⟨h, mk, L, hy⟩ := hy u hu
  have hy := hy w (L.holds w hw')
  rw [← fr_eval (n := n) (σ := σ) (l := l) (ds := ds)] at hy
  refine ⟨hy.1, ?_⟩
  have := L.st w w (listed Try.prog fn (fr n σ l ds) o w) h hw' (stB_read (L.holds w hw') hy.2)
  rw [L.at_] at this
  exact this
/-- The last one makes a call. -/
theorem anyF_call {i : Nat} {o : Oper} {fuel : Nat} {lst : Array Bool} {f : FuncId} {args : Array Value} {Post : Value → V → Prop} (hi : ops[i]? = some o) (hr : Region.ready md ops lst = [i])
    (hw : Region.wanted o (yielded ops (fr n σ l ds).tmps) = true) (hd : o.dst = some d) (hy : ∀ w, (execOp (ev n σ l) o).run Try.prog w = .ok (.enter f args) w ∧ ∀ es, (execOp (ev n σ l) o).events Try.prog w es = es)
    (hcall : CallsG Try.prog GL f args v Post) (hn : ∀ r v', Post r v' → v' = v ∧ AnyV Try.prog X GL fn md ops Q (fun u => u = v) fuel (lst.setIfInBounds i true) (fr n σ ((d, r) :: l) ds) v') : AnyV Try.prog X GL fn md ops Q (fun u => u = v) (fuel + 1) lst (fr n σ l ds) v := by
  refine anyV_all hr (by simp) fun j hj => ?_
  obtain rfl := List.mem_singleton.1 hj
  rw [← fr_eval (n := n) (σ := σ) (l := l) (ds := ds)] at hy
  refine OpV.enter hi hw hy hcall fun r v' q => ?_
  obtain ⟨h1, h2⟩ := hn r v' q
  refine ⟨h1, ?_⟩
  rw [hd, fr_put]
  exact h2
/-- The last one writes. -/
theorem anyF_store {S : V → Prop} (L : Lens X v h mk) {i : Nat} {o : Oper} {fuel : Nat} {lst : Array Bool} {N : Nat} {o' : Obj} (hi : ops[i]? = some o) (hr : Region.ready md ops lst = [i])
    (hw : Region.wanted o (yielded ops (fr n σ l ds).tmps) = true) (hd : o.dst = none) (hy : Wrs h N o' (ev n σ l) o)
    (hn : S (mk (put h N o')) ∧ AnyV Try.prog X GL fn md ops Q S fuel (lst.setIfInBounds i true) (fr n σ l ds) (mk (put h N o'))) : AnyV Try.prog X GL fn md ops Q S (fuel + 1) lst (fr n σ l ds) v := by
  refine anyV_all hr (by simp) fun j hj => ?_
  obtain rfl := List.mem_singleton.1 hj
  unfold OpV
  simp only [hi, hw, if_true]
  intro w hw'
  obtain ⟨⟨ob, hob⟩, hy⟩ := hy
  have hy := hy w (L.holds w hw')
  rw [← fr_eval (n := n) (σ := σ) (l := l) (ds := ds)] at hy
  rw [hy.1]
  refine ⟨mk (put h N o'), L.st _ _ _ _ hw' (stB_set (L.holds w hw') hob fun e he => hy.2 e (mem_listed he)), ?_⟩
  rw [hd, fr_put_none]
  exact hn
end anys

section memory
variable {ρ : Operand → Value} {d : Option Tmp} {ty : TypeId} {pos : String} {af : Array Edge} {gu : Option (Nat × Bool)} {h : PH}
theorem rd_load {a : Operand} {N k : Nat} {t : TypeId} {ty0 : TypeId} {c : Array Value} {f : Nat × Nat} {x : Value} (ht : t = 3 ∨ t = 9 ∨ t = 23 ∨ t = 35 ∨ t = 99) (ha : ρ a = .pointer (some ⟨N, k, none⟩)) (hN : h N = some (.cells c ty0 f)) (hx : c[k]? = some x) : Rds h ρ ⟨d, .load t a, ty, pos, af, gu⟩ x := fun w hw => by
  have hc : w.cell? ⟨N, k, none⟩ = some x := cell_of hw hN hx
  rcases ht with rfl | rfl | rfl | rfl | rfl
  all_goals
    refine ⟨eq_of_K fun K hK => by go_simp; exact hK, fun e he => ?_⟩
    simp [go_sem, ha, hc] at he
    subst he
    exact ownEv_cell (by simp [hN])
theorem rd_load101 {a : Operand} {N k : Nat} {ty0 : TypeId} {c : Array Value} {f : Nat × Nat} {x0 x1 x2 : Value} (ha : ρ a = .pointer (some ⟨N, k, none⟩)) (hN : h N = some (.cells c ty0 f)) (h0 : c[k]? = some x0) (h1 : c[k + 1]? = some x1) (h2 : c[k + 2]? = some x2) : Rds h ρ ⟨d, .load 101 a, ty, pos, af, gu⟩ (.agg #[x0, x1, x2]) := fun w hw => by
  have c0 : w.cell? ⟨N, k, none⟩ = some x0 := cell_of hw hN h0
  have c1 : w.cell? ⟨N, k + 1, none⟩ = some x1 := cell_of hw hN h1
  have c2 : w.cell? ⟨N, k + 2, none⟩ = some x2 := cell_of hw hN h2
  refine ⟨eq_of_K fun K hK => by go_simp; exact hK, fun e he => ?_⟩
  simp [go_sem, ha, c0, c1, c2] at he
  rcases he with rfl | rfl | rfl <;> exact ownEv_cell (by simp [hN])
theorem rd_load79 {a : Operand} {N : Nat} {ty0 : TypeId} {f : Nat × Nat} {x0 x1 x2 x3 : Value} (ha : ρ a = .pointer (some ⟨N, 0, none⟩)) (hN : h N = some (.cells #[x0, x1, x2, x3] ty0 f)) : Rds h ρ ⟨d, .load 79 a, ty, pos, af, gu⟩ (.agg #[x0, x1, x2, x3]) := fun w hw => by
  have c0 : w.cell? ⟨N, 0, none⟩ = some x0 := cell_of hw hN rfl
  have c1 : w.cell? ⟨N, 1, none⟩ = some x1 := cell_of hw hN rfl
  have c2 : w.cell? ⟨N, 2, none⟩ = some x2 := cell_of hw hN rfl
  have c3 : w.cell? ⟨N, 3, none⟩ = some x3 := cell_of hw hN rfl
  refine ⟨eq_of_K fun K hK => by go_simp; exact hK, fun e he => ?_⟩
  simp [go_sem, ha, c0, c1, c2, c3] at he
  rcases he with rfl | rfl | rfl | rfl <;> exact ownEv_cell (by simp [hN])
end memory

theorem own_storeCells {h : PH} {P : Program} {g : Nat} (hg0 : h g ≠ none) (o : Nat) (t : TypeId) : ∀ (vs : List Value) (i : Nat) (cur : Array Value) (w : World) (es : Array Event), w.heap[g]? = some (.cells cur t (0, 0)) → o + i + vs.length ≤ cur.size → (∀ v ∈ vs, v.oneCell' = true) →
    ∀ ev ∈ (storeCells ⟨g, o, none⟩ vs i).events P w es, ev ∈ es ∨ OwnEv h ev
  | [], _, _, _, _, _, _, _ => fun ev h => .inl (by simpa [storeCells] using h)
  | v :: rest, i, cur, w, es, hg, hl, h1 => fun ev h => by
    have hi : o + i < cur.size := by simp at hl; omega
    have hadd : (⟨g, o, none⟩ : Addr).add i = ⟨g, o + i, none⟩ := by unfold Addr.add; split <;> simp_all
    have hcell : w.cell? ⟨g, o + i, none⟩ = some cur[o + i] := by simp [World.cell?, hg, hi]
    have hfro : w.frozen? ⟨g, o + i, none⟩ = false := by simp [World.frozen?, hg]
    have hst : (store ((⟨g, o, none⟩ : Addr).add i) v).run P w = .ok () (w.setRow g (cur.setIfInBounds (o + i) v)) := by
      rw [hadd, run_store P w _ v _ (h1 v (by simp)), hcell]
      simp [hfro, setCell_eq_setRow w g (o + i) cur t (0, 0) v hg]
    have hev : (store ((⟨g, o, none⟩ : Addr).add i) v).events P w es = es.push ⟨.cell ⟨g, o + i, none⟩, true, false⟩ := by
      rw [hadd, events_store P w es _ v _ (h1 v (by simp)), hcell]
      simp only [hfro, Bool.false_eq_true, if_false]
      rfl
    simp only [storeCells, Sem.events_bind, hst, Result.evThen_ok, hev] at h
    rcases own_storeCells hg0 o t rest (i + 1) (cur.setIfInBounds (o + i) v) (w.setRow g (cur.setIfInBounds (o + i) v)) _ (setRow_heap w g cur _ t _ hg) (by simp at hl ⊢; omega) (fun x hx => h1 x (by simp [hx])) ev h with h | h
    · rcases Array.mem_push.1 h with h | rfl
      · exact .inl h
      · exact .inr (ownEv_cell hg0)
    · exact .inr h

theorem wr_store {ρ : Operand → Value} {d : Option Tmp} {ty : TypeId} {pos : String} {af : Array Edge} {gu : Option (Nat × Bool)} {h : PH} {a s : Operand} {N : Nat} {t t0 : TypeId} {old cells : Array Value} (ha : ρ a = .pointer (some ⟨N, 0, none⟩)) (hs : ρ s = .agg cells) (hN : h N = some (.cells old t0))
    (hi : (Try.prog.info? t).map (·.size) = some cells.size) (ho : old.size = cells.size) (h1 : cells.all (·.oneCell') = true) : Wrs h N (.cells cells t0) ρ ⟨d, .store t a s, ty, pos, af, gu⟩ := by
  refine ⟨⟨_, hN⟩, fun w hw => ?_⟩
  have hb := hw N _ hN
  have hrun := run_storeVar_row w N t0 t old cells hb hi ho h1
  have hlt := (Array.getElem?_eq_some_iff.1 hb).1
  refine ⟨?_, fun e he => ?_⟩
  · simp only [execOp, ha, hs, Instr.storeAt, Instr.sureAddr, Sem.run_bind, Sem.run_pure, Result.andThen_ok, hrun]
    have : w.setRow N cells = { w with heap := w.heap.setIfInBounds N (.cells cells t0) } := by
      show World.mk _ _ _ _ _ = World.mk _ _ _ _ _
      refine congrArg (fun x => World.mk x w.tape w.drawn w.os w.output) ?_
      apply Array.ext_getElem?
      intro i
      rw [Array.getElem?_modify, Array.getElem?_setIfInBounds]
      by_cases hi : N = i
      · subst hi
        simp [hlt, (Array.getElem?_eq_some_iff.1 hb).2]
      · simp [hi]
    rw [this]
  · have hs' : cells.size = old.size := ho.symm
    have hq : ∃ i, Try.prog.info? t = some i ∧ i.size = cells.size := by
      cases hq : Try.prog.info? t with
      | none => simp [hq] at hi
      | some i => exact ⟨i, rfl, by simpa [hq] using hi⟩
    obtain ⟨ti, hq, hq2⟩ := hq
    have hown := own_storeCells (h := h) (P := Try.prog) (g := N) (by rw [hN]; simp) 0 t0 cells.toList 0 old w #[] hb (by simp; omega) (fun v hv => (Array.all_eq_true_iff_forall_mem.1 h1) v (by simpa using hv)) e
    simp only [execOp, ha, hs, Instr.storeAt, Instr.sureAddr, storeVar, sizeOf, typeInfo, Sem.events_bind, Sem.run_bind, Sem.run_pure, Result.andThen_ok, Result.evThen_ok, Sem.events_pure, Value.cells] at he
    simp [hq, hq2, go_sem] at he
    rw [run_storeCells_at Try.prog N 0 t0 cells.toList 0 old w hb (by simp; omega) (fun v hv => (Array.all_eq_true_iff_forall_mem.1 h1) v (by simpa using hv)), Result.evThen_ok] at he
    exact (hown he).resolve_left (by simp)
end Go.Proofs.Ytfaadjmglboaoaa
