/-
  What further single operations yield; how a contract over memory of one's own is one beside leavers.
-/
import Derived.Test.YtfaadjmglboaoaaRow
namespace Go.Proofs.Ytfaadjmglboaoaa
open Go.Conc Go.RowKit

section ylds
variable {ρ : Operand → Value} {d : Option Tmp} {ty : TypeId} {pos : String} {af : Array Edge} {gu : Option (Nat × Bool)}
theorem y_len_slice {s : Operand} {p : Option Addr} {n c : Nat} {t e : TypeId} (ht : Try.prog.underlying t = some (.slice e)) (h : ρ s = .slice p n c) : Ylds ρ ⟨d, .call { callee := .builtin .len, args := #[s], argTypes := #[t] }, ty, pos, af, gu⟩ (.int .i64 n) := fun w =>
  ⟨eq_of_K fun K hK => by go_simp; exact hK, by simp [go_sem, Builtin.len_, underlying, h, ht]⟩
theorem y_geq {x y : Operand} {m k : Int} (hx : ρ x = .int .i64 m) (hy : ρ y = .int .i64 k) {r : Bool} (hr : decide (k ≤ m) = r) : Ylds ρ ⟨d, .binOp .geq 3 x y 3, ty, pos, af, gu⟩ (.bool r) := fun w =>
  ⟨eq_of_K fun K hK => by subst hr; go_simp; exact hK, by simp [go_sem, hx, hy]⟩
theorem y_leq {x y : Operand} {m k : Int} (hx : ρ x = .int .i64 m) (hy : ρ y = .int .i64 k) {r : Bool} (hr : decide (m ≤ k) = r) : Ylds ρ ⟨d, .binOp .leq 3 x y 3, ty, pos, af, gu⟩ (.bool r) := fun w =>
  ⟨eq_of_K fun K hK => by subst hr; go_simp; exact hK, by simp [go_sem, hx, hy]⟩
theorem y_sub {x y : Operand} {m k : Int} (hx : ρ x = .int .i64 m) (hy : ρ y = .int .i64 k) {r : Int} (hr : IntKind.i64.wrap (m - k) = r) : Ylds ρ ⟨d, .binOp .sub 3 x y 3, ty, pos, af, gu⟩ (.int .i64 r) := fun w =>
  ⟨eq_of_K fun K hK => by subst hr; go_simp; exact hK, by simp [go_sem, hx, hy]⟩
theorem y_eql_u8 {x y : Operand} {m k : Int} (hx : ρ x = .int .u8 m) (hy : ρ y = .int .u8 k) {r : Bool} (hr : (m == k) = r) : Ylds ρ ⟨d, .binOp .eql 5 x y 5, ty, pos, af, gu⟩ (.bool r) := fun w =>
  ⟨eq_of_K fun K hK => by subst hr; go_simp; exact hK, by simp [go_sem, hx, hy]⟩
theorem y_neq_u8 {x y : Operand} {m k : Int} (hx : ρ x = .int .u8 m) (hy : ρ y = .int .u8 k) {r : Bool} (hr : (m != k) = r) : Ylds ρ ⟨d, .binOp .neq 5 x y 5, ty, pos, af, gu⟩ (.bool r) := fun w =>
  ⟨eq_of_K fun K hK => by subst hr; go_simp; exact hK, by simp [go_sem, hx, hy]⟩
theorem y_not {x : Operand} {b : Bool} (hx : ρ x = .bool b) : Ylds ρ ⟨d, .unOp .not 4 x, ty, pos, af, gu⟩ (.bool (!b)) := fun w =>
  ⟨eq_of_K fun K hK => by go_simp; exact hK, by simp [go_sem, hx]⟩
theorem y_conv5 {x : Operand} {m : Int} (hx : ρ x = .int .u8 m) (h0 : 0 ≤ m) (h1 : m < 256) : Ylds ρ ⟨d, .convert 5 3 x, ty, pos, af, gu⟩ (.int .i64 m) := fun w => by
  have hw : IntKind.i64.wrap m = m := by rw [IntKind.wrap_i64]; omega
  exact ⟨eq_of_K fun K hK => by go_simp; exact hK, by simp [convert, underlying, Conv.intToInt, go_sem, hx]⟩
theorem y_conv65 {x : Operand} {m : Int} (hx : ρ x = .int .u16 m) (h0 : 0 ≤ m) (h1 : m < 65536) : Ylds ρ ⟨d, .convert 65 3 x, ty, pos, af, gu⟩ (.int .i64 m) := fun w => by
  have hw : IntKind.i64.wrap m = m := by rw [IntKind.wrap_i64]; omega
  exact ⟨eq_of_K fun K hK => by go_simp; exact hK, by simp [convert, underlying, Conv.intToInt, go_sem, hx]⟩
theorem y_rem {x y : Operand} {m k : Nat} (hx : ρ x = .int .i64 m) (hy : ρ y = .int .i64 k) (hk : 0 < k) : Ylds ρ ⟨d, .binOp .rem 3 x y 3, ty, pos, af, gu⟩ (.int .i64 (m % k : Nat)) := fun w => by
  have h0 : ¬ k = 0 := by omega
  have h1 : Int.tmod (m : Int) (k : Int) = ((m % k : Nat) : Int) := rfl
  refine ⟨eq_of_K fun K hK => ?_, ?_⟩
  · simp [go_sem, hx, hy, Op.intDiv, h0, h1]
    exact hK
  · simp [go_sem, hx, hy, Op.intDiv, h0]
theorem y_min {x y : Operand} {m k r : Int} (hx : ρ x = .int .i64 m) (hy : ρ y = .int .i64 k) (hr : min m k = r) : Ylds ρ ⟨d, .call { callee := .builtin .min, args := #[x, y], argTypes := #[3, 3] }, ty, pos, af, gu⟩ (.int .i64 r) := fun w => by
  subst hr
  refine ⟨?_, ?_⟩
  · simp [go_sem, hx, hy, Builtin.min_, Builtin.min2]
    omega
  · simp [go_sem, hx, hy, Builtin.min_, Builtin.min2]
theorem y_max {x y : Operand} {m k r : Int} (hx : ρ x = .int .i64 m) (hy : ρ y = .int .i64 k) (hr : max m k = r) : Ylds ρ ⟨d, .call { callee := .builtin .max, args := #[x, y], argTypes := #[3, 3] }, ty, pos, af, gu⟩ (.int .i64 r) := fun w => by
  subst hr
  refine ⟨?_, ?_⟩
  · simp [go_sem, hx, hy, Builtin.max_, Builtin.max2]
    omega
  · simp [go_sem, hx, hy, Builtin.max_, Builtin.max2]
theorem y_slice_hi {x j : Operand} {s : ByteArray} {k : Nat} (hx : ρ x = .string s) (hj : ρ j = .int .i64 k) (h2 : k ≤ s.size) : Ylds ρ ⟨d, .slice 9 x none (some j) none, ty, pos, af, gu⟩ (.string (s.extract 0 k)) := fun w => by
  exact ⟨eq_of_K fun K hK => by go_simp; exact hK, by simp [Instr.sliceAt, Instr.slice, Instr.sliceBounds, Instr.sliceBound, asIntOf, underlying, go_sem, hx, hj, h2]⟩
theorem y_cat {x y : Operand} {s t : ByteArray} (hx : ρ x = .string s) (hy : ρ y = .string t) (hs : s.size + t.size ≤ 2 ^ 62) : Ylds ρ ⟨d, .binOp .add 9 x y 9, ty, pos, af, gu⟩ (.string (s ++ t)) := fun w => by
  have h0 : ¬ (9223372036854775807 < s.size + t.size) := by omega
  have h1 : ¬ ((9223372036854775807 : Int) < (s.size : Int) + (t.size : Int)) := by omega
  exact ⟨eq_of_K fun K hK => by simp [go_sem, hx, hy, h0]; exact hK, by simp [go_sem, hx, hy, Op.stringOp, h1]⟩
end ylds

/-! ### A contract over memory of one's own, beside leavers -/

/-- All of the memory but the package-level variables. -/
def mine (P : Program) (v : World) : PH := fun r => if P.globals.size ≤ r then v.heap[r]? else none

theorem Kept.trans {h h' h'' : PH} {w w' w'' : World} (a : Kept h w w' h') (b : Kept h' w' w'' h'') : Kept h w w'' h'' :=
  ⟨b.has, Nat.le_trans a.size b.size, fun r hr hn => by
    obtain ⟨h1, h2⟩ := a.others r hr hn
    obtain ⟨h3, h4⟩ := b.others r (Nat.lt_of_lt_of_le hr a.size) h1
    exact ⟨h3, h4.trans h2⟩, fun r hr => b.mine r (a.mine r hr), b.os.trans a.os, b.output.trans a.output⟩

theorem cl_kept {P : Program} {h h' : PH} {w w' : World} (a : Kept h w w' h') (hc : Cl P w) (hg : ∀ r, r < P.globals.size → h r = none) : Cl P w' := fun g hg' => by
  obtain ⟨c, t, f, e⟩ := hc g hg'
  exact ⟨c, t, f, ((a.others g (Array.getElem?_eq_some_iff.1 e).1 (hg g hg')).2).trans e⟩

/-- ████ FROM MEMORY OF ONE's OWN TO 'BESIDE LEAVERS'. ████ -/
theorem callsA_own {P : Program} {f : FuncId} {args : Array Value} {v : World} {h : PH} {Post : Value → PH → Prop} (hh : ∀ r o, h r = some o → v.heap[r]? = some o) (hg : ∀ r, r < P.globals.size → h r = none)
    (hc : CallsG P (Closed P true viewB) f args h Post) : CallsG P (GL0 P) f args (.a v) (fun r v' => ∃ u h', v' = .a u ∧ Post r h' ∧ Kept h v u h') := by
  refine callsG_cl fun hcl => ?_
  intro E hE c0 cs hn
  let E' : Goroutine → PH → Prop := fun g h' => ∀ u, Kept h v u h' → E g (.a u)
  have hE' : Closed P true viewB E' := by
    intro g h' hrun hstep u hu
    have hcu := cl_kept hu hcl hg
    refine gl0 E hE g (.a u) hrun ?_
    rintro w ⟨_, τ, d, rfl⟩
    obtain ⟨g', w', es, h'', h1, ⟨h2, h3⟩, h4⟩ := hstep (tap u τ d) (fun r o ho => hu.has r o ho)
    have hk : Kept h v w' h'' := hu.trans ⟨h3.has, h3.size, h3.others, h3.mine, h3.os, h3.output⟩
    exact ⟨g', w', es, .a w', h1, ⟨fun e he => (h2 e he).1, cl_kept hk hcl hg, w'.tape, w'.drawn, rfl⟩, h4 w' hk⟩
  have := hc E' hE' c0 cs (fun r h' q u hu => hn r (.a u) ⟨u, h', rfl, q, hu⟩)
  exact this v ⟨hh, Nat.le_refl _, fun r _ hr => ⟨hr, rfl⟩, fun _ h => h, rfl, rfl⟩
end Go.Proofs.Ytfaadjmglboaoaa
