/-
  LEMMAS for the walks of both parsers.
-/
import Derived.Test.YtfaadjmglboaoaaPInv
namespace Go.Proofs.Ytfaadjmglboaoaa
open Go.Conc Go.RowKit

theorem lensB2 (h : PH) : Lens viewB h h (fun x => x) := ⟨fun _ x => x, fun _ _ _ _ _ x => x, rfl⟩
theorem SlAt.mono {h h' : PH} {B o : Nat} {xs : List Value} (s : SlAt h B o xs) (e : Ext h h') : SlAt h' B o xs := by
  obtain ⟨cur, ty, f, h1, h2⟩ := s
  exact ⟨cur, ty, f, e _ _ h1, h2⟩
theorem RSl.pos {h : PH} {k n c : Nat} {p : Option Addr} {xs : List Value} (s : RSl h k (.slice p n c) n xs) (hn : 0 < n) : ∃ B o, p = some ⟨B, o, none⟩ ∧ SlAt h B o xs := by
  rcases s.2 with ⟨h0, _⟩ | ⟨B, o, cap, h1, h2⟩
  · omega
  · cases h1
    exact ⟨B, o, rfl, h2⟩
theorem ext_put2 {h : PH} {N : Nat} {o1 o2 : Obj} (hN : h N = none) : Ext h (put (put h N o1) N o2) := fun r o hr => by
  have hne : r ≠ N := by rintro rfl; rw [hN] at hr; cases hr
  unfold put
  rw [if_neg hne, if_neg hne]
  exact hr
theorem slAt_new (h : PH) (N : Nat) (cs : Array Value) (t : TypeId) : SlAt (put h N (.cells cs t)) N 0 cs.toList :=
  ⟨cs, t, _, put_self _ _ _, fun i x hx => by simpa using hx⟩
theorem SlAt.of {h : PH} {N : Nat} {cs : Array Value} {t : TypeId} {f : Nat × Nat} (hN : h N = some (.cells cs t f)) : SlAt h N 0 cs.toList :=
  ⟨cs, t, f, hN, fun i x hx => by simpa using hx⟩

section rds
variable {ρ : Operand → Value} {d : Option Tmp} {ty : TypeId} {pos : String} {af : Array Edge} {gu : Option (Nat × Bool)} {h : PH}
theorem rd_cellq {a : Operand} {B o i q : Nat} {t : TypeId} {xs : List Value} {x : Value} (ht : t = 3 ∨ t = 9 ∨ t = 23 ∨ t = 44 ∨ t = 47) (hS : SlAt h B o xs) (hx : xs[i]? = some x) (hq : q = o + i) (ha : ρ a = .pointer (some ⟨B, q, none⟩)) : Rds h ρ ⟨d, .load t a, ty, pos, af, gu⟩ x :=
  rd_cell ht hS hx (by rw [ha, hq])
theorem rd_threeq {a : Operand} {B o i q : Nat} {t : TypeId} {xs : List Value} {x0 x1 x2 : Value} (ht : t = 40 ∨ t = 43 ∨ t = 63 ∨ t = 84) (hS : SlAt h B o xs) (h0 : xs[i]? = some x0) (h1 : xs[i + 1]? = some x1) (h2 : xs[i + 2]? = some x2) (hq : q = o + i) (ha : ρ a = .pointer (some ⟨B, q, none⟩)) : Rds h ρ ⟨d, .load t a, ty, pos, af, gu⟩ (.agg #[x0, x1, x2]) :=
  rd_three ht hS h0 h1 h2 (by rw [ha, hq])
theorem rd_threec {a : Operand} {N q : Nat} {t t0 : TypeId} {c : Array Value} {f : Nat × Nat} {x0 x1 x2 : Value} (ht : t = 40 ∨ t = 43 ∨ t = 63 ∨ t = 84) (hN : h N = some (.cells c t0 f)) (h0 : c[q]? = some x0) (h1 : c[q + 1]? = some x1) (h2 : c[q + 2]? = some x2) (ha : ρ a = .pointer (some ⟨N, q, none⟩)) : Rds h ρ ⟨d, .load t a, ty, pos, af, gu⟩ (.agg #[x0, x1, x2]) :=
  rd_threeq (o := 0) (i := q) ht (SlAt.of hN) (by simpa using h0) (by simpa using h1) (by simpa using h2) (by omega) ha
end rds

section stack
variable {f : Int × Int → List Value} {k j : Nat}
theorem stk_at (L : Lay f k j) (ri : List (Int × Int)) (top : Int × Int) (i : Nat) (x : Value) (hx : (f top)[i]? = some x) : (stk f ri top)[ri.length * k + i]? = some x := by
  have hl : (ri.reverse.flatMap f).length = ri.length * k := by rw [flatMap_length L.len]; simp
  rw [stk_eq, ← hl, List.getElem?_append_right (by omega), show (ri.reverse.flatMap f).length + i - (ri.reverse.flatMap f).length = i by omega]
  exact hx
theorem stk_one (L : Lay f k j) (ri : List (Int × Int)) (top : Int × Int) : ∀ u ∈ stk f ri top, u.oneCell' = true := fun u hu => by
  obtain ⟨x, _, hx⟩ := List.mem_flatMap.1 hu
  exact L.one x u hx
end stack

section pinv
variable {E5 E6 k j : Nat} {f : Int × Int → List Value} {h h' : PH} {v5 : Value} {row : List T3} {g6 cap6 : Nat} {ri : List (Int × Int)} {top : Int × Int} {bound : Nat}
theorem PInv.slAt (I : PInv E5 E6 k j f h h' v5 row g6 cap6 ri top bound) : SlAt h' g6 0 (stk f ri top) := by
  rcases I.own6.rsl.2 with ⟨h0, _⟩ | ⟨B, o, cap, h1, h2⟩
  · omega
  · cases h1
    exact h2
theorem PInv.capb (I : PInv E5 E6 k j f h h' v5 row g6 cap6 ri top bound) : ri.length + 1 ≤ cap6 := by
  obtain ⟨_, _, h1, _⟩ := I.cur
  exact h1
/-- The beginning: the row is empty, one list is open. -/
theorem pinv_init (L : Lay f k j) {h0 : PH} (hE : Ext h h0) {N : Nat} (hN : h0 N = none) {cs : Array Value} (hf : cs.toList = f (0, 0)) (ho : OwnK h0 E5 3 v5 0 []) (hnew : ∀ g, v5.ownBlock = some g → h g = none) : PInv E5 E6 k j f h (put h0 N (.cells cs E6)) v5 [] N 1 [] (0, 0) 0 := by
  have hlen : cs.size = k := by rw [← Array.length_toList, hf, L.len]
  have hn0 : h N = none := by
    cases hx : h N with
    | none => rfl
    | some o => have := hE _ _ hx; rw [hN] at this; cases this
  refine ⟨hE.trans (ext_put hN), ho.ext fun g hg o ho' => ext_put hN g o ho', hnew, ⟨by rw [stk, flatMap_length L.len]; simp, .inr ⟨N, 1, cs, rfl, put_self _ _ _, Nat.le_refl _, by decide, by omega, ?_⟩⟩, hn0, fun e => ?_, Nat.le_refl _, Nat.le_refl _, fun x hx => ?_⟩
  · rw [hf, stk_eq, List.take_of_length_le (by rw [L.len]; simp)]
    simp
  · rcases ho.2 with ⟨h1, _⟩ | ⟨g, _, _, h1, h2, _⟩
    · rw [h1] at e; cases e
    · rw [h1] at e
      obtain rfl : g = N := by simpa [Value.ownBlock] using e
      rw [hN] at h2; cases h2
  · simp at hx
    subst hx
    simp
end pinv

/-- What a parser answers, in memory. -/
def ParsePost (E : TypeId) (h : PH) (l : List T3) (r : Value) (h' : PH) : Prop :=
  Ext h h' ∧ match parse l with
    | .ok row => ∃ v, r = .tuple #[v, .int .i64 0, .int .i64 0] ∧ OwnK h' E 3 v row.length (flat row) ∧ (∀ g, v.ownBlock = some g → h g = none) ∧ row.length ≤ l.length
    | .err p e => r = .tuple #[.slice none 0 0, .int .i64 p, .int .i64 e]
end Go.Proofs.Ytfaadjmglboaoaa
