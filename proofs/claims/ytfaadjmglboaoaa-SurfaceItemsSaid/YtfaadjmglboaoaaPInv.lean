/-
  THE PARSER, by definition; what lies in memory while it works.
-/
import Derived.Test.YtfaadjmglboaoaaArr2
namespace Go.Proofs.Ytfaadjmglboaoaa
open Go.Conc Go.RowKit

/-- A token, or a thing of a row: two numbers and a text. -/
structure T3 where
  a : Int
  b : Int
  s : ByteArray
  deriving DecidableEq
def T3.cells (x : T3) : List Value := [.int .i64 x.a, .int .i64 x.b, .string x.s]
def flat (l : List T3) : List Value := l.flatMap T3.cells
theorem flat_length (l : List T3) : (flat l).length = l.length * 3 := by
  induction l with
  | nil => rfl
  | cons x l ih => unfold flat at *; simp only [List.flatMap_cons, List.length_append, List.length_cons, ih]; simp [T3.cells]; omega
theorem flat_append (l r : List T3) : flat (l ++ r) = flat l ++ flat r := by simp [flat]
theorem flat_get (dn ts : List T3) (t : T3) : (flat (dn ++ t :: ts))[dn.length * 3]? = some (.int .i64 t.a) ∧ (flat (dn ++ t :: ts))[dn.length * 3 + 1]? = some (.int .i64 t.b) ∧ (flat (dn ++ t :: ts))[dn.length * 3 + 2]? = some (.string t.s) := by
  have hl := flat_length dn
  have e : flat (dn ++ t :: ts) = flat dn ++ (.int .i64 t.a :: .int .i64 t.b :: .string t.s :: flat ts) := by rw [flat_append]; rfl
  rw [e, ← hl]
  refine ⟨?_, ?_, ?_⟩
  · rw [List.getElem?_append_right (Nat.le_refl _), Nat.sub_self]; rfl
  · rw [List.getElem?_append_right (by omega), show (flat dn).length + 1 - (flat dn).length = 1 by omega]; rfl
  · rw [List.getElem?_append_right (by omega), show (flat dn).length + 2 - (flat dn).length = 2 by omega]; rfl
theorem flat_one (l : List T3) : ∀ u ∈ flat l, u.oneCell' = true := by
  intro u hu
  obtain ⟨x, _, hx⟩ := List.mem_flatMap.1 hu
  simp [T3.cells] at hx
  rcases hx with rfl | rfl | rfl <;> rfl

/-- What the parser answers. -/
inductive PRes where
  | ok (row : List T3)
  | err (p : Int) (e : Int)

/-- The parser: the row so far; the open lists below the topmost, the topmost first; the topmost: how many things, where it begins. -/
def pgo : List T3 → List T3 → List (Int × Int) → Int × Int → PRes
  | [], row, ri, top => match ri with
    | [] => .ok row
    | _ :: _ => .err top.2 70
  | t :: ts, row, ri, top =>
    if t.a = 1 then pgo ts (row ++ [⟨0, t.b, t.s⟩]) ri (top.1 + 1, top.2)
    else if t.a = 2 then (if 60 < ri.length + 1 then .err t.b 22 else pgo ts row (top :: ri) (0, t.b))
    else if t.a = 3 then (match ri with
      | [] => .err t.b 70
      | u :: r => pgo ts (row ++ [⟨top.1, top.2, { data := #[] }⟩]) r (u.1 + 1, u.2))
    else pgo ts row ri top
def parse (l : List T3) : PRes := pgo l [] [] (0, 0)

theorem pgo_nil {row : List T3} {top : Int × Int} : pgo [] row [] top = .ok row := rfl
theorem pgo_open {row : List T3} {top u : Int × Int} {r : List (Int × Int)} : pgo [] row (u :: r) top = .err top.2 70 := rfl
section step
variable {t : T3} {ts row : List T3} {ri : List (Int × Int)} {top u : Int × Int}
theorem pgo_cons : pgo (t :: ts) row ri top = if t.a = 1 then pgo ts (row ++ [⟨0, t.b, t.s⟩]) ri (top.1 + 1, top.2)
    else if t.a = 2 then (if 60 < ri.length + 1 then .err t.b 22 else pgo ts row (top :: ri) (0, t.b))
    else if t.a = 3 then (match ri with
      | [] => .err t.b 70
      | u :: r => pgo ts (row ++ [⟨top.1, top.2, { data := #[] }⟩]) r (u.1 + 1, u.2))
    else pgo ts row ri top := by rw [pgo.eq_def]
theorem pgo_word (h : t.a = 1) : pgo (t :: ts) row ri top = pgo ts (row ++ [⟨0, t.b, t.s⟩]) ri (top.1 + 1, top.2) := by rw [pgo_cons, if_pos h]
theorem pgo_deep (h : t.a = 2) (h2 : 60 < ri.length + 1) : pgo (t :: ts) row ri top = .err t.b 22 := by rw [pgo_cons, if_neg (by omega), if_pos h, if_pos h2]
theorem pgo_push (h : t.a = 2) (h2 : ¬ 60 < ri.length + 1) : pgo (t :: ts) row ri top = pgo ts row (top :: ri) (0, t.b) := by rw [pgo_cons, if_neg (by omega), if_pos h, if_neg h2]
theorem pgo_shut (h : t.a = 3) : pgo (t :: ts) row [] top = .err t.b 70 := by rw [pgo_cons, if_neg (by omega), if_neg (by omega), if_pos h]
theorem pgo_pop {r : List (Int × Int)} (h : t.a = 3) : pgo (t :: ts) row (u :: r) top = pgo ts (row ++ [⟨top.1, top.2, { data := #[] }⟩]) r (u.1 + 1, u.2) := by rw [pgo_cons, if_neg (by omega), if_neg (by omega), if_pos h]
theorem pgo_other (h1 : t.a ≠ 1) (h2 : t.a ≠ 2) (h3 : t.a ≠ 3) : pgo (t :: ts) row ri top = pgo ts row ri top := by rw [pgo_cons, if_neg h1, if_neg h2, if_neg h3]
end step

theorem pcases (rest : List T3) (ri : List (Int × Int)) : (rest = [] ∧ ri = []) ∨ (rest = [] ∧ ∃ u r, ri = u :: r) ∨ (∃ t ts, rest = t :: ts ∧ t.a = 1) ∨ (∃ t ts, rest = t :: ts ∧ t.a = 2 ∧ 60 < ri.length + 1) ∨ (∃ t ts, rest = t :: ts ∧ t.a = 2 ∧ ¬ 60 < ri.length + 1) ∨
    (∃ t ts, rest = t :: ts ∧ t.a = 3 ∧ ri = []) ∨ (∃ t ts, rest = t :: ts ∧ t.a = 3 ∧ ∃ u r, ri = u :: r) ∨ (∃ t ts, rest = t :: ts ∧ t.a ≠ 1 ∧ t.a ≠ 2 ∧ t.a ≠ 3) := by
  cases rest with
  | nil => cases ri with
    | nil => exact .inl ⟨rfl, rfl⟩
    | cons u r => exact .inr (.inl ⟨rfl, u, r, rfl⟩)
  | cons t ts =>
    by_cases h1 : t.a = 1
    · exact .inr (.inr (.inl ⟨t, ts, rfl, h1⟩))
    by_cases h2 : t.a = 2
    · by_cases h6 : 60 < ri.length + 1
      · exact .inr (.inr (.inr (.inl ⟨t, ts, rfl, h2, h6⟩)))
      · exact .inr (.inr (.inr (.inr (.inl ⟨t, ts, rfl, h2, h6⟩))))
    by_cases h3 : t.a = 3
    · cases ri with
      | nil => exact .inr (.inr (.inr (.inr (.inr (.inl ⟨t, ts, rfl, h3, rfl⟩)))))
      | cons u r => exact .inr (.inr (.inr (.inr (.inr (.inr (.inl ⟨t, ts, rfl, h3, u, r, rfl⟩))))))
    · exact .inr (.inr (.inr (.inr (.inr (.inr (.inr ⟨t, ts, rfl, h1, h2, h3⟩))))))

/-- How an open list lies in memory: k cells, 'how many' is the j-th. -/
structure Lay (f : Int × Int → List Value) (k j : Nat) : Prop where
  len : ∀ x, (f x).length = k
  set : ∀ m p x, (f (m, p)).set j (.int .i64 x) = f (x, p)
  lt : j < k
  one : ∀ x, ∀ u ∈ f x, u.oneCell' = true
  many : ∀ x, (f x)[j]? = some (.int .i64 x.1)

def f3 (x : Int × Int) : List Value := [.int .i64 x.1, .int .i64 x.2, .string { data := #[] }]
def f2 (x : Int × Int) : List Value := [.int .i64 x.2, .int .i64 x.1]
theorem lay3 : Lay f3 3 0 := ⟨fun _ => rfl, fun _ _ _ => rfl, by decide, fun x u hu => by simp [f3] at hu; rcases hu with rfl | rfl | rfl <;> rfl, fun _ => rfl⟩
theorem lay2 : Lay f2 2 1 := ⟨fun _ => rfl, fun _ _ _ => rfl, by decide, fun x u hu => by simp [f2] at hu; rcases hu with rfl | rfl <;> rfl, fun _ => rfl⟩

/-- The open lists as they lie. -/
def stk (f : Int × Int → List Value) (ri : List (Int × Int)) (top : Int × Int) : List Value := (ri.reverse ++ [top]).flatMap f
theorem flatMap_length {f : Int × Int → List Value} {k : Nat} (hk : ∀ x, (f x).length = k) (l : List (Int × Int)) : (l.flatMap f).length = l.length * k := by
  induction l with
  | nil => simp
  | cons x l ih => simp only [List.flatMap_cons, List.length_append, ih, hk, List.length_cons]; rw [Nat.add_mul, Nat.one_mul]; omega
theorem stk_eq (f : Int × Int → List Value) (ri : List (Int × Int)) (top : Int × Int) : stk f ri top = ri.reverse.flatMap f ++ f top := by simp [stk]
theorem stk_push (f : Int × Int → List Value) (ri : List (Int × Int)) (top u : Int × Int) : stk f (top :: ri) u = stk f ri top ++ f u := by simp [stk]

/-- What lies in memory while the parser works. -/
structure PInv (E5 E6 k j : Nat) (f : Int × Int → List Value) (h h' : PH) (v5 : Value) (row : List T3) (g6 cap6 : Nat) (ri : List (Int × Int)) (top : Int × Int) (bound : Nat) : Prop where
  ext : Ext h h'
  own5 : OwnK h' E5 3 v5 row.length (flat row)
  new5 : ∀ g, v5.ownBlock = some g → h g = none
  own6 : OwnK h' E6 k (.slice (some ⟨g6, 0, none⟩) (ri.length + 1) cap6) (ri.length + 1) (stk f ri top)
  new6 : h g6 = none
  sep : v5.ownBlock ≠ some g6
  rowb : row.length ≤ bound
  rib : ri.length ≤ bound
  mb : ∀ x ∈ top :: ri, 0 ≤ x.1 ∧ x.1 ≤ bound

section pinv
variable {E5 E6 k j : Nat} {f : Int × Int → List Value} {h h' : PH} {v5 : Value} {row : List T3} {g6 cap6 : Nat} {ri : List (Int × Int)} {top : Int × Int} {bound : Nat}

/-- The stack's block. -/
theorem PInv.cur (I : PInv E5 E6 k j f h h' v5 row g6 cap6 ri top bound) : ∃ cur, h' g6 = some (.cells cur E6) ∧ ri.length + 1 ≤ cap6 ∧ cap6 ≤ maxLen ∧ cur.size = cap6 * k ∧ cur.toList.take ((ri.length + 1) * k) = stk f ri top := by
  rcases I.own6.2 with ⟨h1, _⟩ | ⟨g, cap, cur, h1, h2⟩
  · cases h1
  · cases h1
    exact ⟨cur, h2⟩
theorem PInv.more (I : PInv E5 E6 k j f h h' v5 row g6 cap6 ri top bound) {b : Nat} (hb : bound ≤ b) : PInv E5 E6 k j f h h' v5 row g6 cap6 ri top b :=
  { I with rowb := Nat.le_trans I.rowb hb, rib := Nat.le_trans I.rib hb, mb := fun x hx => by have := I.mb x hx; omega }
/-- Memory is added. -/
theorem PInv.grow (I : PInv E5 E6 k j f h h' v5 row g6 cap6 ri top bound) {h2 : PH} (e : Ext h' h2) : PInv E5 E6 k j f h h2 v5 row g6 cap6 ri top bound :=
  { I with ext := I.ext.trans e, own5 := I.own5.ext fun g _ o ho => e g o ho, own6 := I.own6.ext fun g _ o ho => e g o ho }
/-- The topmost list has one thing more. -/
theorem PInv.bump (L : Lay f k j) (I : PInv E5 E6 k j f h h' v5 row g6 cap6 ri top bound) (hm : top.1 + 1 ≤ bound) {cur : Array Value} (hc : h' g6 = some (.cells cur E6)) :
    ri.length * k + j < cur.size ∧ PInv E5 E6 k j f h (put h' g6 (.cells (cur.setIfInBounds (ri.length * k + j) (.int .i64 (top.1 + 1))) E6)) v5 row g6 cap6 ri (top.1 + 1, top.2) bound := by
  obtain ⟨cur', hc', h1, h2, h3, h4⟩ := I.cur
  rw [hc] at hc'
  obtain rfl : cur = cur' := by simpa using hc'
  have hlt : ri.length * k + j < (ri.length + 1) * k := by rw [Nat.add_mul, Nat.one_mul]; have := L.lt; omega
  have hle : (ri.length + 1) * k ≤ cap6 * k := Nat.mul_le_mul_right _ h1
  refine ⟨by omega, ⟨fun r o hr => ?_, I.own5.ext fun g hg o ho => ?_, I.new5, ⟨?_, .inr ⟨g6, cap6, _, rfl, put_self _ _ _, h1, h2, by simp [h3], ?_⟩⟩, I.new6, I.sep, I.rowb, I.rib, fun x hx => ?_⟩⟩
  · unfold put
    rw [if_neg]
    · exact I.ext r o hr
    · rintro rfl; rw [I.new6] at hr; cases hr
  · unfold put
    rw [if_neg]
    · exact ho
    · rintro rfl; exact I.sep hg
  · rw [stk, flatMap_length L.len]; simp
  · rw [Array.toList_setIfInBounds, List.take_set, h4, stk_eq, stk_eq]
    have hl : (ri.reverse.flatMap f).length = ri.length * k := by rw [flatMap_length L.len]; simp
    rw [List.set_append_right _ _ (by omega), hl, show ri.length * k + j - ri.length * k = j by omega]
    rw [show top = (top.1, top.2) from rfl, L.set]
  · rcases List.mem_cons.1 hx with rfl | hx
    · have := I.mb top (List.mem_cons_self ..); simp; omega
    · have := I.mb x (List.mem_cons_of_mem _ hx); omega
/-- A thing more in the row. -/
theorem PInv.addRow (I : PInv E5 E6 k j f h h' v5 row g6 cap6 ri top bound) {h2 : PH} {v5' : Value} {x : T3} (hO : OwnK h2 E5 3 v5' (row.length + 1) (flat row ++ x.cells)) (hold : ∀ r o, h' r = some o → some r ≠ v5.ownBlock → h2 r = some o) (hb : v5'.ownBlock = v5.ownBlock ∨ ∀ g, v5'.ownBlock = some g → h' g = none) :
    PInv E5 E6 k j f h h2 v5' (row ++ [x]) g6 cap6 ri top (bound + 1) := by
  obtain ⟨cur, hc, _⟩ := I.cur
  refine ⟨fun r o hr => hold r o (I.ext r o hr) fun e => ?_, ?_, fun g hg => ?_, I.own6.ext fun g hg o ho => hold g o ho fun e => ?_, I.new6, fun e => ?_, by have := I.rowb; simp; omega, by have := I.rib; omega, fun y hy => by have := I.mb y hy; omega⟩
  · have := I.new5 r e.symm
    rw [this] at hr; cases hr
  · have e1 : (row ++ [x]).length = row.length + 1 := by simp
    have e2 : flat (row ++ [x]) = flat row ++ x.cells := by rw [flat_append]; simp [flat]
    rw [e1, e2]; exact hO
  · rcases hb with e | e
    · exact I.new5 g (e ▸ hg)
    · cases hx : h g with
      | none => rfl
      | some o => have := I.ext g o hx; rw [e g hg] at this; cases this
  · obtain rfl : g6 = g := by simpa [Value.ownBlock] using hg
    exact I.sep e.symm
  · rcases hb with e2 | e2
    · exact I.sep (e2 ▸ e)
    · rw [e2 g6 e] at hc; cases hc
/-- A list is opened. -/
theorem PInv.push (I : PInv E5 E6 k j f h h' v5 row g6 cap6 ri top bound) {h2 : PH} {v6' : Value} {p : Int} (hO : OwnK h2 E6 k v6' (ri.length + 1 + 1) (stk f ri top ++ f (0, p))) (hold : ∀ r o, h' r = some o → some r ≠ some g6 → h2 r = some o) (hb : v6'.ownBlock = some g6 ∨ ∀ g, v6'.ownBlock = some g → h' g = none) :
    ∃ g6' cap6', v6' = .slice (some ⟨g6', 0, none⟩) (ri.length + 1 + 1) cap6' ∧ PInv E5 E6 k j f h h2 v5 row g6' cap6' (top :: ri) (0, p) (bound + 1) := by
  rcases hO.2 with ⟨_, e⟩ | ⟨g, cap, cur, rfl, h3⟩
  · omega
  refine ⟨g, cap, rfl, ⟨fun r o hr => hold r o (I.ext r o hr) fun e => ?_, I.own5.ext fun g' hg o ho => hold g' o ho fun e => ?_, I.new5, ?_, ?_, fun e => ?_, by have := I.rowb; omega, by have := I.rib; simp; omega, fun y hy => ?_⟩⟩
  · obtain rfl : r = g6 := by simpa using e
    rw [I.new6] at hr; cases hr
  · obtain rfl : g' = g6 := by simpa using e
    exact I.sep hg
  · rw [stk_push]
    exact hO
  · rcases hb with e | e
    · obtain rfl : g = g6 := by simpa [Value.ownBlock] using e
      exact I.new6
    · cases hx : h g with
      | none => rfl
      | some o => have := I.ext g o hx; rw [e g rfl] at this; cases this
  · rcases hb with e2 | e2
    · obtain rfl : g = g6 := by simpa [Value.ownBlock] using e2
      exact I.sep e
    · rcases I.own5.2 with ⟨h1, _⟩ | ⟨g', _, _, h1, h4, _⟩
      · rw [h1] at e; cases e
      · obtain rfl : g' = g := by rw [h1] at e; simpa [Value.ownBlock] using e
        rw [e2 g' rfl] at h4; cases h4
  · rcases List.mem_cons.1 hy with rfl | hy
    · simp; omega
    · have := I.mb y hy; omega
/-- A list is closed. -/
theorem PInv.pop (L : Lay f k j) {u : Int × Int} (I : PInv E5 E6 k j f h h' v5 row g6 cap6 (u :: ri) top bound) : PInv E5 E6 k j f h h' v5 row g6 cap6 ri u bound := by
  obtain ⟨cur, hc, h1, h2, h3, h4⟩ := I.cur
  simp only [List.length_cons] at h1 h4
  have hlen : (stk f ri u).length = (ri.length + 1) * k := by rw [stk, flatMap_length L.len]; simp
  refine ⟨I.ext, I.own5, I.new5, ⟨hlen, .inr ⟨g6, cap6, cur, rfl, hc, by omega, h2, h3, ?_⟩⟩, I.new6, I.sep, I.rowb, by have := I.rib; simp at this; omega, fun y hy => I.mb y (List.mem_cons_of_mem _ hy)⟩
  have e : cur.toList.take ((ri.length + 1) * k) = (cur.toList.take ((ri.length + 1 + 1) * k)).take ((ri.length + 1) * k) := by
    rw [List.take_take, Nat.min_eq_left (Nat.mul_le_mul_right _ (by omega))]
  rw [e, h4, stk_push, ← hlen]
  exact List.take_left
end pinv
end Go.Proofs.Ytfaadjmglboaoaa
