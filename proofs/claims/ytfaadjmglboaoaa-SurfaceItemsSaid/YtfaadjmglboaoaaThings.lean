/-
  Rows of things by definition: the stack that reads them from the front, the search that reads them from the end; that both are the same.
-/
import Derived.Test.YtfaadjmglboaoaaSame
namespace Go.Proofs.Ytfaadjmglboaoaa
open Go.Conc Go.RowKit

/-- No thing ends so. -/
def T3.bad (x : T3) : Prop := x.a < 0 ∨ (x.s ≠ { data := #[] } ∧ x.a ≠ 0)
instance (x : T3) : Decidable x.bad := by unfold T3.bad; infer_instance

/-- From the front: the things so far. -/
def tgo : List T3 → List (List T3) → Option (List (List T3))
  | [], st => some st
  | x :: ts, st => if x.bad ∨ (st.length : Int) < x.a then none else tgo ts (st.take (st.length - x.a.toNat) ++ [(st.drop (st.length - x.a.toNat)).flatten ++ [x]])

/-- A thing. -/
inductive Thing : List T3 → Prop
  | mk (ts : List (List T3)) (x : T3) (h : ∀ t ∈ ts, Thing t) (hx : ¬ x.bad) (hn : x.a = (ts.length : Nat)) : Thing (ts.flatten ++ [x])

theorem Thing.ne {t : List T3} (h : Thing t) : t ≠ [] := by
  cases h
  simp

theorem tgo_things (rest : List T3) (ts : List (List T3)) (h : ∀ t ∈ ts, ∀ rest st, tgo (t ++ rest) st = tgo rest (st ++ [t])) : ∀ st, tgo (ts.flatten ++ rest) st = tgo rest (st ++ ts) := by
  induction ts with
  | nil => intro st; simp
  | cons t ts ih =>
    intro st
    rw [List.flatten_cons, List.append_assoc, h t List.mem_cons_self, ih (fun u hu => h u (List.mem_cons_of_mem _ hu)), List.append_assoc]
    rfl
theorem Thing.go {t : List T3} (h : Thing t) : ∀ rest st, tgo (t ++ rest) st = tgo rest (st ++ [t]) := by
  induction h with
  | mk ts x _ hx hn ih =>
    intro rest st
    rw [List.append_assoc, tgo_things _ ts ih]
    show tgo (x :: rest) (st ++ ts) = _
    rw [tgo]
    have e : (st ++ ts).length - x.a.toNat = st.length := by rw [hn]; simp
    rw [if_neg (by rw [hn, List.length_append]; rintro (h | h); exact hx h; omega), e]
    simp
theorem tgo_all (ts : List (List T3)) (h : ∀ t ∈ ts, Thing t) (rest : List T3) (st : List (List T3)) : tgo (ts.flatten ++ rest) st = tgo rest (st ++ ts) :=
  tgo_things rest ts (fun t ht => (h t ht).go) st

theorem tgo_some : ∀ (l : List T3) (st st' : List (List T3)), (∀ t ∈ st, Thing t) → tgo l st = some st' → (∀ t ∈ st', Thing t) ∧ st'.flatten = st.flatten ++ l := by
  intro l
  induction l with
  | nil => intro st st' h e; rw [tgo] at e; obtain rfl := Option.some.inj e; exact ⟨h, by simp⟩
  | cons x l ih =>
    intro st st' h e
    rw [tgo] at e
    split at e
    · cases e
    · rename_i hc
      have hc' : ¬ x.bad ∧ ¬ (st.length : Int) < x.a := not_or.1 hc
      have hx0 : 0 ≤ x.a := by
        have := hc'.1
        unfold T3.bad at this
        omega
      have hd : (st.drop (st.length - x.a.toNat)).length = x.a.toNat := by rw [List.length_drop]; omega
      obtain ⟨h1, h2⟩ := ih _ st' (by
        intro t ht
        rcases List.mem_append.1 ht with ht | ht
        · exact h t (List.mem_of_mem_take ht)
        · obtain rfl := List.mem_singleton.1 ht
          exact Thing.mk _ x (fun u hu => h u (List.mem_of_mem_drop hu)) hc'.1 (by rw [hd]; omega)) e
      refine ⟨h1, ?_⟩
      rw [h2, List.flatten_append]
      have hs : st.flatten = (st.take (st.length - x.a.toNat)).flatten ++ (st.drop (st.length - x.a.toNat)).flatten := by
        rw [← List.flatten_append, List.take_append_drop]
      rw [hs]
      simp
theorem tgo_none : ∀ t ∈ ([] : List (List T3)), Thing t := fun t h => by cases h

/-- Two rows, one behind the other. -/
theorem tgo_append {l r : List T3} {a b : List (List T3)} (h : tgo l [] = some a) (g : tgo r [] = some b) : tgo (l ++ r) [] = some (a ++ b) := by
  obtain ⟨h1, h2⟩ := tgo_some l [] a tgo_none h
  obtain ⟨g1, g2⟩ := tgo_some r [] b tgo_none g
  have e1 : l ++ r = a.flatten ++ (b.flatten ++ []) := by rw [h2, g2]; simp
  rw [e1, tgo_all a h1, tgo_all b g1]
  rfl
/-- A list of a row's things. -/
theorem tgo_list {l : List T3} {a : List (List T3)} (h : tgo l [] = some a) (x : T3) (hx : x.a = (a.length : Nat)) (hs : x.s = { data := #[] }) : tgo (l ++ [x]) [] = some [l ++ [x]] := by
  obtain ⟨h1, h2⟩ := tgo_some l [] a tgo_none h
  have e1 : l ++ [x] = a.flatten ++ [x] := by rw [h2]; simp
  have hb : ¬ x.bad := by unfold T3.bad; rintro (h | ⟨h, _⟩); omega; exact h hs
  have := (Thing.mk a x h1 hb hx).go [] []
  rw [List.append_nil, ← e1] at this
  rw [this]; rfl

/-! ### From the end -/
def iter (f : List T3 → Option (List T3)) : Nat → List T3 → Option (List T3)
  | 0, r => some r
  | k + 1, r => (f r).bind (iter f k)
def beg : Nat → List T3 → Option (List T3)
  | 0, _ => none
  | _ + 1, [] => none
  | n + 1, x :: r => if x.bad then none else iter (beg n) x.a.toNat r
/-- What is left ahead of the thing that ends here: the row backwards. -/
def bg (r : List T3) : Option (List T3) := beg r.length r

theorem beg_lt : ∀ (n : Nat) (r r' : List T3), beg n r = some r' → r'.length < r.length
  | 0, _, _, h => by cases h
  | _ + 1, [], _, h => by cases h
  | n + 1, x :: r, r', h => by
    rw [beg] at h
    split at h
    · cases h
    · have key : ∀ k (a b : List T3), iter (beg n) k a = some b → b.length ≤ a.length := by
        intro k
        induction k with
        | zero => intro a b e; obtain rfl := Option.some.inj e; exact Nat.le_refl _
        | succ k ih =>
          intro a b e
          rw [iter] at e
          obtain ⟨c, e1, e2⟩ := Option.bind_eq_some_iff.1 e
          have := beg_lt n a c e1
          have := ih c b e2
          omega
      have := key _ _ _ h
      simp; omega
theorem beg_more : ∀ (n : Nat) (r : List T3), r.length ≤ n → ∀ m, r.length ≤ m → beg n r = beg m r
  | 0, [], _, m, _ => by cases m <;> rfl
  | n + 1, [], _, m, _ => by cases m <;> rfl
  | n + 1, x :: r, h, 0, h2 => by simp at h2
  | n + 1, x :: r, h, m + 1, h2 => by
    rw [beg, beg]
    have key : ∀ k (a : List T3), a.length ≤ r.length → iter (beg n) k a = iter (beg m) k a := by
      intro k
      induction k with
      | zero => intro a _; rfl
      | succ k ih =>
        intro a ha
        rw [iter, iter, beg_more n a (by simp at h; omega) m (by simp at h2; omega)]
        cases e : beg m a with
        | none => rfl
        | some b =>
          have := beg_lt m a b e
          exact ih b (by omega)
    split
    · rfl
    · exact key _ _ (Nat.le_refl _)
theorem iter_bg (n : Nat) : ∀ k (a : List T3), a.length ≤ n → iter (beg n) k a = iter bg k a := by
  intro k
  induction k with
  | zero => intro a _; rfl
  | succ k ih =>
    intro a ha
    rw [iter, iter, beg_more n a ha a.length (Nat.le_refl _)]
    show (bg a).bind _ = (bg a).bind _
    cases e : bg a with
    | none => rfl
    | some b =>
      have := beg_lt _ a b e
      exact ih b (by omega)
theorem bg_nil : bg [] = none := rfl
theorem bg_cons (x : T3) (r : List T3) : bg (x :: r) = if x.bad then none else iter bg x.a.toNat r := by
  show beg (r.length + 1) (x :: r) = _
  rw [beg, iter_bg _ _ _ (Nat.le_refl _)]
theorem bg_lt {r r' : List T3} (h : bg r = some r') : r'.length < r.length := beg_lt _ _ _ h

theorem iter_things (p : List T3) (ts : List (List T3)) (h : ∀ t ∈ ts, ∀ p, bg (p ++ t).reverse = some p.reverse) : iter bg ts.length (p ++ ts.flatten).reverse = some p.reverse := by
  have key : ∀ (us : List (List T3)), (∀ t ∈ us, ∀ p, bg (p ++ t).reverse = some p.reverse) → iter bg us.length (p ++ us.reverse.flatten).reverse = some p.reverse := by
    intro us
    induction us with
    | nil => intro _; simp [iter]
    | cons u us ih =>
      intro hu
      rw [List.length_cons, iter]
      have e : p ++ (u :: us).reverse.flatten = (p ++ us.reverse.flatten) ++ u := by simp
      rw [e, hu u List.mem_cons_self]
      exact ih fun t ht => hu t (List.mem_cons_of_mem _ ht)
  have := key ts.reverse fun t ht => h t (List.mem_reverse.1 ht)
  simpa using this
theorem Thing.bg {t : List T3} (h : Thing t) : ∀ p, bg (p ++ t).reverse = some p.reverse := by
  induction h with
  | mk ts x _ hx hn ih =>
    intro p
    have e : (p ++ (ts.flatten ++ [x])).reverse = x :: (p ++ ts.flatten).reverse := by simp
    rw [e, bg_cons, if_neg hx, hn]
    exact iter_things p ts ih

theorem bg_thing : ∀ (n : Nat) (r r' : List T3), r.length ≤ n → Go.Proofs.Ytfaadjmglboaoaa.bg r = some r' → ∃ t, Thing t ∧ r.reverse = r'.reverse ++ t := by
  intro n
  induction n with
  | zero =>
    intro r r' h e
    obtain rfl := List.eq_nil_of_length_eq_zero (Nat.le_zero.1 h)
    cases e
  | succ n ih =>
    intro r r' h e
    cases r with
    | nil => cases e
    | cons x r =>
      rw [bg_cons] at e
      split at e
      · cases e
      · rename_i hx
        have hx0 : 0 ≤ x.a := by
          unfold T3.bad at hx
          omega
        have key : ∀ k (a b : List T3), a.length ≤ n → iter Go.Proofs.Ytfaadjmglboaoaa.bg k a = some b → ∃ ts : List (List T3), ts.length = k ∧ (∀ t ∈ ts, Thing t) ∧ a.reverse = b.reverse ++ ts.flatten := by
          intro k
          induction k with
          | zero => intro a b _ e; obtain rfl := Option.some.inj e; exact ⟨[], rfl, tgo_none, by simp⟩
          | succ k ihk =>
            intro a b ha e
            rw [iter] at e
            obtain ⟨c, e1, e2⟩ := Option.bind_eq_some_iff.1 e
            obtain ⟨t, h1, h2⟩ := ih a c ha e1
            have := bg_lt e1
            obtain ⟨ts, h3, h4, h5⟩ := ihk c b (by omega) e2
            refine ⟨ts ++ [t], by simp [h3], ?_, by rw [h2, h5]; simp⟩
            intro u hu
            rcases List.mem_append.1 hu with hu | hu
            · exact h4 u hu
            · obtain rfl := List.mem_singleton.1 hu; exact h1
        obtain ⟨ts, h3, h4, h5⟩ := key _ r r' (by simp at h; omega) e
        refine ⟨ts.flatten ++ [x], Thing.mk ts x h4 hx (by omega), ?_⟩
        rw [List.reverse_cons, h5, List.append_assoc]

/-- The reference's search for the things. -/
def rgo : Nat → List T3 → List (List T3) → Option (List (List T3))
  | _, [], out => some out
  | 0, _ :: _, _ => none
  | n + 1, x :: r, out => match Go.Proofs.Ytfaadjmglboaoaa.bg (x :: r) with
    | none => none
    | some r' => rgo n r' (((x :: r).reverse.drop r'.length) :: out)

theorem rgo_some : ∀ (n : Nat) (r : List T3) (out out' : List (List T3)), (∀ t ∈ out, Thing t) → rgo n r out = some out' → (∀ t ∈ out', Thing t) ∧ out'.flatten = r.reverse ++ out.flatten := by
  intro n
  induction n with
  | zero =>
    intro r out out' h e
    cases r with
    | nil => rw [rgo] at e; obtain rfl := Option.some.inj e; exact ⟨h, by simp⟩
    | cons x r => cases e
  | succ n ih =>
    intro r out out' h e
    cases r with
    | nil => rw [rgo] at e; obtain rfl := Option.some.inj e; exact ⟨h, by simp⟩
    | cons x r =>
      rw [rgo] at e
      cases hb : Go.Proofs.Ytfaadjmglboaoaa.bg (x :: r) with
      | none => rw [hb] at e; cases e
      | some r' =>
        rw [hb] at e
        obtain ⟨t, h1, h2⟩ := bg_thing _ _ _ (Nat.le_refl _) hb
        have hd : (x :: r).reverse.drop r'.length = t := by
          have hl : r'.length = r'.reverse.length := by simp
          rw [h2, hl, List.drop_left]
        simp only [hd] at e
        obtain ⟨h3, h4⟩ := ih r' (t :: out) out' (by
          intro u hu
          rcases List.mem_cons.1 hu with rfl | hu
          · exact h1
          · exact h u hu) e
        exact ⟨h3, by rw [h4, h2]; simp⟩
theorem rgo_things : ∀ (us : List (List T3)) (n : Nat) (out : List (List T3)), (∀ t ∈ us, Thing t) → us.reverse.flatten.length ≤ n → rgo n us.reverse.flatten.reverse out = some (us.reverse ++ out) := by
  intro us
  induction us with
  | nil => intro n out _ _; cases n <;> rfl
  | cons u us ih =>
    intro n out h hn
    have hu := h u List.mem_cons_self
    have e : (u :: us).reverse.flatten = us.reverse.flatten ++ u := by simp
    rw [e] at hn ⊢
    have hpos : 0 < u.length := List.length_pos_iff.2 hu.ne
    rw [List.length_append] at hn
    obtain ⟨m, rfl⟩ : ∃ m, n = m + 1 := ⟨n - 1, by omega⟩
    have hb := hu.bg us.reverse.flatten
    cases hr : (us.reverse.flatten ++ u).reverse with
    | nil => rw [hr] at hb; cases hb
    | cons x r =>
      rw [hr] at hb
      rw [rgo, hb]
      have hd : (x :: r).reverse.drop (us.reverse.flatten.reverse).length = u := by
        rw [← hr, List.reverse_reverse, List.length_reverse, List.drop_left]
      simp only [hd]
      rw [ih m (u :: out) (fun t ht => h t (List.mem_cons_of_mem _ ht)) (by omega)]
      simp

/-- ████ Both are the same. ████ -/
theorem rgo_eq (l : List T3) (n : Nat) (hn : l.length ≤ n) : rgo n l.reverse [] = tgo l [] := by
  cases ht : tgo l [] with
  | some st =>
    obtain ⟨h1, h2⟩ := tgo_some l [] st tgo_none ht
    have := rgo_things st.reverse n [] (fun t h => h1 t (List.mem_reverse.1 h)) (by rw [List.reverse_reverse, h2]; simpa using hn)
    rw [List.reverse_reverse, h2] at this
    simpa using this
  | none =>
    cases hr : rgo n l.reverse [] with
    | none => rfl
    | some out =>
      obtain ⟨h1, h2⟩ := rgo_some n l.reverse [] out tgo_none hr
      have e : l = out.flatten ++ [] := by rw [h2]; simp
      rw [e, tgo_all out h1] at ht
      cases ht
end Go.Proofs.Ytfaadjmglboaoaa
