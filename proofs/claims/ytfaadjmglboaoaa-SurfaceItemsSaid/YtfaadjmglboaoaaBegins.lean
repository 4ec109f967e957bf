/-
  cornicelaw07.heavy, surface.begins.
-/
import Derived.Test.YtfaadjmglboaoaaArr3
namespace Go.Proofs.Ytfaadjmglboaoaa
open Go.Conc Go.RowKit

/-- A slice of one's own that is being made since h. -/
structure OInv (E : TypeId) (k : Nat) (h h' : PH) (v : Value) (n : Nat) (xs : List Value) : Prop where
  ext : Ext h h'
  own : OwnK h' E k v n xs
  new : ∀ g, v.ownBlock = some g → h g = none

section oinv
variable {E : TypeId} {k : Nat} {h h' : PH} {v : Value} {n : Nat} {xs : List Value}
theorem OInv.grow (I : OInv E k h h' v n xs) {h2 : PH} (e : Ext h' h2) : OInv E k h h2 v n xs := ⟨I.ext.trans e, I.own.ext fun g _ o ho => e g o ho, I.new⟩
theorem OInv.add (I : OInv E k h h' v n xs) {h2 : PH} {v' : Value} {n' : Nat} {xs' : List Value} (hO : OwnK h2 E k v' n' xs') (hold : ∀ r o, h' r = some o → some r ≠ v.ownBlock → h2 r = some o) (hb : v'.ownBlock = v.ownBlock ∨ ∀ g, v'.ownBlock = some g → h' g = none) : OInv E k h h2 v' n' xs' := by
  refine ⟨fun r o hr => hold r o (I.ext r o hr) fun e => ?_, hO, fun g hg => ?_⟩
  · have := I.new r e.symm
    rw [this] at hr; cases hr
  · rcases hb with e | e
    · exact I.new g (e ▸ hg)
    · cases hx : h g with
      | none => rfl
      | some o => have := I.ext g o hx; rw [e g hg] at this; cases this
theorem oinv_nil (h : PH) (E : TypeId) (k : Nat) : OInv E k h h (.slice none 0 0) 0 [] := ⟨Ext.refl h, ownK_nil h E k, fun g hg => by cases hg⟩
theorem oinv_new {g : Nat} (hg : h g = none) : OInv E k h (put h g (.cells #[] E)) (.slice (some ⟨g, 0, none⟩) 0 0) 0 [] :=
  ⟨ext_put hg, ⟨by simp, .inr ⟨g, 0, #[], rfl, put_self _ _ _, Nat.le_refl _, by decide, by simp, by simp⟩⟩, fun g' hg' => by rw [← Option.some.inj hg']; exact hg⟩
theorem oinv_of {h1 : PH} (e : Ext h h1) (I : OInv E k h1 h' v n xs) : OInv E k h h' v n xs := ⟨e.trans I.ext, I.own, fun g hg => by
  cases hx : h g with
  | none => rfl
  | some o => have := e g o hx; rw [I.new g hg] at this; cases this⟩

/-- Its shape. -/
theorem OwnK.shape2 (s : OwnK h E k v n xs) : ∃ p c, v = .slice p n c ∧ n ≤ c := by
  rcases s.2 with ⟨rfl, rfl⟩ | ⟨g, cap, cur, rfl, _, h2, _⟩
  · exact ⟨_, _, rfl, Nat.le_refl _⟩
  · exact ⟨_, _, rfl, h2⟩
theorem OwnK.pos {p : Option Addr} {m c : Nat} (s : OwnK h E k (.slice p m c) n xs) (hn : 0 < n) : ∃ g, p = some ⟨g, 0, none⟩ ∧ SlAt h g 0 xs := by
  obtain ⟨h1, h2⟩ := s.rsl
  rcases s.2 with ⟨_, e⟩ | ⟨g, cap, cur, e, e1, e2, e3, e4, e5⟩
  · omega
  · cases e
    rcases h2 with ⟨e, _⟩ | ⟨B, o, cap', e, hS⟩
    · omega
    · cases e
      exact ⟨g, rfl, hS⟩
theorem OwnK.take {p : Option Addr} {c : Nat} (s : OwnK h E k (.slice p n c) n xs) {m : Nat} (hm : m ≤ n) : OwnK h E k (.slice p m c) m (xs.take (m * k)) := by
  obtain ⟨h1, h2⟩ := s
  have hmk : m * k ≤ n * k := Nat.mul_le_mul_right _ hm
  refine ⟨by rw [List.length_take, h1]; omega, ?_⟩
  rcases h2 with ⟨e, rfl⟩ | ⟨g, cap, cur, e, e1, e2, e3, e4, e5⟩
  · cases e
    obtain rfl : m = 0 := by omega
    exact .inl ⟨rfl, rfl⟩
  · cases e
    exact .inr ⟨g, c, cur, rfl, e1, by omega, e3, e4, by rw [← e5, List.take_take]; congr 1; omega⟩
theorem OInv.take {p : Option Addr} {c : Nat} (s : OInv E k h h' (.slice p n c) n xs) {m : Nat} (hm : m ≤ n) : OInv E k h h' (.slice p m c) m (xs.take (m * k)) := ⟨s.ext, s.own.take hm, fun g hg => s.new g (by
  rcases p with _ | ⟨B, o, _⟩
  · cases hg
  · exact hg)⟩
end oinv

section ylds
variable {ρ : Operand → Value} {d : Option Tmp} {ty : TypeId} {pos : String} {af : Array Edge} {gu : Option (Nat × Bool)}
theorem y_slice_own {T E k b : Nat} {z : Value} (ET : ElemTy T E k b z) {h : PH} {p : Option Addr} {n c m : Nat} {xs : List Value} (hO : OwnK h E k (.slice p n c) n xs) {x j : Operand} (hx : ρ x = .slice p n c) (hj : ρ j = .int .i64 m) (hm : m ≤ n) : Ylds ρ ⟨d, .slice T x none (some j) none, ty, pos, af, gu⟩ (.slice p m c) := by
  rcases hO.2 with ⟨e, e0⟩ | ⟨g, cap, cur, e, _, e2, _⟩
  · cases e
    obtain rfl : m = 0 := by omega
    exact y_slice_nil ET hx hj
  · cases e
    exact y_slice_arr ET hx hj (by omega)
end ylds

/-! ### heavy -/
def heavyB (l : List T3) : Bool := decide (200 < l.length) || l.any fun x => decide (100 < x.s.size)
theorem heavy_not {l : List T3} (h : heavyB l = false) : l.length ≤ 200 ∧ ∀ x ∈ l, x.s.size ≤ 100 := by
  unfold heavyB at h
  obtain ⟨h1, h2⟩ := Bool.or_eq_false_iff.1 h
  refine ⟨by simpa using h1, fun x hx => ?_⟩
  have := List.any_eq_false.1 h2 x hx
  simpa using this

set_option maxHeartbeats 1000000 in
theorem heavy36 {main : Bool} (h : PH) (l : List T3) (p : Option Addr) (c : Nat) (hR : RSl h 3 (.slice p l.length c) l.length (flat l)) :
    CallsG Try.prog (GB main) 36 #[.slice p l.length c] h (fun r h' => h' = h ∧ r = .bool (heavyB l)) := by
  refine callsG_of_wp (c := Try.f36.body.getD .skip) gb idleB Try.func36 rfl ?_
  rw [Try.ntmps36]
  rw [fr_of (n := 20) (by simp) [(0, .slice p l.length c)] ⟨by simp, trivial⟩]
  generalize (fun j => (#[Value.slice p l.length c] ++ Array.replicate (20 - #[Value.slice p l.length c].size) undef).getD j undef) = σ
  rcases Nat.lt_or_ge 200 l.length with hs | hs
  · refine wpG_seq gb idleB ?_
    refine wpG_region gb idleB ?_
    refine opsF_val gb idleB rfl (by rfl) rfl (x := .bool false) (y_assign rfl) ?_
    refine opsG_nil gb idleB ?_
    refine wpG_seq gb idleB ?_
    refine wpG_seq gb idleB ?_
    refine wpG_region gb idleB ?_
    refine opsF_val gb idleB rfl (by rfl) rfl (x := .slice p l.length c) (y_move rfl) ?_
    refine opsF_val gb idleB rfl (by rfl) rfl (x := .int .i64 (l.length : Nat)) (y_len_slice Try.underlying44 rfl) ?_
    refine opsF_val gb idleB rfl (by rfl) rfl (x := .bool true) (y_gtr rfl rfl (by simp; omega)) ?_
    refine opsG_nil gb idleB ?_
    refine wpG_cond gb idleB (t := true) (by rw [fr_eval]; rfl) ?_
    refine wpG_seq gb idleB ?_
    refine wpG_region gb idleB ?_
    refine opsF_val gb idleB rfl (by rfl) rfl (x := .bool true) (y_assign rfl) ?_
    refine opsG_nil gb idleB ?_
    refine wpG_ret gb idleB ?_
    exact ⟨.inr rfl, rfl, _, resultsC_tmp (by rfl) _, rfl, (fr_ret (x := .bool true) (by decide) rfl).trans (by unfold heavyB; rw [decide_eq_true hs]; rfl)⟩
  refine wpG_seq gb idleB ?_
  refine wpG_region gb idleB ?_
  refine opsF_val gb idleB rfl (by rfl) rfl (x := .bool false) (y_assign rfl) ?_
  refine opsG_nil gb idleB ?_
  refine wpG_seq gb idleB ?_
  refine wpG_seq gb idleB ?_
  refine wpG_region gb idleB ?_
  refine opsF_val gb idleB rfl (by rfl) rfl (x := .slice p l.length c) (y_move rfl) ?_
  refine opsF_val gb idleB rfl (by rfl) rfl (x := .int .i64 (l.length : Nat)) (y_len_slice Try.underlying44 rfl) ?_
  refine opsF_val gb idleB rfl (by rfl) rfl (x := .bool false) (y_gtr rfl rfl (by simp; omega)) ?_
  refine opsG_nil gb idleB ?_
  refine wpG_cond gb idleB (t := false) (by rw [fr_eval]; rfl) ?_
  refine wpG_skip gb idleB ?_
  refine wpG_seq gb idleB ?_
  refine wpG_seq gb idleB ?_
  refine wpG_region gb idleB ?_
  refine opsF_val gb idleB rfl (by rfl) rfl (x := .int .i64 0) (y_assign rfl) ?_
  refine opsG_nil gb idleB ?_
  refine wpG_block gb idleB ?_
  refine wpG_loopN gb idleB (fun m a v => ∃ (dn rest : List T3) (τ : Nat → Value), m = rest.length ∧ l = dn ++ rest ∧ a = fr 20 τ [(0, .slice p l.length c), (3, .int .i64 (dn.length : Nat))] [] ∧ v = h ∧ ∀ x ∈ dn, x.s.size ≤ 100) l.length ⟨[], l, _, rfl, rfl, fr_says _ ⟨rfl, rfl, trivial⟩, rfl, by simp⟩ ?_
  rintro m _ v ⟨dn, rest, τ, rfl, htk, rfl, hv, hall⟩
  obtain rfl : h = v := hv.symm
  clear σ
  have hdn : dn.length + rest.length = l.length := by rw [htk, List.length_append]
  rcases rest with _ | ⟨t, ts⟩
  · rw [List.append_nil] at htk
    subst htk
    have hno : (l.any fun x => decide (100 < x.s.size)) = false := List.any_eq_false.2 fun x hx => by have := hall x hx; simp; omega
    refine wpG_seq gb idleB ?_
    refine wpG_seq gb idleB ?_
    refine wpG_region gb idleB ?_
    refine opsF_val gb idleB rfl (by rfl) rfl (x := .int .i64 (l.length : Nat)) (y_move rfl) ?_
    refine opsF_val gb idleB rfl (by rfl) rfl (x := .slice p l.length c) (y_move rfl) ?_
    refine opsF_val gb idleB rfl (by rfl) rfl (x := .int .i64 (l.length : Nat)) (y_len_slice Try.underlying44 rfl) ?_
    refine opsF_val gb idleB rfl (by rfl) rfl (x := .bool false) (y_lss rfl rfl (by simp)) ?_
    refine opsG_nil gb idleB ?_
    refine wpG_cond gb idleB (t := false) (by rw [fr_eval]; rfl) ?_
    refine wpG_exit gb idleB ?_
    refine wpG_seq gb idleB ?_
    refine wpG_region gb idleB ?_
    refine opsF_val gb idleB rfl (by rfl) rfl (x := .bool false) (y_assign rfl) ?_
    refine opsG_nil gb idleB ?_
    refine wpG_ret gb idleB ?_
    exact ⟨.inr rfl, rfl, _, resultsC_tmp (by rfl) _, rfl, (fr_ret (x := .bool false) (by decide) rfl).trans (by unfold heavyB; rw [hno, decide_eq_false (by omega)]; rfl)⟩
  · simp only [List.length_cons] at hdn
    obtain ⟨B, o, rfl, hS⟩ := hR.pos (by omega)
    rw [show flat l = flat (dn ++ t :: ts) by rw [htk]] at hS
    obtain ⟨hga, hgb, hgs⟩ := flat_get dn ts t
    refine wpG_seq gb idleB ?_
    refine wpG_seq gb idleB ?_
    refine wpG_region gb idleB ?_
    refine opsF_val gb idleB rfl (by rfl) rfl (x := .int .i64 (dn.length : Nat)) (y_move rfl) ?_
    refine opsF_val gb idleB rfl (by rfl) rfl (x := .slice (some ⟨B, o, none⟩) l.length c) (y_move rfl) ?_
    refine opsF_val gb idleB rfl (by rfl) rfl (x := .int .i64 (l.length : Nat)) (y_len_slice Try.underlying44 rfl) ?_
    refine opsF_val gb idleB rfl (by rfl) rfl (x := .bool true) (y_lss rfl rfl (by simp at hdn ⊢; omega)) ?_
    refine opsG_nil gb idleB ?_
    refine wpG_cond gb idleB (t := true) (by rw [fr_eval]; rfl) ?_
    refine wpG_skip gb idleB ?_
    refine wpG_seq gb idleB ?_
    refine wpG_block gb idleB ?_
    refine wpG_seq gb idleB ?_
    refine wpG_region gb idleB ?_
    refine opsF_val gb idleB rfl (by rfl) rfl (x := .slice (some ⟨B, o, none⟩) l.length c) (y_move rfl) ?_
    refine opsF_val gb idleB rfl (by rfl) rfl (x := .int .i64 (dn.length : Nat)) (y_move rfl) ?_
    refine opsF_val gb idleB rfl (by rfl) rfl (x := .pointer (some ⟨B, o + dn.length * 3, none⟩)) (y_ix ty44 rfl rfl (by omega)) ?_
    refine opsF_val gb idleB rfl (by rfl) rfl (x := .pointer (some ⟨B, o + dn.length * 3 + 2, none⟩)) (y_fld (by decide) rfl) ?_
    refine opsF_rd gb (lensB2 _) rfl (by rfl) rfl (x := .string t.s) (rd_cellq (by decide) hS hgs (by omega) rfl) ?_
    refine opsF_val gb idleB rfl (by rfl) rfl (x := .int .i64 t.s.size) (y_len_string rfl) ?_
    refine opsF_val gb idleB rfl (by rfl) rfl (x := .bool (decide (100 < (t.s.size : Int)))) (y_gtr rfl rfl rfl) ?_
    rcases Nat.lt_or_ge 100 t.s.size with hcs | hcs
    · rw [show decide (100 < (t.s.size : Int)) = true by simp; omega]
      refine opsG_nil gb idleB ?_
      refine wpG_cond gb idleB (t := true) (by rw [fr_eval]; rfl) ?_
      refine wpG_seq gb idleB ?_
      refine wpG_region gb idleB ?_
      refine opsF_val gb idleB rfl (by rfl) rfl (x := .bool true) (y_assign rfl) ?_
      refine opsG_nil gb idleB ?_
      refine wpG_ret gb idleB ?_
      exact ⟨.inr rfl, rfl, _, resultsC_tmp (by rfl) _, rfl, (fr_ret (x := .bool true) (by decide) rfl).trans (by unfold heavyB; rw [List.any_eq_true.2 ⟨t, by rw [htk]; simp, by simpa using hcs⟩, Bool.or_true])⟩
    · rw [show decide (100 < (t.s.size : Int)) = false by simp; omega]
      refine opsG_nil gb idleB ?_
      refine wpG_cond gb idleB (t := false) (by rw [fr_eval]; rfl) ?_
      refine wpG_skip gb idleB ?_
      refine wpG_region gb idleB ?_
      refine opsF_val gb idleB rfl (by rfl) rfl (x := .int .i64 (dn.length : Nat)) (y_move rfl) ?_
      refine opsF_val gb idleB rfl (by rfl) rfl (x := .int .i64 (dn.length + 1 : Nat)) (y_add rfl rfl (by rw [IntKind.wrap_i64]; omega)) ?_
      refine opsF_val gb idleB rfl (by rfl) rfl (x := .int .i64 (dn.length + 1 : Nat)) (y_assign rfl) ?_
      refine opsG_nil gb idleB ?_
      exact ⟨ts.length, by rw [List.length_cons]; omega, dn ++ [t], ts, _, rfl, by rw [htk]; simp, fr_says _ ⟨rfl, by rw [List.length_append]; rfl, trivial⟩, rfl, fun x hx => by
        rcases List.mem_append.1 hx with hx | hx
        · exact hall x hx
        · obtain rfl := List.mem_singleton.1 hx
          simpa using hcs⟩

/-! ### begins -/
/-- Where things begin. -/
def starts : Nat → List (List T3) → List Nat
  | _, [] => []
  | o, t :: ts => o :: starts (o + t.length) ts
theorem starts_length : ∀ (ts : List (List T3)) (o : Nat), (starts o ts).length = ts.length
  | [], _ => rfl
  | t :: ts, o => by simp [starts, starts_length ts]
theorem starts_append : ∀ (a b : List (List T3)) (o : Nat), starts o (a ++ b) = starts o a ++ starts (o + a.flatten.length) b
  | [], b, o => by simp [starts]
  | t :: a, b, o => by
    rw [List.cons_append, starts, starts, starts_append a b]
    simp only [List.flatten_cons, List.length_append, Nat.add_assoc, List.cons_append]
theorem starts_get (a : List (List T3)) (t : List T3) (b : List (List T3)) : (starts 0 (a ++ t :: b))[a.length]? = some a.flatten.length := by
  rw [starts_append, List.getElem?_append_right (by rw [starts_length]; omega), starts_length, Nat.sub_self, Nat.zero_add]
  rfl
theorem starts_at (st : List (List T3)) (i : Nat) (hi : i < st.length) : (starts 0 st)[i]? = some (st.take i).flatten.length := by
  have e : st = st.take i ++ st[i] :: st.drop (i + 1) := by simp
  have := starts_get (st.take i) st[i] (st.drop (i + 1))
  rw [← e, List.length_take, Nat.min_eq_left (Nat.le_of_lt hi)] at this
  exact this
theorem starts_take (st : List (List T3)) (m : Nat) : (starts 0 st).take m = starts 0 (st.take m) := by
  have e : starts 0 st = starts 0 (st.take m ++ st.drop m) := by rw [List.take_append_drop]
  rw [e, starts_append]
  by_cases h : m ≤ st.length
  · have h1 : (starts 0 (st.take m)).length = m := by rw [starts_length, List.length_take]; omega
    rw [List.take_append_of_le_length (by omega), List.take_of_length_le (by omega)]
  · rw [List.take_of_length_le (by rw [List.length_append, starts_length, starts_length, List.length_take, List.length_drop]; omega)]
    rw [List.drop_eq_nil_of_le (by omega)]
    simp [starts]
def ints (l : List Nat) : List Value := l.map fun (n : Nat) => Value.int .i64 (n : Int)
/-- Where they begin, and where all end. -/
def places (st : List (List T3)) : List Nat := starts 0 st ++ [st.flatten.length]
theorem places_at (st : List (List T3)) (i : Nat) (hi : i ≤ st.length) : (places st)[i]? = some (st.take i).flatten.length := by
  unfold places
  rcases Nat.lt_or_ge i st.length with h | h
  · rw [List.getElem?_append_left (by rw [starts_length]; exact h), starts_at st i h]
  · obtain rfl : i = st.length := by omega
    rw [List.getElem?_append_right (by rw [starts_length]; omega), starts_length, Nat.sub_self, List.take_length]
    rfl
theorem places_length (st : List (List T3)) : (places st).length = st.length + 1 := by simp [places, starts_length]

theorem tgo_two (a b : List T3) : ∀ st, tgo (a ++ b) st = (tgo a st).bind (tgo b) := by
  induction a with
  | nil => intro st; rfl
  | cons x a ih =>
    intro st
    rw [List.cons_append, tgo, tgo]
    split
    · rfl
    · exact ih _
theorem tgo_step {st : List (List T3)} {t : T3} {ts : List T3} {k : Nat} (hb : ¬ t.bad) (hk : t.a = k) (hn : k ≤ st.length) : tgo (t :: ts) st = tgo ts (st.take (st.length - k) ++ [(st.drop (st.length - k)).flatten ++ [t]]) := by
  rw [tgo, if_neg (by rintro (h | h); exact hb h; omega)]
  have : t.a.toNat = k := by omega
  rw [this]
theorem tgo_bad {st : List (List T3)} {t : T3} {ts : List T3} (h : t.bad ∨ (st.length : Int) < t.a) : tgo (t :: ts) st = none := by
  rw [tgo, if_pos h]
theorem things_le {st : List (List T3)} (h : ∀ t ∈ st, Thing t) : st.length ≤ st.flatten.length := by
  induction st with
  | nil => exact Nat.le_refl _
  | cons t st ih =>
    have := ih fun u hu => h u (List.mem_cons_of_mem _ hu)
    have := List.length_pos_iff.2 (h t List.mem_cons_self).ne
    simp only [List.length_cons, List.flatten_cons, List.length_append]
    omega
theorem starts_new (st : List (List T3)) (m : Nat) (u : List T3) : starts 0 (st.take m ++ [u]) = (starts 0 st).take m ++ [(st.take m).flatten.length] := by
  rw [starts_append, starts_take, Nat.zero_add]
  rfl

/-- What begins answers. -/
def BegPost (h : PH) (l : List T3) (r : Value) (h' : PH) : Prop := match tgo l [] with
  | none => Ext h h' ∧ r = .tuple #[.slice none 0 0, .bool false]
  | some st => ∃ v, r = .tuple #[v, .bool true] ∧ OInv 3 1 h h' v (st.length + 1) (ints (places st))
theorem BegPost.none {h h' : PH} {l : List T3} {r : Value} (ht : tgo l [] = none) (e : Ext h h') (hr : r = .tuple #[.slice none 0 0, .bool false]) : BegPost h l r h' := by
  unfold BegPost; rw [ht]; exact ⟨e, hr⟩
theorem BegPost.some {h h' : PH} {l : List T3} {st : List (List T3)} {v : Value} (ht : tgo l [] = some st) (I : OInv 3 1 h h' v (st.length + 1) (ints (places st))) : BegPost h l (.tuple #[v, .bool true]) h' := by
  unfold BegPost; rw [ht]; exact ⟨v, rfl, I⟩
theorem BegPost.cases {h h' : PH} {l : List T3} {r : Value} (x : BegPost h l r h') : (tgo l [] = Option.none ∧ Ext h h' ∧ r = .tuple #[.slice Option.none 0 0, .bool false]) ∨ ∃ st v, tgo l [] = Option.some st ∧ r = .tuple #[v, .bool true] ∧ OInv 3 1 h h' v (st.length + 1) (ints (places st)) := by
  unfold BegPost at x
  cases ht : tgo l [] with
  | none => rw [ht] at x; exact .inl ⟨rfl, x⟩
  | some st => rw [ht] at x; obtain ⟨v, h1, h2⟩ := x; exact .inr ⟨st, v, rfl, h1, h2⟩
theorem results50 : Try.f50.results = #[.tmp 2, .tmp 3] := by rfl

set_option maxHeartbeats 2000000 in
theorem begins50 {main : Bool} (h : PH) (l : List T3) (p : Option Addr) (c : Nat) (hR : RSl h 3 (.slice p l.length c) l.length (flat l)) (hlen : l.length ≤ 2 ^ 20) :
    CallsG Try.prog (GB main) 50 #[.slice p l.length c] h (BegPost h l) := by
  refine callsG_of_wp (c := Try.f50.body.getD .skip) gb idleB Try.func50 rfl ?_
  rw [Try.ntmps50]
  rw [fr_of (n := 63) (by simp) [(0, .slice p l.length c)] ⟨by simp, trivial⟩]
  generalize (fun j => (#[Value.slice p l.length c] ++ Array.replicate (63 - #[Value.slice p l.length c].size) undef).getD j undef) = σ
  refine wpG_seq gb idleB ?_
  refine wpG_region gb idleB ?_
  refine opsF_val gb idleB rfl (by rfl) rfl (x := .slice none 0 0) (y_assign rfl) ?_
  refine opsF_val gb idleB rfl (by rfl) rfl (x := .bool false) (y_assign rfl) ?_
  refine opsG_nil gb idleB ?_
  refine wpG_seq gb idleB ?_
  refine wpG_region gb idleB ?_
  refine opsF_val gb idleB rfl (by rfl) rfl (x := .slice none 0 0) (y_assign rfl) ?_
  refine opsG_nil gb idleB ?_
  refine wpG_seq gb idleB ?_
  refine wpG_seq gb idleB ?_
  refine wpG_region gb idleB ?_
  refine opsF_val gb idleB rfl (by rfl) rfl (x := .slice p l.length c) (y_move rfl) ?_
  refine opsF_val gb idleB rfl (by rfl) rfl (x := .int .i64 (l.length : Nat)) (y_len_slice Try.underlying44 rfl) ?_
  refine opsF_val gb idleB rfl (by rfl) rfl (x := .int .i64 0) (y_move rfl) ?_
  refine opsG_nil gb idleB ?_
  refine wpG_block gb idleB ?_
  refine wpG_loopN gb idleB (fun m a v => ∃ (dn rest : List T3) (st : List (List T3)) (v4 : Value) (τ : Nat → Value) (h' : PH), m = rest.length ∧ l = dn ++ rest ∧ tgo dn [] = some st ∧ a = fr 63 τ [(8, .slice p l.length c), (9, .int .i64 (l.length : Nat)), (0, .slice p l.length c), (4, v4), (10, .int .i64 (dn.length : Nat))] [] ∧ h' = v ∧ OInv 3 1 h h' v4 st.length (ints (starts 0 st))) l.length ⟨[], l, [], _, _, _, rfl, rfl, rfl, fr_says _ ⟨rfl, rfl, rfl, rfl, rfl, trivial⟩, rfl, oinv_nil _ _ _⟩ ?_
  rintro m _ _ ⟨dn, rest, st, v4, τ, h', rfl, htk, hgo, rfl, rfl, I⟩
  clear σ
  have hdn : dn.length + rest.length = l.length := by rw [htk, List.length_append]
  have htg : tgo l [] = tgo rest st := by rw [htk, tgo_two, hgo]; rfl
  obtain ⟨hth, hfl⟩ := tgo_some dn [] st tgo_none hgo
  have hsl := things_le hth
  rw [hfl] at hsl
  simp only [List.flatten_nil, List.nil_append] at hsl hfl
  obtain ⟨p4, c4, rfl, hc4⟩ := I.own.shape2
  rcases rest with _ | ⟨t, ts⟩
  · refine wpG_seq gb idleB ?_
    refine wpG_region gb idleB ?_
    refine opsF_val gb idleB rfl (by rfl) rfl (x := .bool false) (y_lss rfl rfl (by simp at hdn ⊢; omega)) ?_
    refine opsG_nil gb idleB ?_
    refine wpG_seq gb idleB ?_
    refine wpG_cond gb idleB (t := false) (by rw [fr_eval]; rfl) ?_
    refine wpG_exit gb idleB ?_
    refine wpG_seq gb idleB ?_
    refine wpG_region gb idleB ?_
    refine opsF_val gb idleB rfl (by rfl) rfl (x := .slice p4 st.length c4) (y_move rfl) ?_
    refine opsF_val gb idleB rfl (by rfl) rfl (x := .slice p l.length c) (y_move rfl) ?_
    refine opsF_val gb idleB rfl (by rfl) rfl (x := .int .i64 (l.length : Nat)) (y_len_slice Try.underlying44 rfl) ?_
    refine opsF_new gb (lensB2 _) rfl (by rfl) rfl (.cells #[.int .i64 (l.length : Nat)] 3) (fun M => .slice (some ⟨M, 0, none⟩) 1 1) (run_bs1 (by decide) rfl (.inl ⟨_, rfl, rfl⟩)) fun M hM => ?_
    have I3 := I.grow (ext_put (o := .cells #[.int .i64 (l.length : Nat)] 3) hM)
    have hSM := slAt_new h' M #[.int .i64 (l.length : Nat)] 3
    refine opsB_append gb ty29 (c := 1) rfl (by rfl) rfl rfl rfl rfl I3.own hSM rfl (by decide) (by simp [Value.oneCell']) (by omega) fun v4' h4 hO hold hb => ?_
    have I4 := I3.add hO hold hb
    refine opsF_val gb idleB rfl (by rfl) rfl (x := v4') (y_assign rfl) ?_
    refine opsF_val gb idleB rfl (by rfl) rfl (x := .bool true) (y_assign rfl) ?_
    refine opsG_nil gb idleB ?_
    refine wpG_ret gb idleB ?_
    refine ⟨.inr rfl, rfl, _, resultsC_tmp2 results50 _, ?_⟩
    rw [fr_ret (by decide) rfl, fr_ret (by decide) rfl]
    rw [List.append_nil] at htk
    subst htk
    refine BegPost.some htg ?_
    have e : ints (places st) = ints (starts 0 st) ++ [.int .i64 (l.length : Nat)] := by unfold places ints; rw [List.map_append, hfl]; rfl
    rw [e]; exact I4
  · simp only [List.length_cons] at hdn
    obtain ⟨B, o, rfl, hS0⟩ := hR.pos (by omega)
    rw [show flat l = flat (dn ++ t :: ts) by rw [htk]] at hS0
    have hS := hS0.mono I.ext
    obtain ⟨hga, hgb, hgs⟩ := flat_get dn ts t
    refine wpG_seq gb idleB ?_
    refine wpG_region gb idleB ?_
    refine opsF_val gb idleB rfl (by rfl) rfl (x := .bool true) (y_lss rfl rfl (by simp at hdn ⊢; omega)) ?_
    refine opsG_nil gb idleB ?_
    refine wpG_seq gb idleB ?_
    refine wpG_cond gb idleB (t := true) (by rw [fr_eval]; rfl) ?_
    refine wpG_skip gb idleB ?_
    refine wpG_seq gb idleB ?_
    refine wpG_block gb idleB ?_
    refine wpG_seq gb idleB ?_
    refine wpG_region gb idleB ?_
    refine opsF_val gb idleB rfl (by rfl) rfl (x := .int .i64 (dn.length : Nat)) (y_move rfl) ?_
    refine opsF_val gb idleB rfl (by rfl) rfl (x := .pointer (some ⟨B, o + dn.length * 3, none⟩)) (y_ix ty44 rfl rfl (by omega)) ?_
    refine opsF_rd gb (lensB2 _) rfl (by rfl) rfl (x := .agg #[.int .i64 t.a, .int .i64 t.b, .string t.s]) (rd_threeq (by decide) hS hga hgb hgs (by omega) rfl) ?_
    refine opsF_new gb (lensB2 _) rfl (by rfl) rfl (.cells #[.int .i64 0, .int .i64 0, .string { data := #[] }] 63) (fun M => .pointer (some ⟨M, 0, none⟩)) (fun w => ⟨eq_of_K fun K hK => by go_simp; exact hK, by simp [Instr.alloc, newVar, newRow, go_sem]⟩) fun N hN => ?_
    refine opsF_val gb idleB rfl (by rfl) rfl (x := .int .i64 (dn.length : Nat)) (y_assign rfl) ?_
    refine opsF_store gb (lensB2 _) rfl (by rfl) rfl (wr_store rfl rfl (put_self _ _ _) (by kernel_rfl) rfl (by simp [Value.oneCell'])) ?_
    refine opsG_nil gb idleB ?_
    refine wpG_seq gb idleB ?_
    refine wpG_seq gb idleB ?_
    have hext := ext_put2 (o1 := .cells #[.int .i64 0, .int .i64 0, .string { data := #[] }] 63) (o2 := .cells #[.int .i64 t.a, .int .i64 t.b, .string t.s] 63) hN
    have hN2 : put (put h' N (.cells #[.int .i64 0, .int .i64 0, .string { data := #[] }] 63)) N (.cells #[.int .i64 t.a, .int .i64 t.b, .string t.s] 63) N = some (.cells #[.int .i64 t.a, .int .i64 t.b, .string t.s] 63) := put_self _ _ _
    have I2 := I.grow hext
    clear hN
    show WpG _ _ _ _ _ _ (put (put h' N (.cells #[.int .i64 0, .int .i64 0, .string { data := #[] }] 63)) N (.cells #[.int .i64 t.a, .int .i64 t.b, .string t.s] 63))
    generalize put (put h' N (.cells #[.int .i64 0, .int .i64 0, .string { data := #[] }] 63)) N (.cells #[.int .i64 t.a, .int .i64 t.b, .string t.s] 63) = h2 at *
    refine wpG_region gb idleB ?_
    refine opsF_val gb idleB rfl (by rfl) rfl (x := .pointer (some ⟨N, 0 + 0, none⟩)) (y_fld (by decide) rfl) ?_
    refine opsF_rd gb (lensB2 _) rfl (by rfl) rfl (x := .int .i64 t.a) (rd_load (by decide) rfl hN2 rfl) ?_
    refine opsF_val gb idleB rfl (by rfl) rfl (x := .bool (decide (t.a < 0))) (y_lss rfl rfl rfl) ?_
    rcases Int.lt_or_le t.a 0 with hneg | hpos
    · rw [decide_eq_true hneg]
      refine opsF_val gb idleB rfl (by rfl) rfl (x := .bool true) (y_move rfl) ?_
      refine opsF_skip gb idleB rfl (by rfl) rfl ?_
      refine opsF_skip gb idleB rfl (by rfl) rfl ?_
      refine opsF_skip gb idleB rfl (by rfl) rfl ?_
      refine opsF_skip gb idleB rfl (by rfl) rfl ?_
      refine opsF_skip gb idleB rfl (by rfl) rfl ?_
      refine opsF_skip gb idleB rfl (by rfl) rfl ?_
      refine opsF_skip gb idleB rfl (by rfl) rfl ?_
      refine opsF_skip gb idleB rfl (by rfl) rfl ?_
      refine opsF_val gb idleB rfl (by rfl) rfl (x := .bool true) (y_pick (t := true) rfl rfl) ?_
      refine opsF_val gb idleB rfl (by rfl) rfl (x := .bool true) (y_move rfl) ?_
      refine opsF_skip gb idleB rfl (by rfl) rfl ?_
      refine opsF_skip gb idleB rfl (by rfl) rfl ?_
      refine opsF_skip gb idleB rfl (by rfl) rfl ?_
      refine opsF_skip gb idleB rfl (by rfl) rfl ?_
      refine opsF_skip gb idleB rfl (by rfl) rfl ?_
      refine opsF_val gb idleB rfl (by rfl) rfl (x := .bool true) (y_pick (t := true) rfl rfl) ?_
      refine opsG_nil gb idleB ?_
      refine wpG_cond gb idleB (t := true) (by rw [fr_eval]; rfl) ?_
      refine wpG_seq gb idleB ?_
      refine wpG_region gb idleB ?_
      refine opsF_val gb idleB rfl (by rfl) rfl (x := .slice none 0 0) (y_assign rfl) ?_
      refine opsF_val gb idleB rfl (by rfl) rfl (x := .bool false) (y_assign rfl) ?_
      refine opsG_nil gb idleB ?_
      refine wpG_ret gb idleB ?_
      refine ⟨.inr rfl, rfl, _, resultsC_tmp2 results50 _, ?_⟩
      rw [fr_ret (by decide) rfl, fr_ret (by decide) rfl]
      exact BegPost.none (by rw [htg, tgo_bad (.inl (.inl hneg))]) I2.ext rfl
    · rw [decide_eq_false (by omega)]
      obtain ⟨k, hk⟩ : ∃ k : Nat, t.a = k := ⟨t.a.toNat, by omega⟩
      refine opsF_val gb idleB rfl (by rfl) rfl (x := .bool false) (y_move rfl) ?_
      refine opsF_val gb idleB rfl (by rfl) rfl (x := .pointer (some ⟨N, 0 + 2, none⟩)) (y_fld (by decide) rfl) ?_
      refine opsF_rd gb (lensB2 _) rfl (by rfl) rfl (x := .string t.s) (rd_load (by decide) rfl hN2 rfl) ?_
      refine opsF_val gb idleB rfl (by rfl) rfl (x := .bool (!decide (t.s = { data := #[] }))) (y_neq_strg rfl rfl rfl) ?_
      by_cases hs : t.s = { data := #[] }
      · rw [decide_eq_true hs]
        have hnb : ¬ t.bad := by unfold T3.bad; rintro (h | ⟨h, _⟩); omega; exact h hs
        show OpsG _ _ _ _ _ _ (fr _ _ ((_, Value.bool false) :: _) _) _
        refine opsF_val gb idleB rfl (by rfl) rfl (x := .bool false) (y_move rfl) ?_
        refine opsF_skip gb idleB rfl (by rfl) rfl ?_
        refine opsF_skip gb idleB rfl (by rfl) rfl ?_
        refine opsF_skip gb idleB rfl (by rfl) rfl ?_
        refine opsF_val gb idleB rfl (by rfl) rfl (x := .bool false) (y_pick (t := false) rfl rfl) ?_
        refine opsF_val gb idleB rfl (by rfl) rfl (x := .bool false) (y_pick (t := false) rfl rfl) ?_
        refine opsF_val gb idleB rfl (by rfl) rfl (x := .bool false) (y_move rfl) ?_
        refine opsF_val gb idleB rfl (by rfl) rfl (x := .pointer (some ⟨N, 0 + 0, none⟩)) (y_fld (by decide) rfl) ?_
        refine opsF_rd gb (lensB2 _) rfl (by rfl) rfl (x := .int .i64 t.a) (rd_load (by decide) rfl hN2 rfl) ?_
        refine opsF_val gb idleB rfl (by rfl) rfl (x := .slice p4 st.length c4) (y_move rfl) ?_
        refine opsF_val gb idleB rfl (by rfl) rfl (x := .int .i64 (st.length : Nat)) (y_len_slice Try.underlying29 rfl) ?_
        refine opsF_val gb idleB rfl (by rfl) rfl (x := .bool (decide ((st.length : Int) < t.a))) (y_gtr rfl rfl rfl) ?_
        rcases Int.lt_or_le (st.length : Int) t.a with hgt | hle
        · rw [decide_eq_true hgt]
          refine opsF_val gb idleB rfl (by rfl) rfl (x := .bool true) (y_pick (t := false) rfl rfl) ?_
          refine opsG_nil gb idleB ?_
          refine wpG_cond gb idleB (t := true) (by rw [fr_eval]; rfl) ?_
          refine wpG_seq gb idleB ?_
          refine wpG_region gb idleB ?_
          refine opsF_val gb idleB rfl (by rfl) rfl (x := .slice none 0 0) (y_assign rfl) ?_
          refine opsF_val gb idleB rfl (by rfl) rfl (x := .bool false) (y_assign rfl) ?_
          refine opsG_nil gb idleB ?_
          refine wpG_ret gb idleB ?_
          refine ⟨.inr rfl, rfl, _, resultsC_tmp2 results50 _, ?_⟩
          rw [fr_ret (by decide) rfl, fr_ret (by decide) rfl]
          exact BegPost.none (by rw [htg, tgo_bad (.inr hgt)]) I2.ext rfl
        · rw [decide_eq_false (by omega)]
          have hkn : k ≤ st.length := by omega
          refine opsF_val gb idleB rfl (by rfl) rfl (x := .bool false) (y_pick (t := false) rfl rfl) ?_
          refine opsG_nil gb idleB ?_
          refine wpG_cond gb idleB (t := false) (by rw [fr_eval]; rfl) ?_
          refine wpG_skip gb idleB ?_
          refine wpG_seq gb idleB ?_
          refine wpG_region gb idleB ?_
          refine opsF_val gb idleB rfl (by rfl) rfl (x := .int .i64 (dn.length : Nat)) (y_move rfl) ?_
          refine opsF_val gb idleB rfl (by rfl) rfl (x := .int .i64 (dn.length : Nat)) (y_assign rfl) ?_
          refine opsG_nil gb idleB ?_
          refine wpG_seq gb idleB ?_
          refine wpG_seq gb idleB ?_
          refine wpG_region gb idleB ?_
          refine opsF_val gb idleB rfl (by rfl) rfl (x := .pointer (some ⟨N, 0 + 0, none⟩)) (y_fld (by decide) rfl) ?_
          refine opsF_rd gb (lensB2 _) rfl (by rfl) rfl (x := .int .i64 t.a) (rd_load (by decide) rfl hN2 rfl) ?_
          refine opsF_val gb idleB rfl (by rfl) rfl (x := .bool (decide (0 < t.a))) (y_gtr rfl rfl rfl) ?_
          rcases Nat.eq_zero_or_pos k with hk0 | hk0
          · rw [decide_eq_false (by omega)]
            have hpl : dn.length = (st.take (st.length - k)).flatten.length := by rw [hk0, Nat.sub_zero, List.take_length, hfl]
            refine opsG_nil gb idleB ?_
            refine wpG_cond gb idleB (t := false) (by rw [fr_eval]; rfl) ?_
            refine wpG_skip gb idleB ?_
            refine wpG_region gb idleB ?_
            refine opsF_val gb idleB rfl (by rfl) rfl (x := .slice p4 st.length c4) (y_move rfl) ?_
            refine opsF_val gb idleB rfl (by rfl) rfl (x := .slice p4 st.length c4) (y_move rfl) ?_
            refine opsF_val gb idleB rfl (by rfl) rfl (x := .int .i64 (st.length : Nat)) (y_len_slice Try.underlying29 rfl) ?_
            refine opsF_val gb idleB rfl (by rfl) rfl (x := .pointer (some ⟨N, 0 + 0, none⟩)) (y_fld (by decide) rfl) ?_
            refine opsF_rd gb (lensB2 _) rfl (by rfl) rfl (x := .int .i64 t.a) (rd_load (by decide) rfl hN2 rfl) ?_
            refine opsF_val gb idleB rfl (by rfl) rfl (x := .int .i64 (st.length - k : Nat)) (y_sub rfl rfl (by rw [IntKind.wrap_i64]; omega)) ?_
            refine opsF_val gb idleB rfl (by rfl) rfl (x := .slice p4 (st.length - k) c4) (y_slice_own ty29 I2.own rfl rfl (by omega)) ?_
            refine opsF_val gb idleB rfl (by rfl) rfl (x := .int .i64 (dn.length : Nat)) (y_move rfl) ?_
            refine opsF_new gb (lensB2 _) rfl (by rfl) rfl (.cells #[.int .i64 (dn.length : Nat)] 3) (fun M => .slice (some ⟨M, 0, none⟩) 1 1) (run_bs1 (by decide) rfl (.inl ⟨_, rfl, rfl⟩)) fun M hM => ?_
            have I3 := (I2.take (m := st.length - k) (by omega)).grow (ext_put (o := .cells #[.int .i64 (dn.length : Nat)] 3) hM)
            have hSM := slAt_new h2 M #[.int .i64 (dn.length : Nat)] 3
            refine opsB_append gb ty29 (c := 1) rfl (by rfl) rfl rfl rfl rfl I3.own hSM rfl (by decide) (by simp [Value.oneCell']) (by omega) fun v4' h4 hO hold hb => ?_
            have I4 := I3.add hO hold hb
            have I5 : OInv 3 1 h h4 v4' (st.take (st.length - k) ++ [(st.drop (st.length - k)).flatten ++ [t]]).length (ints (starts 0 (st.take (st.length - k) ++ [(st.drop (st.length - k)).flatten ++ [t]]))) := by
              have e1 : (st.take (st.length - k) ++ [(st.drop (st.length - k)).flatten ++ [t]]).length = st.length - k + 1 := by rw [List.length_append, List.length_take, Nat.min_eq_left (by omega)]; rfl
              have e2 : ints (starts 0 (st.take (st.length - k) ++ [(st.drop (st.length - k)).flatten ++ [t]])) = (ints (starts 0 st)).take ((st.length - k) * 1) ++ [.int .i64 (dn.length : Nat)] := by
                rw [starts_new, Nat.mul_one]
                unfold ints
                rw [List.map_append, List.map_take, ← hpl]
                rfl
              rw [e1, e2]; exact I4
            refine opsF_val gb idleB rfl (by rfl) rfl (x := v4') (y_assign rfl) ?_
            refine opsG_nil gb idleB ?_
            refine wpG_region gb idleB ?_
            refine opsF_val gb idleB rfl (by rfl) rfl (x := .int .i64 (dn.length + 1 : Nat)) (y_add rfl rfl (by rw [IntKind.wrap_i64]; omega)) ?_
            refine opsF_val gb idleB rfl (by rfl) rfl (x := .int .i64 (dn.length + 1 : Nat)) (y_move rfl) ?_
            refine opsG_nil gb idleB ?_
            exact ⟨ts.length, by rw [List.length_cons]; omega, dn ++ [t], ts, st.take (st.length - k) ++ [(st.drop (st.length - k)).flatten ++ [t]], _, _, _, rfl, by rw [htk]; simp, by rw [tgo_two, hgo]; exact tgo_step hnb hk hkn, fr_says _ ⟨rfl, rfl, rfl, rfl, by rw [List.length_append]; rfl, trivial⟩, rfl, I5⟩
          · rw [decide_eq_true (by omega)]
            obtain ⟨g4, rfl, hS4⟩ := I2.own.pos (by omega)
            have h4 : (ints (starts 0 st))[st.length - k]? = some (.int .i64 ((st.take (st.length - k)).flatten.length : Nat)) := by rw [ints, List.getElem?_map, starts_at st _ (by omega)]; rfl
            refine opsG_nil gb idleB ?_
            refine wpG_cond gb idleB (t := true) (by rw [fr_eval]; rfl) ?_
            refine wpG_region gb idleB ?_
            refine opsF_val gb idleB rfl (by rfl) rfl (x := .slice (some ⟨g4, 0, none⟩) st.length c4) (y_move rfl) ?_
            refine opsF_val gb idleB rfl (by rfl) rfl (x := .slice (some ⟨g4, 0, none⟩) st.length c4) (y_move rfl) ?_
            refine opsF_val gb idleB rfl (by rfl) rfl (x := .int .i64 (st.length : Nat)) (y_len_slice Try.underlying29 rfl) ?_
            refine opsF_val gb idleB rfl (by rfl) rfl (x := .pointer (some ⟨N, 0 + 0, none⟩)) (y_fld (by decide) rfl) ?_
            refine opsF_rd gb (lensB2 _) rfl (by rfl) rfl (x := .int .i64 t.a) (rd_load (by decide) rfl hN2 rfl) ?_
            refine opsF_val gb idleB rfl (by rfl) rfl (x := .int .i64 (st.length - k : Nat)) (y_sub rfl rfl (by rw [IntKind.wrap_i64]; omega)) ?_
            refine opsF_val gb idleB rfl (by rfl) rfl (x := .pointer (some ⟨g4, 0 + (st.length - k) * 1, none⟩)) (y_ix ty29 rfl rfl (by omega)) ?_
            refine opsF_rd gb (lensB2 _) rfl (by rfl) rfl (x := .int .i64 ((st.take (st.length - k)).flatten.length : Nat)) (rd_cellq (by decide) hS4 h4 (by omega) rfl) ?_
            refine opsF_val gb idleB rfl (by rfl) rfl (x := .int .i64 ((st.take (st.length - k)).flatten.length : Nat)) (y_assign rfl) ?_
            refine opsG_nil gb idleB ?_
            refine wpG_region gb idleB ?_
            refine opsF_val gb idleB rfl (by rfl) rfl (x := .slice (some ⟨g4, 0, none⟩) st.length c4) (y_move rfl) ?_
            refine opsF_val gb idleB rfl (by rfl) rfl (x := .slice (some ⟨g4, 0, none⟩) st.length c4) (y_move rfl) ?_
            refine opsF_val gb idleB rfl (by rfl) rfl (x := .int .i64 (st.length : Nat)) (y_len_slice Try.underlying29 rfl) ?_
            refine opsF_val gb idleB rfl (by rfl) rfl (x := .pointer (some ⟨N, 0 + 0, none⟩)) (y_fld (by decide) rfl) ?_
            refine opsF_rd gb (lensB2 _) rfl (by rfl) rfl (x := .int .i64 t.a) (rd_load (by decide) rfl hN2 rfl) ?_
            refine opsF_val gb idleB rfl (by rfl) rfl (x := .int .i64 (st.length - k : Nat)) (y_sub rfl rfl (by rw [IntKind.wrap_i64]; omega)) ?_
            refine opsF_val gb idleB rfl (by rfl) rfl (x := .slice (some ⟨g4, 0, none⟩) (st.length - k) c4) (y_slice_own ty29 I2.own rfl rfl (by omega)) ?_
            refine opsF_val gb idleB rfl (by rfl) rfl (x := .int .i64 ((st.take (st.length - k)).flatten.length : Nat)) (y_move rfl) ?_
            refine opsF_new gb (lensB2 _) rfl (by rfl) rfl (.cells #[.int .i64 ((st.take (st.length - k)).flatten.length : Nat)] 3) (fun M => .slice (some ⟨M, 0, none⟩) 1 1) (run_bs1 (by decide) rfl (.inl ⟨_, rfl, rfl⟩)) fun M hM => ?_
            have I3 := (I2.take (m := st.length - k) (by omega)).grow (ext_put (o := .cells #[.int .i64 ((st.take (st.length - k)).flatten.length : Nat)] 3) hM)
            have hSM := slAt_new h2 M #[.int .i64 ((st.take (st.length - k)).flatten.length : Nat)] 3
            refine opsB_append gb ty29 (c := 1) rfl (by rfl) rfl rfl rfl rfl I3.own hSM rfl (by decide) (by simp [Value.oneCell']) (by omega) fun v4' h4 hO hold hb => ?_
            have I4 := I3.add hO hold hb
            have I5 : OInv 3 1 h h4 v4' (st.take (st.length - k) ++ [(st.drop (st.length - k)).flatten ++ [t]]).length (ints (starts 0 (st.take (st.length - k) ++ [(st.drop (st.length - k)).flatten ++ [t]]))) := by
              have e1 : (st.take (st.length - k) ++ [(st.drop (st.length - k)).flatten ++ [t]]).length = st.length - k + 1 := by rw [List.length_append, List.length_take, Nat.min_eq_left (by omega)]; rfl
              have e2 : ints (starts 0 (st.take (st.length - k) ++ [(st.drop (st.length - k)).flatten ++ [t]])) = (ints (starts 0 st)).take ((st.length - k) * 1) ++ [.int .i64 ((st.take (st.length - k)).flatten.length : Nat)] := by
                rw [starts_new, Nat.mul_one]
                unfold ints
                rw [List.map_append, List.map_take]
                rfl
              rw [e1, e2]; exact I4
            refine opsF_val gb idleB rfl (by rfl) rfl (x := v4') (y_assign rfl) ?_
            refine opsG_nil gb idleB ?_
            refine wpG_region gb idleB ?_
            refine opsF_val gb idleB rfl (by rfl) rfl (x := .int .i64 (dn.length + 1 : Nat)) (y_add rfl rfl (by rw [IntKind.wrap_i64]; omega)) ?_
            refine opsF_val gb idleB rfl (by rfl) rfl (x := .int .i64 (dn.length + 1 : Nat)) (y_move rfl) ?_
            refine opsG_nil gb idleB ?_
            exact ⟨ts.length, by rw [List.length_cons]; omega, dn ++ [t], ts, st.take (st.length - k) ++ [(st.drop (st.length - k)).flatten ++ [t]], _, _, _, rfl, by rw [htk]; simp, by rw [tgo_two, hgo]; exact tgo_step hnb hk hkn, fr_says _ ⟨rfl, rfl, rfl, rfl, by rw [List.length_append]; rfl, trivial⟩, rfl, I5⟩
      · rw [decide_eq_false hs]
        show OpsG _ _ _ _ _ _ (fr _ _ ((_, Value.bool true) :: _) _) _
        refine opsF_val gb idleB rfl (by rfl) rfl (x := .bool true) (y_move rfl) ?_
        refine opsF_val gb idleB rfl (by rfl) rfl (x := .pointer (some ⟨N, 0 + 0, none⟩)) (y_fld (by decide) rfl) ?_
        refine opsF_rd gb (lensB2 _) rfl (by rfl) rfl (x := .int .i64 t.a) (rd_load (by decide) rfl hN2 rfl) ?_
        refine opsF_val gb idleB rfl (by rfl) rfl (x := .bool (t.a != 0)) (y_neq (.inl rfl) rfl rfl rfl) ?_
        by_cases ha : t.a = 0
        · rw [show (t.a != 0) = false by simp [ha]]
          have hnb : ¬ t.bad := by unfold T3.bad; rintro (h | ⟨_, h⟩); omega; exact h ha
          refine opsF_val gb idleB rfl (by rfl) rfl (x := .bool false) (y_pick (t := true) rfl rfl) ?_
          refine opsF_val gb idleB rfl (by rfl) rfl (x := .bool false) (y_pick (t := false) rfl rfl) ?_
          refine opsF_val gb idleB rfl (by rfl) rfl (x := .bool false) (y_move rfl) ?_
          refine opsF_val gb idleB rfl (by rfl) rfl (x := .pointer (some ⟨N, 0 + 0, none⟩)) (y_fld (by decide) rfl) ?_
          refine opsF_rd gb (lensB2 _) rfl (by rfl) rfl (x := .int .i64 t.a) (rd_load (by decide) rfl hN2 rfl) ?_
          refine opsF_val gb idleB rfl (by rfl) rfl (x := .slice p4 st.length c4) (y_move rfl) ?_
          refine opsF_val gb idleB rfl (by rfl) rfl (x := .int .i64 (st.length : Nat)) (y_len_slice Try.underlying29 rfl) ?_
          refine opsF_val gb idleB rfl (by rfl) rfl (x := .bool (decide ((st.length : Int) < t.a))) (y_gtr rfl rfl rfl) ?_
          rcases Int.lt_or_le (st.length : Int) t.a with hgt | hle
          · rw [decide_eq_true hgt]
            refine opsF_val gb idleB rfl (by rfl) rfl (x := .bool true) (y_pick (t := false) rfl rfl) ?_
            refine opsG_nil gb idleB ?_
            refine wpG_cond gb idleB (t := true) (by rw [fr_eval]; rfl) ?_
            refine wpG_seq gb idleB ?_
            refine wpG_region gb idleB ?_
            refine opsF_val gb idleB rfl (by rfl) rfl (x := .slice none 0 0) (y_assign rfl) ?_
            refine opsF_val gb idleB rfl (by rfl) rfl (x := .bool false) (y_assign rfl) ?_
            refine opsG_nil gb idleB ?_
            refine wpG_ret gb idleB ?_
            refine ⟨.inr rfl, rfl, _, resultsC_tmp2 results50 _, ?_⟩
            rw [fr_ret (by decide) rfl, fr_ret (by decide) rfl]
            exact BegPost.none (by rw [htg, tgo_bad (.inr hgt)]) I2.ext rfl
          · rw [decide_eq_false (by omega)]
            have hkn : k ≤ st.length := by omega
            refine opsF_val gb idleB rfl (by rfl) rfl (x := .bool false) (y_pick (t := false) rfl rfl) ?_
            refine opsG_nil gb idleB ?_
            refine wpG_cond gb idleB (t := false) (by rw [fr_eval]; rfl) ?_
            refine wpG_skip gb idleB ?_
            refine wpG_seq gb idleB ?_
            refine wpG_region gb idleB ?_
            refine opsF_val gb idleB rfl (by rfl) rfl (x := .int .i64 (dn.length : Nat)) (y_move rfl) ?_
            refine opsF_val gb idleB rfl (by rfl) rfl (x := .int .i64 (dn.length : Nat)) (y_assign rfl) ?_
            refine opsG_nil gb idleB ?_
            refine wpG_seq gb idleB ?_
            refine wpG_seq gb idleB ?_
            refine wpG_region gb idleB ?_
            refine opsF_val gb idleB rfl (by rfl) rfl (x := .pointer (some ⟨N, 0 + 0, none⟩)) (y_fld (by decide) rfl) ?_
            refine opsF_rd gb (lensB2 _) rfl (by rfl) rfl (x := .int .i64 t.a) (rd_load (by decide) rfl hN2 rfl) ?_
            refine opsF_val gb idleB rfl (by rfl) rfl (x := .bool (decide (0 < t.a))) (y_gtr rfl rfl rfl) ?_
            rcases Nat.eq_zero_or_pos k with hk0 | hk0
            · rw [decide_eq_false (by omega)]
              have hpl : dn.length = (st.take (st.length - k)).flatten.length := by rw [hk0, Nat.sub_zero, List.take_length, hfl]
              refine opsG_nil gb idleB ?_
              refine wpG_cond gb idleB (t := false) (by rw [fr_eval]; rfl) ?_
              refine wpG_skip gb idleB ?_
              refine wpG_region gb idleB ?_
              refine opsF_val gb idleB rfl (by rfl) rfl (x := .slice p4 st.length c4) (y_move rfl) ?_
              refine opsF_val gb idleB rfl (by rfl) rfl (x := .slice p4 st.length c4) (y_move rfl) ?_
              refine opsF_val gb idleB rfl (by rfl) rfl (x := .int .i64 (st.length : Nat)) (y_len_slice Try.underlying29 rfl) ?_
              refine opsF_val gb idleB rfl (by rfl) rfl (x := .pointer (some ⟨N, 0 + 0, none⟩)) (y_fld (by decide) rfl) ?_
              refine opsF_rd gb (lensB2 _) rfl (by rfl) rfl (x := .int .i64 t.a) (rd_load (by decide) rfl hN2 rfl) ?_
              refine opsF_val gb idleB rfl (by rfl) rfl (x := .int .i64 (st.length - k : Nat)) (y_sub rfl rfl (by rw [IntKind.wrap_i64]; omega)) ?_
              refine opsF_val gb idleB rfl (by rfl) rfl (x := .slice p4 (st.length - k) c4) (y_slice_own ty29 I2.own rfl rfl (by omega)) ?_
              refine opsF_val gb idleB rfl (by rfl) rfl (x := .int .i64 (dn.length : Nat)) (y_move rfl) ?_
              refine opsF_new gb (lensB2 _) rfl (by rfl) rfl (.cells #[.int .i64 (dn.length : Nat)] 3) (fun M => .slice (some ⟨M, 0, none⟩) 1 1) (run_bs1 (by decide) rfl (.inl ⟨_, rfl, rfl⟩)) fun M hM => ?_
              have I3 := (I2.take (m := st.length - k) (by omega)).grow (ext_put (o := .cells #[.int .i64 (dn.length : Nat)] 3) hM)
              have hSM := slAt_new h2 M #[.int .i64 (dn.length : Nat)] 3
              refine opsB_append gb ty29 (c := 1) rfl (by rfl) rfl rfl rfl rfl I3.own hSM rfl (by decide) (by simp [Value.oneCell']) (by omega) fun v4' h4 hO hold hb => ?_
              have I4 := I3.add hO hold hb
              have I5 : OInv 3 1 h h4 v4' (st.take (st.length - k) ++ [(st.drop (st.length - k)).flatten ++ [t]]).length (ints (starts 0 (st.take (st.length - k) ++ [(st.drop (st.length - k)).flatten ++ [t]]))) := by
                have e1 : (st.take (st.length - k) ++ [(st.drop (st.length - k)).flatten ++ [t]]).length = st.length - k + 1 := by rw [List.length_append, List.length_take, Nat.min_eq_left (by omega)]; rfl
                have e2 : ints (starts 0 (st.take (st.length - k) ++ [(st.drop (st.length - k)).flatten ++ [t]])) = (ints (starts 0 st)).take ((st.length - k) * 1) ++ [.int .i64 (dn.length : Nat)] := by
                  rw [starts_new, Nat.mul_one]
                  unfold ints
                  rw [List.map_append, List.map_take, ← hpl]
                  rfl
                rw [e1, e2]; exact I4
              refine opsF_val gb idleB rfl (by rfl) rfl (x := v4') (y_assign rfl) ?_
              refine opsG_nil gb idleB ?_
              refine wpG_region gb idleB ?_
              refine opsF_val gb idleB rfl (by rfl) rfl (x := .int .i64 (dn.length + 1 : Nat)) (y_add rfl rfl (by rw [IntKind.wrap_i64]; omega)) ?_
              refine opsF_val gb idleB rfl (by rfl) rfl (x := .int .i64 (dn.length + 1 : Nat)) (y_move rfl) ?_
              refine opsG_nil gb idleB ?_
              exact ⟨ts.length, by rw [List.length_cons]; omega, dn ++ [t], ts, st.take (st.length - k) ++ [(st.drop (st.length - k)).flatten ++ [t]], _, _, _, rfl, by rw [htk]; simp, by rw [tgo_two, hgo]; exact tgo_step hnb hk hkn, fr_says _ ⟨rfl, rfl, rfl, rfl, by rw [List.length_append]; rfl, trivial⟩, rfl, I5⟩
            · rw [decide_eq_true (by omega)]
              obtain ⟨g4, rfl, hS4⟩ := I2.own.pos (by omega)
              have h4 : (ints (starts 0 st))[st.length - k]? = some (.int .i64 ((st.take (st.length - k)).flatten.length : Nat)) := by rw [ints, List.getElem?_map, starts_at st _ (by omega)]; rfl
              refine opsG_nil gb idleB ?_
              refine wpG_cond gb idleB (t := true) (by rw [fr_eval]; rfl) ?_
              refine wpG_region gb idleB ?_
              refine opsF_val gb idleB rfl (by rfl) rfl (x := .slice (some ⟨g4, 0, none⟩) st.length c4) (y_move rfl) ?_
              refine opsF_val gb idleB rfl (by rfl) rfl (x := .slice (some ⟨g4, 0, none⟩) st.length c4) (y_move rfl) ?_
              refine opsF_val gb idleB rfl (by rfl) rfl (x := .int .i64 (st.length : Nat)) (y_len_slice Try.underlying29 rfl) ?_
              refine opsF_val gb idleB rfl (by rfl) rfl (x := .pointer (some ⟨N, 0 + 0, none⟩)) (y_fld (by decide) rfl) ?_
              refine opsF_rd gb (lensB2 _) rfl (by rfl) rfl (x := .int .i64 t.a) (rd_load (by decide) rfl hN2 rfl) ?_
              refine opsF_val gb idleB rfl (by rfl) rfl (x := .int .i64 (st.length - k : Nat)) (y_sub rfl rfl (by rw [IntKind.wrap_i64]; omega)) ?_
              refine opsF_val gb idleB rfl (by rfl) rfl (x := .pointer (some ⟨g4, 0 + (st.length - k) * 1, none⟩)) (y_ix ty29 rfl rfl (by omega)) ?_
              refine opsF_rd gb (lensB2 _) rfl (by rfl) rfl (x := .int .i64 ((st.take (st.length - k)).flatten.length : Nat)) (rd_cellq (by decide) hS4 h4 (by omega) rfl) ?_
              refine opsF_val gb idleB rfl (by rfl) rfl (x := .int .i64 ((st.take (st.length - k)).flatten.length : Nat)) (y_assign rfl) ?_
              refine opsG_nil gb idleB ?_
              refine wpG_region gb idleB ?_
              refine opsF_val gb idleB rfl (by rfl) rfl (x := .slice (some ⟨g4, 0, none⟩) st.length c4) (y_move rfl) ?_
              refine opsF_val gb idleB rfl (by rfl) rfl (x := .slice (some ⟨g4, 0, none⟩) st.length c4) (y_move rfl) ?_
              refine opsF_val gb idleB rfl (by rfl) rfl (x := .int .i64 (st.length : Nat)) (y_len_slice Try.underlying29 rfl) ?_
              refine opsF_val gb idleB rfl (by rfl) rfl (x := .pointer (some ⟨N, 0 + 0, none⟩)) (y_fld (by decide) rfl) ?_
              refine opsF_rd gb (lensB2 _) rfl (by rfl) rfl (x := .int .i64 t.a) (rd_load (by decide) rfl hN2 rfl) ?_
              refine opsF_val gb idleB rfl (by rfl) rfl (x := .int .i64 (st.length - k : Nat)) (y_sub rfl rfl (by rw [IntKind.wrap_i64]; omega)) ?_
              refine opsF_val gb idleB rfl (by rfl) rfl (x := .slice (some ⟨g4, 0, none⟩) (st.length - k) c4) (y_slice_own ty29 I2.own rfl rfl (by omega)) ?_
              refine opsF_val gb idleB rfl (by rfl) rfl (x := .int .i64 ((st.take (st.length - k)).flatten.length : Nat)) (y_move rfl) ?_
              refine opsF_new gb (lensB2 _) rfl (by rfl) rfl (.cells #[.int .i64 ((st.take (st.length - k)).flatten.length : Nat)] 3) (fun M => .slice (some ⟨M, 0, none⟩) 1 1) (run_bs1 (by decide) rfl (.inl ⟨_, rfl, rfl⟩)) fun M hM => ?_
              have I3 := (I2.take (m := st.length - k) (by omega)).grow (ext_put (o := .cells #[.int .i64 ((st.take (st.length - k)).flatten.length : Nat)] 3) hM)
              have hSM := slAt_new h2 M #[.int .i64 ((st.take (st.length - k)).flatten.length : Nat)] 3
              refine opsB_append gb ty29 (c := 1) rfl (by rfl) rfl rfl rfl rfl I3.own hSM rfl (by decide) (by simp [Value.oneCell']) (by omega) fun v4' h4 hO hold hb => ?_
              have I4 := I3.add hO hold hb
              have I5 : OInv 3 1 h h4 v4' (st.take (st.length - k) ++ [(st.drop (st.length - k)).flatten ++ [t]]).length (ints (starts 0 (st.take (st.length - k) ++ [(st.drop (st.length - k)).flatten ++ [t]]))) := by
                have e1 : (st.take (st.length - k) ++ [(st.drop (st.length - k)).flatten ++ [t]]).length = st.length - k + 1 := by rw [List.length_append, List.length_take, Nat.min_eq_left (by omega)]; rfl
                have e2 : ints (starts 0 (st.take (st.length - k) ++ [(st.drop (st.length - k)).flatten ++ [t]])) = (ints (starts 0 st)).take ((st.length - k) * 1) ++ [.int .i64 ((st.take (st.length - k)).flatten.length : Nat)] := by
                  rw [starts_new, Nat.mul_one]
                  unfold ints
                  rw [List.map_append, List.map_take]
                  rfl
                rw [e1, e2]; exact I4
              refine opsF_val gb idleB rfl (by rfl) rfl (x := v4') (y_assign rfl) ?_
              refine opsG_nil gb idleB ?_
              refine wpG_region gb idleB ?_
              refine opsF_val gb idleB rfl (by rfl) rfl (x := .int .i64 (dn.length + 1 : Nat)) (y_add rfl rfl (by rw [IntKind.wrap_i64]; omega)) ?_
              refine opsF_val gb idleB rfl (by rfl) rfl (x := .int .i64 (dn.length + 1 : Nat)) (y_move rfl) ?_
              refine opsG_nil gb idleB ?_
              exact ⟨ts.length, by rw [List.length_cons]; omega, dn ++ [t], ts, st.take (st.length - k) ++ [(st.drop (st.length - k)).flatten ++ [t]], _, _, _, rfl, by rw [htk]; simp, by rw [tgo_two, hgo]; exact tgo_step hnb hk hkn, fr_says _ ⟨rfl, rfl, rfl, rfl, by rw [List.length_append]; rfl, trivial⟩, rfl, I5⟩
        · rw [show (t.a != 0) = true by simp [ha]]
          refine opsF_val gb idleB rfl (by rfl) rfl (x := .bool true) (y_pick (t := true) rfl rfl) ?_
          refine opsF_val gb idleB rfl (by rfl) rfl (x := .bool true) (y_pick (t := false) rfl rfl) ?_
          refine opsF_val gb idleB rfl (by rfl) rfl (x := .bool true) (y_move rfl) ?_
          refine opsF_skip gb idleB rfl (by rfl) rfl ?_
          refine opsF_skip gb idleB rfl (by rfl) rfl ?_
          refine opsF_skip gb idleB rfl (by rfl) rfl ?_
          refine opsF_skip gb idleB rfl (by rfl) rfl ?_
          refine opsF_skip gb idleB rfl (by rfl) rfl ?_
          refine opsF_val gb idleB rfl (by rfl) rfl (x := .bool true) (y_pick (t := true) rfl rfl) ?_
          refine opsG_nil gb idleB ?_
          refine wpG_cond gb idleB (t := true) (by rw [fr_eval]; rfl) ?_
          refine wpG_seq gb idleB ?_
          refine wpG_region gb idleB ?_
          refine opsF_val gb idleB rfl (by rfl) rfl (x := .slice none 0 0) (y_assign rfl) ?_
          refine opsF_val gb idleB rfl (by rfl) rfl (x := .bool false) (y_assign rfl) ?_
          refine opsG_nil gb idleB ?_
          refine wpG_ret gb idleB ?_
          refine ⟨.inr rfl, rfl, _, resultsC_tmp2 results50 _, ?_⟩
          rw [fr_ret (by decide) rfl, fr_ret (by decide) rfl]
          exact BegPost.none (by rw [htg, tgo_bad (.inl (.inr ⟨hs, ha⟩))]) I2.ext rfl

end Go.Proofs.Ytfaadjmglboaoaa
