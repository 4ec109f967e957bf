/-
  slices.Clone of a row, surface.Items, surface.Parts.
-/
import Derived.Test.YtfaadjmglboaoaaBegins
namespace Go.Proofs.Ytfaadjmglboaoaa
open Go.Conc Go.RowKit

/-- A row that lies somewhere. -/
def RowAt (h : PH) (v : Value) (t : List T3) : Prop := ∃ p c, v = .slice p t.length c ∧ t.length ≤ c ∧ RSl h 3 (.slice p t.length c) t.length (flat t)
/-- Rows that lie somewhere. -/
def RowsAt (h : PH) (vs : List Value) (st : List (List T3)) : Prop := vs.length = st.length ∧ ∀ (j : Nat) v t, vs[j]? = some v → st[j]? = some t → RowAt h v t
/-- Rows of one's own. -/
def RowsOwn (h : PH) (vs : List Value) (st : List (List T3)) : Prop := vs.length = st.length ∧ ∀ (j : Nat) v t, vs[j]? = some v → st[j]? = some t → OwnK h 63 3 v t.length (flat t)

theorem RowAt.ext {h h' : PH} {v : Value} {t : List T3} (x : RowAt h v t) (e : Ext h h') : RowAt h' v t := by
  obtain ⟨p, c, h1, h2, h3⟩ := x
  exact ⟨p, c, h1, h2, h3.ext e⟩
theorem RowsAt.ext {h h' : PH} {vs : List Value} {st : List (List T3)} (x : RowsAt h vs st) (e : Ext h h') : RowsAt h' vs st := ⟨x.1, fun j v t h1 h2 => (x.2 j v t h1 h2).ext e⟩
theorem OwnK.row {h : PH} {E : TypeId} {v : Value} {t : List T3} (x : OwnK h E 3 v t.length (flat t)) : RowAt h v t := by
  obtain ⟨p, c, rfl, hc⟩ := x.shape2
  exact ⟨p, c, rfl, hc, x.rsl⟩
theorem RowsOwn.at {h : PH} {vs : List Value} {st : List (List T3)} (x : RowsOwn h vs st) : RowsAt h vs st := ⟨x.1, fun j v t h1 h2 => (x.2 j v t h1 h2).row⟩
theorem RowsOwn.nil (h : PH) : RowsOwn h [] [] := ⟨rfl, fun j v t h1 => by simp at h1⟩
theorem RowsAt.nil (h : PH) : RowsAt h [] [] := ⟨rfl, fun j v t h1 => by simp at h1⟩
theorem snoc_cases {α : Type} {l : List α} {x y : α} {j : Nat} (h : (l ++ [x])[j]? = some y) : l[j]? = some y ∨ (j = l.length ∧ y = x) := by
  rcases Nat.lt_or_ge j l.length with hj | hj
  · rw [List.getElem?_append_left hj] at h; exact .inl h
  · rw [List.getElem?_append_right hj] at h
    have : j - l.length < 1 := by
      have := (List.getElem?_eq_some_iff.1 h).1
      simpa using this
    have hj' : j = l.length := by omega
    subst hj'
    simp at h
    exact .inr ⟨rfl, h.symm⟩
theorem RowsOwn.snoc {h : PH} {vs : List Value} {st : List (List T3)} {v : Value} {t : List T3} (x : RowsOwn h vs st) (y : OwnK h 63 3 v t.length (flat t)) : RowsOwn h (vs ++ [v]) (st ++ [t]) := by
  refine ⟨by simp [x.1], fun j u s h1 h2 => ?_⟩
  have hl := x.1
  rcases snoc_cases h1 with h1 | ⟨rfl, rfl⟩
  · rcases snoc_cases h2 with h2 | ⟨rfl, rfl⟩
    · exact x.2 j u s h1 h2
    · have := (List.getElem?_eq_some_iff.1 h1).1; omega
  · rcases snoc_cases h2 with h2 | ⟨_, rfl⟩
    · have := (List.getElem?_eq_some_iff.1 h2).1; omega
    · exact y
theorem RowsAt.cons {h : PH} {vs : List Value} {st : List (List T3)} {v : Value} {t : List T3} (x : RowsAt h vs st) (y : RowAt h v t) : RowsAt h (v :: vs) (t :: st) := by
  refine ⟨by simp [x.1], fun j u s h1 h2 => ?_⟩
  cases j with
  | zero => simp at h1 h2; subst h1; subst h2; exact y
  | succ j => exact x.2 j u s (by simpa using h1) (by simpa using h2)
theorem RowsAt.one {h : PH} {vs : List Value} {st : List (List T3)} (x : RowsAt h vs st) : ∀ u ∈ vs, u.oneCell' = true := by
  intro u hu
  obtain ⟨j, hj, rfl⟩ := List.getElem_of_mem hu
  have hl := x.1
  obtain ⟨p, c, e, _⟩ := x.2 j vs[j] (st[j]'(by omega)) (List.getElem?_eq_getElem hj) (List.getElem?_eq_getElem (by omega))
  rw [e]; rfl
/-- What is of another type is another block. -/
theorem OwnK.apart {h h' : PH} {E E2 : TypeId} {k k2 n n2 : Nat} {v v2 : Value} {xs xs2 : List Value} (x : OwnK h E k v n xs) (y : OwnK h E2 k2 v2 n2 xs2) (hne : E ≠ E2) (hold : ∀ r o, h r = some o → some r ≠ v2.ownBlock → h' r = some o) : OwnK h' E k v n xs :=
  x.ext fun g hg o ho => hold g o ho fun e => by
    rcases x.2 with ⟨rfl, _⟩ | ⟨g1, c1, cur1, rfl, h1, _⟩
    · cases hg
    · rcases y.2 with ⟨rfl, _⟩ | ⟨g2, c2, cur2, rfl, h2, _⟩
      · cases e
      · have e1 : g1 = g := Option.some.inj hg
        have e2 : g = g2 := Option.some.inj e
        rw [e1, e2, h2] at h1
        cases h1
        exact hne rfl
theorem RowsOwn.apart {h h' : PH} {E2 : TypeId} {k2 n2 : Nat} {v2 : Value} {xs2 : List Value} {vs : List Value} {st : List (List T3)} (x : RowsOwn h vs st) (y : OwnK h E2 k2 v2 n2 xs2) (hne : (63 : TypeId) ≠ E2) (hold : ∀ r o, h r = some o → some r ≠ v2.ownBlock → h' r = some o) : RowsOwn h' vs st :=
  ⟨x.1, fun j v t h1 h2 => (x.2 j v t h1 h2).apart y hne hold⟩
theorem RowsOwn.ext {h h' : PH} {vs : List Value} {st : List (List T3)} (x : RowsOwn h vs st) (e : Ext h h') : RowsOwn h' vs st := ⟨x.1, fun j v t h1 h2 => (x.2 j v t h1 h2).ext fun g _ o ho => e g o ho⟩
theorem SlAt.sub {h : PH} {B o : Nat} {xs ys zs : List Value} (s : SlAt h B o (xs ++ (ys ++ zs))) : SlAt h B (o + xs.length) ys := by
  obtain ⟨cur, ty, f, h1, h2⟩ := s
  refine ⟨cur, ty, f, h1, fun i x hx => ?_⟩
  have := h2 (xs.length + i) x (by
    rw [List.getElem?_append_right (by omega), Nat.add_sub_cancel_left, List.getElem?_append_left (List.getElem?_eq_some_iff.1 hx).1]
    exact hx)
  rwa [← Nat.add_assoc] at this
theorem SlAt.seg {h : PH} {B o : Nat} {a t b : List T3} (s : SlAt h B o (flat (a ++ (t ++ b)))) : SlAt h B (o + a.length * 3) (flat t) := by
  rw [flat_append, flat_append] at s
  have := s.sub
  rwa [flat_length] at this

section ylds
variable {ρ : Operand → Value} {d : Option Tmp} {ty : TypeId} {pos : String} {af : Array Edge} {gu : Option (Nat × Bool)}
theorem y_slice_seg {T E k b : Nat} {z : Value} (ET : ElemTy T E k b z) {x i j : Operand} {B o n c lo m : Nat} (hx : ρ x = .slice (some ⟨B, o, none⟩) n c) (hl : ρ i = .int .i64 lo) (hh : ρ j = .int .i64 (lo + m : Nat)) (h1 : 0 < m) (h2 : lo + m ≤ c) : Ylds ρ ⟨d, .slice T x (some i) (some j) none, ty, pos, af, gu⟩ (.slice (some ⟨B, o + lo * k, none⟩) m (c - lo)) := by
  have := y_slice_mid (d := d) (ty := ty) (pos := pos) (af := af) (gu := gu) ET hx hl hh (by omega) h2
  rwa [Nat.add_sub_cancel_left] at this
end ylds

/-- Rows of one's own are new ones. -/
def NewRows (E : TypeId) (h : PH) (vs : List Value) : Prop := E = 44 → ∀ u ∈ vs, ∀ g, u.ownBlock = some g → h g = none
theorem NewRows.of {E : TypeId} {h h1 : PH} {vs : List Value} (e : Ext h h1) (x : NewRows E h1 vs) : NewRows E h vs := fun hE u hu g hg => by
  cases hx : h g with
  | none => rfl
  | some o => have := e g o hx; rw [x hE u hu g hg] at this; cases this
theorem OwnK.owned {h : PH} {E : TypeId} {k n g : Nat} {v : Value} {xs : List Value} (x : OwnK h E k v n xs) (hg : v.ownBlock = some g) : h g ≠ none := by
  rcases x.2 with ⟨rfl, _⟩ | ⟨g1, c1, cur1, rfl, h1, _⟩
  · cases hg
  · obtain rfl : g1 = g := Option.some.inj hg
    rw [h1]; simp
/-- Rows stay where they are beside what is written. -/
theorem RowsAt.hold {h h' : PH} {vs : List Value} {st : List (List T3)} {b : Option Nat} (x : RowsAt h vs st) (hv : ∀ u ∈ vs, ∀ g, u.ownBlock = some g → some g ≠ b) (hold : ∀ r o, h r = some o → some r ≠ b → h' r = some o) : RowsAt h' vs st := by
  refine ⟨x.1, fun j v t h1 h2 => ?_⟩
  obtain ⟨p, c, rfl, hc, h3, h4⟩ := x.2 j v t h1 h2
  refine ⟨p, c, rfl, hc, h3, ?_⟩
  rcases h4 with h4 | ⟨B, o, cap, e, cur, ty, f, h5, h6⟩
  · exact .inl h4
  · cases e
    exact .inr ⟨B, o, c, rfl, cur, ty, f, hold B _ h5 (hv _ (List.mem_of_getElem? h1) B rfl), h6⟩
/-- What Items and Parts answer. -/
def ItemsPost (E : TypeId) (h : PH) (a : Option (List (List T3))) (r : Value) (h' : PH) : Prop := match a with
  | none => Ext h h' ∧ r = .tuple #[.slice none 0 0, .bool false]
  | some st => ∃ v vs, r = .tuple #[v, .bool true] ∧ OInv E 1 h h' v st.length vs ∧ RowsAt h' vs st ∧ NewRows E h vs
theorem ItemsPost.cases {E : TypeId} {h h' : PH} {a : Option (List (List T3))} {r : Value} (x : ItemsPost E h a r h') : (a = none ∧ Ext h h' ∧ r = .tuple #[.slice none 0 0, .bool false]) ∨
    ∃ st p c vs, a = some st ∧ r = .tuple #[.slice p st.length c, .bool true] ∧ st.length ≤ c ∧ OInv E 1 h h' (.slice p st.length c) st.length vs ∧ RowsAt h' vs st ∧ NewRows E h vs := by
  cases a with
  | none => exact .inl ⟨rfl, x⟩
  | some st =>
    obtain ⟨v, vs, h1, h2, h3⟩ := x
    obtain ⟨p, c, rfl, hc⟩ := h2.own.shape2
    exact .inr ⟨st, p, c, vs, rfl, h1, hc, h2, h3⟩
theorem ItemsPost.of {E : TypeId} {h h1 h' : PH} {a : Option (List (List T3))} {r : Value} (e : Ext h h1) (x : ItemsPost E h1 a r h') : ItemsPost E h a r h' := by
  cases a with
  | none => exact ⟨e.trans x.1, x.2⟩
  | some st =>
    obtain ⟨v, vs, h2, h3, h4⟩ := x
    exact ⟨v, vs, h2, oinv_of e h3, h4.1, h4.2.of e⟩
theorem places_two (sd : List (List T3)) (t : List T3) (ts : List (List T3)) : (ints (places (sd ++ t :: ts)))[sd.length]? = some (.int .i64 (sd.flatten.length : Nat)) ∧ (ints (places (sd ++ t :: ts)))[sd.length + 1]? = some (.int .i64 (sd.flatten.length + t.length : Nat)) := by
  have h1 := places_at (sd ++ t :: ts) sd.length (by simp)
  have h2 := places_at (sd ++ t :: ts) (sd.length + 1) (by simp)
  rw [List.take_left] at h1
  rw [show sd ++ t :: ts = (sd ++ [t]) ++ ts by simp, show sd.length + 1 = (sd ++ [t]).length by simp, List.take_left] at h2
  unfold ints
  rw [List.getElem?_map, h1, show sd ++ t :: ts = (sd ++ [t]) ++ ts by simp, show sd.length + 1 = (sd ++ [t]).length by simp, List.getElem?_map, h2]
  exact ⟨rfl, by simp⟩
theorem results37 : Try.f37.results = #[.tmp 2, .tmp 3] := by rfl
theorem results39 : Try.f39.results = #[.tmp 2, .tmp 3] := by rfl

set_option maxHeartbeats 1000000 in
theorem clone51 {main : Bool} (h : PH) (t : List T3) (B o c : Nat) (hS : SlAt h B o (flat t)) (hne : 0 < t.length) (hlen : t.length ≤ 2 ^ 20) :
    CallsG Try.prog (GB main) 51 #[.slice (some ⟨B, o, none⟩) t.length c] h (fun r h' => OInv 63 3 h h' r t.length (flat t)) := by
  refine callsG_of_wp (c := Try.f51.body.getD .skip) gb idleB Try.func51 rfl ?_
  rw [Try.ntmps51]
  rw [fr_of (n := 8) (by simp) [(0, .slice (some ⟨B, o, none⟩) t.length c)] ⟨by simp, trivial⟩]
  generalize (fun j => (#[Value.slice (some ⟨B, o, none⟩) t.length c] ++ Array.replicate (8 - #[Value.slice (some ⟨B, o, none⟩) t.length c].size) undef).getD j undef) = σ
  refine wpG_seq gb idleB ?_
  refine wpG_region gb idleB ?_
  refine opsF_val gb idleB rfl (by rfl) rfl (x := .slice none 0 0) (y_assign rfl) ?_
  refine opsG_nil gb idleB ?_
  refine wpG_seq gb idleB ?_
  refine wpG_seq gb idleB ?_
  refine wpG_region gb idleB ?_
  refine opsF_val gb idleB rfl (by rfl) rfl (x := .slice (some ⟨B, o, none⟩) t.length c) (y_move rfl) ?_
  refine opsF_val gb idleB rfl (by rfl) rfl (x := .bool false) (y_eql_nil44 rfl rfl) ?_
  refine opsG_nil gb idleB ?_
  refine wpG_cond gb idleB (t := false) (by rw [fr_eval]; rfl) ?_
  refine wpG_skip gb idleB ?_
  refine wpG_seq gb idleB ?_
  refine wpG_region gb idleB ?_
  refine opsF_new gb (lensB2 _) rfl (by rfl) rfl (.cells #[] 63) (fun M => .slice (some ⟨M, 0, none⟩) 0 0) (run_bs0 (by decide)) fun g5 hg5 => ?_
  refine opsF_val gb idleB rfl (by rfl) rfl (x := .slice (some ⟨B, o, none⟩) t.length c) (y_move rfl) ?_
  have I0 := oinv_new (E := 63) (k := 3) hg5
  refine opsB_append gb ty44 (c := c) rfl (by rfl) rfl rfl rfl rfl I0.own (hS.mono (ext_put hg5)) (flat_length t) hne (flat_one t) (by omega) fun v7 h4 hO hold hb => ?_
  have I4 := I0.add hO hold hb
  rw [Nat.zero_add, List.nil_append] at I4
  refine opsF_val gb idleB rfl (by rfl) rfl (x := v7) (y_assign rfl) ?_
  refine opsG_nil gb idleB ?_
  refine wpG_ret gb idleB ?_
  exact ⟨.inr rfl, rfl, _, resultsC_tmp (by rfl) _, by rw [fr_ret (by decide) rfl]; exact I4⟩

set_option maxHeartbeats 2000000 in
theorem items37 {main : Bool} (h : PH) (l : List T3) (p : Option Addr) (c : Nat) (hR : RSl h 3 (.slice p l.length c) l.length (flat l)) (hcap : l.length ≤ c) (hlen : l.length ≤ 2 ^ 20) :
    CallsG Try.prog (GB main) 37 #[.slice p l.length c] h (ItemsPost 44 h (tgo l [])) := by
  refine callsG_of_wp (c := Try.f37.body.getD .skip) gb idleB Try.func37 rfl ?_
  rw [Try.ntmps37]
  rw [fr_of (n := 38) (by simp) [(0, .slice p l.length c)] ⟨by simp, trivial⟩]
  generalize (fun j => (#[Value.slice p l.length c] ++ Array.replicate (38 - #[Value.slice p l.length c].size) undef).getD j undef) = σ
  refine wpG_seq gb idleB ?_
  refine wpG_region gb idleB ?_
  refine opsF_val gb idleB rfl (by rfl) rfl (x := .slice none 0 0) (y_assign rfl) ?_
  refine opsF_val gb idleB rfl (by rfl) rfl (x := .bool false) (y_assign rfl) ?_
  refine opsG_nil gb idleB ?_
  refine wpG_seq gb idleB ?_
  refine wpG_region gb idleB ?_
  refine opsF_val gb idleB rfl (by rfl) rfl (x := .slice p l.length c) (y_move rfl) ?_
  refine opsF_call gb idleB rfl (by rfl) rfl (run_call (args := #[.slice p l.length c]) rfl Try.func50 (by rfl) rfl (by simp only [List.map_toArray, List.map_cons, List.map_nil]; rfl)) (begins50 h l p c hR hlen) ?_
  intro r h1 hpost
  rcases hpost.cases with ⟨htg, e1, rfl⟩ | ⟨st, v4, htg, rfl, I1⟩
  · refine opsF_val gb idleB rfl (by rfl) rfl (x := .tuple #[.slice none 0 0, .bool false]) (y_move rfl) ?_
    refine opsF_val gb idleB rfl (by rfl) rfl (x := .slice none 0 0) (y_extract rfl rfl) ?_
    refine opsF_val gb idleB rfl (by rfl) rfl (x := .bool false) (y_extract rfl rfl) ?_
    refine opsF_val gb idleB rfl (by rfl) rfl (x := .slice none 0 0) (y_assign rfl) ?_
    refine opsF_val gb idleB rfl (by rfl) rfl (x := .bool false) (y_assign rfl) ?_
    refine opsG_nil gb idleB ?_
    refine wpG_seq gb idleB ?_
    refine wpG_seq gb idleB ?_
    refine wpG_region gb idleB ?_
    refine opsF_val gb idleB rfl (by rfl) rfl (x := .bool false) (y_move rfl) ?_
    refine opsF_val gb idleB rfl (by rfl) rfl (x := .bool true) (y_not (b := false) rfl) ?_
    refine opsG_nil gb idleB ?_
    refine wpG_cond gb idleB (t := true) (by rw [fr_eval]; rfl) ?_
    refine wpG_seq gb idleB ?_
    refine wpG_region gb idleB ?_
    refine opsF_val gb idleB rfl (by rfl) rfl (x := .slice none 0 0) (y_assign rfl) ?_
    refine opsF_val gb idleB rfl (by rfl) rfl (x := .bool false) (y_assign rfl) ?_
    refine opsG_nil gb idleB ?_
    refine wpG_ret gb idleB ?_
    refine ⟨.inr rfl, rfl, _, resultsC_tmp2 results37 _, ?_⟩
    rw [fr_ret (by decide) rfl, fr_ret (by decide) rfl]
    rw [htg]
    exact ⟨e1, rfl⟩
  · obtain ⟨p4, c4, rfl, hc4⟩ := I1.own.shape2
    obtain ⟨g4, rfl, hS40⟩ := I1.own.pos (by omega)
    obtain ⟨hth, hfl⟩ := tgo_some l [] st tgo_none htg
    have hsl := things_le hth
    rw [List.flatten_nil, List.nil_append] at hfl
    rw [hfl] at hsl
    refine opsF_val gb idleB rfl (by rfl) rfl (x := .tuple #[.slice (some ⟨g4, 0, none⟩) (st.length + 1) c4, .bool true]) (y_move rfl) ?_
    refine opsF_val gb idleB rfl (by rfl) rfl (x := .slice (some ⟨g4, 0, none⟩) (st.length + 1) c4) (y_extract rfl rfl) ?_
    refine opsF_val gb idleB rfl (by rfl) rfl (x := .bool true) (y_extract rfl rfl) ?_
    refine opsF_val gb idleB rfl (by rfl) rfl (x := .slice (some ⟨g4, 0, none⟩) (st.length + 1) c4) (y_assign rfl) ?_
    refine opsF_val gb idleB rfl (by rfl) rfl (x := .bool true) (y_assign rfl) ?_
    refine opsG_nil gb idleB ?_
    refine wpG_seq gb idleB ?_
    refine wpG_seq gb idleB ?_
    refine wpG_region gb idleB ?_
    refine opsF_val gb idleB rfl (by rfl) rfl (x := .bool true) (y_move rfl) ?_
    refine opsF_val gb idleB rfl (by rfl) rfl (x := .bool false) (y_not (b := true) rfl) ?_
    refine opsG_nil gb idleB ?_
    refine wpG_cond gb idleB (t := false) (by rw [fr_eval]; rfl) ?_
    refine wpG_skip gb idleB ?_
    refine wpG_seq gb idleB ?_
    refine wpG_region gb idleB ?_
    refine opsF_val gb idleB rfl (by rfl) rfl (x := .slice none 0 0) (y_assign rfl) ?_
    refine opsG_nil gb idleB ?_
    refine wpG_seq gb idleB ?_
    refine wpG_seq gb idleB ?_
    refine wpG_region gb idleB ?_
    refine opsF_val gb idleB rfl (by rfl) rfl (x := .slice (some ⟨g4, 0, none⟩) (st.length + 1) c4) (y_move rfl) ?_
    refine opsF_val gb idleB rfl (by rfl) rfl (x := .int .i64 ((st.length + 1) : Nat)) (y_len_slice Try.underlying29 rfl) ?_
    refine opsF_val gb idleB rfl (by rfl) rfl (x := .int .i64 (st.length : Nat)) (y_sub rfl rfl (by rw [IntKind.wrap_i64]; omega)) ?_
    refine opsF_val gb idleB rfl (by rfl) rfl (x := .int .i64 0) (y_move rfl) ?_
    refine opsG_nil gb idleB ?_
    refine wpG_block gb idleB ?_
    refine wpG_loopN gb idleB (fun m a v => ∃ (sd rest : List (List T3)) (v6 : Value) (vs : List Value) (τ : Nat → Value) (h' : PH), m = rest.length ∧ st = sd ++ rest ∧ a = fr 38 τ [(0, .slice p l.length c), (4, .slice (some ⟨g4, 0, none⟩) (st.length + 1) c4), (6, v6), (17, .int .i64 (st.length : Nat)), (18, .int .i64 (sd.length : Nat))] [] ∧ h' = v ∧ OInv 44 1 h1 h' v6 sd.length vs ∧ RowsOwn h' vs sd ∧ NewRows 44 h1 vs) st.length ⟨[], st, _, [], _, _, rfl, rfl, fr_says _ ⟨rfl, rfl, rfl, rfl, rfl, trivial⟩, rfl, oinv_nil _ _ _, RowsOwn.nil _, fun _ u hu => by cases hu⟩ ?_
    rintro m _ _ ⟨sd, rest, v6, vs, τ, h', rfl, hst, rfl, rfl, I, J, F⟩
    clear σ
    have hdn : sd.length + rest.length = st.length := by rw [hst, List.length_append]
    rcases rest with _ | ⟨t, ts⟩
    · refine wpG_seq gb idleB ?_
      refine wpG_region gb idleB ?_
      refine opsF_val gb idleB rfl (by rfl) rfl (x := .bool false) (y_lss rfl rfl (by simp at hdn ⊢; omega)) ?_
      refine opsG_nil gb idleB ?_
      refine wpG_seq gb idleB ?_
      refine wpG_cond gb idleB (t := false) (by rw [fr_eval]; rfl) ?_
      refine wpG_exit gb idleB ?_
      refine wpG_seq gb idleB ?_
      refine wpG_region gb idleB ?_
      refine opsF_val gb idleB rfl (by rfl) rfl (x := v6) (y_move rfl) ?_
      refine opsF_val gb idleB rfl (by rfl) rfl (x := v6) (y_assign rfl) ?_
      refine opsF_val gb idleB rfl (by rfl) rfl (x := .bool true) (y_assign rfl) ?_
      refine opsG_nil gb idleB ?_
      refine wpG_ret gb idleB ?_
      refine ⟨.inr rfl, rfl, _, resultsC_tmp2 results37 _, ?_⟩
      rw [fr_ret (by decide) rfl, fr_ret (by decide) rfl]
      rw [List.append_nil] at hst
      subst hst
      rw [htg]
      exact ⟨v6, vs, rfl, oinv_of I1.ext I, J.at, F.of I1.ext⟩
    · simp only [List.length_cons] at hdn
      have htp : 0 < t.length := List.length_pos_iff.2 (hth t (by rw [hst]; simp)).ne
      have hll : l = sd.flatten ++ (t ++ ts.flatten) := by rw [← hfl, hst]; simp
      have hl2 : sd.flatten.length + (t.length + ts.flatten.length) = l.length := by rw [hll, List.length_append, List.length_append]
      obtain ⟨B, o, rfl, hS0⟩ := hR.pos (by omega)
      have hS := hS0.mono (I1.ext.trans I.ext)
      rw [show flat l = flat (sd.flatten ++ (t ++ ts.flatten)) by rw [← hll]] at hS
      have hSeg := hS.seg
      have hS4 := hS40.mono I.ext
      obtain ⟨hlo, hhi⟩ := places_two sd t ts
      rw [← hst] at hlo hhi
      refine wpG_seq gb idleB ?_
      refine wpG_region gb idleB ?_
      refine opsF_val gb idleB rfl (by rfl) rfl (x := .bool true) (y_lss rfl rfl (by simp at hdn ⊢; omega)) ?_
      refine opsG_nil gb idleB ?_
      refine wpG_seq gb idleB ?_
      refine wpG_cond gb idleB (t := true) (by rw [fr_eval]; rfl) ?_
      refine wpG_skip gb idleB ?_
      refine wpG_seq gb idleB ?_
      refine wpG_block gb idleB ?_
      refine wpG_seq gb idleB ?_
      refine wpG_region gb idleB ?_
      refine opsF_val gb idleB rfl (by rfl) rfl (x := .int .i64 (sd.length : Nat)) (y_move rfl) ?_
      refine opsF_val gb idleB rfl (by rfl) rfl (x := .int .i64 (sd.length : Nat)) (y_assign rfl) ?_
      refine opsG_nil gb idleB ?_
      refine wpG_region_held (S := fun u => SlAt u g4 0 (ints (places st))) gb idleB drawsB (by kernel_rfl) ?_
      show AnyV _ _ _ _ .any _ _ _ 16 (Array.replicate 16 false) _ _
      refine anyF_rdS (by exact hS4) (i := 0) rfl (by first | kernel_rfl | decide +kernel) (by first | kernel_rfl | decide +kernel) (by first | kernel_rfl | decide +kernel) (by rfl) rfl (x := v6) (fun u hu => ⟨u, _, lensB2 u, Ylds.rds (y_move rfl)⟩) ?_
      refine anyF_rdS (by exact hS4) (i := 1) rfl (by first | kernel_rfl | decide +kernel) (by first | kernel_rfl | decide +kernel) (by first | kernel_rfl | decide +kernel) (by rfl) rfl (x := .slice (some ⟨B, o, none⟩) l.length c) (fun u hu => ⟨u, _, lensB2 u, Ylds.rds (y_move rfl)⟩) ?_
      refine anyF_rdS (by exact hS4) (i := 2) rfl (by first | kernel_rfl | decide +kernel) (by first | kernel_rfl | decide +kernel) (by first | kernel_rfl | decide +kernel) (by rfl) rfl (x := .slice (some ⟨g4, 0, none⟩) (st.length + 1) c4) (fun u hu => ⟨u, _, lensB2 u, Ylds.rds (y_move rfl)⟩) ?_
      refine anyF_rdS (by exact hS4) (i := 3) rfl (by first | kernel_rfl | decide +kernel) (by first | kernel_rfl | decide +kernel) (by first | kernel_rfl | decide +kernel) (by rfl) rfl (x := .int .i64 (sd.length : Nat)) (fun u hu => ⟨u, _, lensB2 u, Ylds.rds (y_move rfl)⟩) ?_
      refine anyF_rdS (by exact hS4) (i := 4) rfl (by first | kernel_rfl | decide +kernel) (by first | kernel_rfl | decide +kernel) (by first | kernel_rfl | decide +kernel) (by rfl) rfl (x := .pointer (some ⟨g4, 0 + sd.length * 1, none⟩)) (fun u hu => ⟨u, _, lensB2 u, Ylds.rds (y_ix ty29 rfl rfl (by omega))⟩) ?_
      refine anyF_rdS (by exact hS4) (i := 5) rfl (by first | kernel_rfl | decide +kernel) (by first | kernel_rfl | decide +kernel) (by first | kernel_rfl | decide +kernel) (by rfl) rfl (x := .int .i64 (sd.flatten.length : Nat)) (fun u hu => ⟨u, _, lensB2 u, rd_cellq (by decide) hu hlo (by omega) rfl⟩) ?_
      refine anyF_rdS (by exact hS4) (i := 6) rfl (by first | kernel_rfl | decide +kernel) (by first | kernel_rfl | decide +kernel) (by first | kernel_rfl | decide +kernel) (by rfl) rfl (x := .slice (some ⟨g4, 0, none⟩) (st.length + 1) c4) (fun u hu => ⟨u, _, lensB2 u, Ylds.rds (y_move rfl)⟩) ?_
      refine anyF_rdS (by exact hS4) (i := 7) rfl (by first | kernel_rfl | decide +kernel) (by first | kernel_rfl | decide +kernel) (by first | kernel_rfl | decide +kernel) (by rfl) rfl (x := .int .i64 (sd.length : Nat)) (fun u hu => ⟨u, _, lensB2 u, Ylds.rds (y_move rfl)⟩) ?_
      refine anyF_rdS (by exact hS4) (i := 8) rfl (by first | kernel_rfl | decide +kernel) (by first | kernel_rfl | decide +kernel) (by first | kernel_rfl | decide +kernel) (by rfl) rfl (x := .int .i64 (sd.length + 1 : Nat)) (fun u hu => ⟨u, _, lensB2 u, Ylds.rds (y_add rfl rfl (by rw [IntKind.wrap_i64]; omega))⟩) ?_
      refine anyF_rdS (by exact hS4) (i := 9) rfl (by first | kernel_rfl | decide +kernel) (by first | kernel_rfl | decide +kernel) (by first | kernel_rfl | decide +kernel) (by rfl) rfl (x := .pointer (some ⟨g4, 0 + (sd.length + 1) * 1, none⟩)) (fun u hu => ⟨u, _, lensB2 u, Ylds.rds (y_ix ty29 rfl rfl (by omega))⟩) ?_
      refine anyF_rdS (by exact hS4) (i := 10) rfl (by first | kernel_rfl | decide +kernel) (by first | kernel_rfl | decide +kernel) (by first | kernel_rfl | decide +kernel) (by rfl) rfl (x := .int .i64 (sd.flatten.length + t.length : Nat)) (fun u hu => ⟨u, _, lensB2 u, rd_cellq (by decide) hu hhi (by omega) rfl⟩) ?_
      refine anyF_rdS (by exact hS4) (i := 11) rfl (by first | kernel_rfl | decide +kernel) (by first | kernel_rfl | decide +kernel) (by first | kernel_rfl | decide +kernel) (by rfl) rfl (x := .slice (some ⟨B, o + sd.flatten.length * 3, none⟩) t.length (c - sd.flatten.length)) (fun u hu => ⟨u, _, lensB2 u, Ylds.rds (y_slice_seg ty44 rfl rfl rfl htp (by omega))⟩) ?_
      refine anyF_callS (i := 12) rfl (by first | kernel_rfl | decide +kernel) (by rfl) rfl (run_call (args := #[.slice (some ⟨B, o + sd.flatten.length * 3, none⟩) t.length (c - sd.flatten.length)]) rfl Try.func51 (by rfl) rfl (by simp only [List.map_toArray, List.map_cons, List.map_nil]; rfl)) (clone51 h' t B (o + sd.flatten.length * 3) (c - sd.flatten.length) hSeg htp (by omega)) ?_
      intro r h2 I51
      obtain ⟨p5, c5, rfl, hc5⟩ := I51.own.shape2
      refine ⟨(hS4.mono I51.ext), ?_⟩
      refine anyB_new (i := 13) rfl (by first | kernel_rfl | decide +kernel) (by rfl) rfl (.cells #[.slice p5 t.length c5] 44) (fun M => .slice (some ⟨M, 0, none⟩) 1 1) (run_bs1 (by decide) rfl (.inr ⟨_, _, _, rfl, by decide⟩)) fun M hM => ⟨(hS4.mono I51.ext).mono (ext_put hM), ?_⟩
      have I3 := (I.grow I51.ext).grow (ext_put (o := .cells #[.slice p5 t.length c5] 44) hM)
      have J3 := (J.ext I51.ext).ext (ext_put (o := .cells #[.slice p5 t.length c5] 44) hM)
      have O3 : OwnK (put h2 M (.cells #[.slice p5 t.length c5] 44)) 63 3 (.slice p5 t.length c5) t.length (flat t) := I51.own.ext fun g _ o ho => ext_put hM g o ho
      have hSM := slAt_new h2 M #[.slice p5 t.length c5] 44
      refine anyB_append ty56 (c := 1) (i := 14) rfl (by first | kernel_rfl | decide +kernel) (by rfl) rfl rfl rfl rfl I3.own hSM rfl (by decide) (by simp [Value.oneCell']) (by omega) fun v6' h4 hO hold hb => ?_
      have I4 := I3.add hO hold hb
      have J4 := (J3.apart I3.own (by decide) hold).snoc (O3.apart I3.own (by decide) hold)
      have F4 : NewRows 44 h1 (vs ++ [.slice p5 t.length c5]) := fun hE u hu g hg => by
        rcases List.mem_append.1 hu with hu | hu
        · exact F hE u hu g hg
        · obtain rfl := List.mem_singleton.1 hu
          cases hx : h1 g with
          | none => rfl
          | some o => have := I.ext g o hx; rw [I51.new g hg] at this; cases this
      refine ⟨(hS40.mono I4.ext), ?_⟩
      refine anyF_rdS (by exact (hS40.mono I4.ext)) (i := 15) rfl (by first | kernel_rfl | decide +kernel) (by first | kernel_rfl | decide +kernel) (by first | kernel_rfl | decide +kernel) (by rfl) rfl (x := v6') (fun u hu => ⟨u, _, lensB2 u, Ylds.rds (y_assign rfl)⟩) ?_
      refine anyV_done (by first | kernel_rfl | decide +kernel) ?_ _
      refine wpG_region gb idleB ?_
      refine opsF_val gb idleB rfl (by rfl) rfl (x := .int .i64 (sd.length + 1 : Nat)) (y_add rfl rfl (by rw [IntKind.wrap_i64]; omega)) ?_
      refine opsF_val gb idleB rfl (by rfl) rfl (x := .int .i64 (sd.length + 1 : Nat)) (y_move rfl) ?_
      refine opsG_nil gb idleB ?_
      exact ⟨ts.length, by rw [List.length_cons]; omega, sd ++ [t], ts, _, _, _, _, rfl, by rw [hst]; simp, fr_says _ ⟨rfl, rfl, rfl, rfl, by rw [List.length_append]; rfl, trivial⟩, rfl, by rw [List.length_append]; exact I4, J4, F4⟩

/-- A list's things. -/
def partsOf (l : List T3) : Option (List (List T3)) := match tgo l [] with
  | some [_] => if l.getLast?.map T3.s = some { data := #[] } then tgo l.dropLast [] else none
  | _ => none
theorem parts_not {l : List T3} {st : List (List T3)} (h : tgo l [] = some st) (hn : st.length ≠ 1) : partsOf l = none := by
  unfold partsOf
  rw [h]
  match st, hn with
  | [], _ => rfl
  | [_], h => exact absurd rfl h
  | _ :: _ :: _, _ => rfl
theorem parts_none {l : List T3} (h : tgo l [] = none) : partsOf l = none := by unfold partsOf; rw [h]
theorem parts_word {dn : List T3} {x : T3} {t : List T3} (h : tgo (dn ++ [x]) [] = some [t]) (hs : x.s ≠ { data := #[] }) : partsOf (dn ++ [x]) = none := by
  unfold partsOf; rw [h]; simp [hs]
theorem parts_list {dn : List T3} {x : T3} {t : List T3} (h : tgo (dn ++ [x]) [] = some [t]) (hs : x.s = { data := #[] }) : partsOf (dn ++ [x]) = tgo dn [] := by
  unfold partsOf; rw [h]; simp [hs]
theorem one_of {α : Type} {st : List α} (h : st.length = 1) : ∃ t, st = [t] := by
  match st, h with
  | [t], _ => exact ⟨t, rfl⟩
theorem snoc_of {α : Type} {l : List α} (h : l ≠ []) : ∃ dn x, l = dn ++ [x] := ⟨l.dropLast, l.getLast h, (List.dropLast_concat_getLast h).symm⟩

set_option maxHeartbeats 2000000 in
theorem parts39 {main : Bool} (h : PH) (l : List T3) (p : Option Addr) (c : Nat) (hR : RSl h 3 (.slice p l.length c) l.length (flat l)) (hcap : l.length ≤ c) (hlen : l.length ≤ 2 ^ 20) :
    CallsG Try.prog (GB main) 39 #[.slice p l.length c] h (ItemsPost 44 h (partsOf l)) := by
  refine callsG_of_wp (c := Try.f39.body.getD .skip) gb idleB Try.func39 rfl ?_
  rw [Try.ntmps39]
  rw [fr_of (n := 36) (by simp) [(0, .slice p l.length c)] ⟨by simp, trivial⟩]
  generalize (fun j => (#[Value.slice p l.length c] ++ Array.replicate (36 - #[Value.slice p l.length c].size) undef).getD j undef) = σ
  refine wpG_seq gb idleB ?_
  refine wpG_region gb idleB ?_
  refine opsF_val gb idleB rfl (by rfl) rfl (x := .slice none 0 0) (y_assign rfl) ?_
  refine opsF_val gb idleB rfl (by rfl) rfl (x := .bool false) (y_assign rfl) ?_
  refine opsG_nil gb idleB ?_
  refine wpG_seq gb idleB ?_
  refine wpG_region gb idleB ?_
  refine opsF_val gb idleB rfl (by rfl) rfl (x := .slice p l.length c) (y_move rfl) ?_
  refine opsF_call gb idleB rfl (by rfl) rfl (run_call (args := #[.slice p l.length c]) rfl Try.func50 (by rfl) rfl (by simp only [List.map_toArray, List.map_cons, List.map_nil]; rfl)) (begins50 h l p c hR hlen) ?_
  intro r h1 hpost
  rcases hpost.cases with ⟨htg, e1, rfl⟩ | ⟨st, v4, htg, rfl, I1⟩
  · refine opsF_val gb idleB rfl (by rfl) rfl (x := .tuple #[.slice none 0 0, .bool false]) (y_move rfl) ?_
    refine opsF_val gb idleB rfl (by rfl) rfl (x := .slice none 0 0) (y_extract rfl rfl) ?_
    refine opsF_val gb idleB rfl (by rfl) rfl (x := .bool false) (y_extract rfl rfl) ?_
    refine opsF_val gb idleB rfl (by rfl) rfl (x := .slice none 0 0) (y_assign rfl) ?_
    refine opsF_val gb idleB rfl (by rfl) rfl (x := .bool false) (y_assign rfl) ?_
    refine opsG_nil gb idleB ?_
    refine wpG_seq gb idleB ?_
    refine wpG_seq gb idleB ?_
    refine wpG_region gb idleB ?_
    refine opsF_val gb idleB rfl (by rfl) rfl (x := .bool false) (y_move rfl) ?_
    refine opsF_val gb idleB rfl (by rfl) rfl (x := .bool true) (y_not (b := false) rfl) ?_
    refine opsF_val gb idleB rfl (by rfl) rfl (x := .bool true) (y_move rfl) ?_
    refine opsF_skip gb idleB rfl (by rfl) rfl ?_
    refine opsF_skip gb idleB rfl (by rfl) rfl ?_
    refine opsF_skip gb idleB rfl (by rfl) rfl ?_
    refine opsF_val gb idleB rfl (by rfl) rfl (x := .bool true) (y_pick (t := true) rfl rfl) ?_
    refine opsF_val gb idleB rfl (by rfl) rfl (x := .bool true) (y_move rfl) ?_
    refine opsF_skip gb idleB rfl (by rfl) rfl ?_
    refine opsF_skip gb idleB rfl (by rfl) rfl ?_
    refine opsF_skip gb idleB rfl (by rfl) rfl ?_
    refine opsF_skip gb idleB rfl (by rfl) rfl ?_
    refine opsF_skip gb idleB rfl (by rfl) rfl ?_
    refine opsF_skip gb idleB rfl (by rfl) rfl ?_
    refine opsF_skip gb idleB rfl (by rfl) rfl ?_
    refine opsF_skip gb idleB rfl (by rfl) rfl ?_
    refine opsF_val gb idleB rfl (by rfl) rfl (x := .bool true) (y_pick (t := true) rfl rfl) ?_
    refine opsG_nil gb idleB ?_
    refine wpG_cond gb idleB (t := true) (by rw [fr_eval]; rfl) ?_
    refine wpG_seq gb idleB ?_
    refine wpG_region gb idleB ?_
    refine opsF_val gb idleB rfl (by rfl) rfl (x := .slice none 0 0) (y_assign rfl) ?_
    refine opsF_val gb idleB rfl (by rfl) rfl (x := .bool false) (y_assign rfl) ?_
    refine opsG_nil gb idleB ?_
    refine wpG_ret gb idleB ?_
    refine ⟨.inr rfl, rfl, _, resultsC_tmp2 results39 _, ?_⟩
    rw [fr_ret (by decide) rfl, fr_ret (by decide) rfl]
    rw [parts_none htg]
    exact ⟨e1, rfl⟩
  · obtain ⟨p4, c4, rfl, hc4⟩ := I1.own.shape2
    have e1 := I1.ext
    refine opsF_val gb idleB rfl (by rfl) rfl (x := .tuple #[.slice p4 (st.length + 1) c4, .bool true]) (y_move rfl) ?_
    refine opsF_val gb idleB rfl (by rfl) rfl (x := .slice p4 (st.length + 1) c4) (y_extract rfl rfl) ?_
    refine opsF_val gb idleB rfl (by rfl) rfl (x := .bool true) (y_extract rfl rfl) ?_
    refine opsF_val gb idleB rfl (by rfl) rfl (x := .slice p4 (st.length + 1) c4) (y_assign rfl) ?_
    refine opsF_val gb idleB rfl (by rfl) rfl (x := .bool true) (y_assign rfl) ?_
    refine opsG_nil gb idleB ?_
    refine wpG_seq gb idleB ?_
    refine wpG_seq gb idleB ?_
    refine wpG_region gb idleB ?_
    refine opsF_val gb idleB rfl (by rfl) rfl (x := .bool true) (y_move rfl) ?_
    refine opsF_val gb idleB rfl (by rfl) rfl (x := .bool false) (y_not (b := true) rfl) ?_
    refine opsF_val gb idleB rfl (by rfl) rfl (x := .bool false) (y_move rfl) ?_
    refine opsF_val gb idleB rfl (by rfl) rfl (x := .slice p4 (st.length + 1) c4) (y_move rfl) ?_
    refine opsF_val gb idleB rfl (by rfl) rfl (x := .int .i64 ((st.length + 1) : Nat)) (y_len_slice Try.underlying29 rfl) ?_
    refine opsF_val gb idleB rfl (by rfl) rfl (x := .bool (((st.length + 1 : Nat) : Int) != 2)) (y_neq (.inl rfl) rfl rfl rfl) ?_
    by_cases h2 : st.length = 1
    · rw [show (((st.length + 1 : Nat) : Int) != 2) = false by simp; omega]
      obtain ⟨t, rfl⟩ := one_of h2
      obtain ⟨hth, hfl⟩ := tgo_some l [] [t] tgo_none htg
      have hl : l = t := by simpa using hfl.symm
      obtain ⟨dn, x, rfl⟩ := snoc_of (show l ≠ [] by rw [hl]; exact (hth t (by simp)).ne)
      have hln : (dn ++ [x]).length = dn.length + 1 := by simp
      obtain ⟨B, o, rfl, hS0⟩ := hR.pos (by rw [hln]; omega)
      have hS := hS0.mono e1
      obtain ⟨hga, hgb, hgs⟩ := flat_get dn [] x
      refine opsF_val gb idleB rfl (by rfl) rfl (x := .bool false) (y_pick (t := false) rfl rfl) ?_
      refine opsF_val gb idleB rfl (by rfl) rfl (x := .bool false) (y_move rfl) ?_
      refine opsF_val gb idleB rfl (by rfl) rfl (x := .slice (some ⟨B, o, none⟩) (dn ++ [x]).length c) (y_move rfl) ?_
      refine opsF_val gb idleB rfl (by rfl) rfl (x := .slice (some ⟨B, o, none⟩) (dn ++ [x]).length c) (y_move rfl) ?_
      refine opsF_val gb idleB rfl (by rfl) rfl (x := .int .i64 ((dn ++ [x]).length : Nat)) (y_len_slice Try.underlying44 rfl) ?_
      refine opsF_val gb idleB rfl (by rfl) rfl (x := .int .i64 (dn.length : Nat)) (y_sub rfl rfl (by rw [IntKind.wrap_i64]; omega)) ?_
      refine opsF_val gb idleB rfl (by rfl) rfl (x := .pointer (some ⟨B, o + dn.length * 3, none⟩)) (y_ix ty44 rfl rfl (by omega)) ?_
      refine opsF_val gb idleB rfl (by rfl) rfl (x := .pointer (some ⟨B, o + dn.length * 3 + 2, none⟩)) (y_fld (by decide) rfl) ?_
      refine opsF_rd gb (lensB2 _) rfl (by rfl) rfl (x := .string x.s) (rd_cellq (by decide) hS hgs (by omega) rfl) ?_
      refine opsF_val gb idleB rfl (by rfl) rfl (x := .bool (!decide (x.s = { data := #[] }))) (y_neq_strg rfl rfl rfl) ?_
      by_cases hs : x.s = { data := #[] }
      · rw [decide_eq_true hs]
        show OpsG _ _ _ _ _ _ (fr _ _ ((_, Value.bool false) :: _) _) _
        refine opsF_val gb idleB rfl (by rfl) rfl (x := .bool false) (y_pick (t := false) rfl rfl) ?_
        refine opsG_nil gb idleB ?_
        refine wpG_cond gb idleB (t := false) (by rw [fr_eval]; rfl) ?_
        refine wpG_skip gb idleB ?_
        refine wpG_seq gb idleB ?_
        refine wpG_region gb idleB ?_
        refine opsF_val gb idleB rfl (by rfl) rfl (x := .slice (some ⟨B, o, none⟩) (dn ++ [x]).length c) (y_move rfl) ?_
        refine opsF_val gb idleB rfl (by rfl) rfl (x := .slice (some ⟨B, o, none⟩) (dn ++ [x]).length c) (y_move rfl) ?_
        refine opsF_val gb idleB rfl (by rfl) rfl (x := .int .i64 ((dn ++ [x]).length : Nat)) (y_len_slice Try.underlying44 rfl) ?_
        refine opsF_val gb idleB rfl (by rfl) rfl (x := .int .i64 (dn.length : Nat)) (y_sub rfl rfl (by rw [IntKind.wrap_i64]; omega)) ?_
        refine opsF_val gb idleB rfl (by rfl) rfl (x := .slice (some ⟨B, o, none⟩) dn.length c) (y_slice_arr ty44 rfl rfl (by omega)) ?_
        have hSd : SlAt h1 B o (flat dn) := by
          have := SlAt.seg (a := []) (t := dn) (b := [x]) (h := h1) (B := B) (o := o) hS
          simpa using this
        refine opsF_call gb idleB rfl (by rfl) rfl (run_call (args := #[.slice (some ⟨B, o, none⟩) dn.length c]) rfl Try.func37 (by rfl) rfl (by simp only [List.map_toArray, List.map_cons, List.map_nil]; rfl)) (items37 h1 dn (some ⟨B, o, none⟩) c ⟨flat_length dn, .inr ⟨B, o, c, rfl, hSd⟩⟩ (by omega) (by omega)) ?_
        intro r h2 hpost2
        have hit := ItemsPost.of e1 hpost2
        rcases hpost2.cases with ⟨ht2, e2, rfl⟩ | ⟨st2, p6, c6, vs, ht2, rfl, hc6, I2, J2, -⟩
        · refine opsF_val gb idleB rfl (by rfl) rfl (x := .slice none 0 0) (y_extract rfl rfl) ?_
          refine opsF_val gb idleB rfl (by rfl) rfl (x := .bool false) (y_extract rfl rfl) ?_
          refine opsF_val gb idleB rfl (by rfl) rfl (x := .slice none 0 0) (y_assign rfl) ?_
          refine opsF_val gb idleB rfl (by rfl) rfl (x := .bool false) (y_assign rfl) ?_
          refine opsG_nil gb idleB ?_
          refine wpG_ret gb idleB ?_
          refine ⟨.inr rfl, rfl, _, resultsC_tmp2 results39 _, ?_⟩
          rw [fr_ret (by decide) rfl, fr_ret (by decide) rfl]
          rw [parts_list htg hs]
          exact hit
        · refine opsF_val gb idleB rfl (by rfl) rfl (x := .slice p6 st2.length c6) (y_extract rfl rfl) ?_
          refine opsF_val gb idleB rfl (by rfl) rfl (x := .bool true) (y_extract rfl rfl) ?_
          refine opsF_val gb idleB rfl (by rfl) rfl (x := .slice p6 st2.length c6) (y_assign rfl) ?_
          refine opsF_val gb idleB rfl (by rfl) rfl (x := .bool true) (y_assign rfl) ?_
          refine opsG_nil gb idleB ?_
          refine wpG_ret gb idleB ?_
          refine ⟨.inr rfl, rfl, _, resultsC_tmp2 results39 _, ?_⟩
          rw [fr_ret (by decide) rfl, fr_ret (by decide) rfl]
          rw [parts_list htg hs]
          exact hit
      · rw [decide_eq_false hs]
        show OpsG _ _ _ _ _ _ (fr _ _ ((_, Value.bool true) :: _) _) _
        refine opsF_val gb idleB rfl (by rfl) rfl (x := .bool true) (y_pick (t := false) rfl rfl) ?_
        refine opsG_nil gb idleB ?_
        refine wpG_cond gb idleB (t := true) (by rw [fr_eval]; rfl) ?_
        refine wpG_seq gb idleB ?_
        refine wpG_region gb idleB ?_
        refine opsF_val gb idleB rfl (by rfl) rfl (x := .slice none 0 0) (y_assign rfl) ?_
        refine opsF_val gb idleB rfl (by rfl) rfl (x := .bool false) (y_assign rfl) ?_
        refine opsG_nil gb idleB ?_
        refine wpG_ret gb idleB ?_
        refine ⟨.inr rfl, rfl, _, resultsC_tmp2 results39 _, ?_⟩
        rw [fr_ret (by decide) rfl, fr_ret (by decide) rfl]
        rw [parts_word htg hs]
        exact ⟨e1, rfl⟩
    · rw [show (((st.length + 1 : Nat) : Int) != 2) = true by simp; omega]
      refine opsF_val gb idleB rfl (by rfl) rfl (x := .bool true) (y_pick (t := false) rfl rfl) ?_
      refine opsF_val gb idleB rfl (by rfl) rfl (x := .bool true) (y_move rfl) ?_
      refine opsF_skip gb idleB rfl (by rfl) rfl ?_
      refine opsF_skip gb idleB rfl (by rfl) rfl ?_
      refine opsF_skip gb idleB rfl (by rfl) rfl ?_
      refine opsF_skip gb idleB rfl (by rfl) rfl ?_
      refine opsF_skip gb idleB rfl (by rfl) rfl ?_
      refine opsF_skip gb idleB rfl (by rfl) rfl ?_
      refine opsF_skip gb idleB rfl (by rfl) rfl ?_
      refine opsF_skip gb idleB rfl (by rfl) rfl ?_
      refine opsF_val gb idleB rfl (by rfl) rfl (x := .bool true) (y_pick (t := true) rfl rfl) ?_
      refine opsG_nil gb idleB ?_
      refine wpG_cond gb idleB (t := true) (by rw [fr_eval]; rfl) ?_
      refine wpG_seq gb idleB ?_
      refine wpG_region gb idleB ?_
      refine opsF_val gb idleB rfl (by rfl) rfl (x := .slice none 0 0) (y_assign rfl) ?_
      refine opsF_val gb idleB rfl (by rfl) rfl (x := .bool false) (y_assign rfl) ?_
      refine opsG_nil gb idleB ?_
      refine wpG_ret gb idleB ?_
      refine ⟨.inr rfl, rfl, _, resultsC_tmp2 results39 _, ?_⟩
      rw [fr_ret (by decide) rfl, fr_ret (by decide) rfl]
      rw [parts_not htg h2]
      exact ⟨e1, rfl⟩

end Go.Proofs.Ytfaadjmglboaoaa
