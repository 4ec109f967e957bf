/-
  SurfaceJoins: the walk of the law's text.
-/
import Derived.Test.YtfaadjmglboaoaaRefItems
import Derived.Test.YtfaadjmglboaoaaRead
namespace Go.Proofs.Ytfaadjmglboaoaa
open Go.Conc Go.RowKit

theorem equal_bool_ev2 (D : Nat) (m k : Bool) (w : World) : Sem.events Try.prog (Op.equalIn (D + 1) 4 (.bool m) (.bool k)) w #[] = #[] := by
  have ht := Try.underlying4
  unfold Op.equalIn
  simp [underlying, ht, go_sem]
section ylds
variable {ρ : Operand → Value} {d : Option Tmp} {ty : TypeId} {pos : String} {af : Array Edge} {gu : Option (Nat × Bool)}
theorem y_neq_bool {x y : Operand} {m k : Bool} (hx : ρ x = .bool m) (hy : ρ y = .bool k) {r : Bool} (hr : (m != k) = r) : Ylds ρ ⟨d, .binOp .neq 4 x y 4, ty, pos, af, gu⟩ (.bool r) := fun w => by
  refine ⟨eq_of_K fun K hK => by subst hr; go_simp; exact hK, ?_⟩
  simp [go_sem, hx, hy]
  simp [binOp, Op.equal, go_sem]
  exact equal_bool_ev2 9999 m k w
end ylds

section rules
variable {main : Bool} {GL : (Goroutine → PH → Prop) → Prop} {kd : Bool} {fn : FuncId} {Q : Exit → Act → PH → Prop} {h : PH} {d n : Nat} {σ : Nat → Value} {l : List (Nat × Value)} {ds : List Deferred} {ops : Array Oper}
/-- An append of what may be nothing. -/
theorem opsB_appendR (hGL : ∀ E, GL E → Closed Try.prog main viewB E) {T E k b : Nat} {z : Value} (ET : ElemTy T E k b z) {i : Nat} {rest : List Nat} {af : Array Edge} {gu : Option (Nat × Bool)} {ty : TypeId} {pos : String} {x y : Operand} {c m j : Nat} {p : Option Addr} {xs news : List Value} {s : Value}
    (ho : ops[i]? = some ⟨some d, .call { callee := .builtin .append, args := #[x, y], argTypes := #[T, T] }, ty, pos, af, gu⟩) (hw : Region.wanted ⟨some d, .call { callee := .builtin .append, args := #[x, y], argTypes := #[T, T] }, ty, pos, af, gu⟩ (yielded ops (fr n σ l ds).tmps) = true)
    (hx : ev n σ l x = s) (hy : ev n σ l y = .slice p m c) (hO : OwnK h E k s j xs) (hR : RSl h k (.slice p m c) m news) (h1 : ∀ u ∈ news, u.oneCell' = true) (hjm : j + m ≤ 2 ^ 40)
    (hn : ∀ v' h', OwnK h' E k v' (j + m) (xs ++ news) → (∀ r o, h r = some o → some r ≠ s.ownBlock → h' r = some o) → (v'.ownBlock = s.ownBlock ∨ ∀ g, v'.ownBlock = some g → h g = none) → OpsG GL kd fn ops rest Q (fr n σ ((d, v') :: l) ds) h') : OpsG GL kd fn ops (i :: rest) Q (fr n σ l ds) h := by
  rcases Nat.eq_zero_or_pos m with rfl | hm
  · obtain ⟨p', c', rfl, hc⟩ := hO.shape2
    have hnil : news = [] := List.eq_nil_of_length_eq_zero (by rw [hR.1]; simp)
    subst hnil
    refine opsF_val hGL idleB ho hw rfl (x := .slice p' j c') (y_append0 ET hx hy hc) ?_
    exact hn _ h (by rw [Nat.add_zero, List.append_nil]; exact hO) (fun r o hr _ => hr) (.inl rfl)
  · obtain ⟨B, o, rfl, hS⟩ := hR.pos hm
    exact opsB_append hGL ET (c := c) ho hw rfl rfl hx hy hO hS hR.1 hm h1 hjm hn
end rules

theorem ItemsPost.none' {E : TypeId} {h h' : PH} {a : Option (List (List T3))} {r : Value} (x : ItemsPost E h a r h') (ha : a = none) : Ext h h' ∧ r = .tuple #[.slice none 0 0, .bool false] := by
  subst ha; exact x
theorem ItemsPost.some' {E : TypeId} {h h' : PH} {a : Option (List (List T3))} {st : List (List T3)} {r : Value} (x : ItemsPost E h a r h') (ha : a = some st) : ∃ p c vs, r = .tuple #[.slice p st.length c, .bool true] ∧ st.length ≤ c ∧ OInv E 1 h h' (.slice p st.length c) st.length vs ∧ RowsAt h' vs st ∧ NewRows E h vs := by
  subst ha
  obtain ⟨v, vs, h1, h2, h3⟩ := x
  obtain ⟨p, c, rfl, hc⟩ := h2.own.shape2
  exact ⟨p, c, vs, h1, hc, h2, h3⟩
theorem RowsAt.get {h : PH} {vs : List Value} {dn ts : List (List T3)} {t : List T3} (x : RowsAt h vs (dn ++ t :: ts)) : ∃ p c, vs[dn.length]? = some (.slice p t.length c) ∧ t.length ≤ c ∧ RSl h 3 (.slice p t.length c) t.length (flat t) := by
  have hl : dn.length < vs.length := by rw [x.1, List.length_append, List.length_cons]; omega
  obtain ⟨p, c, e, h1, h2⟩ := x.2 dn.length vs[dn.length] t (List.getElem?_eq_getElem hl) (by rw [List.getElem?_append_right (Nat.le_refl _), Nat.sub_self]; rfl)
  exact ⟨p, c, by rw [List.getElem?_eq_getElem hl, e], h1, h2⟩
/-- A thing is no longer than its row. -/
theorem thing_len {t : List T3} {st : List (List T3)} (h : t ∈ st) : t.length ≤ st.flatten.length := by
  induction st with
  | nil => cases h
  | cons u st ih =>
    rw [List.flatten_cons, List.length_append]
    rcases List.mem_cons.1 h with rfl | h
    · omega
    · have := ih h; omega

namespace surfaceJoins
set_option maxHeartbeats 8000000 in
theorem walk (l r : List T3) (p q : Option Addr) (c e : Nat) (W : World) (hcl : Cl Try.prog W) (hR : RSl (mine Try.prog W) 3 (.slice p l.length c) l.length (flat l)) (hc : l.length ≤ c) (hR2 : RSl (mine Try.prog W) 3 (.slice q r.length e) r.length (flat r)) (he : r.length ≤ e)
    (Post : Value → World → Prop) (hP : ∀ u, Grew W u → ∀ τ d, Post (.bool true) (tap u τ d)) :
    Ends Try.prog Post (G (Frame.enter Try.prog 11 #[.slice p l.length c, .slice q r.length e] .normal) []) W := by
  refine ends_of_wpB hcl (c := Try.f11.body.getD .skip) Try.func11 rfl (by kernel_rfl) ?_
  rw [Try.ntmps11]
  rw [fr_of (n := 148) (by simp) [(0, .slice p l.length c), (1, .slice q r.length e)] ⟨by simp, by simp, trivial⟩]
  generalize (fun j => (#[Value.slice p l.length c, Value.slice q r.length e] ++ Array.replicate (148 - #[Value.slice p l.length c, Value.slice q r.length e].size) undef).getD j undef) = σ
  have E0 : Ext (mine Try.prog W) (mine Try.prog W) := Ext.refl _
  refine wpG_seq glb idleB ?_
  refine wpG_region glb idleB ?_
  refine opsF_val glb idleB rfl (by rfl) rfl (x := .bool false) (y_assign rfl) ?_
  refine opsG_nil glb idleB ?_
  refine wpG_seq glb idleB ?_
  refine wpG_seq glb idleB ?_
  refine wpG_region glb idleB ?_
  refine opsF_val glb idleB rfl (by rfl) rfl (x := .slice p l.length c) (y_move rfl) ?_
  refine opsF_call glb idleB rfl (by rfl) rfl (run_call (args := #[.slice p l.length c]) rfl Try.func36 (by rfl) rfl (by simp only [List.map_toArray, List.map_cons, List.map_nil]; rfl)) (callsB (heavy36 (mine Try.prog W) l p c (hR.ext E0))) ?_
  rintro _ _ ⟨rfl, rfl⟩
  cases hvl : heavyB l
  · obtain ⟨hnl, hwl⟩ := heavy_not hvl
    refine opsF_val glb idleB rfl (by rfl) rfl (x := .bool false) (y_move rfl) ?_
    refine opsF_val glb idleB rfl (by rfl) rfl (x := .slice q r.length e) (y_move rfl) ?_
    refine opsF_call glb idleB rfl (by rfl) rfl (run_call (args := #[.slice q r.length e]) rfl Try.func36 (by rfl) rfl (by simp only [List.map_toArray, List.map_cons, List.map_nil]; rfl)) (callsB (heavy36 (mine Try.prog W) r q e (hR2.ext E0))) ?_
    rintro _ _ ⟨rfl, rfl⟩
    cases hvr : heavyB r
    · obtain ⟨hnr, hwr⟩ := heavy_not hvr
      refine opsF_val glb idleB rfl (by rfl) rfl (x := .bool false) (y_pick (t := false) rfl rfl) ?_
      refine opsF_val glb idleB rfl (by rfl) rfl (x := .bool false) (y_move rfl) ?_
      refine opsF_call glb idleB rfl (by rfl) rfl (run_call rfl Try.func30 (by rfl) rfl (by simp)) (shown30 _) ?_
      rintro _ h1 ⟨e1, rfl⟩
      have E1 := E0.trans e1
      refine opsF_val glb idleB rfl (by rfl) rfl (x := .bool false) (y_not (b := true) rfl) ?_
      refine opsF_val glb idleB rfl (by rfl) rfl (x := .bool false) (y_pick (t := false) rfl rfl) ?_
      refine opsG_nil glb idleB ?_
      refine wpG_cond glb idleB (t := false) (by rw [fr_eval]; rfl) ?_
      refine wpG_skip glb idleB ?_
      refine wpG_seq glb idleB ?_
      refine wpG_region glb idleB ?_
      refine opsF_val glb idleB rfl (by rfl) rfl (x := .slice p l.length c) (y_move rfl) ?_
      refine opsF_call glb idleB rfl (by rfl) rfl (run_call (args := #[.slice p l.length c]) rfl Try.func37 (by rfl) rfl (by simp only [List.map_toArray, List.map_cons, List.map_nil]; rfl)) (callsB (items37 h1 l p c (hR.ext E1) hc (by omega))) ?_
      intro r2 h2 hpost
      rcases hpost.cases with ⟨htl, e2, rfl⟩ | ⟨stl, p2, c2, vs2, htl, rfl, hc2, I2, J2, -⟩
      · have E2 := E1.trans e2
        refine opsF_val glb idleB rfl (by rfl) rfl (x := .tuple #[.slice none 0 0, .bool false]) (y_move rfl) ?_
        refine opsF_val glb idleB rfl (by rfl) rfl (x := .slice none 0 0) (y_extract rfl rfl) ?_
        refine opsF_val glb idleB rfl (by rfl) rfl (x := .bool false) (y_extract rfl rfl) ?_
        refine opsF_val glb idleB rfl (by rfl) rfl (x := .slice none 0 0) (y_assign rfl) ?_
        refine opsF_val glb idleB rfl (by rfl) rfl (x := .bool false) (y_assign rfl) ?_
        refine opsG_nil glb idleB ?_
        refine wpG_seq glb idleB ?_
        refine wpG_region glb idleB ?_
        refine opsF_val glb idleB rfl (by rfl) rfl (x := .slice q r.length e) (y_move rfl) ?_
        refine opsF_call glb idleB rfl (by rfl) rfl (run_call (args := #[.slice q r.length e]) rfl Try.func37 (by rfl) rfl (by simp only [List.map_toArray, List.map_cons, List.map_nil]; rfl)) (callsB (items37 h2 r q e (hR2.ext E2) he (by omega))) ?_
        intro r3 h3 hpost
        rcases hpost.cases with ⟨htr, e3, rfl⟩ | ⟨str, p3, c3, vs3, htr, rfl, hc3, I3, J3, -⟩
        · have E3 := E2.trans e3
          refine opsF_val glb idleB rfl (by rfl) rfl (x := .tuple #[.slice none 0 0, .bool false]) (y_move rfl) ?_
          refine opsF_val glb idleB rfl (by rfl) rfl (x := .slice none 0 0) (y_extract rfl rfl) ?_
          refine opsF_val glb idleB rfl (by rfl) rfl (x := .bool false) (y_extract rfl rfl) ?_
          refine opsF_val glb idleB rfl (by rfl) rfl (x := .slice none 0 0) (y_assign rfl) ?_
          refine opsF_val glb idleB rfl (by rfl) rfl (x := .bool false) (y_assign rfl) ?_
          refine opsG_nil glb idleB ?_
          refine wpG_seq glb idleB ?_
          refine wpG_region glb idleB ?_
          refine opsF_new glb (lensB2 _) rfl (by rfl) rfl (.cells #[] 63) (fun M => .slice (some ⟨M, 0, none⟩) 0 0) (run_bs0 (by decide)) fun g9 hg9 => ?_
          have I90 := oinv_new (E := 63) (k := 3) hg9
          have E4 := E3.trans I90.ext
          refine opsF_val glb idleB rfl (by rfl) rfl (x := .slice (some ⟨g9, 0, none⟩) 0 0) (y_assign rfl) ?_
          refine opsG_nil glb idleB ?_
          refine wpG_seq glb idleB ?_
          refine wpG_region glb idleB ?_
          refine opsF_val glb idleB rfl (by rfl) rfl (x := .slice (some ⟨g9, 0, none⟩) 0 0) (y_move rfl) ?_
          refine opsF_val glb idleB rfl (by rfl) rfl (x := .slice p l.length c) (y_move rfl) ?_
          refine opsB_appendR glb ty44 (c := c) rfl (by rfl) rfl rfl I90.own (hR.ext E4) (flat_one l) (by omega) fun v91 h91 hO hold hb => ?_
          have I91 := I90.add hO hold hb
          rw [Nat.zero_add, List.nil_append] at I91
          have E5 := E3.trans I91.ext
          clear hO hold hb
          refine opsF_val glb idleB rfl (by rfl) rfl (x := v91) (y_assign rfl) ?_
          refine opsG_nil glb idleB ?_
          refine wpG_seq glb idleB ?_
          refine wpG_region glb idleB ?_
          refine opsF_val glb idleB rfl (by rfl) rfl (x := v91) (y_move rfl) ?_
          refine opsF_val glb idleB rfl (by rfl) rfl (x := .slice q r.length e) (y_move rfl) ?_
          refine opsB_appendR glb ty44 (c := e) rfl (by rfl) rfl rfl I91.own (hR2.ext E5) (flat_one r) (by omega) fun v92 h92 hO hold hb => ?_
          have I92 := I91.add hO hold hb
          rw [show l.length + r.length = (l ++ r).length by simp, ← flat_append] at I92
          have E6 := E3.trans I92.ext
          clear hO hold hb
          obtain ⟨p9, c9, rfl, hc9⟩ := I92.own.shape2
          have hlr : (l ++ r).length = l.length + r.length := by simp
          refine opsF_val glb idleB rfl (by rfl) rfl (x := .slice p9 (l ++ r).length c9) (y_assign rfl) ?_
          refine opsG_nil glb idleB ?_
          refine wpG_seq glb idleB ?_
          refine wpG_region glb idleB ?_
          refine opsF_val glb idleB rfl (by rfl) rfl (x := .slice p l.length c) (y_move rfl) ?_
          refine opsF_call glb idleB rfl (by rfl) rfl (run_call (args := #[.slice p l.length c]) rfl Try.func34 (by rfl) rfl (by simp only [List.map_toArray, List.map_cons, List.map_nil]; rfl)) (callsB (theirs34 h92 l p c (hR.ext E6) (by omega))) ?_
          intro v10 h10 I10
          obtain ⟨p10, c10, rfl, hc10⟩ := I10.own.shape2
          have E7 := E6.trans I10.ext
          refine opsF_call glb idleB rfl (by rfl) rfl (run_call (args := #[.slice p10 l.length c10]) rfl Try.func38 (by rfl) rfl (by simp only [List.map_toArray, List.map_cons, List.map_nil]; rfl)) (callsB (refItems38 h10 l p10 c10 I10.own.rsl hc10 (by omega))) ?_
          intro r11 h11 hpost
          obtain ⟨e11, rfl⟩ := hpost.none' htl
          have E8 := E7.trans e11
          refine opsF_val glb idleB rfl (by rfl) rfl (x := .tuple #[.slice none 0 0, .bool false]) (y_move rfl) ?_
          refine opsF_val glb idleB rfl (by rfl) rfl (x := .slice none 0 0) (y_extract rfl rfl) ?_
          refine opsF_val glb idleB rfl (by rfl) rfl (x := .bool false) (y_extract rfl rfl) ?_
          refine opsF_val glb idleB rfl (by rfl) rfl (x := .slice none 0 0) (y_assign rfl) ?_
          refine opsF_val glb idleB rfl (by rfl) rfl (x := .bool false) (y_assign rfl) ?_
          refine opsG_nil glb idleB ?_
          refine wpG_seq glb idleB ?_
          refine wpG_seq glb idleB ?_
          refine wpG_region glb idleB ?_
          refine opsF_val glb idleB rfl (by rfl) rfl (x := .bool false) (y_move rfl) ?_
          refine opsF_val glb idleB rfl (by rfl) rfl (x := .bool false) (y_move rfl) ?_
          refine opsF_val glb idleB rfl (by rfl) rfl (x := .bool false) (y_neq_bool rfl rfl rfl) ?_
          refine opsG_nil glb idleB ?_
          refine wpG_cond glb idleB (t := false) (by rw [fr_eval]; rfl) ?_
          refine wpG_skip glb idleB ?_
          refine wpG_seq glb idleB ?_
          refine wpG_seq glb idleB ?_
          refine wpG_region glb idleB ?_
          refine opsF_val glb idleB rfl (by rfl) rfl (x := .bool false) (y_move rfl) ?_
          refine opsF_val glb idleB rfl (by rfl) rfl (x := .bool true) (y_not (b := false) rfl) ?_
          refine opsF_val glb idleB rfl (by rfl) rfl (x := .bool true) (y_move rfl) ?_
          refine opsF_skip glb idleB rfl (by rfl) rfl ?_
          refine opsF_skip glb idleB rfl (by rfl) rfl ?_
          refine opsF_val glb idleB rfl (by rfl) rfl (x := .bool true) (y_pick (t := true) rfl rfl) ?_
          refine opsG_nil glb idleB ?_
          refine wpG_cond glb idleB (t := true) (by rw [fr_eval]; rfl) ?_
          refine wpG_seq glb idleB ?_
          refine wpG_region glb idleB ?_
          refine opsF_val glb idleB rfl (by rfl) rfl (x := .slice none 0 0) (y_move rfl) ?_
          refine opsF_val glb idleB rfl (by rfl) rfl (x := .int .i64 (0 : Nat)) (y_len_slice Try.underlying56 rfl) ?_
          refine opsF_val glb idleB rfl (by rfl) rfl (x := .bool true) (y_eql (.inl rfl) rfl rfl rfl) ?_
          refine opsF_val glb idleB rfl (by rfl) rfl (x := .bool true) (y_move rfl) ?_
          refine opsF_skip glb idleB rfl (by rfl) rfl ?_
          refine opsF_skip glb idleB rfl (by rfl) rfl ?_
          refine opsF_skip glb idleB rfl (by rfl) rfl ?_
          refine opsF_val glb idleB rfl (by rfl) rfl (x := .bool true) (y_pick (t := true) rfl rfl) ?_
          refine opsF_val glb idleB rfl (by rfl) rfl (x := .bool true) (y_assign rfl) ?_
          refine opsG_nil glb idleB ?_
          refine wpG_ret glb idleB ?_
          exact ⟨.inr rfl, rfl, _, resultsC_tmp (by rfl) _, fun u hu τ d => by rw [fr_ret (by decide) rfl]; exact hP u (grew_of_mine hu E8) τ d⟩
        · have E3 := E2.trans I3.ext
          refine opsF_val glb idleB rfl (by rfl) rfl (x := .tuple #[.slice p3 str.length c3, .bool true]) (y_move rfl) ?_
          refine opsF_val glb idleB rfl (by rfl) rfl (x := .slice p3 str.length c3) (y_extract rfl rfl) ?_
          refine opsF_val glb idleB rfl (by rfl) rfl (x := .bool true) (y_extract rfl rfl) ?_
          refine opsF_val glb idleB rfl (by rfl) rfl (x := .slice p3 str.length c3) (y_assign rfl) ?_
          refine opsF_val glb idleB rfl (by rfl) rfl (x := .bool true) (y_assign rfl) ?_
          refine opsG_nil glb idleB ?_
          refine wpG_seq glb idleB ?_
          refine wpG_region glb idleB ?_
          refine opsF_new glb (lensB2 _) rfl (by rfl) rfl (.cells #[] 63) (fun M => .slice (some ⟨M, 0, none⟩) 0 0) (run_bs0 (by decide)) fun g9 hg9 => ?_
          have I90 := oinv_new (E := 63) (k := 3) hg9
          have E4 := E3.trans I90.ext
          refine opsF_val glb idleB rfl (by rfl) rfl (x := .slice (some ⟨g9, 0, none⟩) 0 0) (y_assign rfl) ?_
          refine opsG_nil glb idleB ?_
          refine wpG_seq glb idleB ?_
          refine wpG_region glb idleB ?_
          refine opsF_val glb idleB rfl (by rfl) rfl (x := .slice (some ⟨g9, 0, none⟩) 0 0) (y_move rfl) ?_
          refine opsF_val glb idleB rfl (by rfl) rfl (x := .slice p l.length c) (y_move rfl) ?_
          refine opsB_appendR glb ty44 (c := c) rfl (by rfl) rfl rfl I90.own (hR.ext E4) (flat_one l) (by omega) fun v91 h91 hO hold hb => ?_
          have I91 := I90.add hO hold hb
          rw [Nat.zero_add, List.nil_append] at I91
          have E5 := E3.trans I91.ext
          clear hO hold hb
          refine opsF_val glb idleB rfl (by rfl) rfl (x := v91) (y_assign rfl) ?_
          refine opsG_nil glb idleB ?_
          refine wpG_seq glb idleB ?_
          refine wpG_region glb idleB ?_
          refine opsF_val glb idleB rfl (by rfl) rfl (x := v91) (y_move rfl) ?_
          refine opsF_val glb idleB rfl (by rfl) rfl (x := .slice q r.length e) (y_move rfl) ?_
          refine opsB_appendR glb ty44 (c := e) rfl (by rfl) rfl rfl I91.own (hR2.ext E5) (flat_one r) (by omega) fun v92 h92 hO hold hb => ?_
          have I92 := I91.add hO hold hb
          rw [show l.length + r.length = (l ++ r).length by simp, ← flat_append] at I92
          have E6 := E3.trans I92.ext
          clear hO hold hb
          obtain ⟨p9, c9, rfl, hc9⟩ := I92.own.shape2
          have hlr : (l ++ r).length = l.length + r.length := by simp
          refine opsF_val glb idleB rfl (by rfl) rfl (x := .slice p9 (l ++ r).length c9) (y_assign rfl) ?_
          refine opsG_nil glb idleB ?_
          refine wpG_seq glb idleB ?_
          refine wpG_region glb idleB ?_
          refine opsF_val glb idleB rfl (by rfl) rfl (x := .slice p l.length c) (y_move rfl) ?_
          refine opsF_call glb idleB rfl (by rfl) rfl (run_call (args := #[.slice p l.length c]) rfl Try.func34 (by rfl) rfl (by simp only [List.map_toArray, List.map_cons, List.map_nil]; rfl)) (callsB (theirs34 h92 l p c (hR.ext E6) (by omega))) ?_
          intro v10 h10 I10
          obtain ⟨p10, c10, rfl, hc10⟩ := I10.own.shape2
          have E7 := E6.trans I10.ext
          refine opsF_call glb idleB rfl (by rfl) rfl (run_call (args := #[.slice p10 l.length c10]) rfl Try.func38 (by rfl) rfl (by simp only [List.map_toArray, List.map_cons, List.map_nil]; rfl)) (callsB (refItems38 h10 l p10 c10 I10.own.rsl hc10 (by omega))) ?_
          intro r11 h11 hpost
          obtain ⟨e11, rfl⟩ := hpost.none' htl
          have E8 := E7.trans e11
          refine opsF_val glb idleB rfl (by rfl) rfl (x := .tuple #[.slice none 0 0, .bool false]) (y_move rfl) ?_
          refine opsF_val glb idleB rfl (by rfl) rfl (x := .slice none 0 0) (y_extract rfl rfl) ?_
          refine opsF_val glb idleB rfl (by rfl) rfl (x := .bool false) (y_extract rfl rfl) ?_
          refine opsF_val glb idleB rfl (by rfl) rfl (x := .slice none 0 0) (y_assign rfl) ?_
          refine opsF_val glb idleB rfl (by rfl) rfl (x := .bool false) (y_assign rfl) ?_
          refine opsG_nil glb idleB ?_
          refine wpG_seq glb idleB ?_
          refine wpG_seq glb idleB ?_
          refine wpG_region glb idleB ?_
          refine opsF_val glb idleB rfl (by rfl) rfl (x := .bool false) (y_move rfl) ?_
          refine opsF_val glb idleB rfl (by rfl) rfl (x := .bool false) (y_move rfl) ?_
          refine opsF_val glb idleB rfl (by rfl) rfl (x := .bool false) (y_neq_bool rfl rfl rfl) ?_
          refine opsG_nil glb idleB ?_
          refine wpG_cond glb idleB (t := false) (by rw [fr_eval]; rfl) ?_
          refine wpG_skip glb idleB ?_
          refine wpG_seq glb idleB ?_
          refine wpG_seq glb idleB ?_
          refine wpG_region glb idleB ?_
          refine opsF_val glb idleB rfl (by rfl) rfl (x := .bool false) (y_move rfl) ?_
          refine opsF_val glb idleB rfl (by rfl) rfl (x := .bool true) (y_not (b := false) rfl) ?_
          refine opsF_val glb idleB rfl (by rfl) rfl (x := .bool true) (y_move rfl) ?_
          refine opsF_skip glb idleB rfl (by rfl) rfl ?_
          refine opsF_skip glb idleB rfl (by rfl) rfl ?_
          refine opsF_val glb idleB rfl (by rfl) rfl (x := .bool true) (y_pick (t := true) rfl rfl) ?_
          refine opsG_nil glb idleB ?_
          refine wpG_cond glb idleB (t := true) (by rw [fr_eval]; rfl) ?_
          refine wpG_seq glb idleB ?_
          refine wpG_region glb idleB ?_
          refine opsF_val glb idleB rfl (by rfl) rfl (x := .slice none 0 0) (y_move rfl) ?_
          refine opsF_val glb idleB rfl (by rfl) rfl (x := .int .i64 (0 : Nat)) (y_len_slice Try.underlying56 rfl) ?_
          refine opsF_val glb idleB rfl (by rfl) rfl (x := .bool true) (y_eql (.inl rfl) rfl rfl rfl) ?_
          refine opsF_val glb idleB rfl (by rfl) rfl (x := .bool true) (y_move rfl) ?_
          refine opsF_skip glb idleB rfl (by rfl) rfl ?_
          refine opsF_skip glb idleB rfl (by rfl) rfl ?_
          refine opsF_skip glb idleB rfl (by rfl) rfl ?_
          refine opsF_val glb idleB rfl (by rfl) rfl (x := .bool true) (y_pick (t := true) rfl rfl) ?_
          refine opsF_val glb idleB rfl (by rfl) rfl (x := .bool true) (y_assign rfl) ?_
          refine opsG_nil glb idleB ?_
          refine wpG_ret glb idleB ?_
          exact ⟨.inr rfl, rfl, _, resultsC_tmp (by rfl) _, fun u hu τ d => by rw [fr_ret (by decide) rfl]; exact hP u (grew_of_mine hu E8) τ d⟩
      · have E2 := E1.trans I2.ext
        refine opsF_val glb idleB rfl (by rfl) rfl (x := .tuple #[.slice p2 stl.length c2, .bool true]) (y_move rfl) ?_
        refine opsF_val glb idleB rfl (by rfl) rfl (x := .slice p2 stl.length c2) (y_extract rfl rfl) ?_
        refine opsF_val glb idleB rfl (by rfl) rfl (x := .bool true) (y_extract rfl rfl) ?_
        refine opsF_val glb idleB rfl (by rfl) rfl (x := .slice p2 stl.length c2) (y_assign rfl) ?_
        refine opsF_val glb idleB rfl (by rfl) rfl (x := .bool true) (y_assign rfl) ?_
        refine opsG_nil glb idleB ?_
        refine wpG_seq glb idleB ?_
        refine wpG_region glb idleB ?_
        refine opsF_val glb idleB rfl (by rfl) rfl (x := .slice q r.length e) (y_move rfl) ?_
        refine opsF_call glb idleB rfl (by rfl) rfl (run_call (args := #[.slice q r.length e]) rfl Try.func37 (by rfl) rfl (by simp only [List.map_toArray, List.map_cons, List.map_nil]; rfl)) (callsB (items37 h2 r q e (hR2.ext E2) he (by omega))) ?_
        intro r3 h3 hpost
        rcases hpost.cases with ⟨htr, e3, rfl⟩ | ⟨str, p3, c3, vs3, htr, rfl, hc3, I3, J3, -⟩
        · have E3 := E2.trans e3
          refine opsF_val glb idleB rfl (by rfl) rfl (x := .tuple #[.slice none 0 0, .bool false]) (y_move rfl) ?_
          refine opsF_val glb idleB rfl (by rfl) rfl (x := .slice none 0 0) (y_extract rfl rfl) ?_
          refine opsF_val glb idleB rfl (by rfl) rfl (x := .bool false) (y_extract rfl rfl) ?_
          refine opsF_val glb idleB rfl (by rfl) rfl (x := .slice none 0 0) (y_assign rfl) ?_
          refine opsF_val glb idleB rfl (by rfl) rfl (x := .bool false) (y_assign rfl) ?_
          refine opsG_nil glb idleB ?_
          refine wpG_seq glb idleB ?_
          refine wpG_region glb idleB ?_
          refine opsF_new glb (lensB2 _) rfl (by rfl) rfl (.cells #[] 63) (fun M => .slice (some ⟨M, 0, none⟩) 0 0) (run_bs0 (by decide)) fun g9 hg9 => ?_
          have I90 := oinv_new (E := 63) (k := 3) hg9
          have E4 := E3.trans I90.ext
          refine opsF_val glb idleB rfl (by rfl) rfl (x := .slice (some ⟨g9, 0, none⟩) 0 0) (y_assign rfl) ?_
          refine opsG_nil glb idleB ?_
          refine wpG_seq glb idleB ?_
          refine wpG_region glb idleB ?_
          refine opsF_val glb idleB rfl (by rfl) rfl (x := .slice (some ⟨g9, 0, none⟩) 0 0) (y_move rfl) ?_
          refine opsF_val glb idleB rfl (by rfl) rfl (x := .slice p l.length c) (y_move rfl) ?_
          refine opsB_appendR glb ty44 (c := c) rfl (by rfl) rfl rfl I90.own (hR.ext E4) (flat_one l) (by omega) fun v91 h91 hO hold hb => ?_
          have I91 := I90.add hO hold hb
          rw [Nat.zero_add, List.nil_append] at I91
          have E5 := E3.trans I91.ext
          clear hO hold hb
          refine opsF_val glb idleB rfl (by rfl) rfl (x := v91) (y_assign rfl) ?_
          refine opsG_nil glb idleB ?_
          refine wpG_seq glb idleB ?_
          refine wpG_region glb idleB ?_
          refine opsF_val glb idleB rfl (by rfl) rfl (x := v91) (y_move rfl) ?_
          refine opsF_val glb idleB rfl (by rfl) rfl (x := .slice q r.length e) (y_move rfl) ?_
          refine opsB_appendR glb ty44 (c := e) rfl (by rfl) rfl rfl I91.own (hR2.ext E5) (flat_one r) (by omega) fun v92 h92 hO hold hb => ?_
          have I92 := I91.add hO hold hb
          rw [show l.length + r.length = (l ++ r).length by simp, ← flat_append] at I92
          have E6 := E3.trans I92.ext
          clear hO hold hb
          obtain ⟨p9, c9, rfl, hc9⟩ := I92.own.shape2
          have hlr : (l ++ r).length = l.length + r.length := by simp
          refine opsF_val glb idleB rfl (by rfl) rfl (x := .slice p9 (l ++ r).length c9) (y_assign rfl) ?_
          refine opsG_nil glb idleB ?_
          refine wpG_seq glb idleB ?_
          refine wpG_region glb idleB ?_
          refine opsF_val glb idleB rfl (by rfl) rfl (x := .slice p l.length c) (y_move rfl) ?_
          refine opsF_call glb idleB rfl (by rfl) rfl (run_call (args := #[.slice p l.length c]) rfl Try.func34 (by rfl) rfl (by simp only [List.map_toArray, List.map_cons, List.map_nil]; rfl)) (callsB (theirs34 h92 l p c (hR.ext E6) (by omega))) ?_
          intro v10 h10 I10
          obtain ⟨p10, c10, rfl, hc10⟩ := I10.own.shape2
          have E7 := E6.trans I10.ext
          refine opsF_call glb idleB rfl (by rfl) rfl (run_call (args := #[.slice p10 l.length c10]) rfl Try.func38 (by rfl) rfl (by simp only [List.map_toArray, List.map_cons, List.map_nil]; rfl)) (callsB (refItems38 h10 l p10 c10 I10.own.rsl hc10 (by omega))) ?_
          intro r11 h11 hpost
          obtain ⟨p11, c11, vs11, rfl, hc11, I11, J11, -⟩ := hpost.some' htl
          have E8 := E7.trans I11.ext
          refine opsF_val glb idleB rfl (by rfl) rfl (x := .tuple #[.slice p11 stl.length c11, .bool true]) (y_move rfl) ?_
          refine opsF_val glb idleB rfl (by rfl) rfl (x := .slice p11 stl.length c11) (y_extract rfl rfl) ?_
          refine opsF_val glb idleB rfl (by rfl) rfl (x := .bool true) (y_extract rfl rfl) ?_
          refine opsF_val glb idleB rfl (by rfl) rfl (x := .slice p11 stl.length c11) (y_assign rfl) ?_
          refine opsF_val glb idleB rfl (by rfl) rfl (x := .bool true) (y_assign rfl) ?_
          refine opsG_nil glb idleB ?_
          refine wpG_seq glb idleB ?_
          refine wpG_seq glb idleB ?_
          refine wpG_region glb idleB ?_
          refine opsF_val glb idleB rfl (by rfl) rfl (x := .bool true) (y_move rfl) ?_
          refine opsF_val glb idleB rfl (by rfl) rfl (x := .bool true) (y_move rfl) ?_
          refine opsF_val glb idleB rfl (by rfl) rfl (x := .bool false) (y_neq_bool rfl rfl rfl) ?_
          refine opsG_nil glb idleB ?_
          refine wpG_cond glb idleB (t := false) (by rw [fr_eval]; rfl) ?_
          refine wpG_skip glb idleB ?_
          refine wpG_seq glb idleB ?_
          refine wpG_seq glb idleB ?_
          refine wpG_region glb idleB ?_
          refine opsF_val glb idleB rfl (by rfl) rfl (x := .bool true) (y_move rfl) ?_
          refine opsF_val glb idleB rfl (by rfl) rfl (x := .bool false) (y_not (b := true) rfl) ?_
          refine opsF_val glb idleB rfl (by rfl) rfl (x := .bool false) (y_move rfl) ?_
          refine opsF_val glb idleB rfl (by rfl) rfl (x := .bool false) (y_move rfl) ?_
          refine opsF_val glb idleB rfl (by rfl) rfl (x := .bool true) (y_not (b := false) rfl) ?_
          refine opsF_val glb idleB rfl (by rfl) rfl (x := .bool true) (y_pick (t := false) rfl rfl) ?_
          refine opsG_nil glb idleB ?_
          refine wpG_cond glb idleB (t := true) (by rw [fr_eval]; rfl) ?_
          refine wpG_seq glb idleB ?_
          refine wpG_region glb idleB ?_
          refine opsF_val glb idleB rfl (by rfl) rfl (x := .slice p2 stl.length c2) (y_move rfl) ?_
          refine opsF_val glb idleB rfl (by rfl) rfl (x := .int .i64 (stl.length : Nat)) (y_len_slice Try.underlying56 rfl) ?_
          refine opsF_val glb idleB rfl (by rfl) rfl (x := .bool (((stl.length : Nat) : Int) == 0)) (y_eql (.inl rfl) rfl rfl rfl) ?_
          rcases Nat.eq_zero_or_pos stl.length with hz | hz
          · rw [show (((stl.length : Nat) : Int) == 0) = true from beq_iff_eq.2 (by omega)]
            refine opsF_val glb idleB rfl (by rfl) rfl (x := .bool true) (y_move rfl) ?_
            refine opsF_skip glb idleB rfl (by rfl) rfl ?_
            refine opsF_skip glb idleB rfl (by rfl) rfl ?_
            refine opsF_skip glb idleB rfl (by rfl) rfl ?_
            refine opsF_val glb idleB rfl (by rfl) rfl (x := .bool true) (y_pick (t := true) rfl rfl) ?_
            refine opsF_val glb idleB rfl (by rfl) rfl (x := .bool true) (y_assign rfl) ?_
            refine opsG_nil glb idleB ?_
            refine wpG_ret glb idleB ?_
            exact ⟨.inr rfl, rfl, _, resultsC_tmp (by rfl) _, fun u hu τ d => by rw [fr_ret (by decide) rfl]; exact hP u (grew_of_mine hu E8) τ d⟩
          · rw [show (((stl.length : Nat) : Int) == 0) = false from beq_eq_false_iff_ne.2 (by omega)]
            refine opsF_val glb idleB rfl (by rfl) rfl (x := .bool false) (y_move rfl) ?_
            refine opsF_val glb idleB rfl (by rfl) rfl (x := .slice none 0 0) (y_move rfl) ?_
            refine opsF_val glb idleB rfl (by rfl) rfl (x := .int .i64 (0 : Nat)) (y_len_slice Try.underlying56 rfl) ?_
            refine opsF_val glb idleB rfl (by rfl) rfl (x := .bool true) (y_eql (.inl rfl) rfl rfl rfl) ?_
            refine opsF_val glb idleB rfl (by rfl) rfl (x := .bool true) (y_pick (t := false) rfl rfl) ?_
            refine opsF_val glb idleB rfl (by rfl) rfl (x := .bool true) (y_assign rfl) ?_
            refine opsG_nil glb idleB ?_
            refine wpG_ret glb idleB ?_
            exact ⟨.inr rfl, rfl, _, resultsC_tmp (by rfl) _, fun u hu τ d => by rw [fr_ret (by decide) rfl]; exact hP u (grew_of_mine hu E8) τ d⟩
        · have E3 := E2.trans I3.ext
          refine opsF_val glb idleB rfl (by rfl) rfl (x := .tuple #[.slice p3 str.length c3, .bool true]) (y_move rfl) ?_
          refine opsF_val glb idleB rfl (by rfl) rfl (x := .slice p3 str.length c3) (y_extract rfl rfl) ?_
          refine opsF_val glb idleB rfl (by rfl) rfl (x := .bool true) (y_extract rfl rfl) ?_
          refine opsF_val glb idleB rfl (by rfl) rfl (x := .slice p3 str.length c3) (y_assign rfl) ?_
          refine opsF_val glb idleB rfl (by rfl) rfl (x := .bool true) (y_assign rfl) ?_
          refine opsG_nil glb idleB ?_
          refine wpG_seq glb idleB ?_
          refine wpG_region glb idleB ?_
          refine opsF_new glb (lensB2 _) rfl (by rfl) rfl (.cells #[] 63) (fun M => .slice (some ⟨M, 0, none⟩) 0 0) (run_bs0 (by decide)) fun g9 hg9 => ?_
          have I90 := oinv_new (E := 63) (k := 3) hg9
          have E4 := E3.trans I90.ext
          refine opsF_val glb idleB rfl (by rfl) rfl (x := .slice (some ⟨g9, 0, none⟩) 0 0) (y_assign rfl) ?_
          refine opsG_nil glb idleB ?_
          refine wpG_seq glb idleB ?_
          refine wpG_region glb idleB ?_
          refine opsF_val glb idleB rfl (by rfl) rfl (x := .slice (some ⟨g9, 0, none⟩) 0 0) (y_move rfl) ?_
          refine opsF_val glb idleB rfl (by rfl) rfl (x := .slice p l.length c) (y_move rfl) ?_
          refine opsB_appendR glb ty44 (c := c) rfl (by rfl) rfl rfl I90.own (hR.ext E4) (flat_one l) (by omega) fun v91 h91 hO hold hb => ?_
          have I91 := I90.add hO hold hb
          rw [Nat.zero_add, List.nil_append] at I91
          have E5 := E3.trans I91.ext
          clear hO hold hb
          refine opsF_val glb idleB rfl (by rfl) rfl (x := v91) (y_assign rfl) ?_
          refine opsG_nil glb idleB ?_
          refine wpG_seq glb idleB ?_
          refine wpG_region glb idleB ?_
          refine opsF_val glb idleB rfl (by rfl) rfl (x := v91) (y_move rfl) ?_
          refine opsF_val glb idleB rfl (by rfl) rfl (x := .slice q r.length e) (y_move rfl) ?_
          refine opsB_appendR glb ty44 (c := e) rfl (by rfl) rfl rfl I91.own (hR2.ext E5) (flat_one r) (by omega) fun v92 h92 hO hold hb => ?_
          have I92 := I91.add hO hold hb
          rw [show l.length + r.length = (l ++ r).length by simp, ← flat_append] at I92
          have E6 := E3.trans I92.ext
          clear hO hold hb
          obtain ⟨p9, c9, rfl, hc9⟩ := I92.own.shape2
          have hlr : (l ++ r).length = l.length + r.length := by simp
          refine opsF_val glb idleB rfl (by rfl) rfl (x := .slice p9 (l ++ r).length c9) (y_assign rfl) ?_
          refine opsG_nil glb idleB ?_
          refine wpG_seq glb idleB ?_
          refine wpG_region glb idleB ?_
          refine opsF_val glb idleB rfl (by rfl) rfl (x := .slice p l.length c) (y_move rfl) ?_
          refine opsF_call glb idleB rfl (by rfl) rfl (run_call (args := #[.slice p l.length c]) rfl Try.func34 (by rfl) rfl (by simp only [List.map_toArray, List.map_cons, List.map_nil]; rfl)) (callsB (theirs34 h92 l p c (hR.ext E6) (by omega))) ?_
          intro v10 h10 I10
          obtain ⟨p10, c10, rfl, hc10⟩ := I10.own.shape2
          have E7 := E6.trans I10.ext
          refine opsF_call glb idleB rfl (by rfl) rfl (run_call (args := #[.slice p10 l.length c10]) rfl Try.func38 (by rfl) rfl (by simp only [List.map_toArray, List.map_cons, List.map_nil]; rfl)) (callsB (refItems38 h10 l p10 c10 I10.own.rsl hc10 (by omega))) ?_
          intro r11 h11 hpost
          obtain ⟨p11, c11, vs11, rfl, hc11, I11, J11, -⟩ := hpost.some' htl
          have E8 := E7.trans I11.ext
          refine opsF_val glb idleB rfl (by rfl) rfl (x := .tuple #[.slice p11 stl.length c11, .bool true]) (y_move rfl) ?_
          refine opsF_val glb idleB rfl (by rfl) rfl (x := .slice p11 stl.length c11) (y_extract rfl rfl) ?_
          refine opsF_val glb idleB rfl (by rfl) rfl (x := .bool true) (y_extract rfl rfl) ?_
          refine opsF_val glb idleB rfl (by rfl) rfl (x := .slice p11 stl.length c11) (y_assign rfl) ?_
          refine opsF_val glb idleB rfl (by rfl) rfl (x := .bool true) (y_assign rfl) ?_
          refine opsG_nil glb idleB ?_
          refine wpG_seq glb idleB ?_
          refine wpG_seq glb idleB ?_
          refine wpG_region glb idleB ?_
          refine opsF_val glb idleB rfl (by rfl) rfl (x := .bool true) (y_move rfl) ?_
          refine opsF_val glb idleB rfl (by rfl) rfl (x := .bool true) (y_move rfl) ?_
          refine opsF_val glb idleB rfl (by rfl) rfl (x := .bool false) (y_neq_bool rfl rfl rfl) ?_
          refine opsG_nil glb idleB ?_
          refine wpG_cond glb idleB (t := false) (by rw [fr_eval]; rfl) ?_
          refine wpG_skip glb idleB ?_
          refine wpG_seq glb idleB ?_
          refine wpG_seq glb idleB ?_
          refine wpG_region glb idleB ?_
          refine opsF_val glb idleB rfl (by rfl) rfl (x := .bool true) (y_move rfl) ?_
          refine opsF_val glb idleB rfl (by rfl) rfl (x := .bool false) (y_not (b := true) rfl) ?_
          refine opsF_val glb idleB rfl (by rfl) rfl (x := .bool false) (y_move rfl) ?_
          refine opsF_val glb idleB rfl (by rfl) rfl (x := .bool true) (y_move rfl) ?_
          refine opsF_val glb idleB rfl (by rfl) rfl (x := .bool false) (y_not (b := true) rfl) ?_
          refine opsF_val glb idleB rfl (by rfl) rfl (x := .bool false) (y_pick (t := false) rfl rfl) ?_
          refine opsG_nil glb idleB ?_
          refine wpG_cond glb idleB (t := false) (by rw [fr_eval]; rfl) ?_
          refine wpG_skip glb idleB ?_
          refine wpG_seq glb idleB ?_
          refine wpG_region glb idleB ?_
          refine opsF_val glb idleB rfl (by rfl) rfl (x := .slice p9 (l ++ r).length c9) (y_move rfl) ?_
          obtain ⟨u, hu⟩ : ∃ u, stl ++ str = u := ⟨_, rfl⟩
          have htu : tgo (l ++ r) [] = some u := by rw [← hu]; exact tgo_append htl htr
          have hul : u.length = stl.length + str.length := by rw [← hu, List.length_append]
          obtain ⟨hth, hfl⟩ := tgo_some (l ++ r) [] u tgo_none htu
          have hule := things_le hth
          rw [hfl, List.flatten_nil, List.nil_append] at hule
          refine opsF_call glb idleB rfl (by rfl) rfl (run_call (args := #[.slice p9 (l ++ r).length c9]) rfl Try.func37 (by rfl) rfl (by simp only [List.map_toArray, List.map_cons, List.map_nil]; rfl)) (callsB (items37 h11 (l ++ r) p9 c9 (I92.own.rsl.ext ((I10.ext).trans I11.ext)) hc9 (by omega))) ?_
          intro r12 h12 hpost
          obtain ⟨p12, c12, vs12, rfl, hc12, I12, J12, F12⟩ := hpost.some' htu
          have E9 := E8.trans I12.ext
          refine opsF_val glb idleB rfl (by rfl) rfl (x := .tuple #[.slice p12 u.length c12, .bool true]) (y_move rfl) ?_
          refine opsF_val glb idleB rfl (by rfl) rfl (x := .slice p12 u.length c12) (y_extract rfl rfl) ?_
          refine opsF_val glb idleB rfl (by rfl) rfl (x := .bool true) (y_extract rfl rfl) ?_
          refine opsF_val glb idleB rfl (by rfl) rfl (x := .slice p12 u.length c12) (y_assign rfl) ?_
          refine opsF_val glb idleB rfl (by rfl) rfl (x := .bool true) (y_assign rfl) ?_
          refine opsG_nil glb idleB ?_
          refine wpG_seq glb idleB ?_
          refine wpG_seq glb idleB ?_
          refine wpG_region glb idleB ?_
          refine opsF_val glb idleB rfl (by rfl) rfl (x := .bool true) (y_move rfl) ?_
          refine opsF_val glb idleB rfl (by rfl) rfl (x := .bool false) (y_not (b := true) rfl) ?_
          refine opsF_val glb idleB rfl (by rfl) rfl (x := .bool false) (y_move rfl) ?_
          refine opsF_val glb idleB rfl (by rfl) rfl (x := .slice p12 u.length c12) (y_move rfl) ?_
          refine opsF_val glb idleB rfl (by rfl) rfl (x := .int .i64 (u.length : Nat)) (y_len_slice Try.underlying56 rfl) ?_
          refine opsF_val glb idleB rfl (by rfl) rfl (x := .slice p2 stl.length c2) (y_move rfl) ?_
          refine opsF_val glb idleB rfl (by rfl) rfl (x := .int .i64 (stl.length : Nat)) (y_len_slice Try.underlying56 rfl) ?_
          refine opsF_val glb idleB rfl (by rfl) rfl (x := .slice p3 str.length c3) (y_move rfl) ?_
          refine opsF_val glb idleB rfl (by rfl) rfl (x := .int .i64 (str.length : Nat)) (y_len_slice Try.underlying56 rfl) ?_
          refine opsF_val glb idleB rfl (by rfl) rfl (x := .int .i64 (u.length : Nat)) (y_add rfl rfl (by rw [IntKind.wrap_i64]; omega)) ?_
          refine opsF_val glb idleB rfl (by rfl) rfl (x := .bool false) (y_neq (.inl rfl) rfl rfl (by simp)) ?_
          refine opsF_val glb idleB rfl (by rfl) rfl (x := .bool false) (y_pick (t := false) rfl rfl) ?_
          refine opsG_nil glb idleB ?_
          refine wpG_cond glb idleB (t := false) (by rw [fr_eval]; rfl) ?_
          refine wpG_skip glb idleB ?_
          refine wpG_seq glb idleB ?_
          refine wpG_region glb idleB ?_
          refine opsF_val glb idleB rfl (by rfl) rfl (x := .slice p9 (l ++ r).length c9) (y_move rfl) ?_
          refine opsF_val glb idleB rfl (by rfl) rfl (x := .slice p12 u.length c12) (y_move rfl) ?_
          refine opsF_val glb idleB rfl (by rfl) rfl (x := .int .i64 (u.length : Nat)) (y_len_slice Try.underlying56 rfl) ?_
          refine opsF_val glb idleB rfl (by rfl) rfl (x := .agg #[.int .i64 (u.length : Nat), .int .i64 0, .string { data := #[] }]) (y_b3_0 (by decide) rfl) ?_
          refine opsF_new glb (lensB2 _) rfl (by rfl) rfl (.cells #[.int .i64 (u.length : Nat), .int .i64 0, .string { data := #[] }] 63) (fun M => .slice (some ⟨M, 0, none⟩) 1 1) (run_bs3 (by decide) rfl) fun M hM => ?_
          have I93 := (((I92.grow I10.ext).grow I11.ext).grow I12.ext).grow (ext_put (o := .cells #[.int .i64 (u.length : Nat), .int .i64 0, .string { data := #[] }] 63) hM)
          have K12 : OInv 44 1 h11 (put h12 M (.cells #[.int .i64 (u.length : Nat), .int .i64 0, .string { data := #[] }] 63)) (.slice p12 u.length c12) u.length vs12 := I12.grow (ext_put hM)
          have hSM := slAt_new h12 M #[.int .i64 (u.length : Nat), .int .i64 0, .string { data := #[] }] 63
          have L12 := J12.ext (ext_put (o := .cells #[.int .i64 (u.length : Nat), .int .i64 0, .string { data := #[] }] 63) hM)
          refine opsB_append glb ty44 (c := 1) rfl (by rfl) rfl rfl rfl rfl I93.own hSM rfl (by decide) (by simp [Value.oneCell']) (by omega) fun v94 h94 hO hold hb => ?_
          have I94 := I93.add hO hold hb
          obtain ⟨x, hx⟩ : ∃ x : T3, x = ⟨(u.length : Nat), 0, { data := #[] }⟩ := ⟨_, rfl⟩
          have hcx : x.cells = [.int .i64 (u.length : Nat), .int .i64 0, .string { data := #[] }] := by rw [hx]; rfl
          obtain ⟨w, hw⟩ : ∃ w, w = (l ++ r) ++ [x] := ⟨_, rfl⟩
          have hwl : w.length = (l ++ r).length + 1 := by rw [hw, List.length_append]; rfl
          have hwf : flat w = flat (l ++ r) ++ x.cells := by rw [hw, flat_append (l ++ r)]; simp [flat]
          have htw : tgo w [] = some [w] := by rw [hw]; exact tgo_list htu x (by rw [hx]) (by rw [hx])
          have hpw : partsOf w = some u := by rw [hw] at htw ⊢; rw [parts_list htw (by rw [hx]), htu]
          have I95 : OInv 63 3 h3 h94 v94 w.length (flat w) := by rw [hwl, hwf, hcx]; exact I94
          obtain ⟨p9', c9', rfl, hc9'⟩ := I95.own.shape2
          have E10 := E3.trans I95.ext
          have M12 : OwnK h94 44 1 (.slice p12 u.length c12) u.length vs12 := K12.own.apart I93.own (by decide) hold
          have L94 : RowsAt h94 vs12 u := L12.hold (fun y hy g hg e => ((I92.grow I10.ext).grow I11.ext).own.owned e.symm (F12 rfl y hy g hg)) hold
          refine opsF_val glb idleB rfl (by rfl) rfl (x := .slice p9' w.length c9') (y_assign rfl) ?_
          refine opsG_nil glb idleB ?_
          refine wpG_seq glb idleB ?_
          refine wpG_region glb idleB ?_
          refine opsF_val glb idleB rfl (by rfl) rfl (x := .slice p9' w.length c9') (y_move rfl) ?_
          refine opsF_call glb idleB rfl (by rfl) rfl (run_call (args := #[.slice p9' w.length c9']) rfl Try.func39 (by rfl) rfl (by simp only [List.map_toArray, List.map_cons, List.map_nil]; rfl)) (callsB (parts39 h94 w p9' c9' I95.own.rsl hc9' (by omega))) ?_
          intro r14 h14 hpost
          obtain ⟨p14, c14, vs14, rfl, hc14, I14, J14, -⟩ := hpost.some' hpw
          have E11 := E10.trans I14.ext
          refine opsF_val glb idleB rfl (by rfl) rfl (x := .tuple #[.slice p14 u.length c14, .bool true]) (y_move rfl) ?_
          refine opsF_val glb idleB rfl (by rfl) rfl (x := .slice p14 u.length c14) (y_extract rfl rfl) ?_
          refine opsF_val glb idleB rfl (by rfl) rfl (x := .bool true) (y_extract rfl rfl) ?_
          refine opsF_val glb idleB rfl (by rfl) rfl (x := .slice p14 u.length c14) (y_assign rfl) ?_
          refine opsF_val glb idleB rfl (by rfl) rfl (x := .bool true) (y_assign rfl) ?_
          refine opsG_nil glb idleB ?_
          refine wpG_seq glb idleB ?_
          refine wpG_region glb idleB ?_
          refine opsF_val glb idleB rfl (by rfl) rfl (x := .slice p9' w.length c9') (y_move rfl) ?_
          refine opsF_call glb idleB rfl (by rfl) rfl (run_call (args := #[.slice p9' w.length c9']) rfl Try.func37 (by rfl) rfl (by simp only [List.map_toArray, List.map_cons, List.map_nil]; rfl)) (callsB (items37 h14 w p9' c9' (I95.own.rsl.ext I14.ext) hc9' (by omega))) ?_
          intro r16 h16 hpost
          obtain ⟨p16, c16, vs16, rfl, hc16, I16, J16, -⟩ := hpost.some' htw
          obtain ⟨g16, rfl, hS16⟩ := I16.own.pos (by simp)
          obtain ⟨p17, c17, hv17, hc17, hR17⟩ := RowsAt.get (dn := []) J16
          have E12 := E11.trans I16.ext
          refine opsF_val glb idleB rfl (by rfl) rfl (x := .tuple #[.slice (some ⟨g16, 0, none⟩) [w].length c16, .bool true]) (y_move rfl) ?_
          refine opsF_val glb idleB rfl (by rfl) rfl (x := .slice (some ⟨g16, 0, none⟩) [w].length c16) (y_extract rfl rfl) ?_
          refine opsF_val glb idleB rfl (by rfl) rfl (x := .bool true) (y_extract rfl rfl) ?_
          refine opsF_val glb idleB rfl (by rfl) rfl (x := .slice (some ⟨g16, 0, none⟩) [w].length c16) (y_assign rfl) ?_
          refine opsF_val glb idleB rfl (by rfl) rfl (x := .bool true) (y_assign rfl) ?_
          refine opsG_nil glb idleB ?_
          refine wpG_seq glb idleB ?_
          refine wpG_seq glb idleB ?_
          refine wpG_region glb idleB ?_
          refine opsF_val glb idleB rfl (by rfl) rfl (x := .bool true) (y_move rfl) ?_
          refine opsF_val glb idleB rfl (by rfl) rfl (x := .bool false) (y_not (b := true) rfl) ?_
          refine opsF_val glb idleB rfl (by rfl) rfl (x := .bool false) (y_move rfl) ?_
          refine opsF_val glb idleB rfl (by rfl) rfl (x := .bool true) (y_move rfl) ?_
          refine opsF_val glb idleB rfl (by rfl) rfl (x := .bool false) (y_not (b := true) rfl) ?_
          refine opsF_val glb idleB rfl (by rfl) rfl (x := .bool false) (y_pick (t := false) rfl rfl) ?_
          refine opsF_val glb idleB rfl (by rfl) rfl (x := .bool false) (y_move rfl) ?_
          refine opsF_val glb idleB rfl (by rfl) rfl (x := .slice p14 u.length c14) (y_move rfl) ?_
          refine opsF_val glb idleB rfl (by rfl) rfl (x := .int .i64 (u.length : Nat)) (y_len_slice Try.underlying56 rfl) ?_
          refine opsF_val glb idleB rfl (by rfl) rfl (x := .slice p12 u.length c12) (y_move rfl) ?_
          refine opsF_val glb idleB rfl (by rfl) rfl (x := .int .i64 (u.length : Nat)) (y_len_slice Try.underlying56 rfl) ?_
          refine opsF_val glb idleB rfl (by rfl) rfl (x := .bool false) (y_neq (.inl rfl) rfl rfl (by simp)) ?_
          refine opsF_val glb idleB rfl (by rfl) rfl (x := .bool false) (y_pick (t := false) rfl rfl) ?_
          refine opsF_val glb idleB rfl (by rfl) rfl (x := .bool false) (y_move rfl) ?_
          refine opsF_val glb idleB rfl (by rfl) rfl (x := .slice (some ⟨g16, 0, none⟩) [w].length c16) (y_move rfl) ?_
          refine opsF_val glb idleB rfl (by rfl) rfl (x := .int .i64 ([w].length : Nat)) (y_len_slice Try.underlying56 rfl) ?_
          refine opsF_val glb idleB rfl (by rfl) rfl (x := .bool false) (y_neq (.inl rfl) rfl rfl (rfl)) ?_
          refine opsF_val glb idleB rfl (by rfl) rfl (x := .bool false) (y_pick (t := false) rfl rfl) ?_
          refine opsF_val glb idleB rfl (by rfl) rfl (x := .bool false) (y_move rfl) ?_
          refine opsF_val glb idleB rfl (by rfl) rfl (x := .slice (some ⟨g16, 0, none⟩) [w].length c16) (y_move rfl) ?_
          refine opsF_val glb idleB rfl (by rfl) rfl (x := .pointer (some ⟨g16, 0 + 0 * 1, none⟩)) (y_ix (m := 0) ty56 rfl rfl (by simp)) ?_
          refine opsF_rd glb (lensB2 _) rfl (by rfl) rfl (x := .slice p17 w.length c17) (rd_cellq (by decide) hS16 hv17 (by simp) rfl) ?_
          refine opsF_val glb idleB rfl (by rfl) rfl (x := .int .i64 (w.length : Nat)) (y_len_slice Try.underlying44 rfl) ?_
          refine opsF_val glb idleB rfl (by rfl) rfl (x := .slice p9' w.length c9') (y_move rfl) ?_
          refine opsF_val glb idleB rfl (by rfl) rfl (x := .int .i64 (w.length : Nat)) (y_len_slice Try.underlying44 rfl) ?_
          refine opsF_val glb idleB rfl (by rfl) rfl (x := .bool false) (y_neq (.inl rfl) rfl rfl (by simp)) ?_
          refine opsF_val glb idleB rfl (by rfl) rfl (x := .bool false) (y_pick (t := false) rfl rfl) ?_
          refine opsG_nil glb idleB ?_
          refine wpG_cond glb idleB (t := false) (by rw [fr_eval]; rfl) ?_
          refine wpG_skip glb idleB ?_
          refine wpG_seq glb idleB ?_
          refine wpG_seq glb idleB ?_
          refine wpG_region glb idleB ?_
          refine opsF_val glb idleB rfl (by rfl) rfl (x := .int .i64 0) (y_assign rfl) ?_
          refine opsG_nil glb idleB ?_
          refine wpG_block glb idleB ?_
          have M14 : OwnK h16 44 1 (.slice p14 u.length c14) u.length vs14 := (I14.grow I16.ext).own
          have N12 := M12.ext fun g _ o ho => (I14.ext.trans I16.ext) g o ho
          have N14 := J14.ext I16.ext
          have P12 := L94.ext (I14.ext.trans I16.ext)
          refine wpG_loopN glb idleB (fun m a v => ∃ (dn rest : List (List T3)) (τ : Nat → Value) (h' : PH), m = rest.length ∧ u = dn ++ rest ∧ a = fr 148 τ [(4, .bool false), (12, .slice p12 u.length c12), (14, .slice p14 u.length c14), (18, .int .i64 (dn.length : Nat))] [] ∧ h' = v ∧ Ext h16 h') u.length ⟨[], u, _, _, rfl, rfl, fr_says _ ⟨rfl, rfl, rfl, rfl, trivial⟩, rfl, Ext.refl _⟩ ?_
          rintro m _ _ ⟨dn, rest, τ, h', rfl, hst, rfl, rfl, eL⟩
          have hdn : dn.length + rest.length = u.length := by rw [hst, List.length_append]
          have E13 := E12.trans eL
          rcases rest with _ | ⟨t, ts⟩
          · refine wpG_seq glb idleB ?_
            refine wpG_seq glb idleB ?_
            refine wpG_region glb idleB ?_
            refine opsF_val glb idleB rfl (by rfl) rfl (x := .int .i64 (dn.length : Nat)) (y_move rfl) ?_
            refine opsF_val glb idleB rfl (by rfl) rfl (x := .slice p12 u.length c12) (y_move rfl) ?_
            refine opsF_val glb idleB rfl (by rfl) rfl (x := .int .i64 (u.length : Nat)) (y_len_slice Try.underlying56 rfl) ?_
            refine opsF_val glb idleB rfl (by rfl) rfl (x := .bool false) (y_lss rfl rfl (by simp at hdn ⊢; omega)) ?_
            refine opsG_nil glb idleB ?_
            refine wpG_cond glb idleB (t := false) (by rw [fr_eval]; rfl) ?_
            refine wpG_exit glb idleB ?_
            refine wpG_seq glb idleB ?_
            refine wpG_region glb idleB ?_
            refine opsF_val glb idleB rfl (by rfl) rfl (x := .bool true) (y_assign rfl) ?_
            refine opsG_nil glb idleB ?_
            refine wpG_ret glb idleB ?_
            exact ⟨.inr rfl, rfl, _, resultsC_tmp (by rfl) _, fun u hu τ d => by rw [fr_ret (by decide) rfl]; exact hP u (grew_of_mine hu E13) τ d⟩
          · simp only [List.length_cons] at hdn
            have htl2 := thing_len (t := t) (st := u) (by rw [hst]; simp)
            rw [hfl, List.flatten_nil, List.nil_append] at htl2
            obtain ⟨g12, rfl, hS12⟩ := N12.pos (by omega)
            obtain ⟨g14, rfl, hS14⟩ := M14.pos (by omega)
            rw [hst] at N14 P12
            obtain ⟨pa, ca, hva, hca, hRa⟩ := N14.get
            obtain ⟨pb, cb, hvb, hcb, hRb⟩ := P12.get
            have T12 := hS12.mono eL
            have T14 := hS14.mono eL
            refine wpG_seq glb idleB ?_
            refine wpG_seq glb idleB ?_
            refine wpG_region glb idleB ?_
            refine opsF_val glb idleB rfl (by rfl) rfl (x := .int .i64 (dn.length : Nat)) (y_move rfl) ?_
            refine opsF_val glb idleB rfl (by rfl) rfl (x := .slice (some ⟨g12, 0, none⟩) u.length c12) (y_move rfl) ?_
            refine opsF_val glb idleB rfl (by rfl) rfl (x := .int .i64 (u.length : Nat)) (y_len_slice Try.underlying56 rfl) ?_
            refine opsF_val glb idleB rfl (by rfl) rfl (x := .bool true) (y_lss rfl rfl (by simp at hdn ⊢; omega)) ?_
            refine opsG_nil glb idleB ?_
            refine wpG_cond glb idleB (t := true) (by rw [fr_eval]; rfl) ?_
            refine wpG_skip glb idleB ?_
            refine wpG_seq glb idleB ?_
            refine wpG_block glb idleB ?_
            refine wpG_seq glb idleB ?_
            refine wpG_region_held (S := fun z => SlAt z g14 0 vs14 ∧ SlAt z g12 0 vs12) glb idleB drawsB (by kernel_rfl) ?_
            show AnyV _ _ _ _ .any _ _ _ 12 (Array.replicate 12 false) _ _
            refine anyF_rdS (by exact ⟨T14, T12⟩) (i := 0) rfl (by first | kernel_rfl | decide +kernel) (by first | kernel_rfl | decide +kernel) (by first | kernel_rfl | decide +kernel) (by rfl) rfl (x := .slice (some ⟨g14, 0, none⟩) u.length c14) (fun z hu => ⟨z, _, lensB2 z, Ylds.rds (y_move rfl)⟩) ?_
            refine anyF_rdS (by exact ⟨T14, T12⟩) (i := 1) rfl (by first | kernel_rfl | decide +kernel) (by first | kernel_rfl | decide +kernel) (by first | kernel_rfl | decide +kernel) (by rfl) rfl (x := .int .i64 (dn.length : Nat)) (fun z hu => ⟨z, _, lensB2 z, Ylds.rds (y_move rfl)⟩) ?_
            refine anyF_rdS (by exact ⟨T14, T12⟩) (i := 2) rfl (by first | kernel_rfl | decide +kernel) (by first | kernel_rfl | decide +kernel) (by first | kernel_rfl | decide +kernel) (by rfl) rfl (x := .pointer (some ⟨g14, 0 + dn.length * 1, none⟩)) (fun z hu => ⟨z, _, lensB2 z, Ylds.rds (y_ix ty56 rfl rfl (by omega))⟩) ?_
            refine anyF_rdS (by exact ⟨T14, T12⟩) (i := 3) rfl (by first | kernel_rfl | decide +kernel) (by first | kernel_rfl | decide +kernel) (by first | kernel_rfl | decide +kernel) (by rfl) rfl (x := .slice pa t.length ca) (fun z hu => ⟨z, _, lensB2 z, rd_cellq (by decide) hu.1 hva (by omega) rfl⟩) ?_
            refine anyF_rdS (by exact ⟨T14, T12⟩) (i := 5) rfl (by first | kernel_rfl | decide +kernel) (by first | kernel_rfl | decide +kernel) (by first | kernel_rfl | decide +kernel) (by rfl) rfl (x := .slice (some ⟨g12, 0, none⟩) u.length c12) (fun z hu => ⟨z, _, lensB2 z, Ylds.rds (y_move rfl)⟩) ?_
            refine anyF_rdS (by exact ⟨T14, T12⟩) (i := 6) rfl (by first | kernel_rfl | decide +kernel) (by first | kernel_rfl | decide +kernel) (by first | kernel_rfl | decide +kernel) (by rfl) rfl (x := .int .i64 (dn.length : Nat)) (fun z hu => ⟨z, _, lensB2 z, Ylds.rds (y_move rfl)⟩) ?_
            refine anyF_rdS (by exact ⟨T14, T12⟩) (i := 7) rfl (by first | kernel_rfl | decide +kernel) (by first | kernel_rfl | decide +kernel) (by first | kernel_rfl | decide +kernel) (by rfl) rfl (x := .pointer (some ⟨g12, 0 + dn.length * 1, none⟩)) (fun z hu => ⟨z, _, lensB2 z, Ylds.rds (y_ix ty56 rfl rfl (by omega))⟩) ?_
            refine anyF_rdS (by exact ⟨T14, T12⟩) (i := 8) rfl (by first | kernel_rfl | decide +kernel) (by first | kernel_rfl | decide +kernel) (by first | kernel_rfl | decide +kernel) (by rfl) rfl (x := .slice pb t.length cb) (fun z hu => ⟨z, _, lensB2 z, rd_cellq (by decide) hu.2 hvb (by omega) rfl⟩) ?_
            refine anyF_callS (i := 4) rfl (by first | kernel_rfl | decide +kernel) (by rfl) rfl (run_call (args := #[.slice pa t.length ca]) rfl Try.func34 (by rfl) rfl (by simp only [List.map_toArray, List.map_cons, List.map_nil]; rfl)) (callsB (theirs34 h' t pa ca (hRa.ext eL) (by omega))) ?_
            intro v20 h20 I20
            obtain ⟨p20, c20, rfl, hc20⟩ := I20.own.shape2
            refine ⟨⟨T14.mono I20.ext, T12.mono I20.ext⟩, ?_⟩
            refine anyF_callS (i := 9) rfl (by first | kernel_rfl | decide +kernel) (by rfl) rfl (run_call (args := #[.slice pb t.length cb]) rfl Try.func34 (by rfl) rfl (by simp only [List.map_toArray, List.map_cons, List.map_nil]; rfl)) (callsB (theirs34 h20 t pb cb (hRb.ext (eL.trans I20.ext)) (by omega))) ?_
            intro v21 h21 I21
            obtain ⟨p21, c21, rfl, hc21⟩ := I21.own.shape2
            refine ⟨⟨(T14.mono I20.ext).mono I21.ext, (T12.mono I20.ext).mono I21.ext⟩, ?_⟩
            refine anyF_callS (i := 10) rfl (by first | kernel_rfl | decide +kernel) (by rfl) rfl (run_call (args := #[.slice p20 t.length c20, .slice p21 t.length c21, .bool true]) rfl Try.func33 (by rfl) rfl (by simp only [List.map_toArray, List.map_cons, List.map_nil]; rfl)) (callsB (same33 h21 t p20 p21 c20 c21 (I20.own.rsl.ext I21.ext) I21.own.rsl (by omega))) ?_
            rintro _ h22 ⟨rfl, hv⟩
            obtain rfl := hv.symm
            refine ⟨⟨(T14.mono I20.ext).mono I21.ext, (T12.mono I20.ext).mono I21.ext⟩, ?_⟩
            refine anyF_rdS (by exact ⟨(T14.mono I20.ext).mono I21.ext, (T12.mono I20.ext).mono I21.ext⟩) (i := 11) rfl (by first | kernel_rfl | decide +kernel) (by first | kernel_rfl | decide +kernel) (by first | kernel_rfl | decide +kernel) (by rfl) rfl (x := .bool false) (fun z hu => ⟨z, _, lensB2 z, Ylds.rds (y_not (b := true) rfl)⟩) ?_
            refine anyV_done (by first | kernel_rfl | decide +kernel) ?_ _
            refine wpG_cond glb idleB (t := false) (by rw [fr_eval]; rfl) ?_
            refine wpG_skip glb idleB ?_
            refine wpG_region glb idleB ?_
            refine opsF_val glb idleB rfl (by rfl) rfl (x := .int .i64 (dn.length : Nat)) (y_move rfl) ?_
            refine opsF_val glb idleB rfl (by rfl) rfl (x := .int .i64 (dn.length + 1 : Nat)) (y_add rfl rfl (by rw [IntKind.wrap_i64]; omega)) ?_
            refine opsF_val glb idleB rfl (by rfl) rfl (x := .int .i64 (dn.length + 1 : Nat)) (y_assign rfl) ?_
            refine opsG_nil glb idleB ?_
            exact ⟨ts.length, by rw [List.length_cons]; omega, dn ++ [t], ts, _, _, rfl, by rw [hst]; simp, fr_says _ ⟨rfl, rfl, rfl, by rw [List.length_append]; rfl, trivial⟩, rfl, (eL.trans I20.ext).trans I21.ext⟩
    · refine opsF_val glb idleB rfl (by rfl) rfl (x := .bool true) (y_pick (t := false) rfl rfl) ?_
      refine opsF_val glb idleB rfl (by rfl) rfl (x := .bool true) (y_move rfl) ?_
      refine opsF_skip glb idleB rfl (by rfl) rfl ?_
      refine opsF_skip glb idleB rfl (by rfl) rfl ?_
      refine opsF_val glb idleB rfl (by rfl) rfl (x := .bool true) (y_pick (t := true) rfl rfl) ?_
      refine opsG_nil glb idleB ?_
      refine wpG_cond glb idleB (t := true) (by rw [fr_eval]; rfl) ?_
      refine wpG_seq glb idleB ?_
      refine wpG_region glb idleB ?_
      refine opsF_call glb idleB rfl (by rfl) rfl (run_call rfl Try.func30 (by rfl) rfl (by simp)) (shown30 _) ?_
      rintro _ h1 ⟨e1, rfl⟩
      have E1 := E0.trans e1
      refine opsF_val glb idleB rfl (by rfl) rfl (x := .bool true) (y_assign rfl) ?_
      refine opsG_nil glb idleB ?_
      refine wpG_ret glb idleB ?_
      exact ⟨.inr rfl, rfl, _, resultsC_tmp (by rfl) _, fun u hu τ d => by rw [fr_ret (by decide) rfl]; exact hP u (grew_of_mine hu E1) τ d⟩
  · refine opsF_val glb idleB rfl (by rfl) rfl (x := .bool true) (y_move rfl) ?_
    refine opsF_skip glb idleB rfl (by rfl) rfl ?_
    refine opsF_skip glb idleB rfl (by rfl) rfl ?_
    refine opsF_val glb idleB rfl (by rfl) rfl (x := .bool true) (y_pick (t := true) rfl rfl) ?_
    refine opsF_val glb idleB rfl (by rfl) rfl (x := .bool true) (y_move rfl) ?_
    refine opsF_skip glb idleB rfl (by rfl) rfl ?_
    refine opsF_skip glb idleB rfl (by rfl) rfl ?_
    refine opsF_val glb idleB rfl (by rfl) rfl (x := .bool true) (y_pick (t := true) rfl rfl) ?_
    refine opsG_nil glb idleB ?_
    refine wpG_cond glb idleB (t := true) (by rw [fr_eval]; rfl) ?_
    refine wpG_seq glb idleB ?_
    refine wpG_region glb idleB ?_
    refine opsF_call glb idleB rfl (by rfl) rfl (run_call rfl Try.func30 (by rfl) rfl (by simp)) (shown30 _) ?_
    rintro _ h1 ⟨e1, rfl⟩
    have E1 := E0.trans e1
    refine opsF_val glb idleB rfl (by rfl) rfl (x := .bool true) (y_assign rfl) ?_
    refine opsG_nil glb idleB ?_
    refine wpG_ret glb idleB ?_
    exact ⟨.inr rfl, rfl, _, resultsC_tmp (by rfl) _, fun u hu τ d => by rw [fr_ret (by decide) rfl]; exact hP u (grew_of_mine hu E1) τ d⟩
end surfaceJoins
end Go.Proofs.Ytfaadjmglboaoaa
