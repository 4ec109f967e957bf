/-
  How things are printed: surface.joined, its inner function, surface.Print; corniceref07.thing, corniceref07.Print.
-/
import Derived.Test.YtfaadjmglboaoaaJoinCall
import Derived.Test.YtfaadjmglboaoaaRefItems
namespace Go.Proofs.Ytfaadjmglboaoaa
open Go.Conc Go.RowKit

theorem ty104 : ElemTy 104 9 1 16 (.string { data := #[] }) := elemTy (by kernel_rfl) (by kernel_rfl) (by kernel_rfl) rfl (by decide) (by decide)
theorem run_bs1s {ρ : Operand → Value} {d : Option Tmp} {ty : TypeId} {pos : String} {af : Array Edge} {gu : Option (Nat × Bool)} {a : Operand} {s : ByteArray} (ha : ρ a = .string s) (w : World) :
    (execOp ρ ⟨d, .buildSlice 104 1 #[(0, a)], ty, pos, af, gu⟩).run Try.prog w = .ok (.value (.slice (some ⟨w.heap.size, 0, none⟩) 1 1)) { w with heap := w.heap.push (.cells #[.string s] 9) } ∧ (execOp ρ ⟨d, .buildSlice 104 1 #[(0, a)], ty, pos, af, gu⟩).events Try.prog w #[] = #[] :=
  ⟨eq_of_K fun K hK => by go_simp; exact hK, by simp [go_sem, ha]⟩
theorem ItemsPost.none' {E : TypeId} {h h' : PH} {a : Option (List (List T3))} {r : Value} (x : ItemsPost E h a r h') (ha : a = none) : Ext h h' ∧ r = .tuple #[.slice none 0 0, .bool false] := by
  subst ha; exact x
theorem ItemsPost.some' {E : TypeId} {h h' : PH} {a : Option (List (List T3))} {st : List (List T3)} {r : Value} (x : ItemsPost E h a r h') (ha : a = some st) : ∃ p c vs, r = .tuple #[.slice p st.length c, .bool true] ∧ st.length ≤ c ∧ OInv E 1 h h' (.slice p st.length c) st.length vs ∧ RowsAt h' vs st ∧ NewRows E h vs := by
  subst ha
  obtain ⟨v, vs, h1, h2, h3⟩ := x
  obtain ⟨p, c, rfl, hc⟩ := h2.own.shape2
  exact ⟨p, c, vs, h1, hc, h2, h3⟩
theorem RowsAt.get {h : PH} {vs : List Value} {dn ts : List (List T3)} {t : List T3} (x : RowsAt h vs (dn ++ t :: ts)) : ∃ p c, vs[dn.length]? = some (.slice p t.length c) ∧ t.length ≤ c ∧ RSl h 3 (.slice p t.length c) t.length (flat t) := by
  have hl : dn.length < vs.length := by rw [x.1, List.length_append, List.length_cons]; omega
  obtain ⟨p, c, e, h1, h2⟩ := x.2 dn.length vs[dn.length] t (List.getElem?_eq_getElem hl) (by rw [List.getElem?_append_right (Nat.le_refl _), Nat.sub_self]; rfl)
  exact ⟨p, c, by rw [List.getElem?_eq_getElem hl, e], h1, h2⟩
theorem pre_snoc0 (pre s : ByteArray) (t : List T3) : pre ++ jn s (([] ++ [t]).map text) = pre ++ jn s (([] : List (List T3)).map text) ++ text t := by
  rw [List.nil_append, List.map_cons, List.map_nil, jn_one, jn_nil]
  show pre ++ text t = pre ++ ByteArray.empty ++ text t
  rw [ByteArray.append_empty]
theorem pre_snoc (pre s : ByteArray) {dn : List (List T3)} (h : 0 < dn.length) (t : List T3) : pre ++ jn s ((dn ++ [t]).map text) = pre ++ jn s (dn.map text) ++ s ++ text t := by
  rw [List.map_append, List.map_cons, List.map_nil, jn_snoc _ _ _ (by rw [List.length_map]; exact h)]
  simp only [ByteArray.append_assoc]
theorem start0 (pre s : ByteArray) : pre ++ jn s (([] : List (List T3)).map text) = pre := ByteArray.append_empty
theorem flatten_two (dn ts : List (List T3)) (t : List T3) : (dn ++ t :: ts).flatten.length = dn.flatten.length + t.length + ts.flatten.length := by
  rw [List.flatten_append, List.flatten_cons, List.length_append, List.length_append]; omega

section
variable {W : World}
def Thing65 (W : World) (n : Nat) : Prop := ∀ (t : List T3) (h : PH) (p : Option Addr) (c : Nat), Thing t → t.length ≤ n → (∀ x ∈ t, x.s.size ≤ 100) → RSl h 3 (.slice p t.length c) t.length (flat t) → t.length ≤ c →
  CallsG Try.prog (GLB W) 65 #[.slice p t.length c] h fun r h' => Ext h h' ∧ r = .string (text t)
def Joined55 (W : World) (n : Nat) : Prop := ∀ (ts : List (List T3)) (sep : ByteArray) (h : PH) (p : Option Addr) (c : Nat) (vs : List Value), sep.size = 1 → (∀ t ∈ ts, Thing t) → ts.flatten.length ≤ n → (∀ t ∈ ts, ∀ x ∈ t, x.s.size ≤ 100) →
  RSl h 1 (.slice p ts.length c) ts.length vs → RowsAt h vs ts → CallsG Try.prog (GLB W) 55 #[.string sep, .slice p ts.length c] h fun r h' => Ext h h' ∧ r = .string (jn sep (ts.map text))

set_option maxHeartbeats 2000000 in
theorem thing65_of (n : Nat) (hn : n + 1 ≤ 2 ^ 20) (H : Joined55 W n) : Thing65 W (n + 1) := by
  intro t h p c ht htn hw hR hc
  obtain ⟨ts, x, rfl, hts, htg⟩ := ht.parts
  have hword := fun (hs : x.s ≠ { data := #[] }) => text_word hts hs
  have hlist := fun (hs : x.s = { data := #[] }) => text_list hts hs
  have hsz := ht.size hw
  have hwt : ∀ u ∈ ts, ∀ y ∈ u, y.s.size ≤ 100 := fun u hu y hy => hw y (List.mem_append_left _ (List.mem_flatten.2 ⟨u, hu, hy⟩))
  have hjn := jn_le (sep := sp) rfl (ts := ts) fun u hu => (hts u hu).size (hwt u hu)
  have hle : ∀ u ∈ ts, u.length ≤ ts.flatten.length := fun u hu => mem_le hu
  generalize hdd : ts.flatten = dn at *
  have hln : (dn ++ [x]).length = dn.length + 1 := by simp
  obtain ⟨B, o, rfl, hS⟩ := hR.pos (by rw [hln]; omega)
  obtain ⟨hga, hgb, hgs⟩ := flat_get dn [] x
  have hSd : SlAt h B o (flat dn) := by
    have := SlAt.seg (a := []) (t := dn) (b := [x]) (h := h) (B := B) (o := o) hS
    simpa using this
  refine callsG_of_wp (c := Try.f65.body.getD .skip) glb idleB Try.func65 rfl ?_
  rw [Try.ntmps65]
  rw [fr_of (n := 29) (by simp) [(0, .slice (some ⟨B, o, none⟩) (dn ++ [x]).length c)] ⟨by simp, trivial⟩]
  generalize (fun j => (#[Value.slice (some ⟨B, o, none⟩) (dn ++ [x]).length c] ++ Array.replicate (29 - #[Value.slice (some ⟨B, o, none⟩) (dn ++ [x]).length c].size) undef).getD j undef) = σ
  refine wpG_seq glb idleB ?_
  refine wpG_region glb idleB ?_
  refine opsF_val glb idleB rfl (by rfl) rfl (x := .string { data := #[] }) (y_assign rfl) ?_
  refine opsG_nil glb idleB ?_
  refine wpG_seq glb idleB ?_
  refine wpG_seq glb idleB ?_
  refine wpG_region glb idleB ?_
  refine opsF_val glb idleB rfl (by rfl) rfl (x := .slice (some ⟨B, o, none⟩) (dn ++ [x]).length c) (y_move rfl) ?_
  refine opsF_val glb idleB rfl (by rfl) rfl (x := .slice (some ⟨B, o, none⟩) (dn ++ [x]).length c) (y_move rfl) ?_
  refine opsF_val glb idleB rfl (by rfl) rfl (x := .int .i64 ((dn ++ [x]).length : Nat)) (y_len_slice Try.underlying44 rfl) ?_
  refine opsF_val glb idleB rfl (by rfl) rfl (x := .int .i64 (dn.length : Nat)) (y_sub rfl rfl (by rw [IntKind.wrap_i64, hln]; omega)) ?_
  refine opsF_val glb idleB rfl (by rfl) rfl (x := .pointer (some ⟨B, o + dn.length * 3, none⟩)) (y_ix ty44 rfl rfl (by omega)) ?_
  refine opsF_val glb idleB rfl (by rfl) rfl (x := .pointer (some ⟨B, o + dn.length * 3 + 2, none⟩)) (y_fld (by decide) rfl) ?_
  refine opsF_rd glb (lensB2 _) rfl (by rfl) rfl (x := .string x.s) (rd_cellq (by decide) hS hgs (by omega) rfl) ?_
  refine opsF_val glb idleB rfl (by rfl) rfl (x := .string x.s) (y_assign rfl) ?_
  refine opsG_nil glb idleB ?_
  refine wpG_seq glb idleB ?_
  refine wpG_region glb idleB ?_
  refine opsF_val glb idleB rfl (by rfl) rfl (x := .string x.s) (y_move rfl) ?_
  refine opsF_val glb idleB rfl (by rfl) rfl (x := .bool (!decide (x.s = { data := #[] }))) (y_neq_strg rfl rfl rfl) ?_
  by_cases hs : x.s = { data := #[] }
  · rw [decide_eq_true hs]
    show OpsG _ _ _ _ _ _ (fr _ _ ((_, Value.bool false) :: _) _) _
    refine opsG_nil glb idleB ?_
    refine wpG_cond glb idleB (t := false) (by rw [fr_eval]; rfl) ?_
    refine wpG_skip glb idleB ?_
    refine wpG_seq glb idleB ?_
    refine wpG_region glb idleB ?_
    refine opsF_val glb idleB rfl (by rfl) rfl (x := .slice (some ⟨B, o, none⟩) (dn ++ [x]).length c) (y_move rfl) ?_
    refine opsF_val glb idleB rfl (by rfl) rfl (x := .slice (some ⟨B, o, none⟩) (dn ++ [x]).length c) (y_move rfl) ?_
    refine opsF_val glb idleB rfl (by rfl) rfl (x := .int .i64 ((dn ++ [x]).length : Nat)) (y_len_slice Try.underlying44 rfl) ?_
    refine opsF_val glb idleB rfl (by rfl) rfl (x := .int .i64 (dn.length : Nat)) (y_sub rfl rfl (by rw [IntKind.wrap_i64, hln]; omega)) ?_
    refine opsF_val glb idleB rfl (by rfl) rfl (x := .slice (some ⟨B, o, none⟩) dn.length c) (y_slice_arr ty44 rfl rfl (by omega)) ?_
    refine opsF_call glb idleB rfl (by rfl) rfl (run_call (args := #[.slice (some ⟨B, o, none⟩) dn.length c]) rfl Try.func37 (by rfl) rfl (by simp only [List.map_toArray, List.map_cons, List.map_nil]; rfl)) (callsB (items37 h dn (some ⟨B, o, none⟩) c ⟨flat_length dn, .inr ⟨B, o, c, rfl, hSd⟩⟩ (by omega) (by omega))) ?_
    intro r h2 hpost
    obtain ⟨p6, c6, vs, rfl, hc6, I, J, -⟩ := hpost.some' htg
    refine opsF_val glb idleB rfl (by rfl) rfl (x := .tuple #[.slice p6 ts.length c6, .bool true]) (y_move rfl) ?_
    refine opsF_val glb idleB rfl (by rfl) rfl (x := .slice p6 ts.length c6) (y_extract rfl rfl) ?_
    refine opsF_val glb idleB rfl (by rfl) rfl (x := .bool true) (y_extract rfl rfl) ?_
    refine opsF_val glb idleB rfl (by rfl) rfl (x := .slice p6 ts.length c6) (y_assign rfl) ?_
    refine opsF_val glb idleB rfl (by rfl) rfl (x := .bool true) (y_assign rfl) ?_
    refine opsG_nil glb idleB ?_
    refine wpG_seq glb idleB ?_
    refine wpG_region glb idleB ?_
    refine opsF_val glb idleB rfl (by rfl) rfl (x := .slice p6 ts.length c6) (y_move rfl) ?_
    refine opsF_call glb idleB rfl (by rfl) rfl (run_call (args := #[.string { data := #[32] }, .slice p6 ts.length c6]) rfl Try.func55 (by rfl) rfl (by simp only [List.map_toArray, List.map_cons, List.map_nil]; rfl)) (H ts sp h2 p6 c6 vs rfl hts (by rw [hdd]; omega) hwt I.own.rsl J) ?_
    rintro _ h3 ⟨e3, rfl⟩
    refine opsF_val glb idleB rfl (by rfl) rfl (x := .string (lp ++ jn sp (ts.map text))) (y_cat (s := lp) rfl rfl (by show 1 + _ ≤ _; omega)) ?_
    refine opsF_val glb idleB rfl (by rfl) rfl (x := .string (lp ++ jn sp (ts.map text) ++ rp)) (y_cat (t := rp) rfl rfl (by rw [ByteArray.size_append]; show 1 + _ + 1 ≤ _; omega)) ?_
    refine opsF_val glb idleB rfl (by rfl) rfl (x := .string (lp ++ jn sp (ts.map text) ++ rp)) (y_assign rfl) ?_
    refine opsG_nil glb idleB ?_
    refine wpG_ret glb idleB ?_
    exact ⟨.inr rfl, rfl, _, resultsC_tmp (by rfl) _, I.ext.trans e3, (fr_ret (x := .string (lp ++ jn sp (ts.map text) ++ rp)) (by decide) rfl).trans (by rw [hlist hs])⟩
  · rw [decide_eq_false hs]
    show OpsG _ _ _ _ _ _ (fr _ _ ((_, Value.bool true) :: _) _) _
    refine opsG_nil glb idleB ?_
    refine wpG_cond glb idleB (t := true) (by rw [fr_eval]; rfl) ?_
    refine wpG_seq glb idleB ?_
    refine wpG_region glb idleB ?_
    refine opsF_val glb idleB rfl (by rfl) rfl (x := .string x.s) (y_move rfl) ?_
    refine opsF_val glb idleB rfl (by rfl) rfl (x := .string x.s) (y_assign rfl) ?_
    refine opsG_nil glb idleB ?_
    refine wpG_ret glb idleB ?_
    exact ⟨.inr rfl, rfl, _, resultsC_tmp (by rfl) _, Ext.refl _, (fr_ret (x := .string x.s) (by decide) rfl).trans (by rw [hword hs])⟩

set_option maxHeartbeats 2000000 in
theorem joined55_of (n : Nat) (hn : n ≤ 2 ^ 20) (H : Thing65 W n) : Joined55 W n := by
  intro ts sep h p c vs hsep hts htn hwt hR hJ
  have hjn := jn_le hsep (ts := ts) fun u hu => (hts u hu).size (hwt u hu)
  have htl := things_le hts
  refine callsG_of_wp (c := Try.f55.body.getD .skip) glb idleB Try.func55 rfl ?_
  rw [Try.ntmps55]
  rw [fr_of (n := 25) (by simp) [(0, .string sep), (1, .slice p ts.length c)] ⟨by simp, by simp, trivial⟩]
  generalize (fun j => (#[Value.string sep, Value.slice p ts.length c] ++ Array.replicate (25 - #[Value.string sep, Value.slice p ts.length c].size) undef).getD j undef) = σ
  refine wpG_seq glb idleB ?_
  refine wpG_region glb idleB ?_
  refine opsF_val glb idleB rfl (by rfl) rfl (x := .string { data := #[] }) (y_assign rfl) ?_
  refine opsG_nil glb idleB ?_
  refine wpG_seq glb idleB ?_
  refine wpG_region glb idleB ?_
  refine opsF_val glb idleB rfl (by rfl) rfl (x := .nilFunc) (y_assign rfl) ?_
  refine opsG_nil glb idleB ?_
  refine wpG_seq glb idleB ?_
  refine wpG_region glb idleB ?_
  refine opsF_val glb idleB rfl (by rfl) rfl (x := .func (.func 65) #[] #[]) (y_assign rfl) ?_
  refine opsG_nil glb idleB ?_
  refine wpG_seq glb idleB ?_
  refine wpG_region glb idleB ?_
  refine opsF_val glb idleB rfl (by rfl) rfl (x := .slice none 0 0) (y_assign rfl) ?_
  refine opsG_nil glb idleB ?_
  refine wpG_seq glb idleB ?_
  refine wpG_seq glb idleB ?_
  refine wpG_region glb idleB ?_
  refine opsF_val glb idleB rfl (by rfl) rfl (x := .slice p ts.length c) (y_move rfl) ?_
  refine opsF_val glb idleB rfl (by rfl) rfl (x := .int .i64 (ts.length : Nat)) (y_len_slice Try.underlying56 rfl) ?_
  refine opsF_val glb idleB rfl (by rfl) rfl (x := .int .i64 0) (y_move rfl) ?_
  refine opsG_nil glb idleB ?_
  refine wpG_block glb idleB ?_
  refine wpG_loopN glb idleB (fun m a v => ∃ (dn rest : List (List T3)) (v6 : Value) (τ : Nat → Value) (h' : PH), m = rest.length ∧ ts = dn ++ rest ∧ a = fr 25 τ [(0, .string sep), (5, .func (.func 65) #[] #[]), (6, v6), (9, .slice p ts.length c), (10, .int .i64 (ts.length : Nat)), (11, .int .i64 (dn.length : Nat))] [] ∧ h' = v ∧ OInv 9 1 h h' v6 dn.length ((dn.map text).map .string)) ts.length ⟨[], ts, _, _, _, rfl, rfl, fr_says _ ⟨rfl, rfl, rfl, rfl, rfl, rfl, trivial⟩, rfl, oinv_nil _ _ _⟩ ?_
  rintro m _ _ ⟨dn, rest, v6, τ, h', rfl, hst, rfl, rfl, I⟩
  clear σ
  have hdn : dn.length + rest.length = ts.length := by rw [hst, List.length_append]
  rcases rest with _ | ⟨t, us⟩
  · rw [List.append_nil] at hst
    subst hst
    obtain ⟨p6, c6, rfl, hc6⟩ := I.own.shape2
    refine wpG_seq glb idleB ?_
    refine wpG_region glb idleB ?_
    refine opsF_val glb idleB rfl (by rfl) rfl (x := .bool false) (y_lss rfl rfl (by simp)) ?_
    refine opsG_nil glb idleB ?_
    refine wpG_seq glb idleB ?_
    refine wpG_cond glb idleB (t := false) (by rw [fr_eval]; rfl) ?_
    refine wpG_exit glb idleB ?_
    refine wpG_seq glb idleB ?_
    refine wpG_region glb idleB ?_
    refine opsF_val glb idleB rfl (by rfl) rfl (x := .slice p6 ts.length c6) (y_move rfl) ?_
    refine opsF_val glb idleB rfl (by rfl) rfl (x := .string sep) (y_move rfl) ?_
    refine opsF_call glb idleB rfl (by rfl) rfl (run_call (args := #[.slice p6 ts.length c6, .string sep]) rfl Try.func66 (by rfl) rfl (by simp only [List.map_toArray, List.map_cons, List.map_nil]; rfl)) (join66 h' sep (ts.map text) ts.length p6 c6 (by simp) I.own.rsl hc6 (by omega) (by omega)) ?_
    rintro _ h5 ⟨he, rfl⟩
    obtain rfl := he.symm
    refine opsF_val glb idleB rfl (by rfl) rfl (x := .string (jn sep (ts.map text))) (y_assign rfl) ?_
    refine opsG_nil glb idleB ?_
    refine wpG_ret glb idleB ?_
    exact ⟨.inr rfl, rfl, _, resultsC_tmp (by rfl) _, I.ext, fr_ret (by decide) rfl⟩
  · simp only [List.length_cons] at hdn
    have htm : t ∈ ts := by rw [hst]; simp
    have htl2 := mem_le htm
    obtain ⟨B, o, rfl, hS0⟩ := hR.pos (by omega)
    have hS := hS0.mono I.ext
    obtain ⟨pa, ca, hva, hca, hRa⟩ := RowsAt.get (hst ▸ hJ)
    refine wpG_seq glb idleB ?_
    refine wpG_region glb idleB ?_
    refine opsF_val glb idleB rfl (by rfl) rfl (x := .bool true) (y_lss rfl rfl (by simp at hdn ⊢; omega)) ?_
    refine opsG_nil glb idleB ?_
    refine wpG_seq glb idleB ?_
    refine wpG_cond glb idleB (t := true) (by rw [fr_eval]; rfl) ?_
    refine wpG_skip glb idleB ?_
    refine wpG_seq glb idleB ?_
    refine wpG_block glb idleB ?_
    refine wpG_seq glb idleB ?_
    refine wpG_region glb idleB ?_
    refine opsF_val glb idleB rfl (by rfl) rfl (x := .pointer (some ⟨B, o + dn.length * 1, none⟩)) (y_ix ty56 rfl rfl (by omega)) ?_
    refine opsF_rd glb (lensB2 _) rfl (by rfl) rfl (x := .slice pa t.length ca) (rd_cellq (by decide) hS hva (by omega) rfl) ?_
    refine opsF_val glb idleB rfl (by rfl) rfl (x := .slice pa t.length ca) (y_assign rfl) ?_
    refine opsG_nil glb idleB ?_
    refine wpG_region glb idleB ?_
    refine opsF_val glb idleB rfl (by rfl) rfl (x := v6) (y_move rfl) ?_
    refine opsF_val glb idleB rfl (by rfl) rfl (x := .func (.func 65) #[] #[]) (y_move rfl) ?_
    refine opsF_val glb idleB rfl (by rfl) rfl (x := .slice pa t.length ca) (y_move rfl) ?_
    refine opsF_call glb idleB rfl (by rfl) rfl (run_call (args := #[.slice pa t.length ca]) rfl Try.func65 (by rfl) rfl (by simp only [List.map_toArray, List.map_cons, List.map_nil]; rfl)) (H t h' pa ca (hts t htm) (by omega) (hwt t htm) (hRa.ext I.ext) hca) ?_
    rintro _ h2 ⟨e2, rfl⟩
    refine opsF_new glb (lensB2 _) rfl (by rfl) rfl (.cells #[.string (text t)] 9) (fun M => .slice (some ⟨M, 0, none⟩) 1 1) (run_bs1s rfl) fun M hM => ?_
    have I3 := (I.grow e2).grow (ext_put (o := .cells #[.string (text t)] 9) hM)
    have hSM := slAt_new h2 M #[.string (text t)] 9
    refine opsB_append glb ty104 (c := 1) rfl (by rfl) rfl rfl rfl rfl I3.own hSM rfl (by decide) (by simp [Value.oneCell']) (by omega) fun v6' h4 hO hold hb => ?_
    have I4 := I3.add hO hold hb
    refine opsF_val glb idleB rfl (by rfl) rfl (x := v6') (y_assign rfl) ?_
    refine opsG_nil glb idleB ?_
    refine wpG_region glb idleB ?_
    refine opsF_val glb idleB rfl (by rfl) rfl (x := .int .i64 (dn.length + 1 : Nat)) (y_add rfl rfl (by rw [IntKind.wrap_i64]; omega)) ?_
    refine opsF_val glb idleB rfl (by rfl) rfl (x := .int .i64 (dn.length + 1 : Nat)) (y_move rfl) ?_
    refine opsG_nil glb idleB ?_
    exact ⟨us.length, by rw [List.length_cons]; omega, dn ++ [t], us, _, _, _, rfl, by rw [hst]; simp, fr_says _ ⟨rfl, rfl, rfl, rfl, rfl, by rw [List.length_append]; rfl, trivial⟩, rfl, by rw [List.length_append, List.map_append, List.map_append]; exact I4⟩

theorem printed_all : ∀ n, n ≤ 2 ^ 20 → Thing65 W n ∧ Joined55 W n
  | 0, h => by
    have h0 : Thing65 W 0 := fun t h p c ht htn => by
      have := List.length_pos_iff.2 ht.ne
      omega
    exact ⟨h0, joined55_of 0 h h0⟩
  | n + 1, h => by
    have h1 := thing65_of n h (printed_all n (by omega)).2
    exact ⟨h1, joined55_of (n + 1) h h1⟩
theorem results42 : Try.f42.results = #[.tmp 2, .tmp 3] := by rfl
theorem results43 : Try.f43.results = #[.tmp 2, .tmp 3] := by rfl
/-- What Print answers. -/
def printed (a : Option (List (List T3))) : Value := match a with
  | none => .tuple #[.string { data := #[] }, .int .i64 20]
  | some st => .tuple #[.string (jn nl (st.map text)), .int .i64 0]

set_option maxHeartbeats 2000000 in
theorem print42 (h : PH) (l : List T3) (p : Option Addr) (c : Nat) (hR : RSl h 3 (.slice p l.length c) l.length (flat l)) (hcap : l.length ≤ c) (hlen : l.length ≤ 2 ^ 20) (hw : ∀ x ∈ l, x.s.size ≤ 100) :
    CallsG Try.prog (GLB W) 42 #[.slice p l.length c] h fun r h' => Ext h h' ∧ r = printed (tgo l []) := by
  refine callsG_of_wp (c := Try.f42.body.getD .skip) glb idleB Try.func42 rfl ?_
  rw [Try.ntmps42]
  rw [fr_of (n := 15) (by simp) [(0, .slice p l.length c)] ⟨by simp, trivial⟩]
  generalize (fun j => (#[Value.slice p l.length c] ++ Array.replicate (15 - #[Value.slice p l.length c].size) undef).getD j undef) = σ
  refine wpG_seq glb idleB ?_
  refine wpG_region glb idleB ?_
  refine opsF_val glb idleB rfl (by rfl) rfl (x := .string { data := #[] }) (y_assign rfl) ?_
  refine opsF_val glb idleB rfl (by rfl) rfl (x := .int .i64 0) (y_assign rfl) ?_
  refine opsG_nil glb idleB ?_
  refine wpG_seq glb idleB ?_
  refine wpG_region glb idleB ?_
  refine opsF_val glb idleB rfl (by rfl) rfl (x := .slice p l.length c) (y_move rfl) ?_
  refine opsF_call glb idleB rfl (by rfl) rfl (run_call (args := #[.slice p l.length c]) rfl Try.func37 (by rfl) rfl (by simp only [List.map_toArray, List.map_cons, List.map_nil]; rfl)) (callsB (items37 h l p c hR hcap hlen)) ?_
  intro r h1 hpost
  rcases hpost.cases with ⟨htg, e1, rfl⟩ | ⟨st, p4, c4, vs, htg, rfl, hc4, I, J, -⟩
  · refine opsF_val glb idleB rfl (by rfl) rfl (x := .tuple #[.slice none 0 0, .bool false]) (y_move rfl) ?_
    refine opsF_val glb idleB rfl (by rfl) rfl (x := .slice none 0 0) (y_extract rfl rfl) ?_
    refine opsF_val glb idleB rfl (by rfl) rfl (x := .bool false) (y_extract rfl rfl) ?_
    refine opsF_val glb idleB rfl (by rfl) rfl (x := .slice none 0 0) (y_assign rfl) ?_
    refine opsF_val glb idleB rfl (by rfl) rfl (x := .bool false) (y_assign rfl) ?_
    refine opsG_nil glb idleB ?_
    refine wpG_seq glb idleB ?_
    refine wpG_seq glb idleB ?_
    refine wpG_region glb idleB ?_
    refine opsF_val glb idleB rfl (by rfl) rfl (x := .bool false) (y_move rfl) ?_
    refine opsF_val glb idleB rfl (by rfl) rfl (x := .bool true) (y_not (b := false) rfl) ?_
    refine opsG_nil glb idleB ?_
    refine wpG_cond glb idleB (t := true) (by rw [fr_eval]; rfl) ?_
    refine wpG_seq glb idleB ?_
    refine wpG_region glb idleB ?_
    refine opsF_val glb idleB rfl (by rfl) rfl (x := .string { data := #[] }) (y_assign rfl) ?_
    refine opsF_val glb idleB rfl (by rfl) rfl (x := .int .i64 20) (y_assign rfl) ?_
    refine opsG_nil glb idleB ?_
    refine wpG_ret glb idleB ?_
    refine ⟨.inr rfl, rfl, _, resultsC_tmp2 results42 _, ?_⟩
    rw [fr_ret (by decide) rfl, fr_ret (by decide) rfl, htg]
    exact ⟨e1, rfl⟩
  · obtain ⟨hth, hfl⟩ := tgo_some l [] st tgo_none htg
    rw [List.flatten_nil, List.nil_append] at hfl
    have hwt : ∀ u ∈ st, ∀ y ∈ u, y.s.size ≤ 100 := fun u hu y hy => hw y (by rw [← hfl]; exact List.mem_flatten.2 ⟨u, hu, hy⟩)
    refine opsF_val glb idleB rfl (by rfl) rfl (x := .tuple #[.slice p4 st.length c4, .bool true]) (y_move rfl) ?_
    refine opsF_val glb idleB rfl (by rfl) rfl (x := .slice p4 st.length c4) (y_extract rfl rfl) ?_
    refine opsF_val glb idleB rfl (by rfl) rfl (x := .bool true) (y_extract rfl rfl) ?_
    refine opsF_val glb idleB rfl (by rfl) rfl (x := .slice p4 st.length c4) (y_assign rfl) ?_
    refine opsF_val glb idleB rfl (by rfl) rfl (x := .bool true) (y_assign rfl) ?_
    refine opsG_nil glb idleB ?_
    refine wpG_seq glb idleB ?_
    refine wpG_seq glb idleB ?_
    refine wpG_region glb idleB ?_
    refine opsF_val glb idleB rfl (by rfl) rfl (x := .bool true) (y_move rfl) ?_
    refine opsF_val glb idleB rfl (by rfl) rfl (x := .bool false) (y_not (b := true) rfl) ?_
    refine opsG_nil glb idleB ?_
    refine wpG_cond glb idleB (t := false) (by rw [fr_eval]; rfl) ?_
    refine wpG_skip glb idleB ?_
    refine wpG_seq glb idleB ?_
    refine wpG_region glb idleB ?_
    refine opsF_val glb idleB rfl (by rfl) rfl (x := .slice p4 st.length c4) (y_move rfl) ?_
    refine opsF_call glb idleB rfl (by rfl) rfl (run_call (args := #[.string { data := #[10] }, .slice p4 st.length c4]) rfl Try.func55 (by rfl) rfl (by simp only [List.map_toArray, List.map_cons, List.map_nil]; rfl)) ((printed_all l.length hlen).2 st nl h1 p4 c4 vs rfl hth (by rw [hfl]; exact Nat.le_refl _) hwt I.own.rsl J) ?_
    rintro _ h2 ⟨e2, rfl⟩
    refine opsF_val glb idleB rfl (by rfl) rfl (x := .string (jn nl (st.map text))) (y_assign rfl) ?_
    refine opsF_val glb idleB rfl (by rfl) rfl (x := .int .i64 0) (y_assign rfl) ?_
    refine opsG_nil glb idleB ?_
    refine wpG_ret glb idleB ?_
    refine ⟨.inr rfl, rfl, _, resultsC_tmp2 results42 _, ?_⟩
    rw [fr_ret (by decide) rfl, fr_ret (by decide) rfl, htg]
    exact ⟨I.ext.trans e2, rfl⟩
end

set_option maxHeartbeats 4000000 in
theorem thing56 {main : Bool} : ∀ (n : Nat), n ≤ 2 ^ 20 → ∀ (t : List T3) (h : PH) (p : Option Addr) (c : Nat), Thing t → t.length ≤ n → (∀ x ∈ t, x.s.size ≤ 100) → RSl h 3 (.slice p t.length c) t.length (flat t) → t.length ≤ c →
    CallsG Try.prog (GB main) 56 #[.slice p t.length c] h fun r h' => Ext h h' ∧ r = .string (text t) := by
  intro n
  induction n with
  | zero =>
    intro _ t h p c ht htn
    have := List.length_pos_iff.2 ht.ne
    omega
  | succ n IH =>
  intro hn t h p c ht htn hw hR hc
  obtain ⟨ts, x, rfl, hts, htg⟩ := ht.parts
  have hword := fun (hs : x.s ≠ { data := #[] }) => text_word hts hs
  have hlist := fun (hs : x.s = { data := #[] }) => text_list hts hs
  have hsz := ht.size hw
  have hwt : ∀ u ∈ ts, ∀ y ∈ u, y.s.size ≤ 100 := fun u hu y hy => hw y (List.mem_append_left _ (List.mem_flatten.2 ⟨u, hu, hy⟩))
  have hjn := jn_le (sep := sp) rfl (ts := ts) fun u hu => (hts u hu).size (hwt u hu)
  have hle : ∀ u ∈ ts, u.length ≤ ts.flatten.length := fun u hu => mem_le hu
  generalize hdd : ts.flatten = dn at *
  have hln : (dn ++ [x]).length = dn.length + 1 := by simp
  obtain ⟨B, o, rfl, hS⟩ := hR.pos (by rw [hln]; omega)
  obtain ⟨hga, hgb, hgs⟩ := flat_get dn [] x
  have hSd : SlAt h B o (flat dn) := by
    have := SlAt.seg (a := []) (t := dn) (b := [x]) (h := h) (B := B) (o := o) hS
    simpa using this
  refine callsG_of_wp (c := Try.f56.body.getD .skip) gb idleB Try.func56 rfl ?_
  rw [Try.ntmps56]
  rw [fr_of (n := 50) (by simp) [(0, .slice (some ⟨B, o, none⟩) (dn ++ [x]).length c)] ⟨by simp, trivial⟩]
  generalize (fun j => (#[Value.slice (some ⟨B, o, none⟩) (dn ++ [x]).length c] ++ Array.replicate (50 - #[Value.slice (some ⟨B, o, none⟩) (dn ++ [x]).length c].size) undef).getD j undef) = σ
  refine wpG_seq gb idleB ?_
  refine wpG_region gb idleB ?_
  refine opsF_val gb idleB rfl (by rfl) rfl (x := .string { data := #[] }) (y_assign rfl) ?_
  refine opsG_nil gb idleB ?_
  refine wpG_seq gb idleB ?_
  refine wpG_seq gb idleB ?_
  refine wpG_region gb idleB ?_
  refine opsF_val gb idleB rfl (by rfl) rfl (x := .slice (some ⟨B, o, none⟩) (dn ++ [x]).length c) (y_move rfl) ?_
  refine opsF_val gb idleB rfl (by rfl) rfl (x := .slice (some ⟨B, o, none⟩) (dn ++ [x]).length c) (y_move rfl) ?_
  refine opsF_val gb idleB rfl (by rfl) rfl (x := .int .i64 ((dn ++ [x]).length : Nat)) (y_len_slice Try.underlying47 rfl) ?_
  refine opsF_val gb idleB rfl (by rfl) rfl (x := .int .i64 (dn.length : Nat)) (y_sub rfl rfl (by rw [IntKind.wrap_i64, hln]; omega)) ?_
  refine opsF_val gb idleB rfl (by rfl) rfl (x := .pointer (some ⟨B, o + dn.length * 3, none⟩)) (y_ix ty47 rfl rfl (by omega)) ?_
  refine opsF_val gb idleB rfl (by rfl) rfl (x := .pointer (some ⟨B, o + dn.length * 3 + 2, none⟩)) (y_fld (by decide) rfl) ?_
  refine opsF_rd gb (lensB2 _) rfl (by rfl) rfl (x := .string x.s) (rd_cellq (by decide) hS hgs (by omega) rfl) ?_
  refine opsF_val gb idleB rfl (by rfl) rfl (x := .bool (!decide (x.s = { data := #[] }))) (y_neq_strg rfl rfl rfl) ?_
  by_cases hs : x.s = { data := #[] }
  · rw [decide_eq_true hs]
    show OpsG _ _ _ _ _ _ (fr _ _ ((_, Value.bool false) :: _) _) _
    refine opsG_nil gb idleB ?_
    refine wpG_cond gb idleB (t := false) (by rw [fr_eval]; rfl) ?_
    refine wpG_skip gb idleB ?_
    refine wpG_seq gb idleB ?_
    refine wpG_region gb idleB ?_
    refine opsF_val gb idleB rfl (by rfl) rfl (x := .slice (some ⟨B, o, none⟩) (dn ++ [x]).length c) (y_move rfl) ?_
    refine opsF_val gb idleB rfl (by rfl) rfl (x := .slice (some ⟨B, o, none⟩) (dn ++ [x]).length c) (y_move rfl) ?_
    refine opsF_val gb idleB rfl (by rfl) rfl (x := .int .i64 ((dn ++ [x]).length : Nat)) (y_len_slice Try.underlying47 rfl) ?_
    refine opsF_val gb idleB rfl (by rfl) rfl (x := .int .i64 (dn.length : Nat)) (y_sub rfl rfl (by rw [IntKind.wrap_i64, hln]; omega)) ?_
    refine opsF_val gb idleB rfl (by rfl) rfl (x := .slice (some ⟨B, o, none⟩) dn.length c) (y_slice_arr ty47 rfl rfl (by omega)) ?_
    refine opsF_call gb idleB rfl (by rfl) rfl (run_call (args := #[.slice (some ⟨B, o, none⟩) dn.length c]) rfl Try.func38 (by rfl) rfl (by simp only [List.map_toArray, List.map_cons, List.map_nil]; rfl)) (refItems38 h dn (some ⟨B, o, none⟩) c ⟨flat_length dn, .inr ⟨B, o, c, rfl, hSd⟩⟩ (by omega) (by omega)) ?_
    intro r h2 hpost
    obtain ⟨p6, c6, vs, rfl, hc6, I, J, -⟩ := hpost.some' htg
    have htl := things_le hts
    have hfl : ts.flatten.length = dn.length := by obtain ⟨_, h2⟩ := tgo_some dn [] ts tgo_none htg; rw [h2]; simp
    refine opsF_val gb idleB rfl (by rfl) rfl (x := .tuple #[.slice p6 ts.length c6, .bool true]) (y_move rfl) ?_
    refine opsF_val gb idleB rfl (by rfl) rfl (x := .slice p6 ts.length c6) (y_extract rfl rfl) ?_
    refine opsF_val gb idleB rfl (by rfl) rfl (x := .bool true) (y_extract rfl rfl) ?_
    refine opsF_val gb idleB rfl (by rfl) rfl (x := .slice p6 ts.length c6) (y_assign rfl) ?_
    refine opsF_val gb idleB rfl (by rfl) rfl (x := .bool true) (y_assign rfl) ?_
    refine opsG_nil gb idleB ?_
    refine wpG_seq gb idleB ?_
    refine wpG_region gb idleB ?_
    refine opsF_val gb idleB rfl (by rfl) rfl (x := .string { data := #[40] }) (y_assign rfl) ?_
    refine opsG_nil gb idleB ?_
    refine wpG_seq gb idleB ?_
    refine wpG_seq gb idleB ?_
    refine wpG_region gb idleB ?_
    refine opsF_val gb idleB rfl (by rfl) rfl (x := .int .i64 0) (y_assign rfl) ?_
    refine opsG_nil gb idleB ?_
    refine wpG_block gb idleB ?_
    refine wpG_loopN gb idleB (fun m a v => ∃ (done rest : List (List T3)) (τ : Nat → Value) (h' : PH), m = rest.length ∧ ts = done ++ rest ∧ a = fr 50 τ [(3, .slice p6 ts.length c6), (5, .string (lp ++ jn sp (done.map text))), (6, .int .i64 (done.length : Nat))] [] ∧ h' = v ∧ Ext h2 h') ts.length ⟨[], ts, _, _, rfl, rfl, fr_says _ ⟨rfl, rfl, rfl, trivial⟩, rfl, Ext.refl _⟩ ?_
    rintro m _ _ ⟨done, rest, τ, h', rfl, hst, rfl, rfl, eL⟩
    clear σ
    have hdn : done.length + rest.length = ts.length := by rw [hst, List.length_append]
    rcases rest with _ | ⟨t, us⟩
    · rw [List.append_nil] at hst
      subst hst
      refine wpG_seq gb idleB ?_
      refine wpG_seq gb idleB ?_
      refine wpG_region gb idleB ?_
      refine opsF_val gb idleB rfl (by rfl) rfl (x := .int .i64 (ts.length : Nat)) (y_move rfl) ?_
      refine opsF_val gb idleB rfl (by rfl) rfl (x := .slice p6 ts.length c6) (y_move rfl) ?_
      refine opsF_val gb idleB rfl (by rfl) rfl (x := .int .i64 (ts.length : Nat)) (y_len_slice Try.underlying59 rfl) ?_
      refine opsF_val gb idleB rfl (by rfl) rfl (x := .bool false) (y_lss rfl rfl (by simp)) ?_
      refine opsG_nil gb idleB ?_
      refine wpG_cond gb idleB (t := false) (by rw [fr_eval]; rfl) ?_
      refine wpG_exit gb idleB ?_
      refine wpG_seq gb idleB ?_
      refine wpG_region gb idleB ?_
      refine opsF_val gb idleB rfl (by rfl) rfl (x := .string (lp ++ jn sp (ts.map text))) (y_move rfl) ?_
      refine opsF_val gb idleB rfl (by rfl) rfl (x := .string (lp ++ jn sp (ts.map text) ++ rp)) (y_cat (t := rp) rfl rfl (by rw [ByteArray.size_append]; show 1 + _ + 1 ≤ _; omega)) ?_
      refine opsF_val gb idleB rfl (by rfl) rfl (x := .string (lp ++ jn sp (ts.map text) ++ rp)) (y_assign rfl) ?_
      refine opsG_nil gb idleB ?_
      refine wpG_ret gb idleB ?_
      exact ⟨.inr rfl, rfl, _, resultsC_tmp (by rfl) _, I.ext.trans eL, (fr_ret (x := .string (lp ++ jn sp (ts.map text) ++ rp)) (by decide) rfl).trans (by rw [hlist hs])⟩
    · simp only [List.length_cons] at hdn
      have htm : t ∈ ts := by rw [hst]; simp
      have htl2 := mem_le htm
      have hst3 := (hts t htm).size (hwt t htm)
      have hjd : (jn sp (done.map text)).size ≤ 104 * done.flatten.length := jn_le rfl fun u hu => (hts u (by rw [hst]; exact List.mem_append_left _ hu)).size (hwt u (by rw [hst]; exact List.mem_append_left _ hu))
      have hf2 : ts.flatten.length = done.flatten.length + t.length + us.flatten.length := by rw [hst]; exact flatten_two done us t
      obtain ⟨g6, rfl, hS60⟩ := I.own.pos (by omega)
      have hS6 := hS60.mono eL
      obtain ⟨pa, ca, hva, hca, hRa⟩ := RowsAt.get (hst ▸ J)
      refine wpG_seq gb idleB ?_
      refine wpG_seq gb idleB ?_
      refine wpG_region gb idleB ?_
      refine opsF_val gb idleB rfl (by rfl) rfl (x := .int .i64 (done.length : Nat)) (y_move rfl) ?_
      refine opsF_val gb idleB rfl (by rfl) rfl (x := .slice (some ⟨g6, 0, none⟩) ts.length c6) (y_move rfl) ?_
      refine opsF_val gb idleB rfl (by rfl) rfl (x := .int .i64 (ts.length : Nat)) (y_len_slice Try.underlying59 rfl) ?_
      refine opsF_val gb idleB rfl (by rfl) rfl (x := .bool true) (y_lss rfl rfl (by simp at hdn ⊢; omega)) ?_
      refine opsG_nil gb idleB ?_
      refine wpG_cond gb idleB (t := true) (by rw [fr_eval]; rfl) ?_
      refine wpG_skip gb idleB ?_
      refine wpG_seq gb idleB ?_
      refine wpG_block gb idleB ?_
      refine wpG_seq gb idleB ?_
      refine wpG_seq gb idleB ?_
      refine wpG_region gb idleB ?_
      refine opsF_val gb idleB rfl (by rfl) rfl (x := .int .i64 (done.length : Nat)) (y_move rfl) ?_
      refine opsF_val gb idleB rfl (by rfl) rfl (x := .bool (decide ((0 : Int) < (done.length : Nat)))) (y_gtr rfl rfl rfl) ?_
      rcases Nat.eq_zero_or_pos done.length with hz | hz
      · rw [decide_eq_false (show ¬ (0 : Int) < (done.length : Nat) by omega)]
        obtain rfl : done = [] := List.eq_nil_of_length_eq_zero hz
        refine opsG_nil gb idleB ?_
        refine wpG_cond gb idleB (t := false) (by rw [fr_eval]; rfl) ?_
        refine wpG_skip gb idleB ?_
        refine wpG_region gb idleB ?_
        refine opsF_val gb idleB rfl (by rfl) rfl (x := .string (lp ++ jn sp (([] : List (List T3)).map text))) (y_move rfl) ?_
        refine opsF_val gb idleB rfl (by rfl) rfl (x := .slice (some ⟨g6, 0, none⟩) ts.length c6) (y_move rfl) ?_
        refine opsF_val gb idleB rfl (by rfl) rfl (x := .int .i64 (([] : List (List T3)).length : Nat)) (y_move rfl) ?_
        refine opsF_val gb idleB rfl (by rfl) rfl (x := .pointer (some ⟨g6, 0 + ([] : List (List T3)).length * 1, none⟩)) (y_ix ty59 rfl rfl (by omega)) ?_
        refine opsF_rd gb (lensB2 _) rfl (by rfl) rfl (x := .slice pa t.length ca) (rd_cellq (by decide) hS6 hva (by simp) rfl) ?_
        refine opsF_call gb idleB rfl (by rfl) rfl (run_call (args := #[.slice pa t.length ca]) rfl Try.func56 (by rfl) rfl (by simp only [List.map_toArray, List.map_cons, List.map_nil]; rfl)) (IH (by omega) t h' pa ca (hts t htm) (by omega) (hwt t htm) (hRa.ext eL) hca) ?_
        rintro _ h3 ⟨e3, rfl⟩
        refine opsF_val gb idleB rfl (by rfl) rfl (x := .string (lp ++ jn sp ((([] : List (List T3)) ++ [t]).map text))) (by rw [pre_snoc0 lp sp t]; exact y_cat rfl rfl (by simp only [ByteArray.size_append]; have h1 : lp.size = 1 := rfl; have h2 : sp.size = 1 := rfl; omega)) ?_
        refine opsF_val gb idleB rfl (by rfl) rfl (x := .string (lp ++ jn sp ((([] : List (List T3)) ++ [t]).map text))) (y_assign rfl) ?_
        refine opsG_nil gb idleB ?_
        refine wpG_region gb idleB ?_
        refine opsF_val gb idleB rfl (by rfl) rfl (x := .int .i64 (([] : List (List T3)).length : Nat)) (y_move rfl) ?_
        refine opsF_val gb idleB rfl (by rfl) rfl (x := .int .i64 (([] : List (List T3)).length + 1 : Nat)) (y_add rfl rfl (by rw [IntKind.wrap_i64]; omega)) ?_
        refine opsF_val gb idleB rfl (by rfl) rfl (x := .int .i64 (([] : List (List T3)).length + 1 : Nat)) (y_assign rfl) ?_
        refine opsG_nil gb idleB ?_
        exact ⟨us.length, by rw [List.length_cons]; omega, ([] : List (List T3)) ++ [t], us, _, _, rfl, by rw [hst]; simp, fr_says _ ⟨rfl, rfl, by rw [List.length_append]; rfl, trivial⟩, rfl, eL.trans e3⟩
      · rw [decide_eq_true (show (0 : Int) < (done.length : Nat) by omega)]
        refine opsG_nil gb idleB ?_
        refine wpG_cond gb idleB (t := true) (by rw [fr_eval]; rfl) ?_
        refine wpG_region gb idleB ?_
        refine opsF_val gb idleB rfl (by rfl) rfl (x := .string (lp ++ jn sp (done.map text))) (y_move rfl) ?_
        refine opsF_val gb idleB rfl (by rfl) rfl (x := .string (lp ++ jn sp (done.map text) ++ sp)) (y_cat (t := sp) rfl rfl (by rw [ByteArray.size_append]; show 1 + _ + 1 ≤ _; omega)) ?_
        refine opsF_val gb idleB rfl (by rfl) rfl (x := .string (lp ++ jn sp (done.map text) ++ sp)) (y_assign rfl) ?_
        refine opsG_nil gb idleB ?_
        refine wpG_region gb idleB ?_
        refine opsF_val gb idleB rfl (by rfl) rfl (x := .string (lp ++ jn sp (done.map text) ++ sp)) (y_move rfl) ?_
        refine opsF_val gb idleB rfl (by rfl) rfl (x := .slice (some ⟨g6, 0, none⟩) ts.length c6) (y_move rfl) ?_
        refine opsF_val gb idleB rfl (by rfl) rfl (x := .int .i64 (done.length : Nat)) (y_move rfl) ?_
        refine opsF_val gb idleB rfl (by rfl) rfl (x := .pointer (some ⟨g6, 0 + done.length * 1, none⟩)) (y_ix ty59 rfl rfl (by omega)) ?_
        refine opsF_rd gb (lensB2 _) rfl (by rfl) rfl (x := .slice pa t.length ca) (rd_cellq (by decide) hS6 hva (by simp) rfl) ?_
        refine opsF_call gb idleB rfl (by rfl) rfl (run_call (args := #[.slice pa t.length ca]) rfl Try.func56 (by rfl) rfl (by simp only [List.map_toArray, List.map_cons, List.map_nil]; rfl)) (IH (by omega) t h' pa ca (hts t htm) (by omega) (hwt t htm) (hRa.ext eL) hca) ?_
        rintro _ h3 ⟨e3, rfl⟩
        refine opsF_val gb idleB rfl (by rfl) rfl (x := .string (lp ++ jn sp ((done ++ [t]).map text))) (by rw [pre_snoc lp sp hz t]; exact y_cat rfl rfl (by simp only [ByteArray.size_append]; have h1 : lp.size = 1 := rfl; have h2 : sp.size = 1 := rfl; omega)) ?_
        refine opsF_val gb idleB rfl (by rfl) rfl (x := .string (lp ++ jn sp ((done ++ [t]).map text))) (y_assign rfl) ?_
        refine opsG_nil gb idleB ?_
        refine wpG_region gb idleB ?_
        refine opsF_val gb idleB rfl (by rfl) rfl (x := .int .i64 (done.length : Nat)) (y_move rfl) ?_
        refine opsF_val gb idleB rfl (by rfl) rfl (x := .int .i64 (done.length + 1 : Nat)) (y_add rfl rfl (by rw [IntKind.wrap_i64]; omega)) ?_
        refine opsF_val gb idleB rfl (by rfl) rfl (x := .int .i64 (done.length + 1 : Nat)) (y_assign rfl) ?_
        refine opsG_nil gb idleB ?_
        exact ⟨us.length, by rw [List.length_cons]; omega, done ++ [t], us, _, _, rfl, by rw [hst]; simp, fr_says _ ⟨rfl, rfl, by rw [List.length_append]; rfl, trivial⟩, rfl, eL.trans e3⟩
  · rw [decide_eq_false hs]
    show OpsG _ _ _ _ _ _ (fr _ _ ((_, Value.bool true) :: _) _) _
    refine opsG_nil gb idleB ?_
    refine wpG_cond gb idleB (t := true) (by rw [fr_eval]; rfl) ?_
    refine wpG_seq gb idleB ?_
    refine wpG_region gb idleB ?_
    refine opsF_val gb idleB rfl (by rfl) rfl (x := .slice (some ⟨B, o, none⟩) (dn ++ [x]).length c) (y_move rfl) ?_
    refine opsF_val gb idleB rfl (by rfl) rfl (x := .slice (some ⟨B, o, none⟩) (dn ++ [x]).length c) (y_move rfl) ?_
    refine opsF_val gb idleB rfl (by rfl) rfl (x := .int .i64 ((dn ++ [x]).length : Nat)) (y_len_slice Try.underlying47 rfl) ?_
    refine opsF_val gb idleB rfl (by rfl) rfl (x := .int .i64 (dn.length : Nat)) (y_sub rfl rfl (by rw [IntKind.wrap_i64, hln]; omega)) ?_
    refine opsF_val gb idleB rfl (by rfl) rfl (x := .pointer (some ⟨B, o + dn.length * 3, none⟩)) (y_ix ty47 rfl rfl (by omega)) ?_
    refine opsF_val gb idleB rfl (by rfl) rfl (x := .pointer (some ⟨B, o + dn.length * 3 + 2, none⟩)) (y_fld (by decide) rfl) ?_
    refine opsF_rd gb (lensB2 _) rfl (by rfl) rfl (x := .string x.s) (rd_cellq (by decide) hS hgs (by omega) rfl) ?_
    refine opsF_val gb idleB rfl (by rfl) rfl (x := .string x.s) (y_assign rfl) ?_
    refine opsG_nil gb idleB ?_
    refine wpG_ret gb idleB ?_
    exact ⟨.inr rfl, rfl, _, resultsC_tmp (by rfl) _, Ext.refl _, (fr_ret (x := .string x.s) (by decide) rfl).trans (by rw [hword hs])⟩

set_option maxHeartbeats 4000000 in
theorem refPrint43 {main : Bool} (h : PH) (l : List T3) (p : Option Addr) (c : Nat) (hR : RSl h 3 (.slice p l.length c) l.length (flat l)) (hcap : l.length ≤ c) (hlen : l.length ≤ 2 ^ 20) (hw : ∀ x ∈ l, x.s.size ≤ 100) :
    CallsG Try.prog (GB main) 43 #[.slice p l.length c] h fun r h' => Ext h h' ∧ r = printed (tgo l []) := by
  refine callsG_of_wp (c := Try.f43.body.getD .skip) gb idleB Try.func43 rfl ?_
  rw [Try.ntmps43]
  rw [fr_of (n := 33) (by simp) [(0, .slice p l.length c)] ⟨by simp, trivial⟩]
  generalize (fun j => (#[Value.slice p l.length c] ++ Array.replicate (33 - #[Value.slice p l.length c].size) undef).getD j undef) = σ
  refine wpG_seq gb idleB ?_
  refine wpG_region gb idleB ?_
  refine opsF_val gb idleB rfl (by rfl) rfl (x := .string { data := #[] }) (y_assign rfl) ?_
  refine opsF_val gb idleB rfl (by rfl) rfl (x := .int .i64 0) (y_assign rfl) ?_
  refine opsG_nil gb idleB ?_
  refine wpG_seq gb idleB ?_
  refine wpG_region gb idleB ?_
  refine opsF_val gb idleB rfl (by rfl) rfl (x := .slice p l.length c) (y_move rfl) ?_
  refine opsF_call gb idleB rfl (by rfl) rfl (run_call (args := #[.slice p l.length c]) rfl Try.func38 (by rfl) rfl (by simp only [List.map_toArray, List.map_cons, List.map_nil]; rfl)) (refItems38 h l p c hR hcap hlen) ?_
  intro r h2 hpost
  rcases hpost.cases with ⟨htg, e1, rfl⟩ | ⟨ts, p6, c6, vs, htg, rfl, hc6, I, J, -⟩
  · refine opsF_val gb idleB rfl (by rfl) rfl (x := .tuple #[.slice none 0 0, .bool false]) (y_move rfl) ?_
    refine opsF_val gb idleB rfl (by rfl) rfl (x := .slice none 0 0) (y_extract rfl rfl) ?_
    refine opsF_val gb idleB rfl (by rfl) rfl (x := .bool false) (y_extract rfl rfl) ?_
    refine opsF_val gb idleB rfl (by rfl) rfl (x := .slice none 0 0) (y_assign rfl) ?_
    refine opsF_val gb idleB rfl (by rfl) rfl (x := .bool false) (y_assign rfl) ?_
    refine opsG_nil gb idleB ?_
    refine wpG_seq gb idleB ?_
    refine wpG_seq gb idleB ?_
    refine wpG_region gb idleB ?_
    refine opsF_val gb idleB rfl (by rfl) rfl (x := .bool false) (y_move rfl) ?_
    refine opsF_val gb idleB rfl (by rfl) rfl (x := .bool true) (y_not (b := false) rfl) ?_
    refine opsG_nil gb idleB ?_
    refine wpG_cond gb idleB (t := true) (by rw [fr_eval]; rfl) ?_
    refine wpG_seq gb idleB ?_
    refine wpG_region gb idleB ?_
    refine opsF_val gb idleB rfl (by rfl) rfl (x := .string { data := #[] }) (y_assign rfl) ?_
    refine opsF_val gb idleB rfl (by rfl) rfl (x := .int .i64 20) (y_assign rfl) ?_
    refine opsG_nil gb idleB ?_
    refine wpG_ret gb idleB ?_
    refine ⟨.inr rfl, rfl, _, resultsC_tmp2 results43 _, ?_⟩
    rw [fr_ret (by decide) rfl, fr_ret (by decide) rfl, htg]
    exact ⟨e1, rfl⟩
  · obtain ⟨hts, hfl⟩ := tgo_some l [] ts tgo_none htg
    rw [List.flatten_nil, List.nil_append] at hfl
    have hwt : ∀ u ∈ ts, ∀ y ∈ u, y.s.size ≤ 100 := fun u hu y hy => hw y (by rw [← hfl]; exact List.mem_flatten.2 ⟨u, hu, hy⟩)
    have hfl2 : ts.flatten.length = l.length := by rw [hfl]
    have htl := things_le hts
    have hne : ∀ x : ByteArray, nil0 ++ x = x := fun x => ByteArray.empty_append
    have hjn := jn_le (sep := nl) rfl (ts := ts) fun u hu => (hts u hu).size (hwt u hu)
    refine opsF_val gb idleB rfl (by rfl) rfl (x := .tuple #[.slice p6 ts.length c6, .bool true]) (y_move rfl) ?_
    refine opsF_val gb idleB rfl (by rfl) rfl (x := .slice p6 ts.length c6) (y_extract rfl rfl) ?_
    refine opsF_val gb idleB rfl (by rfl) rfl (x := .bool true) (y_extract rfl rfl) ?_
    refine opsF_val gb idleB rfl (by rfl) rfl (x := .slice p6 ts.length c6) (y_assign rfl) ?_
    refine opsF_val gb idleB rfl (by rfl) rfl (x := .bool true) (y_assign rfl) ?_
    refine opsG_nil gb idleB ?_
    refine wpG_seq gb idleB ?_
    refine wpG_seq gb idleB ?_
    refine wpG_region gb idleB ?_
    refine opsF_val gb idleB rfl (by rfl) rfl (x := .bool true) (y_move rfl) ?_
    refine opsF_val gb idleB rfl (by rfl) rfl (x := .bool false) (y_not (b := true) rfl) ?_
    refine opsG_nil gb idleB ?_
    refine wpG_cond gb idleB (t := false) (by rw [fr_eval]; rfl) ?_
    refine wpG_skip gb idleB ?_
    refine wpG_seq gb idleB ?_
    refine wpG_region gb idleB ?_
    refine opsF_val gb idleB rfl (by rfl) rfl (x := .string { data := #[] }) (y_assign rfl) ?_
    refine opsG_nil gb idleB ?_
    refine wpG_seq gb idleB ?_
    refine wpG_seq gb idleB ?_
    refine wpG_region gb idleB ?_
    refine opsF_val gb idleB rfl (by rfl) rfl (x := .int .i64 0) (y_assign rfl) ?_
    refine opsG_nil gb idleB ?_
    refine wpG_block gb idleB ?_
    refine wpG_loopN gb idleB (fun m a v => ∃ (done rest : List (List T3)) (τ : Nat → Value) (h' : PH), m = rest.length ∧ ts = done ++ rest ∧ a = fr 33 τ [(4, .slice p6 ts.length c6), (6, .string (nil0 ++ jn nl (done.map text))), (7, .int .i64 (done.length : Nat))] [] ∧ h' = v ∧ Ext h2 h') ts.length ⟨[], ts, _, _, rfl, rfl, fr_says _ ⟨rfl, rfl, rfl, trivial⟩, rfl, Ext.refl _⟩ ?_
    rintro m _ _ ⟨done, rest, τ, h', rfl, hst, rfl, rfl, eL⟩
    clear σ
    have hdn : done.length + rest.length = ts.length := by rw [hst, List.length_append]
    rcases rest with _ | ⟨t, us⟩
    · rw [List.append_nil] at hst
      subst hst
      refine wpG_seq gb idleB ?_
      refine wpG_seq gb idleB ?_
      refine wpG_region gb idleB ?_
      refine opsF_val gb idleB rfl (by rfl) rfl (x := .int .i64 (ts.length : Nat)) (y_move rfl) ?_
      refine opsF_val gb idleB rfl (by rfl) rfl (x := .slice p6 ts.length c6) (y_move rfl) ?_
      refine opsF_val gb idleB rfl (by rfl) rfl (x := .int .i64 (ts.length : Nat)) (y_len_slice Try.underlying59 rfl) ?_
      refine opsF_val gb idleB rfl (by rfl) rfl (x := .bool false) (y_lss rfl rfl (by simp)) ?_
      refine opsG_nil gb idleB ?_
      refine wpG_cond gb idleB (t := false) (by rw [fr_eval]; rfl) ?_
      refine wpG_exit gb idleB ?_
      refine wpG_seq gb idleB ?_
      refine wpG_region gb idleB ?_
      refine opsF_val gb idleB rfl (by rfl) rfl (x := .string (nil0 ++ jn nl (ts.map text))) (y_move rfl) ?_
      refine opsF_val gb idleB rfl (by rfl) rfl (x := .string (nil0 ++ jn nl (ts.map text))) (y_assign rfl) ?_
      refine opsF_val gb idleB rfl (by rfl) rfl (x := .int .i64 0) (y_assign rfl) ?_
      refine opsG_nil gb idleB ?_
      refine wpG_ret gb idleB ?_
      refine ⟨.inr rfl, rfl, _, resultsC_tmp2 results43 _, ?_⟩
      rw [fr_ret (by decide) rfl, fr_ret (by decide) rfl, htg]
      rw [hne]
      exact ⟨I.ext.trans eL, rfl⟩
    · simp only [List.length_cons] at hdn
      have htm : t ∈ ts := by rw [hst]; simp
      have htl2 := mem_le htm
      have hst3 := (hts t htm).size (hwt t htm)
      have hjd : (jn nl (done.map text)).size ≤ 104 * done.flatten.length := jn_le rfl fun u hu => (hts u (by rw [hst]; exact List.mem_append_left _ hu)).size (hwt u (by rw [hst]; exact List.mem_append_left _ hu))
      have hf2 : ts.flatten.length = done.flatten.length + t.length + us.flatten.length := by rw [hst]; exact flatten_two done us t
      obtain ⟨g6, rfl, hS60⟩ := I.own.pos (by omega)
      have hS6 := hS60.mono eL
      obtain ⟨pa, ca, hva, hca, hRa⟩ := RowsAt.get (hst ▸ J)
      refine wpG_seq gb idleB ?_
      refine wpG_seq gb idleB ?_
      refine wpG_region gb idleB ?_
      refine opsF_val gb idleB rfl (by rfl) rfl (x := .int .i64 (done.length : Nat)) (y_move rfl) ?_
      refine opsF_val gb idleB rfl (by rfl) rfl (x := .slice (some ⟨g6, 0, none⟩) ts.length c6) (y_move rfl) ?_
      refine opsF_val gb idleB rfl (by rfl) rfl (x := .int .i64 (ts.length : Nat)) (y_len_slice Try.underlying59 rfl) ?_
      refine opsF_val gb idleB rfl (by rfl) rfl (x := .bool true) (y_lss rfl rfl (by simp at hdn ⊢; omega)) ?_
      refine opsG_nil gb idleB ?_
      refine wpG_cond gb idleB (t := true) (by rw [fr_eval]; rfl) ?_
      refine wpG_skip gb idleB ?_
      refine wpG_seq gb idleB ?_
      refine wpG_block gb idleB ?_
      refine wpG_seq gb idleB ?_
      refine wpG_seq gb idleB ?_
      refine wpG_region gb idleB ?_
      refine opsF_val gb idleB rfl (by rfl) rfl (x := .int .i64 (done.length : Nat)) (y_move rfl) ?_
      refine opsF_val gb idleB rfl (by rfl) rfl (x := .bool (decide ((0 : Int) < (done.length : Nat)))) (y_gtr rfl rfl rfl) ?_
      rcases Nat.eq_zero_or_pos done.length with hz | hz
      · rw [decide_eq_false (show ¬ (0 : Int) < (done.length : Nat) by omega)]
        obtain rfl : done = [] := List.eq_nil_of_length_eq_zero hz
        refine opsG_nil gb idleB ?_
        refine wpG_cond gb idleB (t := false) (by rw [fr_eval]; rfl) ?_
        refine wpG_skip gb idleB ?_
        refine wpG_region gb idleB ?_
        refine opsF_val gb idleB rfl (by rfl) rfl (x := .string (nil0 ++ jn nl (([] : List (List T3)).map text))) (y_move rfl) ?_
        refine opsF_val gb idleB rfl (by rfl) rfl (x := .slice (some ⟨g6, 0, none⟩) ts.length c6) (y_move rfl) ?_
        refine opsF_val gb idleB rfl (by rfl) rfl (x := .int .i64 (([] : List (List T3)).length : Nat)) (y_move rfl) ?_
        refine opsF_val gb idleB rfl (by rfl) rfl (x := .pointer (some ⟨g6, 0 + ([] : List (List T3)).length * 1, none⟩)) (y_ix ty59 rfl rfl (by omega)) ?_
        refine opsF_rd gb (lensB2 _) rfl (by rfl) rfl (x := .slice pa t.length ca) (rd_cellq (by decide) hS6 hva (by simp) rfl) ?_
        refine opsF_call gb idleB rfl (by rfl) rfl (run_call (args := #[.slice pa t.length ca]) rfl Try.func56 (by rfl) rfl (by simp only [List.map_toArray, List.map_cons, List.map_nil]; rfl)) (thing56 l.length hlen t h' pa ca (hts t htm) (by omega) (hwt t htm) (hRa.ext eL) hca) ?_
        rintro _ h3 ⟨e3, rfl⟩
        refine opsF_val gb idleB rfl (by rfl) rfl (x := .string (nil0 ++ jn nl ((([] : List (List T3)) ++ [t]).map text))) (by rw [pre_snoc0 nil0 nl t]; exact y_cat rfl rfl (by simp only [ByteArray.size_append]; have h1 : nil0.size = 0 := rfl; have h2 : nl.size = 1 := rfl; omega)) ?_
        refine opsF_val gb idleB rfl (by rfl) rfl (x := .string (nil0 ++ jn nl ((([] : List (List T3)) ++ [t]).map text))) (y_assign rfl) ?_
        refine opsG_nil gb idleB ?_
        refine wpG_region gb idleB ?_
        refine opsF_val gb idleB rfl (by rfl) rfl (x := .int .i64 (([] : List (List T3)).length : Nat)) (y_move rfl) ?_
        refine opsF_val gb idleB rfl (by rfl) rfl (x := .int .i64 (([] : List (List T3)).length + 1 : Nat)) (y_add rfl rfl (by rw [IntKind.wrap_i64]; omega)) ?_
        refine opsF_val gb idleB rfl (by rfl) rfl (x := .int .i64 (([] : List (List T3)).length + 1 : Nat)) (y_assign rfl) ?_
        refine opsG_nil gb idleB ?_
        exact ⟨us.length, by rw [List.length_cons]; omega, ([] : List (List T3)) ++ [t], us, _, _, rfl, by rw [hst]; simp, fr_says _ ⟨rfl, rfl, by rw [List.length_append]; rfl, trivial⟩, rfl, eL.trans e3⟩
      · rw [decide_eq_true (show (0 : Int) < (done.length : Nat) by omega)]
        refine opsG_nil gb idleB ?_
        refine wpG_cond gb idleB (t := true) (by rw [fr_eval]; rfl) ?_
        refine wpG_region gb idleB ?_
        refine opsF_val gb idleB rfl (by rfl) rfl (x := .string (nil0 ++ jn nl (done.map text))) (y_move rfl) ?_
        refine opsF_val gb idleB rfl (by rfl) rfl (x := .string (nil0 ++ jn nl (done.map text) ++ nl)) (y_cat (t := nl) rfl rfl (by rw [ByteArray.size_append]; show 0 + _ + 1 ≤ _; omega)) ?_
        refine opsF_val gb idleB rfl (by rfl) rfl (x := .string (nil0 ++ jn nl (done.map text) ++ nl)) (y_assign rfl) ?_
        refine opsG_nil gb idleB ?_
        refine wpG_region gb idleB ?_
        refine opsF_val gb idleB rfl (by rfl) rfl (x := .string (nil0 ++ jn nl (done.map text) ++ nl)) (y_move rfl) ?_
        refine opsF_val gb idleB rfl (by rfl) rfl (x := .slice (some ⟨g6, 0, none⟩) ts.length c6) (y_move rfl) ?_
        refine opsF_val gb idleB rfl (by rfl) rfl (x := .int .i64 (done.length : Nat)) (y_move rfl) ?_
        refine opsF_val gb idleB rfl (by rfl) rfl (x := .pointer (some ⟨g6, 0 + done.length * 1, none⟩)) (y_ix ty59 rfl rfl (by omega)) ?_
        refine opsF_rd gb (lensB2 _) rfl (by rfl) rfl (x := .slice pa t.length ca) (rd_cellq (by decide) hS6 hva (by simp) rfl) ?_
        refine opsF_call gb idleB rfl (by rfl) rfl (run_call (args := #[.slice pa t.length ca]) rfl Try.func56 (by rfl) rfl (by simp only [List.map_toArray, List.map_cons, List.map_nil]; rfl)) (thing56 l.length hlen t h' pa ca (hts t htm) (by omega) (hwt t htm) (hRa.ext eL) hca) ?_
        rintro _ h3 ⟨e3, rfl⟩
        refine opsF_val gb idleB rfl (by rfl) rfl (x := .string (nil0 ++ jn nl ((done ++ [t]).map text))) (by rw [pre_snoc nil0 nl hz t]; exact y_cat rfl rfl (by simp only [ByteArray.size_append]; have h1 : nil0.size = 0 := rfl; have h2 : nl.size = 1 := rfl; omega)) ?_
        refine opsF_val gb idleB rfl (by rfl) rfl (x := .string (nil0 ++ jn nl ((done ++ [t]).map text))) (y_assign rfl) ?_
        refine opsG_nil gb idleB ?_
        refine wpG_region gb idleB ?_
        refine opsF_val gb idleB rfl (by rfl) rfl (x := .int .i64 (done.length : Nat)) (y_move rfl) ?_
        refine opsF_val gb idleB rfl (by rfl) rfl (x := .int .i64 (done.length + 1 : Nat)) (y_add rfl rfl (by rw [IntKind.wrap_i64]; omega)) ?_
        refine opsF_val gb idleB rfl (by rfl) rfl (x := .int .i64 (done.length + 1 : Nat)) (y_assign rfl) ?_
        refine opsG_nil gb idleB ?_
        exact ⟨us.length, by rw [List.length_cons]; omega, done ++ [t], us, _, _, rfl, by rw [hst]; simp, fr_says _ ⟨rfl, rfl, by rw [List.length_append]; rfl, trivial⟩, rfl, eL.trans e3⟩

end Go.Proofs.Ytfaadjmglboaoaa
