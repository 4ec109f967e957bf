/-
  lexer.scan: which rule is the first.
-/
import Derived.Test.YtfaadjmglboaoaaScan1
namespace Go.Proofs.Ytfaadjmglboaoaa
open Go.Conc Go.RowKit

/-- Ways into a text. -/
def cFst : Code → Code
  | .seq x _ => x
  | .block _ c => c
  | .loop c => c
  | .scope c => c
  | c => c
def cSnd : Code → Code
  | .seq _ y => y
  | c => c
noncomputable def text49 : Code := Try.f49.body.getD .skip
/-- The loop's text. -/
noncomputable def loop49 : Code := cFst (cFst (cSnd (cSnd (cSnd (cSnd (cFst text49))))))
noncomputable def round49 : Code := cFst (cSnd loop49)
noncomputable def find49 : Code := cFst (cSnd round49)
noncomputable def rest49 : Code := cSnd (cSnd round49)

def SaysAll (σ : Nat → Value) : List (Nat × Value) → Prop
  | [] => True
  | (d, x) :: l => σ d = x ∧ SaysAll σ l

theorem putAll_self {τ : Nat → Value} : ∀ {l : List (Nat × Value)}, SaysAll τ l → putAll τ l = τ
  | [], _ => rfl
  | (d, x) :: l, ⟨h1, h2⟩ => by
    funext j
    show (bif Nat.beq d j then x else putAll τ l j) = τ j
    rw [putAll_self h2]
    cases h : Nat.beq d j
    · rfl
    · rw [← Nat.eq_of_beq_eq_true h, h1]; rfl
/-- What is known of a frame, said anew. -/
theorem fr_says {n : Nat} {σ : Nat → Value} {l : List (Nat × Value)} {ds : List Deferred} (l' : List (Nat × Value)) (h : SaysAll (putAll σ l) l') : fr n σ l ds = fr n (putAll σ l) l' ds := by
  show Act.mk _ _ = Act.mk _ _
  rw [putAll_self h]
theorem fr_says' {n : Nat} {σ : Nat → Value} {l : List (Nat × Value)} {ds : List Deferred} (l' : List (Nat × Value)) (h : SaysAll (putAll σ l) l') : ∃ τ, fr n σ l ds = fr n τ l' ds := ⟨_, fr_says l' h⟩

theorem Box.put {h : PH} {B N : Nat} {x a b c d : Value} {t : TypeId} {f : Nat × Nat} {o : Obj} (hB : Box h B x) (hN : h N = some (.cells #[a, b, c, d] t f)) : Box (put h N o) B x := by
  obtain ⟨t', f', hb⟩ := hB
  refine ⟨t', f', ?_⟩
  unfold Go.Proofs.Ytfaadjmglboaoaa.put
  rw [if_neg]
  · exact hb
  · rintro rfl
    rw [hN] at hb
    have := congrArg (fun o => match o with | some (Obj.cells c _ _) => c.size | _ => 0) hb
    simp at this
theorem Rules.put {h : PH} {R b1 b2 b3 b4 w1 w2 w3 N : Nat} {a b c d : Value} {t : TypeId} {f : Nat × Nat} {o : Obj} (r : Rules h R b1 b2 b3 b4 w1 w2 w3) (hN : h N = some (.cells #[a, b, c, d] t f)) : Rules (put h N o) R b1 b2 b3 b4 w1 w2 w3 := by
  refine ⟨r.blank.put hN, r.opens.put hN, r.closes.put hN, r.semi.put hN, r.words.put hN, r.blanks.put hN, r.lines.put hN, ?_⟩
  unfold Go.Proofs.Ytfaadjmglboaoaa.put
  rw [if_neg]
  · exact r.row
  · rintro rfl
    have := hN.symm.trans r.row
    have := congrArg (fun o => match o with | some (Obj.cells c _ _) => c.size | _ => 0) this
    simp at this

theorem run_dyn1 {ρ : Operand → Value} {d : Option Tmp} {ty : TypeId} {pos : String} {af : Array Edge} {gu : Option (Nat × Bool)} {x y : Operand} {f : FuncId} {cap : Array Value} {fu : Func} {ats : Array TypeId} {z : Value} (hx : ρ x = .func (.func f) #[] cap)
    (hf : Try.prog.funcs[f]? = some fu) (hname : (fu.name == "runtime.NumGoroutine") = false) (hb : fu.body.isNone = false) (hy : ρ y = z) (w : World) :
    (execOp ρ ⟨d, .call { callee := .value x, args := #[y], argTypes := ats }, ty, pos, af, gu⟩).run Try.prog w = .ok (.enter f (#[z] ++ cap)) w ∧ ∀ es, (execOp ρ ⟨d, .call { callee := .value x, args := #[y], argTypes := ats }, ty, pos, af, gu⟩).events Try.prog w es = es := by
  subst hy
  have h1 : ¬ fu.name = "runtime.NumGoroutine" := by simpa using hname
  have h2 : ¬ fu.body = none := by cases hx : fu.body <;> simp_all
  unfold execOp
  constructor
  · simp [resolve, Deferred.ofValue, invoke, callFunc, hf, h1, h2, hx]
  · intro es
    simp [resolve, Deferred.ofValue, invoke, callFunc, hf, h1, h2, hx]

/-- What is found at a place. -/
def Found (s : ByteArray) (i : Nat) (hi : i < s.size) (k : Int) (t : ByteArray) (e : Int) : Prop :=
  (∃ j n, j < 5 ∧ (∀ k, k < j → wish k (s[i].toNat : Int) = false) ∧ wish j (s[i].toNat : Int) = true ∧ goesTo j (s.extract i s.size) n ∧ k = kindAt j ∧ t = s.extract i (i + n) ∧ e = 0) ∨
  ((∀ k, k < 5 → wish k (s[i].toNat : Int) = false) ∧ k = 0 ∧ t = { data := #[] } ∧ e = 60)

set_option maxHeartbeats 4000000 in
theorem scan_find {co cq : Nat} {z1 z2 : Value} {σ : Nat → Value} {ds : List Deferred} {h : PH} {xs : List Value} {R b1 b2 b3 b4 w1 w2 w3 N i : Nat} {s : ByteArray} (hs : (s.size : Int) ≤ 2 ^ 62) (hi : i < s.size) (HR : Rules h R b1 b2 b3 b4 w1 w2 w3)
    (hN : h N = some (.cells #[.int .i64 0, .int .i64 (i : Nat), .string { data := #[] }, .int .i64 60] 79)) {Q : Exit → Act → PH × List Value → Prop}
    (hq : ∀ τ h' k t e, Rules h' R b1 b2 b3 b4 w1 w2 w3 → h' N = some (.cells #[.int .i64 k, .int .i64 (i : Nat), .string t, .int .i64 e] 79) → Found s i hi k t e → Q .normal (fr 76 τ [(0, .string s), (1, .chan (some co)), (2, .chan (some cq)), (6, .slice (some ⟨R, 0, none⟩) 5 5), (7, .int .i64 (i : Nat)), (8, .pointer (some ⟨N, 0, none⟩))] ds) (h', xs)) :
    WpG (GS Try.prog co cq z1 z2) true 49 find49 Q (fr 76 σ [(0, .string s), (1, .chan (some co)), (2, .chan (some cq)), (6, .slice (some ⟨R, 0, none⟩) 5 5), (7, .int .i64 (i : Nat)), (8, .pointer (some ⟨N, 0, none⟩))] ds) (h, xs) := by
  show WpG _ _ _ (.seq (.region 5 _ _) (.block 2 (.loop _))) _ _ _
  refine wpG_seq gs idleS ?_
  refine wpG_region gs idleS ?_
  refine opsF_val gs idleS rfl (by rfl) rfl (x := .slice (some ⟨R, 0, none⟩) 5 5) (y_move rfl) ?_
  refine opsF_val gs idleS rfl (by rfl) rfl (x := .int .i64 (5 : Nat)) (y_len_rules rfl) ?_
  refine opsF_val gs idleS rfl (by rfl) rfl (x := .int .i64 (0 : Nat)) (y_move rfl) ?_
  refine opsG_nil gs idleS ?_
  refine wpG_block gs idleS ?_
  refine wpG_loopN gs idleS (fun m a v => ∃ (j : Nat) (τ : Nat → Value) (h' : PH), m = 5 - j ∧ j ≤ 5 ∧ a = fr 76 τ [(0, .string s), (1, .chan (some co)), (2, .chan (some cq)), (6, .slice (some ⟨R, 0, none⟩) 5 5), (7, .int .i64 (i : Nat)), (8, .pointer (some ⟨N, 0, none⟩)), (21, .slice (some ⟨R, 0, none⟩) 5 5), (22, .int .i64 (5 : Nat)), (23, .int .i64 (j : Nat))] ds ∧ v = (h', xs) ∧ Rules h' R b1 b2 b3 b4 w1 w2 w3 ∧ h' N = some (.cells #[.int .i64 0, .int .i64 (i : Nat), .string { data := #[] }, .int .i64 60] 79) ∧ ∀ k, k < j → wish k (s[i].toNat : Int) = false) 5 ⟨0, _, h, rfl, by omega, fr_says _ ⟨rfl, rfl, rfl, rfl, rfl, rfl, rfl, rfl, rfl, trivial⟩, rfl, HR, hN, fun k hk => by omega⟩ ?_
  rintro m _ _ ⟨j, τ, h, rfl, hj5, rfl, rfl, HR, hN, h0⟩
  clear σ
  show WpG _ _ _ (.seq (.region 6 _ _) (.seq (.cond _ _ _) (.seq (.block 3 (.seq (.region 7 _ _) (.seq (.region 8 _ _) (.cond _ (.seq (.region 9 _ _) (.seq (.region 10 _ _) _)) _)))) (.region 11 _ _)))) _ _ _
  by_cases hj : j < 5
  rotate_left
  refine wpG_seq gs idleS ?_
  refine wpG_region gs idleS ?_
  refine opsF_val gs idleS rfl (by rfl) rfl (x := .bool false) (y_lss rfl rfl (by simp; omega)) ?_
  refine opsG_nil gs idleS ?_
  refine wpG_seq gs idleS ?_
  refine wpG_cond gs idleS (t := false) (by rw [fr_eval]; rfl) ?_
  refine wpG_exit gs idleS ?_
  obtain ⟨τ2, e2⟩ := fr_says' (n := 76) (σ := τ) (l := [(24, .bool false), (0, .string s), (1, .chan (some co)), (2, .chan (some cq)), (6, .slice (some ⟨R, 0, none⟩) 5 5), (7, .int .i64 (i : Nat)), (8, .pointer (some ⟨N, 0, none⟩)), (21, .slice (some ⟨R, 0, none⟩) 5 5), (22, .int .i64 (5 : Nat)), (23, .int .i64 (j : Nat))]) (ds := ds) [(0, .string s), (1, .chan (some co)), (2, .chan (some cq)), (6, .slice (some ⟨R, 0, none⟩) 5 5), (7, .int .i64 (i : Nat)), (8, .pointer (some ⟨N, 0, none⟩))] ⟨rfl, rfl, rfl, rfl, rfl, rfl, trivial⟩
  show Q .normal _ _
  rw [e2]
  exact hq _ _ _ _ _ HR hN (.inr ⟨fun k hk => h0 k (by omega), rfl, rfl, rfl⟩)
  obtain ⟨c, hc, hcs, hat⟩ := HR.at (main := false)
  obtain ⟨beg, goes, c0, c1, c2, ⟨f1, cap1, ⟨rfl, fu1, hf1, hn1, hb1⟩, hbeg⟩, ⟨f2, cap2, ⟨rfl, fu2, hf2, hn2, hb2⟩, hgoes⟩, -, -⟩ := hat j hj
  refine wpG_seq gs idleS ?_
  refine wpG_region gs idleS ?_
  refine opsF_val gs idleS rfl (by rfl) rfl (x := .bool true) (y_lss rfl rfl (by simp; omega)) ?_
  refine opsG_nil gs idleS ?_
  refine wpG_seq gs idleS ?_
  refine wpG_cond gs idleS (t := true) (by rw [fr_eval]; rfl) ?_
  refine wpG_skip gs idleS ?_
  refine wpG_seq gs idleS ?_
  refine wpG_block gs idleS ?_
  refine wpG_seq gs idleS ?_
  refine wpG_region gs idleS ?_
  refine opsF_val gs idleS rfl (by rfl) rfl (x := .pointer (some ⟨R, j * 3, none⟩)) (y_indexAddr rfl rfl hj) ?_
  refine opsF_rd gs (lensS _ _) rfl (by rfl) rfl (x := .agg #[.func (.func f1) #[] cap1, .func (.func f2) #[] cap2, .int .i64 (kindAt j)]) (rd_load101 rfl hc c0 c1 c2) ?_
  refine opsF_new gs (lensS _ _) rfl (by rfl) rfl (.cells #[.nilFunc, .nilFunc, .int .i64 0] 101) (fun M => .pointer (some ⟨M, 0, none⟩)) (fun w => ⟨eq_of_K fun K hK => by go_simp; exact hK, by simp [Instr.alloc, newVar, newRow, go_sem]⟩) fun M hM => ?_
  refine opsF_store gs (lensS _ _) rfl (by rfl) rfl (wr_store rfl rfl (put_self _ _ _) (by kernel_rfl) rfl (by simp [Value.oneCell'])) ?_
  refine opsG_nil gs idleS ?_
  have hNM : N ≠ M := by rintro rfl; rw [hM] at hN; cases hN
  generalize hh2 : put (put h M _) M _ = h2
  have hext : Ext h h2 := fun r o hr => by
    have hrM : r ≠ M := by rintro rfl; rw [hM] at hr; cases hr
    rw [← hh2]; unfold Go.Proofs.Ytfaadjmglboaoaa.put; rw [if_neg hrM, if_neg hrM]; exact hr
  have hM2 : h2 M = some (.cells #[.func (.func f1) #[] cap1, .func (.func f2) #[] cap2, .int .i64 (kindAt j)] 101) := by rw [← hh2]; exact put_self _ _ _
  clear hh2
  have HR2 := HR.ext hext
  have hN2 := hext _ _ hN
  obtain ⟨c', hc', -, hat'⟩ := HR2.at (main := false)
  have ec : c' = c := by have := (hext _ _ hc).symm.trans hc'; simpa using this.symm
  obtain ⟨beg', goes', d0, d1, -, ⟨f1', cap1', ⟨rfl, -⟩, hbeg2⟩, ⟨f2', cap2', ⟨rfl, -⟩, hgoes2⟩, -, -⟩ := hat' j hj
  obtain ⟨rfl, rfl⟩ : f1 = f1' ∧ cap1 = cap1' := by have := (ec ▸ c0 : c'[j * 3]? = _).symm.trans d0; simpa using this
  obtain ⟨rfl, rfl⟩ : f2 = f2' ∧ cap2 = cap2' := by have := (ec ▸ c1 : c'[j * 3 + 1]? = _).symm.trans d1; simpa using this
  clear hbeg hgoes hat hat' d0 d1 ec hc'
  refine wpG_seq gs idleS ?_
  refine wpG_region_held (S := fun u => u = (h2, xs)) gs idleS drawsS (by kernel_rfl) ?_
  show AnyV _ _ _ _ .any _ _ _ 6 (Array.replicate 6 false) _ _
  refine anyF_rd (lensS _ _) (i := 0) rfl (by first | kernel_rfl | decide +kernel) (by first | kernel_rfl | decide +kernel) (by first | kernel_rfl | decide +kernel) (by rfl) rfl (x := .pointer (some ⟨M, 0, none⟩)) (Ylds.rds (y_fieldAddr101 rfl (by decide))) ?_
  refine anyF_rd (lensS _ _) (i := 1) rfl (by first | kernel_rfl | decide +kernel) (by first | kernel_rfl | decide +kernel) (by first | kernel_rfl | decide +kernel) (by rfl) rfl (x := .func (.func f1) #[] cap1) (rd_load (by decide) rfl hM2 rfl) ?_
  refine anyF_rd (lensS _ _) (i := 2) rfl (by first | kernel_rfl | decide +kernel) (by first | kernel_rfl | decide +kernel) (by first | kernel_rfl | decide +kernel) (by rfl) rfl (x := .string s) (Ylds.rds (y_move rfl)) ?_
  refine anyF_rd (lensS _ _) (i := 3) rfl (by first | kernel_rfl | decide +kernel) (by first | kernel_rfl | decide +kernel) (by first | kernel_rfl | decide +kernel) (by rfl) rfl (x := .int .i64 (i : Nat)) (Ylds.rds (y_move rfl)) ?_
  refine anyF_rd (lensS _ _) (i := 4) rfl (by first | kernel_rfl | decide +kernel) (by first | kernel_rfl | decide +kernel) (by first | kernel_rfl | decide +kernel) (by rfl) rfl (x := .int .u8 (s[i].toNat : Int)) (Ylds.rds (y_index rfl rfl hi)) ?_
  refine anyF_call (i := 5) rfl (by first | kernel_rfl | decide +kernel) (by rfl) rfl (run_dyn1 rfl hf1 hn1 hb1 rfl) (callsS_own (hbeg2 (s[i].toNat : Int))) ?_
  rintro _ ⟨h3, xs3⟩ ⟨hx3, rfl, hv3⟩
  simp only at hx3 hv3
  subst hx3 hv3
  refine ⟨rfl, ?_⟩
  refine anyV_done (by first | kernel_rfl | decide +kernel) ?_ _
  refine wpG_cond gs idleS (t := wish j (s[i].toNat : Int)) (by rw [fr_eval]; rfl) ?_
  cases hw : wish j (s[i].toNat : Int)
  · refine wpG_skip gs idleS ?_
    refine wpG_region gs idleS ?_
    refine opsF_val gs idleS rfl (by rfl) rfl (x := .int .i64 (j + 1 : Nat)) (y_add rfl rfl (by rw [IntKind.wrap_i64]; omega)) ?_
    refine opsF_val gs idleS rfl (by rfl) rfl (x := .int .i64 (j + 1 : Nat)) (y_move rfl) ?_
    refine opsG_nil gs idleS ?_
    exact ⟨5 - (j + 1), by omega, j + 1, _, h3, rfl, by omega, fr_says _ ⟨rfl, rfl, rfl, rfl, rfl, rfl, rfl, rfl, rfl, trivial⟩, rfl, HR2, hN2, fun k hk => by
      rcases Nat.lt_or_ge k j with h | h
      · exact h0 k h
      · obtain rfl : k = j := by omega
        exact hw⟩
  show WpG _ _ _ (.seq (.region 9 _ _) (.seq (.region 10 _ _) _)) _ _ _
  refine wpG_seq gs idleS ?_
  refine wpG_region_held (S := fun u => u = (h3, xs3)) gs idleS drawsS (by kernel_rfl) ?_
  show AnyV _ _ _ _ .any _ _ _ 7 (Array.replicate 7 false) _ _
  refine anyF_rd (lensS _ _) (i := 0) rfl (by first | kernel_rfl | decide +kernel) (by first | kernel_rfl | decide +kernel) (by first | kernel_rfl | decide +kernel) (by rfl) rfl (x := .pointer (some ⟨M, 1, none⟩)) (Ylds.rds (y_fieldAddr101 rfl (by decide))) ?_
  refine anyF_rd (lensS _ _) (i := 1) rfl (by first | kernel_rfl | decide +kernel) (by first | kernel_rfl | decide +kernel) (by first | kernel_rfl | decide +kernel) (by rfl) rfl (x := .func (.func f2) #[] cap2) (rd_load (by decide) rfl hM2 rfl) ?_
  refine anyF_rd (lensS _ _) (i := 2) rfl (by first | kernel_rfl | decide +kernel) (by first | kernel_rfl | decide +kernel) (by first | kernel_rfl | decide +kernel) (by rfl) rfl (x := .string s) (Ylds.rds (y_move rfl)) ?_
  refine anyF_rd (lensS _ _) (i := 3) rfl (by first | kernel_rfl | decide +kernel) (by first | kernel_rfl | decide +kernel) (by first | kernel_rfl | decide +kernel) (by rfl) rfl (x := .int .i64 (i : Nat)) (Ylds.rds (y_move rfl)) ?_
  refine anyF_rd (lensS _ _) (i := 4) rfl (by first | kernel_rfl | decide +kernel) (by first | kernel_rfl | decide +kernel) (by first | kernel_rfl | decide +kernel) (by rfl) rfl (x := .string (s.extract i s.size)) (Ylds.rds (y_slice_lo rfl rfl (by omega))) ?_
  refine anyF_call (i := 5) rfl (by first | kernel_rfl | decide +kernel) (by rfl) rfl (run_dyn1 rfl hf2 hn2 hb2 rfl) (callsS_own (hgoes2 (s.extract i s.size) (by simp; omega))) ?_
  rintro _ ⟨h4, xs4⟩ ⟨hx4, ⟨n, rfl, hgn⟩, hv4⟩
  simp only at hx4 hv4
  subst hx4 hv4
  refine ⟨rfl, ?_⟩
  refine anyF_rd (lensS _ _) (i := 6) rfl (by first | kernel_rfl | decide +kernel) (by first | kernel_rfl | decide +kernel) (by first | kernel_rfl | decide +kernel) (by rfl) rfl (x := .int .i64 (n : Nat)) (Ylds.rds (y_assign rfl)) ?_
  refine anyV_done (by first | kernel_rfl | decide +kernel) ?_ _
  have hpos := goesTo.pos hgn hi hw
  refine wpG_seq gs idleS ?_
  refine wpG_region_held (S := fun u => ∃ h5, u = (h5, xs4) ∧ h5 M = some (.cells #[.func (.func f1) #[] cap1, .func (.func f2) #[] cap2, .int .i64 (kindAt j)] 101)) gs idleS drawsS (by kernel_rfl) ?_
  show AnyV _ _ _ _ .any _ _ _ 12 (Array.replicate 12 false) _ _
  refine anyF_rdS ⟨h4, rfl, hM2⟩ (i := 0) rfl (by first | kernel_rfl | decide +kernel) (by first | kernel_rfl | decide +kernel) (by first | kernel_rfl | decide +kernel) (by rfl) rfl (x := .pointer (some ⟨M, 2, none⟩)) (fun u ⟨h5, hu, hM5⟩ => hu ▸ ⟨h5, _, lensS h5 xs4, Ylds.rds (y_fieldAddr101 rfl (by decide))⟩) ?_
  refine anyF_rdS ⟨h4, rfl, hM2⟩ (i := 1) rfl (by first | kernel_rfl | decide +kernel) (by first | kernel_rfl | decide +kernel) (by first | kernel_rfl | decide +kernel) (by rfl) rfl (x := .int .i64 (kindAt j)) (fun u ⟨h5, hu, hM5⟩ => hu ▸ ⟨h5, _, lensS h5 xs4, rd_load (by decide) rfl hM5 rfl⟩) ?_
  refine anyF_rdS ⟨h4, rfl, hM2⟩ (i := 2) rfl (by first | kernel_rfl | decide +kernel) (by first | kernel_rfl | decide +kernel) (by first | kernel_rfl | decide +kernel) (by rfl) rfl (x := .int .i64 (i : Nat)) (fun u ⟨h5, hu, hM5⟩ => hu ▸ ⟨h5, _, lensS h5 xs4, Ylds.rds (y_move rfl)⟩) ?_
  refine anyF_rdS ⟨h4, rfl, hM2⟩ (i := 3) rfl (by first | kernel_rfl | decide +kernel) (by first | kernel_rfl | decide +kernel) (by first | kernel_rfl | decide +kernel) (by rfl) rfl (x := .string s) (fun u ⟨h5, hu, hM5⟩ => hu ▸ ⟨h5, _, lensS h5 xs4, Ylds.rds (y_move rfl)⟩) ?_
  refine anyF_rdS ⟨h4, rfl, hM2⟩ (i := 4) rfl (by first | kernel_rfl | decide +kernel) (by first | kernel_rfl | decide +kernel) (by first | kernel_rfl | decide +kernel) (by rfl) rfl (x := .int .i64 (i : Nat)) (fun u ⟨h5, hu, hM5⟩ => hu ▸ ⟨h5, _, lensS h5 xs4, Ylds.rds (y_move rfl)⟩) ?_
  refine anyF_rdS ⟨h4, rfl, hM2⟩ (i := 5) rfl (by first | kernel_rfl | decide +kernel) (by first | kernel_rfl | decide +kernel) (by first | kernel_rfl | decide +kernel) (by rfl) rfl (x := .int .i64 (i : Nat)) (fun u ⟨h5, hu, hM5⟩ => hu ▸ ⟨h5, _, lensS h5 xs4, Ylds.rds (y_move rfl)⟩) ?_
  refine anyF_rdS ⟨h4, rfl, hM2⟩ (i := 6) rfl (by first | kernel_rfl | decide +kernel) (by first | kernel_rfl | decide +kernel) (by first | kernel_rfl | decide +kernel) (by rfl) rfl (x := .int .i64 (n : Nat)) (fun u ⟨h5, hu, hM5⟩ => hu ▸ ⟨h5, _, lensS h5 xs4, Ylds.rds (y_move rfl)⟩) ?_
  refine anyF_rdS ⟨h4, rfl, hM2⟩ (i := 7) rfl (by first | kernel_rfl | decide +kernel) (by first | kernel_rfl | decide +kernel) (by first | kernel_rfl | decide +kernel) (by rfl) rfl (x := .int .i64 (i + n : Nat)) (fun u ⟨h5, hu, hM5⟩ => hu ▸ ⟨h5, _, lensS h5 xs4, Ylds.rds (y_add rfl rfl (by rw [IntKind.wrap_i64]; omega))⟩) ?_
  refine anyF_rdS ⟨h4, rfl, hM2⟩ (i := 8) rfl (by first | kernel_rfl | decide +kernel) (by first | kernel_rfl | decide +kernel) (by first | kernel_rfl | decide +kernel) (by rfl) rfl (x := .string (s.extract i (i + n))) (fun u ⟨h5, hu, hM5⟩ => hu ▸ ⟨h5, _, lensS h5 xs4, Ylds.rds (y_slice rfl rfl rfl (by omega) (by omega))⟩) ?_
  refine anyF_rdS ⟨h4, rfl, hM2⟩ (i := 9) rfl (by first | kernel_rfl | decide +kernel) (by first | kernel_rfl | decide +kernel) (by first | kernel_rfl | decide +kernel) (by rfl) rfl (x := .agg #[.int .i64 (kindAt j), .int .i64 (i : Nat), .string (s.extract i (i + n))]) (fun u ⟨h5, hu, hM5⟩ => hu ▸ ⟨h5, _, lensS h5 xs4, Ylds.rds (y_build40 rfl rfl rfl)⟩) ?_
  refine anyF_rdS ⟨h4, rfl, hM2⟩ (i := 10) rfl (by first | kernel_rfl | decide +kernel) (by first | kernel_rfl | decide +kernel) (by first | kernel_rfl | decide +kernel) (by rfl) rfl (x := .agg #[.int .i64 (kindAt j), .int .i64 (i : Nat), .string (s.extract i (i + n)), .int .i64 0]) (fun u ⟨h5, hu, hM5⟩ => hu ▸ ⟨h5, _, lensS h5 xs4, Ylds.rds (y_build79 rfl rfl)⟩) ?_
  refine anyF_store (lensS _ _) (i := 11) rfl (by first | kernel_rfl | decide +kernel) (by rfl) rfl (wr_store rfl rfl hN2 (by kernel_rfl) rfl (by simp [Value.oneCell'])) ⟨⟨_, rfl, ?_⟩, ?_⟩
  · unfold Go.Proofs.Ytfaadjmglboaoaa.put; rw [if_neg (Ne.symm hNM)]; exact hM2
  refine anyV_done (by first | kernel_rfl | decide +kernel) ?_ _
  refine wpG_exit gs idleS ?_
  show Q .normal _ _
  refine Eq.subst (motive := fun a => Q .normal a _) (fr_says [(0, .string s), (1, .chan (some co)), (2, .chan (some cq)), (6, .slice (some ⟨R, 0, none⟩) 5 5), (7, .int .i64 (i : Nat)), (8, .pointer (some ⟨N, 0, none⟩))] ⟨rfl, rfl, rfl, rfl, rfl, rfl, trivial⟩).symm ?_
  exact hq _ _ _ _ _ (HR2.put hN2) (put_self _ _ _) (.inl ⟨j, n, hj, h0, hw, hgn, rfl, rfl, rfl⟩)
end Go.Proofs.Ytfaadjmglboaoaa
