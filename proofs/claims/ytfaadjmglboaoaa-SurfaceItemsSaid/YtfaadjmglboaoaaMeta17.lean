/-
  THE RULES OF A WALK in whatever view: those of the lone walk, rule for rule.
-/
import Derived.Test.YtfaadjmglboaoaaMeta16
import Derived.Conc.CompanyWords
namespace Go.Proofs.Ytfaadjmglboaoaa
open Go.Conc

/-- A step that turns nothing and lists nothing is allowed. -/
def Idle {V : Type} (X : View V) : Prop := ∀ v w, X.Holds v w → X.St v w w #[] v

theorem idleA {P : Program} : Idle (viewA P) := fun v w ⟨hc, τ, d, e⟩ => by
  subst e
  exact ⟨by simp, hc.tap τ d, τ, d, rfl⟩
theorem idleB : Idle viewB := fun _ _ h => stB_idle h

/-- The frame of a call, or of a deferred call (a goroutine's first). -/
def kindOf : Bool → CallKind
  | false => .normal
  | true => .deferred

section
variable {V : Type} (P : Program) (main : Bool) (X : View V) (GL : (Goroutine → V → Prop) → Prop)

def WpG (kd : Bool) (fn : FuncId) (c : Code) (Q : Exit → Act → V → Prop) (a : Act) (v : V) : Prop :=
  ∀ E, GL E → ∀ (b : Frame) (k : List Item) (cs : List Frame), b.fn = fn → b.kind = kindOf kd → (∀ e a' v', Q e a' v' → Then E b k cs e a' v') → E (G (b.at a (.code c :: k)) cs) v

def OpsG (kd : Bool) (fn : FuncId) (ops : Array Oper) (todo : List Nat) (Q : Exit → Act → V → Prop) (a : Act) (v : V) : Prop :=
  ∀ E, GL E → ∀ (b : Frame) (k : List Item) (cs : List Frame), b.fn = fn → b.kind = kindOf kd → (∀ e a' v', Q e a' v' → Then E b k cs e a' v') → E (G (b.at a (.inRegion ops todo :: k)) cs) v

def CallsG (f : FuncId) (args : Array Value) (v : V) (Post : Value → V → Prop) : Prop :=
  ∀ E, GL E → ∀ (c : Frame) (cs : List Frame), (∀ r v', Post r v' → E (G (c.finish r) cs) v') → E (G (Frame.enter P f args .normal) (c :: cs)) v
end

def thenV {V : Type} (N : Act → V → Prop) (Q : Exit → Act → V → Prop) : Exit → Act → V → Prop
  | .normal, a, v => N a v
  | e, a, v => Q e a v
def inBlockV {V : Type} (id : Nat) (Q : Exit → Act → V → Prop) : Exit → Act → V → Prop
  | .exit id', a, v => if id' = id then Q .normal a v else Q (.exit id') a v
  | e, a, v => Q e a v

section rules
variable {V : Type} {P : Program} {main : Bool} {X : View V} {GL : (Goroutine → V → Prop) → Prop} {kd : Bool} {fn : FuncId} {Q : Exit → Act → V → Prop} {a : Act} {v : V}

/-- A step of control. -/
theorem ctl (hGL : ∀ E, GL E → Closed P main X E) (I : Idle X) {E : Goroutine → V → Prop} (hE : GL E) {g g' : Goroutine} {v : V} (hrun : g.status = .running) (h : ∀ w, stepG P main g w = .go g' w #[]) (hn : E g' v) : E g v :=
  hGL E hE g v hrun fun w hw => ⟨g', w, #[], v, h w, I v w hw, hn⟩

theorem Then.push {E : Goroutine → V → Prop} {b : Frame} {x : Item} {k : List Item} {cs : List Frame} {e : Exit} {a : Act} {v : V} (hx : x.plain = true) (he : e ≠ .normal) (h : Then E b k cs e a v) : Then E b (x :: k) cs e a v := by
  cases e with
  | normal => exact absurd rfl he
  | exit id => obtain ⟨k', hk, hg⟩ := h; exact ⟨k', by cases x <;> simp_all [exitTo, Item.plain], hg⟩
  | ret => exact h
  | goto l => exact h
  | panic ch => exact h
  | outgrown => exact h


theorem wpG_skip (hGL : ∀ E, GL E → Closed P main X E) (I : Idle X) (h : Q .normal a v) : WpG GL kd fn .skip Q a v := fun _ hE _ _ _ _ _ hc => ctl hGL I hE rfl (fun _ => stepG_skip) (hc _ _ _ h)
theorem wpG_label (hGL : ∀ E, GL E → Closed P main X E) (I : Idle X) {l : Nat} (h : Q .normal a v) : WpG GL kd fn (.label l) Q a v := fun _ hE _ _ _ _ _ hc => ctl hGL I hE rfl (fun _ => stepG_label) (hc _ _ _ h)
theorem wpG_ret (hGL : ∀ E, GL E → Closed P main X E) (I : Idle X) (h : Q .ret a v) : WpG GL kd fn .ret Q a v := fun _ hE _ _ _ _ _ hc => ctl hGL I hE rfl (fun _ => stepG_ret') (hc _ _ _ h _)
theorem wpG_exit (hGL : ∀ E, GL E → Closed P main X E) (I : Idle X) {id : Nat} (h : Q (.exit id) a v) : WpG GL kd fn (.exit id) Q a v := fun _ hE _ _ _ _ _ hc => by
  obtain ⟨k', hk', hg⟩ := hc _ _ _ h
  exact ctl hGL I hE rfl (fun _ => stepG_exit hk') hg
theorem wpG_seq (hGL : ∀ E, GL E → Closed P main X E) (I : Idle X) {x y : Code} (h : WpG GL kd fn x (thenV (fun a' v' => WpG GL kd fn y Q a' v') Q) a v) : WpG GL kd fn (.seq x y) Q a v := fun E hE b k cs hb hk hc =>
  ctl hGL I hE rfl (fun _ => stepG_seq) (h E hE b (.code y :: k) cs hb hk fun e a' v' q => by
    cases e with
    | normal => exact q E hE b k cs hb hk hc
    | exit id => exact (hc _ _ _ q).push rfl (by simp)
    | ret => exact (hc _ _ _ q).push (x := .code y) rfl (by simp)
    | goto l => exact hc _ _ _ q
    | panic ch => exact hc _ _ _ q
    | outgrown => exact hc _ _ _ q)
theorem wpG_cond (hGL : ∀ E, GL E → Closed P main X E) (I : Idle X) {c : Operand} {x y : Code} {t : Bool} (hc : a.eval c = .bool t) (h : WpG GL kd fn (if t then x else y) Q a v) : WpG GL kd fn (.cond c x y) Q a v := fun E hE b k cs hb hk hq =>
  ctl hGL I hE rfl (fun _ => stepG_cond hc) (h E hE b k cs hb hk hq)
theorem wpG_block (hGL : ∀ E, GL E → Closed P main X E) (I : Idle X) {id : Nat} {c : Code} (h : WpG GL kd fn c (inBlockV id Q) a v) : WpG GL kd fn (.block id c) Q a v := fun E hE b k cs hb hk hc =>
  ctl hGL I hE rfl (fun _ => stepG_block) (h E hE b (.inBlock id :: k) cs hb hk fun e a' v' q => by
    cases e with
    | normal => exact ctl hGL I hE rfl (fun _ => stepG_inBlock) (hc _ _ _ q)
    | exit id' =>
      by_cases hid : id' = id
      · simp only [inBlockV, hid, if_true] at q
        exact ⟨k, by simp [exitTo, hid], hc _ _ _ q⟩
      · simp only [inBlockV, hid, if_false] at q
        obtain ⟨k', hk', hg⟩ := hc _ _ _ q
        have : (id == id') = false := by simp; exact fun h => hid h.symm
        exact ⟨k', by simp [exitTo, this, hk'], hg⟩
    | ret => exact fun todo => hc _ _ _ q todo
    | goto l => exact hc _ _ _ q
    | panic ch => exact hc _ _ _ q
    | outgrown => exact hc _ _ _ q)
theorem wpG_loop (hGL : ∀ E, GL E → Closed P main X E) (I : Idle X) {c : Code} (J : Act → V → Prop) (μ : Act → V → Nat) (h₀ : J a v) (round : ∀ a v, J a v → WpG GL kd fn c (thenV (fun a' v' => J a' v' ∧ μ a' v' < μ a v) Q) a v) : WpG GL kd fn (.loop c) Q a v := by
  intro E hE b k cs hb hk hc
  have key : ∀ N a v, μ a v < N → J a v → E (G (b.at a (.code c :: .inLoop c :: k)) cs) v := by
    intro N
    induction N with
    | zero => intro a v h; omega
    | succ N ih =>
      intro a v hμ hI
      refine round a v hI E hE b (.inLoop c :: k) cs hb hk fun e a' v' q => ?_
      cases e with
      | normal => exact ctl hGL I hE rfl (fun _ => stepG_inLoop) (ih a' v' (by have := q.2; omega) q.1)
      | exit id => exact (hc _ _ _ q).push rfl (by simp)
      | ret => exact (hc _ _ _ q).push (x := .inLoop c) rfl (by simp)
      | goto l => exact hc _ _ _ q
      | panic ch => exact hc _ _ _ q
      | outgrown => exact hc _ _ _ q
  exact ctl hGL I hE rfl (fun _ => stepG_loop) (key _ a v (Nat.lt_succ_self _) h₀)
theorem wpG_region (hGL : ∀ E, GL E → Closed P main X E) (I : Idle X) {id : Nat} {ops : Array Oper} (h : OpsG GL kd fn ops (List.range ops.size) Q a v) : WpG GL kd fn (.region id ops false) Q a v := fun E hE b k cs hb hk hc => ctl hGL I hE rfl (fun _ => stepG_region) (h E hE b k cs hb hk hc)
theorem opsG_nil (hGL : ∀ E, GL E → Closed P main X E) (I : Idle X) {ops : Array Oper} (h : Q .normal a v) : OpsG GL kd fn ops [] Q a v := fun _ hE _ _ _ _ _ hc => ctl hGL I hE rfl (fun _ => stepG_region_end) (hc _ _ _ h)
theorem opsG_unwanted (hGL : ∀ E, GL E → Closed P main X E) (I : Idle X) {ops : Array Oper} {i : Nat} {rest : List Nat} {o : Oper} (ho : ops[i]? = some o) (hw : Region.wanted o (yielded ops a.tmps) = false) (h : OpsG GL kd fn ops rest Q (a.put o.dst undef) v) : OpsG GL kd fn ops (i :: rest) Q a v :=
  fun E hE b k cs hb hk hc => ctl hGL I hE rfl (fun _ => stepG_unwanted ho hw) (h E hE b k cs hb hk hc)
/-- ONE OPERATION. -/
theorem opsG_cons (hGL : ∀ E, GL E → Closed P main X E) {ops : Array Oper} {i : Nat} {rest : List Nat} {o : Oper} (ho : ops[i]? = some o) (hw : Region.wanted o (yielded ops a.tmps) = true)
    (h : ∀ w, X.Holds v w → uponK o a (fun a' w' => ∃ v', X.St v w w' (listed P fn a o w) v' ∧ OpsG GL kd fn ops rest Q a' v') ((execOp a.eval o).run P w)) : OpsG GL kd fn ops (i :: rest) Q a v := by
  intro E hE b k cs hb hk hc
  refine hGL E hE _ v rfl fun w hw' => ?_
  have hke : b.kind ≠ .early := by rw [hk]; cases kd <;> simp [kindOf]
  have := h w hw'
  subst hb
  generalize hr : (execOp a.eval o).run P w = r at this
  match r, this with
  | .ok (.value x) w', ⟨v', hst, h'⟩ => exact ⟨_, w', _, v', stepG_value ho hw hke hr, hst, h' E hE b k cs rfl hk hc⟩
  | .ok .skip w', ⟨v', hst, h'⟩ => exact ⟨_, w', _, v', stepG_none ho hw hke hr, hst, h' E hE b k cs rfl hk hc⟩
/-- A CALL. -/
theorem opsG_call (hGL : ∀ E, GL E → Closed P main X E) (I : Idle X) {ops : Array Oper} {i : Nat} {rest : List Nat} {o : Oper} {f : FuncId} {args : Array Value} {Post : Value → V → Prop} (ho : ops[i]? = some o) (hw : Region.wanted o (yielded ops a.tmps) = true)
    (hr : ∀ w, X.Holds v w → (execOp a.eval o).run P w = .ok (.enter f args) w ∧ listed P fn a o w = #[]) (hcall : CallsG P GL f args v Post) (h : ∀ r v', Post r v' → OpsG GL kd fn ops rest Q (a.put o.dst r) v') : OpsG GL kd fn ops (i :: rest) Q a v := by
  intro E hE b k cs hb hk hc
  have hke : b.kind ≠ .early := by rw [hk]; cases kd <;> simp [kindOf]
  have hfin : ∀ r, (b.at a (.inRegion ops (i :: rest) :: k)).finish r = b.at (a.put o.dst r) (.inRegion ops rest :: k) := fun r => by rw [Frame.finish_at, ho]; rfl
  refine hGL E hE _ v rfl fun w hw' => ⟨_, w, #[], v, ?_, I v w hw', hcall E hE (b.at a (.inRegion ops (i :: rest) :: k)) cs fun r v' q => ?_⟩
  · rw [stepG_enter ho hw hke (hr w hw').1, hb, (hr w hw').2]
  · rw [hfin]
    exact h r v' q E hE b k cs hb hk hc
/-- A callee's contract, out of its text. -/
theorem callsG_of_wp (hGL : ∀ E, GL E → Closed P main X E) (I : Idle X) {f : FuncId} {fn : Func} {c : Code} {args : Array Value} {Post : Value → V → Prop} (hf : P.funcs[f]? = some fn) (hb : fn.body = some c)
    (h : WpG GL false f c (fun e a' v' => (e = .normal ∨ e = .ret) ∧ a'.defers = [] ∧ ∃ r, ResultsC P fn a'.tmps r ∧ Post r v') { tmps := args ++ Array.replicate (fn.ntmps - args.size) undef, defers := [] } v) : CallsG P GL f args v Post := by
  intro E hE c0 cs hc
  rw [enter_at args hf hb]
  have hleave : ∀ (a' : Act) (v' : V) (todo : List Item), (a'.defers = [] ∧ ∃ r, ResultsC P fn a'.tmps r ∧ Post r v') → E (G { (base f).at a' todo with mode := .returning } (c0 :: cs)) v' := by
    rintro a' v' todo ⟨hd, r, hr, hp⟩
    exact ctl hGL I hE rfl (fun w => stepG_leave (b := base f) rfl hd hf (hr w).1 (hr w).2) (hc r v' hp)
  refine h E hE (base f) [] (c0 :: cs) rfl rfl fun e a' v' ⟨he, q⟩ => ?_
  rcases he with rfl | rfl
  · exact ctl hGL I hE rfl (fun _ => stepG_end) (hleave a' v' [] q)
  · exact fun todo => hleave a' v' todo q
theorem WpG.mono {c : Code} {Q' : Exit → Act → V → Prop} (h : WpG GL kd fn c Q a v) (hq : ∀ e a v, Q e a v → Q' e a v) : WpG GL kd fn c Q' a v := fun E hE b k cs hb hk hc => h E hE b k cs hb hk fun e a' v' q => hc e a' v' (hq e a' v' q)
theorem WpG.goal {GL' : (Goroutine → V → Prop) → Prop} {c : Code} (h : WpG GL kd fn c Q a v) (hg : ∀ E, GL' E → GL E) : WpG GL' kd fn c Q a v := fun E hE => h E (hg E hE)
theorem CallsG.mono {f : FuncId} {args : Array Value} {Post Post' : Value → V → Prop} (h : CallsG P GL f args v Post) (hp : ∀ r v, Post r v → Post' r v) : CallsG P GL f args v Post' := fun E hE c cs hc => h E hE c cs fun r v' q => hc r v' (hp r v' q)
theorem CallsG.goal {GL' : (Goroutine → V → Prop) → Prop} {f : FuncId} {args : Array Value} {Post : Value → V → Prop} (h : CallsG P GL f args v Post) (hg : ∀ E, GL' E → GL E) : CallsG P GL' f args v Post := fun E hE => h E (hg E hE)
theorem wpG_of {c : Code} (h : Wp P main X fn c Q a v) : WpG (Closed P main X) false fn c Q a v := h
theorem callsG_of {f : FuncId} {args : Array Value} {Post : Value → V → Prop} (h : CallsV P main X f args v Post) : CallsG P (Closed P main X) f args v Post := h
theorem wpG_seq_mid (hGL : ∀ E, GL E → Closed P main X E) (I : Idle X) {x y : Code} (M : Act → V → Prop) (hx : WpG GL kd fn x (thenV M Q) a v) (hy : ∀ a' v', M a' v' → WpG GL kd fn y Q a' v') : WpG GL kd fn (.seq x y) Q a v :=
  wpG_seq hGL I (hx.mono fun e a' v' q => by cases e <;> first | exact hy _ _ q | exact q)
end rules
end Go.Proofs.Ytfaadjmglboaoaa
