/-
  lexer.scan: its rules by number; what it sends.
-/
import Derived.Test.YtfaadjmglboaoaaSig
namespace Go.Proofs.Ytfaadjmglboaoaa
open Go.Conc Go.RowKit

/-- An item: a token and an error. -/
def item (kind pos : Int) (text : ByteArray) (e : Int) : Value := .agg #[.int .i64 kind, .int .i64 pos, .string text, .int .i64 e]

/-- One of some bytes. -/
def oneOf (l : Array UInt8) (c : Int) : Bool := decide (0 ≤ idxByte { data := l } c)
def isBlank (c : Int) : Bool := oneOf #[9, 10, 13, 32] c
def isOpen (c : Int) : Bool := oneOf #[40] c
def isClose (c : Int) : Bool := oneOf #[41] c
def isSemi (c : Int) : Bool := oneOf #[59] c
def inLine (c : Int) : Bool := c != 10

/-- The rules by number: what begins one, how far it goes, its kind. -/
def wish : Nat → Int → Bool
  | 0 => wordOf
  | 1 => isBlank
  | 2 => isOpen
  | 3 => isClose
  | _ => isSemi
def goesTo : Nat → ByteArray → Nat → Prop
  | 0, s, n => IsRun wordOf s n
  | 1, s, n => IsRun isBlank s n
  | 2, _, n => n = 1
  | 3, _, n => n = 1
  | _, s, n => IsRun inLine s n
def kindAt : Nat → Int
  | 0 => 1
  | 1 => 0
  | 2 => 2
  | 3 => 3
  | _ => 0

/-- What is sent from a place on. -/
inductive Items (s : ByteArray) : Nat → List Value → Prop
  | done {i : Nat} (h : s.size ≤ i) : Items s i []
  | item {i j n : Nat} {l : List Value} (h : i < s.size) (hj : j < 5) (h0 : ∀ k, k < j → wish k (s[i].toNat : Int) = false) (h1 : wish j (s[i].toNat : Int) = true) (hg : goesTo j (s.extract i s.size) n) (hk : kindAt j ≠ 0) (ht : Items s (i + n) l) : Items s i (item (kindAt j) i (s.extract i (i + n)) 0 :: l)
  | skip {i j n : Nat} {l : List Value} (h : i < s.size) (hj : j < 5) (h0 : ∀ k, k < j → wish k (s[i].toNat : Int) = false) (h1 : wish j (s[i].toNat : Int) = true) (hg : goesTo j (s.extract i s.size) n) (hk : kindAt j = 0) (ht : Items s (i + n) l) : Items s i l
  | bad {i : Nat} (h : i < s.size) (h0 : ∀ k, k < 5 → wish k (s[i].toNat : Int) = false) : Items s i [Go.Proofs.Ytfaadjmglboaoaa.item 0 i { data := #[] } 60]

theorem IsRun.unique {f : Int → Bool} {s : ByteArray} {n m : Nat} (h : IsRun f s n) (g : IsRun f s m) : n = m := by
  rcases Nat.lt_trichotomy n m with hlt | rfl | hlt
  · have hs : n < s.size := Nat.lt_of_lt_of_le hlt g.le
    have := g.all n hs hlt
    rw [h.stop hs] at this; cases this
  · rfl
  · have hs : m < s.size := Nat.lt_of_lt_of_le hlt h.le
    have := h.all m hs hlt
    rw [g.stop hs] at this; cases this

theorem goesTo.unique {j : Nat} {s : ByteArray} {n m : Nat} (h : goesTo j s n) (g : goesTo j s m) : n = m := by
  match j with
  | 0 => exact IsRun.unique h g
  | 1 => exact IsRun.unique h g
  | 2 => exact (show n = 1 from h).trans (show m = 1 from g).symm
  | 3 => exact (show n = 1 from h).trans (show m = 1 from g).symm
  | _ + 4 => exact IsRun.unique h g

theorem first_unique {c : Int} {j k : Nat} (hj0 : ∀ i, i < j → wish i c = false) (hj1 : wish j c = true) (hk0 : ∀ i, i < k → wish i c = false) (hk1 : wish k c = true) : j = k := by
  rcases Nat.lt_trichotomy j k with h | rfl | h
  · rw [hk0 j h] at hj1; cases hj1
  · rfl
  · rw [hj0 k h] at hk1; cases hk1

section inv
variable {s : ByteArray} {i j n : Nat} {l : List Value}
theorem Items.inv_done (H : Items s i l) (h : s.size ≤ i) : l = [] := by
  cases H with
  | done => rfl
  | item h' => omega
  | skip h' => omega
  | bad h' => omega
theorem Items.inv_item (H : Items s i l) (h : i < s.size) (hj : j < 5) (h0 : ∀ k, k < j → wish k (s[i].toNat : Int) = false) (h1 : wish j (s[i].toNat : Int) = true) (hg : goesTo j (s.extract i s.size) n) (hk : kindAt j ≠ 0) : ∃ l', l = Go.Proofs.Ytfaadjmglboaoaa.item (kindAt j) i (s.extract i (i + n)) 0 :: l' ∧ Items s (i + n) l' := by
  cases H with
  | done h' => omega
  | item h' hj' h0' h1' hg' hk' ht =>
    obtain rfl := first_unique h0' h1' h0 h1
    obtain rfl := goesTo.unique hg' hg
    exact ⟨_, rfl, ht⟩
  | skip h' hj' h0' h1' hg' hk' ht =>
    obtain rfl := first_unique h0' h1' h0 h1
    exact absurd hk' hk
  | bad h' h0' => rw [h0' j hj] at h1; cases h1
theorem Items.inv_skip (H : Items s i l) (h : i < s.size) (hj : j < 5) (h0 : ∀ k, k < j → wish k (s[i].toNat : Int) = false) (h1 : wish j (s[i].toNat : Int) = true) (hg : goesTo j (s.extract i s.size) n) (hk : kindAt j = 0) : Items s (i + n) l := by
  cases H with
  | done h' => omega
  | item h' hj' h0' h1' hg' hk' ht =>
    obtain rfl := first_unique h0' h1' h0 h1
    exact absurd hk hk'
  | skip h' hj' h0' h1' hg' hk' ht =>
    obtain rfl := first_unique h0' h1' h0 h1
    obtain rfl := goesTo.unique hg' hg
    exact ht
  | bad h' h0' => rw [h0' j hj] at h1; cases h1
theorem Items.inv_bad (H : Items s i l) (h : i < s.size) (h0 : ∀ k, k < 5 → wish k (s[i].toNat : Int) = false) : l = [Go.Proofs.Ytfaadjmglboaoaa.item 0 i { data := #[] } 60] := by
  cases H with
  | done h' => omega
  | item h' hj' h0' h1' => rw [h0 _ hj'] at h1'; cases h1'
  | skip h' hj' h0' h1' => rw [h0 _ hj'] at h1'; cases h1'
  | bad => rfl
end inv

theorem IsRun.pos {f : Int → Bool} {s : ByteArray} {n : Nat} (h : IsRun f s n) (h0 : 0 < s.size) (hf : f (s[0].toNat : Int) = true) : 0 < n := by
  rcases Nat.eq_zero_or_pos n with rfl | hp
  · rw [h.stop h0] at hf; cases hf
  · exact hp

theorem semi_inLine {c : Int} (h : isSemi c = true) : inLine c = true := by
  unfold inLine
  by_cases hc : c = 10
  · subst hc
    revert h
    decide +kernel
  · simpa using hc

theorem goesTo.pos {j i : Nat} {s : ByteArray} {n : Nat} (h : goesTo j (s.extract i s.size) n) (hi : i < s.size) (h1 : wish j (s[i].toNat : Int) = true) : 0 < n ∧ i + n ≤ s.size := by
  have hsz : (s.extract i s.size).size = s.size - i := by simp
  have h00 : 0 < (s.extract i s.size).size := by omega
  have hg : (s.extract i s.size)[0] = s[i] := by simp [ByteArray.getElem_extract]
  match j with
  | 0 => exact ⟨IsRun.pos h h00 (by rw [hg]; exact h1), by have := IsRun.le h; omega⟩
  | 1 => exact ⟨IsRun.pos h h00 (by rw [hg]; exact h1), by have := IsRun.le h; omega⟩
  | 2 => obtain rfl : n = 1 := h; omega
  | 3 => obtain rfl : n = 1 := h; omega
  | _ + 4 => exact ⟨IsRun.pos h h00 (by rw [hg]; exact semi_inLine h1), by have := IsRun.le h; omega⟩

/-- A function value that may be called. -/
def Callable (g : Value) (cap : Array Value) (f : FuncId) : Prop := g = .func (.func f) #[] cap ∧ ∃ fu, Try.prog.funcs[f]? = some fu ∧ (fu.name == "runtime.NumGoroutine") = false ∧ fu.body.isNone = false

/-- What a rule's two functions do. -/
def BegOk (main : Bool) (h : PH) (g : Value) (j : Nat) : Prop := ∃ f cap, Callable g cap f ∧ ∀ c : Int, CallsG Try.prog (GB main) f (#[.int .u8 c] ++ cap) h fun r h' => r = .bool (wish j c) ∧ h' = h
def GoesOk (main : Bool) (h : PH) (g : Value) (j : Nat) : Prop := ∃ f cap, Callable g cap f ∧ ∀ s : ByteArray, (s.size : Int) ≤ 2 ^ 62 → CallsG Try.prog (GB main) f (#[.string s] ++ cap) h fun r h' => (∃ n : Nat, r = .int .i64 n ∧ goesTo j s n) ∧ h' = h

theorem callable48 : Callable (.func (.func 48) #[] #[]) #[] 48 := ⟨rfl, _, Try.func48, by rfl, rfl⟩
theorem callable76 (cap : Array Value) : Callable (.func (.func 76) #[] cap) cap 76 := ⟨rfl, _, Try.func76, by rfl, rfl⟩
theorem callable78 (cap : Array Value) : Callable (.func (.func 78) #[] cap) cap 78 := ⟨rfl, _, Try.func78, by rfl, rfl⟩
theorem callable70 : Callable (.func (.func 70) #[] #[]) #[] 70 := ⟨rfl, _, Try.func70, by rfl, rfl⟩

set_option maxHeartbeats 1000000 in
theorem noLine_b' {main : Bool} (h : PH) (c : Int) : CallsG Try.prog (GB main) 71 #[.int .u8 c] h fun r h' => r = .bool (inLine c) ∧ h' = h := by
  refine callsG_of_wp gb idleB Try.func71 rfl ?_
  rw [Try.ntmps71]
  repeat first
    | (refine opsG_pure gb idleB rfl (by rfl) fun w hw => ⟨fun K hK => ?_, by simp [go_sem]⟩; go_simp; refine hK _ ?_; clear hK K; try walk_nrm)
    | refine wpG_region gb idleB ?_ | refine wpG_seq gb idleB ?_ | refine wpG_block gb idleB ?_ | refine wpG_skip gb idleB ?_ | refine wpG_label gb idleB ?_ | refine wpG_ret gb idleB ?_ | refine wpG_exit gb idleB ?_ | refine opsG_nil gb idleB ?_
  exact ⟨.inr rfl, rfl, _, resultsC_tmp (by rfl) _, by simp [inLine]⟩

section rules
variable {main : Bool} {h : PH} {R b1 b2 b3 b4 w1 w2 w3 : Nat}

theorem begOk_is {B : Nat} {l : Array UInt8} {j : Nat} (hB : Box h B (.string { data := l })) (hw : ∀ c, wish j c = oneOf l c) : BegOk main h (.func (.func 76) #[] #[.pointer (some ⟨B, 0, none⟩)]) j :=
  ⟨_, _, callable76 _, fun c => (is_b h B _ c hB).mono fun r v ⟨h1, h2⟩ => ⟨by rw [h1, hw]; rfl, h2⟩⟩

/-- The rules one by one. -/
theorem Rules.at (r : Rules h R b1 b2 b3 b4 w1 w2 w3) : ∃ c, h R = some (.cells c 101) ∧ c.size = 15 ∧ ∀ j, j < 5 → ∃ beg goes, c[j * 3]? = some beg ∧ c[j * 3 + 1]? = some goes ∧ c[j * 3 + 2]? = some (.int .i64 (kindAt j)) ∧ BegOk main h beg j ∧ GoesOk main h goes j ∧ beg.oneCell' = true ∧ goes.oneCell' = true := by
  refine ⟨_, r.row, rfl, fun j hj => ?_⟩
  match j with
  | 0 => exact ⟨_, _, rfl, rfl, rfl, ⟨_, _, callable48, fun c => (word_b h c)⟩, ⟨_, _, callable78 _, fun s hs => (while_b h w1 s 48 #[] wordOf r.words hs Try.func48 (by rfl) rfl fun c => word_b h c)⟩, rfl, rfl⟩
  | 1 => exact ⟨_, _, rfl, rfl, rfl, begOk_is r.blank fun _ => rfl, ⟨_, _, callable78 _, fun s hs => (while_b h w2 s 76 _ isBlank r.blanks hs Try.func76 (by rfl) rfl fun c => is_b h b1 _ c r.blank)⟩, rfl, rfl⟩
  | 2 => exact ⟨_, _, rfl, rfl, rfl, begOk_is r.opens fun _ => rfl, ⟨_, _, callable70, fun s _ => (one_b h (.string s)).mono fun r v ⟨h1, h2⟩ => ⟨⟨1, h1, rfl⟩, h2⟩⟩, rfl, rfl⟩
  | 3 => exact ⟨_, _, rfl, rfl, rfl, begOk_is r.closes fun _ => rfl, ⟨_, _, callable70, fun s _ => (one_b h (.string s)).mono fun r v ⟨h1, h2⟩ => ⟨⟨1, h1, rfl⟩, h2⟩⟩, rfl, rfl⟩
  | 4 => exact ⟨_, _, rfl, rfl, rfl, begOk_is r.semi fun _ => rfl, ⟨_, _, callable78 _, fun s hs => (while_b h w3 s 71 #[] inLine r.lines hs Try.func71 (by rfl) rfl fun c => noLine_b' h c)⟩, rfl, rfl⟩
end rules

section loop
variable {V : Type} {P : Program} {main : Bool} {X : View V} {GL : (Goroutine → V → Prop) → Prop} {kd : Bool} {fn : FuncId} {Q : Exit → Act → V → Prop} {a : Act} {v : V}
/-- A loop whose rounds are bounded by a number that grows less. -/
theorem wpG_loopN (hGL : ∀ E, GL E → Closed P main X E) (I : Idle X) {c : Code} (J : Nat → Act → V → Prop) (N : Nat) (h₀ : J N a v) (round : ∀ m a v, J m a v → WpG GL kd fn c (thenV (fun a' v' => ∃ m', m' < m ∧ J m' a' v') Q) a v) : WpG GL kd fn (.loop c) Q a v := by
  intro E hE b k cs hb hk hc
  have key : ∀ N m a v, m < N → J m a v → E (G (b.at a (.code c :: .inLoop c :: k)) cs) v := by
    intro N
    induction N with
    | zero => intro m a v h; omega
    | succ N ih =>
      intro m a v hm hJ
      refine round m a v hJ E hE b (.inLoop c :: k) cs hb hk fun e a' v' q => ?_
      cases e with
      | normal => obtain ⟨m', hm', q⟩ := q; exact ctl hGL I hE rfl (fun _ => stepG_inLoop) (ih m' a' v' (by omega) q)
      | exit id => exact (hc _ _ _ q).push rfl (by simp)
      | ret => exact (hc _ _ _ q).push (x := .inLoop c) rfl (by simp)
      | goto l => exact hc _ _ _ q
      | panic ch => exact hc _ _ _ q
      | outgrown => exact hc _ _ _ q
  exact ctl hGL I hE rfl (fun _ => stepG_loop) (key _ N a v (Nat.lt_succ_self _) h₀)
end loop
end Go.Proofs.Ytfaadjmglboaoaa
