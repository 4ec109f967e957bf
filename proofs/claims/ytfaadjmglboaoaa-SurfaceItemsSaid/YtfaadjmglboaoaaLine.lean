/-
  lexer.Line, strings.Count, strings.LastIndexByte: what they answer.
-/
import Derived.Test.YtfaadjmglboaoaaOps
namespace Go.Proofs.Ytfaadjmglboaoaa
open Go.Conc Go.RowKit

/-- Where a byte stands last among the first ones; -1: nowhere. -/
def lastIx (s : ByteArray) (c : Int) : Nat → Int
  | 0 => -1
  | m + 1 => if ((s[m]!.toNat : Int) == c) = true then (m : Nat) else lastIx s c m
/-- How often it stands among them. -/
def cntIx (s : ByteArray) (c : Int) : Nat → Nat
  | 0 => 0
  | m + 1 => cntIx s c m + if ((s[m]!.toNat : Int) == c) = true then 1 else 0

theorem getI {s : ByteArray} {i : Nat} (h : i < s.size) : s[i]! = s[i] := by rw [getElem!_pos s i h]
theorem lastIx_bound (s : ByteArray) (c : Int) : ∀ m, -1 ≤ lastIx s c m ∧ lastIx s c m < m
  | 0 => ⟨by simp [lastIx], by simp [lastIx]⟩
  | m + 1 => by
    have := lastIx_bound s c m
    unfold lastIx
    split <;> omega
theorem cntIx_le (s : ByteArray) (c : Int) : ∀ m, cntIx s c m ≤ m
  | 0 => by simp [cntIx]
  | m + 1 => by
    have := cntIx_le s c m
    unfold cntIx
    split <;> omega

/-- The last frame's slots. -/
theorem fr_ret {n t : Nat} {σ : Nat → Value} {l : List (Nat × Value)} {ds : List Deferred} {x : Value} (h : (t < n)) (hx : putAll σ l t = x) : (fr n σ l ds).tmps.getD t undef = x := by rw [fr_getD h]; exact hx

set_option maxHeartbeats 1000000 in
theorem last64 {main : Bool} (h : PH) (s : ByteArray) (c : Int) (hs : (s.size : Int) ≤ 2 ^ 62) : CallsG Try.prog (GB main) 64 #[.string s, .int .u8 c] h fun r h' => r = .int .i64 (lastIx s c s.size) ∧ h' = h := by
  refine callsG_of_wp (c := Try.f64.body.getD .skip) gb idleB Try.func64 rfl ?_
  rw [Try.ntmps64]
  rw [fr_of (n := 19) (by simp) [(0, .string s), (1, .int .u8 c)] ⟨by simp, by simp, trivial⟩]
  generalize (fun j => (#[Value.string s, Value.int .u8 c] ++ Array.replicate (19 - #[Value.string s, Value.int .u8 c].size) undef).getD j undef) = σ
  refine wpG_seq gb idleB ?_
  refine wpG_region gb idleB ?_
  refine opsF_val gb idleB rfl (by rfl) rfl (x := .int .i64 0) (y_assign rfl) ?_
  refine opsG_nil gb idleB ?_
  refine wpG_seq gb idleB ?_
  refine wpG_seq gb idleB ?_
  refine wpG_region gb idleB ?_
  refine opsF_val gb idleB rfl (by rfl) rfl (x := .string s) (y_move rfl) ?_
  refine opsF_val gb idleB rfl (by rfl) rfl (x := .int .i64 s.size) (y_len_string rfl) ?_
  refine opsF_val gb idleB rfl (by rfl) rfl (x := .int .i64 ((s.size : Int) - 1)) (y_sub rfl rfl (by rw [IntKind.wrap_i64]; omega)) ?_
  refine opsF_val gb idleB rfl (by rfl) rfl (x := .int .i64 ((s.size : Int) - 1)) (y_assign rfl) ?_
  refine opsG_nil gb idleB ?_
  refine wpG_block gb idleB ?_
  refine wpG_loopN gb idleB (fun m a v => ∃ (j : Nat) (τ : Nat → Value), m = j ∧ j ≤ s.size ∧ lastIx s c j = lastIx s c s.size ∧ a = fr 19 τ [(0, .string s), (1, .int .u8 c), (5, .int .i64 ((j : Int) - 1))] [] ∧ h = v) s.size ⟨s.size, _, rfl, Nat.le_refl _, rfl, fr_says _ ⟨rfl, rfl, rfl, trivial⟩, rfl⟩ ?_
  rintro m _ _ ⟨_, τ, rfl, hj, hlast, rfl, rfl⟩
  clear σ
  rcases Nat.eq_zero_or_pos m with rfl | hm
  · refine wpG_seq gb idleB ?_
    refine wpG_seq gb idleB ?_
    refine wpG_region gb idleB ?_
    refine opsF_val gb idleB rfl (by rfl) rfl (x := .int .i64 ((0 : Nat) - 1)) (y_move rfl) ?_
    refine opsF_val gb idleB rfl (by rfl) rfl (x := .bool false) (y_geq rfl rfl (by decide)) ?_
    refine opsG_nil gb idleB ?_
    refine wpG_cond gb idleB (t := false) (by rw [fr_eval]; rfl) ?_
    refine wpG_exit gb idleB ?_
    refine wpG_seq gb idleB ?_
    refine wpG_region gb idleB ?_
    refine opsF_val gb idleB rfl (by rfl) rfl (x := .int .i64 (-1)) (y_assign rfl) ?_
    refine opsG_nil gb idleB ?_
    refine wpG_ret gb idleB ?_
    refine ⟨.inr rfl, rfl, _, resultsC_tmp (by rfl) _, ?_, rfl⟩
    rw [fr_ret (by decide) rfl]
    rw [← hlast]; rfl
  · have hb : decide (0 ≤ ((m : Int) - 1)) = true := by simp; omega
    have hlt : m - 1 < s.size := by omega
    have hstep : lastIx s c m = if ((s[m - 1].toNat : Int) == c) = true then ((m - 1 : Nat) : Int) else lastIx s c (m - 1) := by rw [← getI hlt]; obtain ⟨k, rfl⟩ : ∃ k, m = k + 1 := ⟨m - 1, by omega⟩; rfl
    have hm1 : ((m : Int) - 1) = ((m - 1 : Nat) : Int) := by omega
    refine wpG_seq gb idleB ?_
    refine wpG_seq gb idleB ?_
    refine wpG_region gb idleB ?_
    refine opsF_val gb idleB rfl (by rfl) rfl (x := .int .i64 ((m : Int) - 1)) (y_move rfl) ?_
    refine opsF_val gb idleB rfl (by rfl) rfl (x := .bool true) (y_geq rfl rfl (hb)) ?_
    refine opsG_nil gb idleB ?_
    refine wpG_cond gb idleB (t := true) (by rw [fr_eval]; rfl) ?_
    refine wpG_skip gb idleB ?_
    refine wpG_seq gb idleB ?_
    refine wpG_block gb idleB ?_
    refine wpG_seq gb idleB ?_
    refine wpG_region gb idleB ?_
    refine opsF_val gb idleB rfl (by rfl) rfl (x := .string s) (y_move rfl) ?_
    refine opsF_val gb idleB rfl (by rfl) rfl (x := .int .i64 ((m : Int) - 1)) (y_move rfl) ?_
    refine opsF_val gb idleB rfl (by rfl) rfl (x := .int .u8 (s[m - 1].toNat : Int)) (y_index rfl (by show Value.int .i64 _ = _; rw [hm1]) hlt) ?_
    refine opsF_val gb idleB rfl (by rfl) rfl (x := .int .u8 c) (y_move rfl) ?_
    refine opsF_val gb idleB rfl (by rfl) rfl (x := .bool ((s[m - 1].toNat : Int) == c)) (y_eql_u8 rfl rfl rfl) ?_
    refine opsG_nil gb idleB ?_
    refine wpG_cond gb idleB (t := ((s[m - 1].toNat : Int) == c)) (by rw [fr_eval]; rfl) ?_
    cases hc1 : ((s[m - 1].toNat : Int) == c)
    · refine wpG_skip gb idleB ?_
      refine wpG_region gb idleB ?_
      refine opsF_val gb idleB rfl (by rfl) rfl (x := .int .i64 ((m : Int) - 1)) (y_move rfl) ?_
      refine opsF_val gb idleB rfl (by rfl) rfl (x := .int .i64 ((m : Int) - 1 - 1)) (y_sub rfl rfl (by rw [IntKind.wrap_i64]; omega)) ?_
      refine opsF_val gb idleB rfl (by rfl) rfl (x := .int .i64 ((m : Int) - 1 - 1)) (y_assign rfl) ?_
      refine opsG_nil gb idleB ?_
      exact ⟨m - 1, by omega, m - 1, _, rfl, by omega, by rw [← hlast, hstep, hc1]; rfl, fr_says _ ⟨rfl, rfl, by show Value.int .i64 _ = _; congr 1; omega, trivial⟩, rfl⟩
    · refine wpG_seq gb idleB ?_
      refine wpG_region gb idleB ?_
      refine opsF_val gb idleB rfl (by rfl) rfl (x := .int .i64 ((m : Int) - 1)) (y_move rfl) ?_
      refine opsF_val gb idleB rfl (by rfl) rfl (x := .int .i64 ((m : Int) - 1)) (y_assign rfl) ?_
      refine opsG_nil gb idleB ?_
      refine wpG_ret gb idleB ?_
      refine ⟨.inr rfl, rfl, _, resultsC_tmp (by rfl) _, ?_, rfl⟩
      rw [fr_ret (by decide) rfl]
      rw [← hlast, hstep, hc1, hm1]; rfl

section
variable {V : Type} {main : Bool} {X : View V} {GL : (Goroutine → V → Prop) → Prop} {kd : Bool} {fn : FuncId} {Q : Exit → Act → V → Prop} {v : V} {d n : Nat} {x : Value} {σ : Nat → Value} {l : List (Nat × Value)} {ds : List Deferred}
/-- A call of an entry without a Go body that only reckons. -/
theorem opsF_entry (hGL : ∀ E, GL E → Closed Try.prog main X E) (I : Idle X) {f : FuncId} {fu : Func} {ops : Array Oper} {i : Nat} {rest : List Nat} {o : Oper} {ats : Array TypeId} {xs : Array Operand} {e : Array Value → Sem Value}
    (ho : ops[i]? = some o) (hw : Region.wanted o (yielded ops (fr n σ l ds).tmps) = true) (hd : o.dst = some d) (hop : o.op = .call { callee := .value (.func f), args := xs, argTypes := ats })
    (hf : Try.prog.funcs[f]? = some fu) (hname : (fu.name == "runtime.NumGoroutine") = false) (hb : fu.body.isNone = true) (hn : Extern.findNext fu = none) (he : Extern.find fu = some e)
    {args : Array Value} (hargs : xs.map (ev n σ l) = args) (hrun : ∀ w, (e args).run Try.prog w = .ok x w ∧ ∀ es, (e args).events Try.prog w es = es) (h : OpsG GL kd fn ops rest Q (fr n σ ((d, x) :: l) ds) v) : OpsG GL kd fn ops (i :: rest) Q (fr n σ l ds) v := by
  refine opsG_entry hGL I ho hw hop hf hname hb hn he (args := args) (by rw [fr_eval]; exact hargs) hrun ?_
  rw [hd, fr_put]
  exact h
end

theorem find62 : Extern.find Try.f62 = some Extern.BytealgCount.count := by kernel_rfl
theorem next62 : (Extern.findNext Try.f62).isNone = true := by kernel_rfl

theorem loop_cnt (s : ByteArray) (c : UInt8) : ∀ (i j : Nat) (b : Int), i + j = s.size → _root_.Id.run (ByteArray.foldlM.loop (m := _root_.Id) (fun (n : Int) x => pure (if x == c then n + 1 else n)) s s.size (Nat.le_refl _) i j b) + cntIx s c.toNat j = b + cntIx s c.toNat s.size := by
  intro i
  induction i with
  | zero =>
    intro j b h
    unfold ByteArray.foldlM.loop
    rw [dif_neg (by omega)]
    obtain rfl : j = s.size := by omega
    rfl
  | succ i ih =>
    intro j b h
    unfold ByteArray.foldlM.loop
    have hlt : j < s.size := by omega
    rw [dif_pos hlt]
    have := ih (j + 1) (if s[j] == c then b + 1 else b) (by omega)
    have hc : cntIx s c.toNat (j + 1) = cntIx s c.toNat j + if (s[j] == c) = true then 1 else 0 := by
      show cntIx s c.toNat j + (if (((s[j]!).toNat : Int) == (c.toNat : Int)) = true then 1 else 0) = _
      rw [getI hlt]
      have : (((s[j]).toNat : Int) == (c.toNat : Int)) = (s[j] == c) := by
        rw [Bool.eq_iff_iff]
        simp only [beq_iff_eq, Int.ofNat_inj]
        exact UInt8.toNat_inj
      rw [this]
    rw [hc] at this
    show _root_.Id.run (ByteArray.foldlM.loop (m := _root_.Id) (fun (n : Int) x => pure (if x == c then n + 1 else n)) s s.size _ i (j + 1) (if s[j] == c then b + 1 else b)) + cntIx s c.toNat j = _
    revert this
    split <;> intro this <;> omega

theorem run62 (s : ByteArray) (c : UInt8) (w : World) : (Extern.BytealgCount.count #[.string s, .int .u8 c.toNat]).run Try.prog w = .ok (.int .i64 (cntIx s c.toNat s.size)) w ∧ ∀ es, (Extern.BytealgCount.count #[.string s, .int .u8 c.toNat]).events Try.prog w es = es := by
  have e : Extern.BytealgCount.count #[.string s, .int .u8 c.toNat] = .pure (.int .i64 (cntIx s c.toNat s.size)) := by
    have h1 : s.foldl (fun (n : Int) x => if x == c then n + 1 else n) ((0 : Nat) : Int) = cntIx s c.toNat s.size := by
      have := loop_cnt s c s.size 0 0 (by omega)
      simp only [cntIx, Int.zero_add, Int.natCast_zero, Int.add_zero] at this
      rw [← this]
      unfold ByteArray.foldl ByteArray.foldlM
      rw [dif_pos (Nat.le_refl _)]
      rfl
    have hc : (c.toNat : Int).toNat.toUInt8 = c := by simp
    show (Sem.pure (goInt (s.foldl (fun (n : Int) x => if x == (c.toNat : Int).toNat.toUInt8 then n + 1 else n) ((0 : Nat) : Int)))) = _
    rw [hc, h1]
    rfl
  rw [e]
  exact ⟨rfl, fun es => rfl⟩

set_option maxHeartbeats 1000000 in
theorem last54 {main : Bool} (h : PH) (s : ByteArray) (c : Int) (hs : (s.size : Int) ≤ 2 ^ 62) : CallsG Try.prog (GB main) 54 #[.string s, .int .u8 c] h fun r h' => r = .int .i64 (lastIx s c s.size) ∧ h' = h := by
  refine callsG_of_wp (c := Try.f54.body.getD .skip) gb idleB Try.func54 rfl ?_
  rw [Try.ntmps54]
  rw [fr_of (n := 8) (by simp) [(0, .string s), (1, .int .u8 c)] ⟨by simp, by simp, trivial⟩]
  generalize (fun j => (#[Value.string s, Value.int .u8 c] ++ Array.replicate (8 - #[Value.string s, Value.int .u8 c].size) undef).getD j undef) = σ
  refine wpG_seq gb idleB ?_
  refine wpG_region gb idleB ?_
  refine opsF_val gb idleB rfl (by rfl) rfl (x := .int .i64 0) (y_assign rfl) ?_
  refine opsG_nil gb idleB ?_
  refine wpG_seq gb idleB ?_
  refine wpG_region gb idleB ?_
  refine opsF_val gb idleB rfl (by rfl) rfl (x := .string s) (y_move rfl) ?_
  refine opsF_val gb idleB rfl (by rfl) rfl (x := .int .u8 c) (y_move rfl) ?_
  refine opsF_call gb idleB rfl (by rfl) rfl (run_call (args := #[.string s, .int .u8 c]) rfl Try.func64 (by rfl) rfl (by simp only [List.map_toArray, List.map_cons, List.map_nil]; rfl)) (last64 h s c hs) ?_
  rintro _ h2 ⟨rfl, hv⟩
  obtain rfl := hv.symm
  refine opsF_val gb idleB rfl (by rfl) rfl (x := .int .i64 (lastIx s c s.size)) (y_assign rfl) ?_
  refine opsG_nil gb idleB ?_
  refine wpG_ret gb idleB ?_
  exact ⟨.inr rfl, rfl, _, resultsC_tmp (by rfl) _, fr_ret (by decide) rfl, rfl⟩

set_option maxHeartbeats 1000000 in
theorem count53 {main : Bool} (h : PH) (s : ByteArray) : CallsG Try.prog (GB main) 53 #[.string s, .string { data := #[10] }] h fun r h' => r = .int .i64 (cntIx s 10 s.size) ∧ h' = h := by
  refine callsG_of_wp (c := Try.f53.body.getD .skip) gb idleB Try.func53 rfl ?_
  rw [Try.ntmps53]
  rw [fr_of (n := 34) (by simp) [(0, .string s), (1, .string { data := #[10] })] ⟨by simp, by simp, trivial⟩]
  generalize (fun j => (#[Value.string s, Value.string { data := #[10] }] ++ Array.replicate (34 - #[Value.string s, Value.string { data := #[10] }].size) undef).getD j undef) = σ
  refine wpG_seq gb idleB ?_
  refine wpG_region gb idleB ?_
  refine opsF_val gb idleB rfl (by rfl) rfl (x := .int .i64 0) (y_assign rfl) ?_
  refine opsG_nil gb idleB ?_
  refine wpG_seq gb idleB ?_
  refine wpG_seq gb idleB ?_
  refine wpG_region gb idleB ?_
  refine opsF_val gb idleB rfl (by rfl) rfl (x := .string { data := #[10] }) (y_move rfl) ?_
  refine opsF_val gb idleB rfl (by rfl) rfl (x := .int .i64 1) (y_len_string (b := { data := #[10] }) rfl) ?_
  refine opsF_val gb idleB rfl (by rfl) rfl (x := .bool false) (y_eql (.inl rfl) rfl rfl (rfl)) ?_
  refine opsG_nil gb idleB ?_
  refine wpG_cond gb idleB (t := false) (by rw [fr_eval]; rfl) ?_
  refine wpG_skip gb idleB ?_
  refine wpG_seq gb idleB ?_
  refine wpG_seq gb idleB ?_
  refine wpG_region gb idleB ?_
  refine opsF_val gb idleB rfl (by rfl) rfl (x := .string { data := #[10] }) (y_move rfl) ?_
  refine opsF_val gb idleB rfl (by rfl) rfl (x := .int .i64 1) (y_len_string (b := { data := #[10] }) rfl) ?_
  refine opsF_val gb idleB rfl (by rfl) rfl (x := .bool true) (y_eql (.inl rfl) rfl rfl (rfl)) ?_
  refine opsG_nil gb idleB ?_
  refine wpG_cond gb idleB (t := true) (by rw [fr_eval]; rfl) ?_
  refine wpG_seq gb idleB ?_
  refine wpG_region gb idleB ?_
  refine opsF_val gb idleB rfl (by rfl) rfl (x := .string s) (y_move rfl) ?_
  refine opsF_val gb idleB rfl (by rfl) rfl (x := .string { data := #[10] }) (y_move rfl) ?_
  refine opsF_val gb idleB rfl (by rfl) rfl (x := .int .u8 ((10 : UInt8).toNat : Int)) (y_index (s := { data := #[10] }) (m := 0) rfl rfl (by decide)) ?_
  refine opsF_entry gb idleB rfl (by rfl) rfl rfl Try.func62 (by rfl) (by rfl) (Option.isNone_iff_eq_none.1 next62) find62 (args := #[.string s, .int .u8 ((10 : UInt8).toNat : Int)]) (by simp only [List.map_toArray, List.map_cons, List.map_nil]; rfl) (x := .int .i64 (cntIx s 10 s.size)) (run62 s 10) ?_
  refine opsF_val gb idleB rfl (by rfl) rfl (x := .int .i64 (cntIx s 10 s.size)) (y_assign rfl) ?_
  refine opsG_nil gb idleB ?_
  refine wpG_ret gb idleB ?_
  exact ⟨.inr rfl, rfl, _, resultsC_tmp (by rfl) _, fr_ret (by decide) rfl, rfl⟩

/-- Line and column of a place. -/
def lineNo (s : ByteArray) (m : Nat) : Int := 1 + cntIx s 10 m
def colNo (s : ByteArray) (m : Nat) : Int := m - lastIx s 10 m

theorem getI_extract {s : ByteArray} {m j : Nat} (hm : m ≤ s.size) (hj : j < m) : (s.extract 0 m)[j]! = s[j]! := by
  have h1 : j < (s.extract 0 m).size := by simp; omega
  have h2 : j < s.size := by omega
  rw [getI h1, getI h2, ByteArray.getElem_extract]
  simp
theorem cntIx_extract {s : ByteArray} {c : Int} {m : Nat} (hm : m ≤ s.size) : ∀ j, j ≤ m → cntIx (s.extract 0 m) c j = cntIx s c j
  | 0, _ => rfl
  | j + 1, h => by
    unfold cntIx
    rw [cntIx_extract hm j (by omega), getI_extract hm (by omega)]
theorem lastIx_extract {s : ByteArray} {c : Int} {m : Nat} (hm : m ≤ s.size) : ∀ j, j ≤ m → lastIx (s.extract 0 m) c j = lastIx s c j
  | 0, _ => rfl
  | j + 1, h => by
    unfold lastIx
    rw [lastIx_extract hm j (by omega), getI_extract hm (by omega)]

theorem cast_y {ρ : Operand → Value} {o : Oper} {x y : Value} (h : Ylds ρ o x) (e : x = y) : Ylds ρ o y := e ▸ h

set_option maxHeartbeats 1000000 in
theorem line40 {main : Bool} (h : PH) (s : ByteArray) (at0 : Int) (m : Nat) (hm : (m : Int) = max 0 (min at0 s.size)) (hs : (s.size : Int) ≤ 2 ^ 40) : CallsG Try.prog (GB main) 40 #[.string s, .int .i64 at0] h fun r h' => r = .tuple #[.int .i64 (lineNo s m), .int .i64 (colNo s m)] ∧ h' = h := by
  have hms : m ≤ s.size := by omega
  have hsz : (s.extract 0 m).size = m := by simp; omega
  have hcnt : cntIx (s.extract 0 m) 10 (s.extract 0 m).size = cntIx s 10 m := by rw [hsz]; exact cntIx_extract hms m (Nat.le_refl _)
  have hlast : lastIx (s.extract 0 m) 10 (s.extract 0 m).size = lastIx s 10 m := by rw [hsz]; exact lastIx_extract hms m (Nat.le_refl _)
  refine callsG_of_wp (c := Try.f40.body.getD .skip) gb idleB Try.func40 rfl ?_
  rw [Try.ntmps40]
  rw [fr_of (n := 21) (by simp) [(0, .string s), (1, .int .i64 at0)] ⟨by simp, by simp, trivial⟩]
  generalize (fun j => (#[Value.string s, Value.int .i64 at0] ++ Array.replicate (21 - #[Value.string s, Value.int .i64 at0].size) undef).getD j undef) = σ
  refine wpG_seq gb idleB ?_
  refine wpG_region gb idleB ?_
  refine opsF_val gb idleB rfl (by rfl) rfl (x := .int .i64 0) (y_assign rfl) ?_
  refine opsF_val gb idleB rfl (by rfl) rfl (x := .int .i64 0) (y_assign rfl) ?_
  refine opsG_nil gb idleB ?_
  refine wpG_seq gb idleB ?_
  refine wpG_region gb idleB ?_
  refine opsF_val gb idleB rfl (by rfl) rfl (x := .string s) (y_move rfl) ?_
  refine opsF_val gb idleB rfl (by rfl) rfl (x := .int .i64 at0) (y_move rfl) ?_
  refine opsF_val gb idleB rfl (by rfl) rfl (x := .string s) (y_move rfl) ?_
  refine opsF_val gb idleB rfl (by rfl) rfl (x := .int .i64 s.size) (y_len_string rfl) ?_
  refine opsF_val gb idleB rfl (by rfl) rfl (x := .int .i64 (min at0 s.size)) (y_min rfl rfl rfl) ?_
  refine opsF_val gb idleB rfl (by rfl) rfl (x := .int .i64 (m : Nat)) (y_max rfl rfl hm.symm) ?_
  refine opsF_val gb idleB rfl (by rfl) rfl (x := .string (s.extract 0 m)) (y_slice_hi rfl rfl hms) ?_
  refine opsF_val gb idleB rfl (by rfl) rfl (x := .string (s.extract 0 m)) (y_assign rfl) ?_
  refine opsG_nil gb idleB ?_
  refine wpG_seq gb idleB ?_
  refine wpG_region gb idleB ?_
  refine opsF_val gb idleB rfl (by rfl) rfl (x := .string (s.extract 0 m)) (y_move rfl) ?_
  refine opsF_call gb idleB rfl (by rfl) rfl (run_call (args := #[.string (s.extract 0 m), .string { data := #[10] }]) rfl Try.func53 (by rfl) rfl (by simp only [List.map_toArray, List.map_cons, List.map_nil]; rfl)) (count53 h (s.extract 0 m)) ?_
  rintro _ h2 ⟨rfl, hv⟩
  obtain rfl := hv.symm
  refine opsF_val gb idleB rfl (by rfl) rfl (x := .int .i64 (lineNo s m)) (y_add rfl rfl (by rw [hcnt, IntKind.wrap_i64]; have := cntIx_le s 10 m; unfold lineNo; omega)) ?_
  refine opsF_val gb idleB rfl (by rfl) rfl (x := .string (s.extract 0 m)) (y_move rfl) ?_
  refine opsF_val gb idleB rfl (by rfl) rfl (x := .int .i64 (m : Nat)) (cast_y (y_len_string rfl) (by rw [hsz])) ?_
  refine opsF_val gb idleB rfl (by rfl) rfl (x := .string (s.extract 0 m)) (y_move rfl) ?_
  refine opsF_call gb idleB rfl (by rfl) rfl (run_call (args := #[.string (s.extract 0 m), .int .u8 10]) rfl Try.func54 (by rfl) rfl (by simp only [List.map_toArray, List.map_cons, List.map_nil]; rfl)) (last54 h (s.extract 0 m) 10 (by rw [hsz]; omega)) ?_
  rintro _ h2 ⟨rfl, hv⟩
  obtain rfl := hv.symm
  refine opsF_val gb idleB rfl (by rfl) rfl (x := .int .i64 (colNo s m)) (y_sub rfl rfl (by rw [hlast, IntKind.wrap_i64]; have := lastIx_bound s 10 m; unfold colNo; omega)) ?_
  refine opsF_val gb idleB rfl (by rfl) rfl (x := .int .i64 (lineNo s m)) (y_assign rfl) ?_
  refine opsF_val gb idleB rfl (by rfl) rfl (x := .int .i64 (colNo s m)) (y_assign rfl) ?_
  refine opsG_nil gb idleB ?_
  refine wpG_ret gb idleB ?_
  refine ⟨.inr rfl, rfl, _, resultsC_tmp2 (by rfl) _, ?_, rfl⟩
  rw [fr_ret (by decide) rfl, fr_ret (by decide) rfl]; rfl

end Go.Proofs.Ytfaadjmglboaoaa
