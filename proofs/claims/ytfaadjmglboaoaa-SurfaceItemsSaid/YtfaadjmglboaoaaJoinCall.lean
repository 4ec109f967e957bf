/-
  strings.Join, called from a law: the kit's lone contract, lifted.
-/
import Derived.Shelf.Strings.OnBuilder
import Derived.Test.YtfaadjmglboaoaaProg
import Derived.Test.YtfaadjmglboaoaaThings
import Derived.Lib.Join
import Derived.Test.YtfaadjmglboaoaaRead
namespace Go.Proofs
open Go.Shelf
def Try.lays156_ren : Go.Shelf.Ren := ⟨fun | 156 => 66 | 165 => 73 | 166 => 74 | 169 => 75 | 240 => 83 | 241 => 84 | 276 => 87 | 277 => 88 | n => n, fun | 31 => 104 | 9 => 9 | 3 => 3 | 4 => 4 | 0 => 0 | 20 => 20 | 72 => 112 | 76 => 116 | 70 => 109 | 37 => 110 | 75 => 115 | 127 => 121 | 164 => 125 | 5 => 5 | 80 => 118 | n => n, fun | n => n⟩
theorem Try.lays156 : Go.Proofs.Lays.n156 Try.prog Try.lays156_ren := {
  mixed := by kernel_rfl
  f156 := Try.func66.trans (congrArg some (by kernel_rfl))
  f165 := Try.func73.trans (congrArg some (by kernel_rfl))
  f166 := Try.func74.trans (congrArg some (by kernel_rfl))
  f169 := Try.func75.trans (congrArg some (by kernel_rfl))
  f240 := Try.func83.trans (congrArg some (by kernel_rfl))
  f241 := Try.func84.trans (congrArg some (by kernel_rfl))
  f276 := Try.func87.trans (congrArg some (by kernel_rfl))
  f277 := Try.func88.trans (congrArg some (by kernel_rfl))
  t0 := Try.underlying0
  a0 := Try.isAgg0
  z0 := Try.sizeOf0
  v0 := Try.zeroValue0
  t3 := Try.underlying3
  a3 := Try.isAgg3
  z3 := Try.sizeOf3
  v3 := Try.zeroValue3
  t4 := Try.underlying4
  a4 := Try.isAgg4
  z4 := Try.sizeOf4
  v4 := Try.zeroValue4
  t9 := Try.underlying9
  a9 := Try.isAgg9
  z9 := Try.sizeOf9
  v9 := Try.zeroValue9
  t20 := Try.underlying20
  a20 := Try.isAgg20
  z20 := Try.sizeOf20
  v20 := Try.zeroValue20
  t31 := Try.underlying104
  a31 := Try.isAgg104
  z31 := Try.sizeOf104
  v31 := Try.zeroValue104
  t37 := Try.underlying110
  a37 := Try.isAgg110
  z37 := Try.sizeOf110
  v37 := Try.zeroValue110
  t70 := Try.underlying109
  a70 := Try.isAgg109
  z70 := Try.sizeOf109
  v70 := Try.zeroValue109
  t72 := Try.underlying112
  a72 := Try.isAgg112
  z72 := Try.sizeOf112
  v72 := Try.zeroValue112
  t75 := Try.underlying115
  a75 := Try.isAgg115
  z75 := Try.sizeOf115
  v75 := Try.zeroValue115
  t76 := Try.underlying116
  a76 := Try.isAgg116
  z76 := Try.sizeOf116
  v76 := Try.zeroValue116
  t127 := Try.underlying121
  a127 := Try.isAgg121
  z127 := Try.sizeOf121
  v127 := Try.zeroValue121
  t164 := Try.underlying125
  a164 := Try.isAgg125
  z164 := Try.sizeOf125
  v164 := Try.zeroValue125 }
theorem Try.Builder_Extra_156 : Builder.Extra Try.prog Try.lays156_ren := {
  sizeBuilder := by kernel_rfl
  liesBuilder := by kernel_rfl
  t5 := Try.underlying5
  a5 := Try.isAgg5
  z5 := Try.sizeOf5
  v5 := Try.zeroValue5
  infoByte := by kernel_rfl
  cellsByte := by kernel_rfl
  sizeByte := by kernel_rfl
  neB5 := by decide }
open Go.RowKit in
theorem Try.strings_Join_none (a : Option Addr) (c : Nat) (sep : ByteArray) (w : World) :
    Calls Try.prog 66 #[.slice a 0 c, .string sep] w fun e w' => e = .returned (.string ⟨#[]⟩) ∧ w' = w := Any.strings_Join_none Try.lays156 Try.Builder_Extra_156 a c sep w
open Go.RowKit in
theorem Try.strings_Join (bk o c : Nat) (xs : List ByteArray) (sep : ByteArray) (w : World) (hcells : ∀ (j : Nat) x, xs[j]? = some x → w.cell? ⟨bk, o + j, none⟩ = some (.string x)) (hbk : bk < w.heap.size) (hN : xs.length ≤ 140737488355328) (hcap : xs.length ≤ c) (hlen : (Lib.join (xs.map (·.data.toList)) sep.data.toList).length ≤ 140737488355328) :
    Calls Try.prog 66 #[.slice (some ⟨bk, o, none⟩) xs.length c, .string sep] w fun e w' => e = .returned (.string ⟨(Lib.join (xs.map (·.data.toList)) sep.data.toList).toArray⟩) ∧ Below w.heap.size w w' := Any.strings_Join Try.lays156 Try.Builder_Extra_156 bk o c xs sep w hcells hbk hN hcap hlen
end Go.Proofs

namespace Go.Proofs.Ytfaadjmglboaoaa
open Go.Conc Go.RowKit

/-- Texts, put together. -/
def jn (sep : ByteArray) (xs : List ByteArray) : ByteArray := ⟨(Lib.join (xs.map (·.data.toList)) sep.data.toList).toArray⟩
def nil0 : ByteArray := { data := #[] }
def sp : ByteArray := { data := #[32] }
def nl : ByteArray := { data := #[10] }
def lp : ByteArray := { data := #[40] }
def rp : ByteArray := { data := #[41] }

theorem jn_nil (sep : ByteArray) : jn sep [] = { data := #[] } := rfl
theorem jn_one (sep x : ByteArray) : jn sep [x] = x := by
  unfold jn
  rw [List.map_cons, List.map_nil, Lib.join_one]
theorem jn_snoc (sep : ByteArray) (xs : List ByteArray) (x : ByteArray) (h : 0 < xs.length) : jn sep (xs ++ [x]) = jn sep xs ++ sep ++ x := by
  cases xs with
  | nil => cases h
  | cons y ys =>
    apply ByteArray.ext
    unfold jn
    simp only [List.map_cons, List.map_append, List.map_nil, List.cons_append, Lib.join_cons, Lib.joinTail, ByteArray.data_append]
    apply Array.toList_inj.1
    simp
theorem jn_size (sep : ByteArray) (xs : List ByteArray) : (jn sep xs).size ≤ (xs.map fun x => x.size + sep.size).sum := by
  have e : (jn sep xs).size = (Lib.join (xs.map (·.data.toList)) sep.data.toList).length := by simp [jn, ByteArray.size]
  rw [e]
  have key : ∀ (r : List ByteArray), (Lib.joinTail sep.data.toList (r.map (·.data.toList))).length = (r.map fun x => x.size + sep.size).sum := by
    intro r
    induction r with
    | nil => rfl
    | cons y r ih =>
      simp only [Lib.joinTail, List.map_cons, List.flatten_cons, List.length_append, List.sum_cons] at ih ⊢
      rw [ih]
      simp only [Array.length_toList, ByteArray.size]
      omega
  cases xs with
  | nil => exact Nat.zero_le _
  | cons x r =>
    rw [List.map_cons, Lib.join_cons, List.length_append, key, List.map_cons, List.sum_cons]
    simp only [Array.length_toList, ByteArray.size]
    omega

/-- A thing's text. -/
def txt : Nat → List T3 → ByteArray
  | 0, _ => nil0
  | n + 1, t => match t.getLast? with
    | none => nil0
    | some x => if x.s = { data := #[] } then lp ++ jn sp (((tgo t.dropLast []).getD []).map (txt n)) ++ rp else x.s
def text (t : List T3) : ByteArray := txt t.length t

theorem tgo_flat {ts : List (List T3)} (h : ∀ t ∈ ts, Thing t) : tgo ts.flatten [] = some ts := by
  have := tgo_all ts h [] []
  rw [List.append_nil] at this
  exact this
theorem txt_snoc (n : Nat) {ts : List (List T3)} (h : ∀ t ∈ ts, Thing t) (x : T3) : txt (n + 1) (ts.flatten ++ [x]) = if x.s = { data := #[] } then lp ++ jn sp (ts.map (txt n)) ++ rp else x.s := by
  rw [txt]
  have e : (ts.flatten ++ [x]).getLast? = some x := by simp
  simp only [e, List.dropLast_concat, tgo_flat h, Option.getD_some]
theorem mem_le {t : List T3} {ts : List (List T3)} (h : t ∈ ts) : t.length ≤ ts.flatten.length := by
  induction ts with
  | nil => cases h
  | cons u ts ih =>
    rw [List.flatten_cons, List.length_append]
    rcases List.mem_cons.1 h with rfl | h
    · omega
    · have := ih h; omega
theorem Thing.txt {t : List T3} (h : Thing t) : ∀ n, t.length ≤ n → txt n t = text t := by
  induction h with
  | mk ts x hts hx hn ih =>
    intro n hle
    have hl : (ts.flatten ++ [x]).length = ts.flatten.length + 1 := by simp
    obtain ⟨m, rfl⟩ : ∃ m, n = m + 1 := ⟨n - 1, by omega⟩
    unfold text
    rw [hl, txt_snoc _ hts, txt_snoc _ hts]
    have e : ts.map (Go.Proofs.Ytfaadjmglboaoaa.txt m) = ts.map (Go.Proofs.Ytfaadjmglboaoaa.txt ts.flatten.length) := List.map_congr_left fun u hu => by
      have := mem_le hu
      rw [ih u hu m (by omega), ih u hu _ this]
    rw [e]
theorem text_snoc {ts : List (List T3)} (h : ∀ t ∈ ts, Thing t) (x : T3) : text (ts.flatten ++ [x]) = if x.s = { data := #[] } then lp ++ jn sp (ts.map text) ++ rp else x.s := by
  have hl : (ts.flatten ++ [x]).length = ts.flatten.length + 1 := by simp
  unfold text
  rw [hl, txt_snoc _ h]
  have e : ts.map (txt ts.flatten.length) = ts.map (fun t => txt t.length t) := List.map_congr_left fun u hu => (h u hu).txt _ (mem_le hu)
  rw [e]
theorem text_word {ts : List (List T3)} (h : ∀ t ∈ ts, Thing t) {x : T3} (hs : x.s ≠ { data := #[] }) : text (ts.flatten ++ [x]) = x.s := by rw [text_snoc h, if_neg hs]
theorem text_list {ts : List (List T3)} (h : ∀ t ∈ ts, Thing t) {x : T3} (hs : x.s = { data := #[] }) : text (ts.flatten ++ [x]) = lp ++ jn sp (ts.map text) ++ rp := by rw [text_snoc h, if_pos hs]

theorem sum_le {ts : List (List T3)} {f : List T3 → Nat} (h : ∀ t ∈ ts, f t ≤ 104 * t.length) : (ts.map f).sum ≤ 104 * ts.flatten.length := by
  induction ts with
  | nil => exact Nat.le_refl _
  | cons t ts ih =>
    have h1 := h t List.mem_cons_self
    have h2 := ih fun u hu => h u (List.mem_cons_of_mem _ hu)
    rw [List.map_cons, List.sum_cons, List.flatten_cons, List.length_append, Nat.mul_add]
    omega
theorem jn_le {sep : ByteArray} (hs : sep.size = 1) {ts : List (List T3)} (h : ∀ t ∈ ts, (text t).size + 1 ≤ 104 * t.length) : (jn sep (ts.map text)).size ≤ 104 * ts.flatten.length := by
  refine Nat.le_trans (jn_size sep _) ?_
  rw [List.map_map]
  refine sum_le fun t ht => ?_
  show (text t).size + sep.size ≤ _
  rw [hs]
  exact h t ht
theorem Thing.size {t : List T3} (h : Thing t) : (∀ x ∈ t, x.s.size ≤ 100) → (text t).size + 1 ≤ 104 * t.length := by
  induction h with
  | mk ts x hts hx hn ih =>
    intro hw
    have hl : (ts.flatten ++ [x]).length = ts.flatten.length + 1 := by simp
    have hx1 := hw x (by simp)
    by_cases hs : x.s = { data := #[] }
    · rw [text_list hts hs, hl]
      have hj := jn_le (sep := sp) rfl (ts := ts) fun u hu => ih u hu fun y hy => hw y (List.mem_append_left _ (List.mem_flatten.2 ⟨u, hu, hy⟩))
      simp only [ByteArray.size_append]
      have e1 : lp.size = 1 := rfl
      have e2 : rp.size = 1 := rfl
      omega
    · rw [text_word hts hs, hl]
      omega
/-- A thing by its last. -/
theorem Thing.parts {t : List T3} (h : Thing t) : ∃ ts x, t = ts.flatten ++ [x] ∧ (∀ u ∈ ts, Thing u) ∧ tgo ts.flatten [] = some ts := by
  cases h with
  | mk ts x h hx hn => exact ⟨ts, x, rfl, h, tgo_flat h⟩
end Go.Proofs.Ytfaadjmglboaoaa

namespace Go.Proofs.Ytfaadjmglboaoaa
open Go.Conc Go.RowKit

theorem readies_few : (Try.prog.funcs.all fun f => (f.body.map readies).all fun l => l.all fun g => decide (g < Try.prog.globals.size)) = true := by kernel_rfl
theorem ahead_ok : Try.prog.follows .staticDataAhead = true := by kernel_rfl
theorem noEarly : NoEarly Try.prog := ⟨ahead_ok, fun g hg => by
  unfold Program.stepOf
  rw [Array.findIdx?_eq_none_iff]
  intro f hf
  have h := Array.all_eq_true_iff_forall_mem.1 readies_few f hf
  cases hb : f.body with
  | none => rfl
  | some c =>
    rw [hb] at h
    simp only [Option.map_some, Option.all_some, Option.any_some] at h ⊢
    cases hx : (readies c).contains g with
    | false => rfl
    | true =>
      have := List.all_eq_true.1 h g (List.contains_iff_mem.1 hx)
      have := of_decide_eq_true this
      omega⟩

theorem c_same (args : Array Value) : Calm Try.prog Any (Extern.AbiNoEscape.same args) :=
  match args with
  | ⟨[]⟩ => c_stuck
  | ⟨[_]⟩ => cpa
  | ⟨_ :: _ :: _⟩ => c_stuck
theorem c_makeNoZero (ps rs : Array TypeId) (args : Array Value) : Calm Try.prog Any (Extern.BytealgMakeNoZero.makeNoZero ps rs args) := by
  have key : ∀ n : Int, Calm Try.prog Any (Extern.BytealgMakeNoZero.makeNoZero ps rs #[.int .i64 n]) := fun n => by
    unfold Extern.BytealgMakeNoZero.makeNoZero
    split
    · refine cb c_underlying fun _ => ?_
      split
      · refine ci (cb c_runtimePanic fun _ => ?_) ?_
        all_goals exact cb c_choose fun _ => cb c_askRoom fun _ => cb c_choose fun _ => cb c_newRow fun _ => cpa
      · exact c_stuck
    · exact c_stuck
  match args with
  | ⟨[]⟩ => exact c_stuck
  | ⟨_ :: _ :: _⟩ => exact c_stuck
  | ⟨[v]⟩ =>
    cases v with
    | int k n => cases k <;> first | exact key n | exact c_stuck
    | _ => exact c_stuck

def joins (f : Nat) : Bool := f == 66 || f == 73 || f == 74 || f == 75 || f == 83 || f == 84 || f == 87 || f == 88
theorem tame_body {f : Nat} {fn : Func} (h1 : Try.prog.funcs[f]? = some fn) (h2 : (fn.name == "runtime.NumGoroutine") = false) (h3 : (fn.body.map (okCode joins)) = some true) :
    ∃ fn, Try.prog.funcs[f]? = some fn ∧ (fn.name == "runtime.NumGoroutine") = false ∧ ((∃ c, fn.body = some c ∧ okCode joins c = true) ∨ (fn.body = none ∧ Extern.findNext fn = none ∧ ∃ e, Extern.find fn = some e ∧ ∀ args, Calm Try.prog Any (e args))) := by
  refine ⟨fn, h1, h2, .inl ?_⟩
  obtain ⟨c, hc, h⟩ := Option.map_eq_some_iff.1 h3
  exact ⟨c, hc, h⟩
theorem tameJoin : TameProg Try.prog joins := ⟨fun f hf => by
  unfold joins at hf
  simp only [Bool.or_eq_true, beq_iff_eq] at hf
  rcases hf with ((((((rfl | rfl) | rfl) | rfl) | rfl) | rfl) | rfl) | rfl
  · exact tame_body Try.func66 (by kernel_rfl) (by kernel_rfl)
  · exact tame_body Try.func73 (by kernel_rfl) (by kernel_rfl)
  · exact tame_body Try.func74 (by kernel_rfl) (by kernel_rfl)
  · exact tame_body Try.func75 (by kernel_rfl) (by kernel_rfl)
  · exact tame_body Try.func83 (by kernel_rfl) (by kernel_rfl)
  · exact tame_body Try.func84 (by kernel_rfl) (by kernel_rfl)
  · exact ⟨_, Try.func87, by kernel_rfl, .inr ⟨by kernel_rfl, by kernel_rfl, Extern.AbiNoEscape.same, by rfl, c_same⟩⟩
  · exact ⟨_, Try.func88, by kernel_rfl, .inr ⟨by kernel_rfl, by kernel_rfl, Extern.BytealgMakeNoZero.makeNoZero _ _, by rfl, c_makeNoZero _ _⟩⟩⟩

theorem join66A (u : World) (sep : ByteArray) (xs : List ByteArray) (p : Option Addr) (c : Nat) (hx : xs = [] ∨ ∃ b o, p = some ⟨b, o, none⟩ ∧ b < u.heap.size ∧ ∀ (j : Nat) x, xs[j]? = some x → u.cell? ⟨b, o + j, none⟩ = some (.string x)) (hc : xs.length ≤ c) (hN : xs.length ≤ 2 ^ 40) (hlen : (jn sep xs).size ≤ 2 ^ 40) :
    CallsG Try.prog (GL0 Try.prog) 66 #[.slice p xs.length c, .string sep] (.a u) fun r v' => ∃ u', v' = .a u' ∧ Grew u u' ∧ r = .string (jn sep xs) := by
  let R : Ending → World → Prop := fun e w' => e = .returned (.string (jn sep xs)) ∧ Below u.heap.size u (tap w' u.tape w'.drawn)
  have hcall : ∀ τ d, Calls Try.prog 66 #[.slice p xs.length c, .string sep] (tap u τ d) R := fun τ d => by
    rcases hx with rfl | ⟨b, o, rfl, hb, hcells⟩
    · refine (Try.strings_Join_none p c sep (tap u τ d)).mono ?_
      rintro e w' ⟨rfl, rfl⟩
      exact ⟨rfl, ⟨rfl, rfl, rfl, Nat.le_refl _, fun _ _ => rfl⟩⟩
    · refine (Try.strings_Join b o c xs sep (tap u τ d) (fun j x h => hcells j x h) hb (by omega) hc ?_).mono ?_
      · have : (jn sep xs).size = (Lib.join (xs.map (·.data.toList)) sep.data.toList).length := by simp [jn, ByteArray.size]
        omega
      · rintro e w' ⟨rfl, hbl⟩
        exact ⟨rfl, ⟨hbl.os, rfl, hbl.output, hbl.size, fun k hk => hbl.block k hk⟩⟩
  have hR : ∀ e w', R e w' → ∃ r, e = .returned r := fun e w' h => ⟨_, h.1⟩
  refine CallsG.mono (callsG_lift (lift_call tameJoin noEarly (by decide) hR hcall (by kernel_rfl))) ?_
  rintro r v' ⟨u', rfl, τ, d, h1, h2⟩
  exact ⟨u', rfl, ⟨fun k hk => h2.block k hk, h2.size, h2.os, h2.output⟩, Ending.returned.inj h1⟩

section
variable {W : World}
/-- strings.Join from a law. -/
theorem join66 (h : PH) (sep : ByteArray) (xs : List ByteArray) (n : Nat) (p : Option Addr) (c : Nat) (hn0 : xs.length = n) (hR : RSl h 1 (.slice p n c) n (xs.map .string)) (hc : n ≤ c) (hN : n ≤ 2 ^ 40) (hlen : (jn sep xs).size ≤ 2 ^ 40) :
    CallsG Try.prog (GLB W) 66 #[.slice p n c, .string sep] h fun r h' => h' = h ∧ r = .string (jn sep xs) := by
  subst hn0
  rintro _ ⟨E, hE, hcl, rfl⟩ cc cs hn u hu
  have hx : xs = [] ∨ ∃ b o, p = some ⟨b, o, none⟩ ∧ b < u.heap.size ∧ ∀ (j : Nat) x, xs[j]? = some x → u.cell? ⟨b, o + j, none⟩ = some (.string x) := by
    rcases Nat.eq_zero_or_pos xs.length with h0 | h0
    · exact .inl (List.eq_nil_of_length_eq_zero h0)
    · obtain ⟨B, o, rfl, hS⟩ := hR.pos h0
      refine .inr ⟨B, o, rfl, ?_, fun j x hj => hS.get (fun r o' hr => hu.has r o' hr) (by rw [List.getElem?_map, hj]; rfl)⟩
      obtain ⟨cur, ty, f, h1, _⟩ := hS
      exact (Array.getElem?_eq_some_iff.1 (hu.has B _ h1)).1
  refine join66A u sep xs p c hx hc hN hlen E hE cc cs ?_
  rintro r _ ⟨u', rfl, hg, hr⟩
  exact hn r h ⟨rfl, hr⟩ u' (hu.grew hg)
end
end Go.Proofs.Ytfaadjmglboaoaa
