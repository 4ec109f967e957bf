/-
  LevelMax returns true for every slice of numbers and every byte: the greatest of levels is one of them, or 0, in any order. Conditions: none. (The frame of this text was written by the kit's program for a proof's shell; the walk is this session's.)
-/
import Derived.Test.YtimhenmhepincaaRows
import Derived.Test.YtimhenmhepincaaWalks2
import Derived.WalkKit
import Derived.ProofKit
import Derived.OpenShut
import Derived.ShutString
import Derived.ChangeOld
import Derived.Below
namespace Go.Proofs.Ytimhenmhepincaa.levelMax
open Go.ChangeShapes Go.WideShapes Go.ChangeAt Go.RowKit
open Go.ChangeMaps (open_string shut_string)
set_option linter.unusedVariables false

theorem own : ownKnob Try.prog.godebug = none := by kernel_rfl
theorem laidOut : laidOutB Try.prog = true := by kernel_rfl

/-- WHAT THE WALK IS TOLD OF A SLICE OF INTEGERS THAT CAME IN: it is nil; or it leads to a row of 'cap' cells, the numbers 'zs' (the first 'len' are its elements, the rest its spare room), each fitting its kind. -/
def IsRow (k : IntKind) (w : World) (a : Option Addr) (len cap : Nat) (zs : List Int) : Prop :=
  (a = none ∧ len = 0 ∧ cap = 0 ∧ zs = []) ∨
  ∃ x, a = some x ∧ len ≤ cap ∧ cap ≤ maxLen ∧ zs.length = cap ∧ (∀ i, i < zs.length → w.cell? (x.add i) = some (.int k (zs.getD i 0))) ∧ ∀ n ∈ zs, (Lit.int k n).wf = true

theorem ints_of {w : World} {a : Option Addr} {n cap : Nat} {zs : List Int} (h : IsRow .i64 w a n cap zs) (hn : n ≤ 1024) : Ints w a n (zs.take n) := by
  rcases h with ⟨rfl, rfl, rfl, rfl⟩ | ⟨x, rfl, hl, hm, hz, hc, _⟩
  · exact ⟨rfl, by omega, .inl rfl⟩
  · refine ⟨by simp; omega, by omega, ?_⟩
    rcases Nat.eq_zero_or_pos n with h0 | h0
    · exact .inl h0
    · obtain ⟨b, off, rfl, hcc⟩ := ints_at hc (by omega)
      refine .inr ⟨b, off, rfl, fun j hj => ?_⟩
      have hjn : j < n := by simp at hj; omega
      have hjz : j < zs.length := by omega
      rw [hcc j hjz]
      simp [hjn]

/-! ### The plain law. -/
theorem fold_max (l : List Int) : ∀ m : Int, m ≤ l.foldl mx2 m ∧ (∀ z ∈ l, z ≤ l.foldl mx2 m) ∧ (l.foldl mx2 m = m ∨ l.foldl mx2 m ∈ l) := by
  induction l with
  | nil => intro m; exact ⟨Int.le_refl _, by simp, .inl rfl⟩
  | cons x l ih =>
    intro m
    obtain ⟨h1, h2, h3⟩ := ih (mx2 m x)
    simp only [List.foldl_cons]
    have e : (m ≤ mx2 m x ∧ x ≤ mx2 m x) ∧ (mx2 m x = m ∨ mx2 m x = x) := by unfold mx2; split <;> omega
    refine ⟨by omega, ?_, ?_⟩
    · intro z hz
      rcases List.mem_cons.1 hz with rfl | hz
      · omega
      · exact h2 z hz
    · rcases h3 with h3 | h3
      · rcases e.2 with e2 | e2
        · exact .inl (h3.trans e2)
        · exact .inr (by rw [h3, e2]; exact List.mem_cons_self)
      · exact .inr (List.mem_cons_of_mem _ h3)

theorem grv_same (l l' : List Int) (h : l.all lvl = true) (hs : ∀ z, z ∈ l' ↔ z ∈ l) : grv l' = grv l ∧ gre l' = 0 := by
  have h' : l'.all lvl = true := by
    rw [List.all_eq_true] at h ⊢
    exact fun z hz => h z ((hs z).1 hz)
  unfold grv gre
  rw [h, h']
  simp only [if_true]
  obtain ⟨a1, a2, a3⟩ := fold_max l 0
  obtain ⟨b1, b2, b3⟩ := fold_max l' 0
  refine ⟨?_, trivial⟩
  have c1 : l'.foldl mx2 0 ≤ l.foldl mx2 0 := by
    rcases b3 with b3 | b3
    · omega
    · exact a2 _ ((hs _).1 b3)
  have c2 : l.foldl mx2 0 ≤ l'.foldl mx2 0 := by
    rcases a3 with a3 | a3
    · omega
    · exact b2 _ ((hs _).2 a3)
  omega

theorem grv_ge (l : List Int) (h : l.all lvl = true) (k : Nat) (hk : k < l.length) : l.getD k 0 ≤ grv l := by
  unfold grv; rw [h]
  have e : l.getD k 0 = l[k] := by simp [hk]
  rw [e]
  exact (fold_max l 0).2.1 _ (List.getElem_mem hk)

theorem grv_in (l : List Int) (h : l.all lvl = true) (hn : 0 < l.length) : l.any (fun z => z == grv l) = true := by
  rw [List.any_eq_true]
  unfold grv; rw [h]
  simp only [if_true]
  obtain ⟨h1, h2, h3⟩ := fold_max l 0
  rcases h3 with h3 | h3
  · refine ⟨l[0], List.getElem_mem hn, ?_⟩
    have e1 := h2 _ (List.getElem_mem hn)
    have e2 := (lvl_iff _).1 (List.all_eq_true.1 h _ (List.getElem_mem hn))
    simp; omega
  · exact ⟨_, h3, by simp⟩

theorem take_any_succ (l : List Int) (p : Int → Bool) (k : Nat) (hk : k < l.length) : (l.take (k + 1)).any p = ((l.take k).any p || p (l.getD k 0)) := by
  rw [List.take_succ_eq_append_getElem hk, List.any_append]
  simp [hk]
theorem rev_succ (l : List Int) (k : Nat) (hk : k < l.length) : (l.reverse.take (k + 1)).map (Value.int .i64) = (l.reverse.take k).map (Value.int .i64) ++ [.int .i64 (l.getD (l.length - 1 - k) 0)] := by
  rw [List.take_succ_eq_append_getElem (by simpa using hk), List.map_append]
  have e : l.length - 1 - k < l.length := by omega
  simp [e]

theorem owns_any {w : World} {base : Nat} {v : Value} {n : Nat} {l : List Int} (h : w.ownsRow base 3 1 v n (l.map (.int .i64))) (hn : n ≤ 2048) :
    ∃ a cap, v = .slice a n cap ∧ Ints w a n l := by
  have h1 := h.1
  have hl : l.length = n := by simpa using h1
  rcases Nat.eq_zero_or_pos n with h0 | h0
  · subst h0
    rcases h.2 with ⟨rfl, _⟩ | ⟨g, cap, cur, rfl, hb, _⟩
    · exact ⟨_, _, rfl, hl, by omega, .inl rfl⟩
    · exact ⟨_, _, rfl, hl, by omega, .inl rfl⟩
  · obtain ⟨g, cap, rfl, _, _, hc⟩ := owns_ints h h0
    exact ⟨_, _, rfl, hl, by omega, .inr ⟨g, 0, rfl, hc⟩⟩

theorem owns_later {w w' : World} {base : Nat} {v : Value} {n : Nat} {xs : List Value} (h : w.ownsRow base 3 1 v n xs) (hb : Below w.heap.size w w') : w'.ownsRow base 3 1 v n xs :=
  h.kept (row := none) ⟨hb.os, hb.tape, hb.output, hb.size, fun k hk _ => hb.block k hk⟩ (by cases v.ownBlock <;> simp)
theorem chk_beq (n : Int) : (chk n == 0) = lvl n := by unfold chk; cases lvl n <;> simp

/-! ### STEP 1: THE WALK -/
set_option maxHeartbeats 4000000 in
theorem walk (a0 : Option Addr) (len0 cap0 : Nat) (z0 : List Int) (a1 : Int) (w : World) (w0 : IsRow .i64 w a0 len0 cap0 z0) (w1 : (Lit.int .u8 a1).wf = true) :
    Calls Try.prog 5 #[.slice a0 len0 cap0, .int .u8 a1] w fun e w' => e = .returned (.bool true) ∧ Below w.heap.size w w' := by
  have hb0 : Below w.heap.size w w := Below.refl _ _
  have hm1 : chk (-1) = 1 := by decide
  have hx1 : 0 ≤ a1 ∧ a1 ≤ 255 := by simpa [Lit.wf, IntKind.min, IntKind.max, IntKind.signed, IntKind.bits] using w1
  clear w1
  by_cases hlen : 1024 < len0
  · clear w0 hx1
    go_enter Try.func5, Try.ntmps5
    go_wp2_with (go_at_call 9; refine (at_of (check_any _ _) (w0 := w) (by assumption)).mono ?_; clear hb0; rintro e w' ⟨rfl, hb0⟩)
    go_ret
    exact ⟨rfl, hb0⟩
  · have hI := ints_of w0 (by omega)
    generalize z0.take len0 = l at hI
    clear w0
    have HL := Lib.hid hI.1
    have HI := Lib.hid hI
    clear hI
    by_cases h0 : len0 = 0
    · subst h0
      obtain rfl : l = [] := List.length_eq_zero_iff.1 HL.out
      have g1 : grv [] = 0 := rfl
      have g2 : gre [] = 0 := rfl
      clear HL hx1
      go_enter Try.func5, Try.ntmps5
      go_wp2_with (go_at_call 12; refine (at_of (level_max _ _ _ _ _ (HI.out.later (by assumption))) (w0 := w) (by assumption)).mono ?_; clear hb0; rintro e w' ⟨rfl, hb0⟩)
      refine wp_loop_rounds 1 ?_
      rw [rounds_succ]
      go_wp2_with (first
        | (go_at_call 12; refine (at_of (level_max _ 0 _ [] _ ⟨rfl, by omega, .inl rfl⟩) (w0 := w) (by exact hb0.alloc hb0.size _)).mono ?_; clear hb0; rintro e w' ⟨rfl, hb0⟩)
        | (go_at_call 9; refine (at_of (check_any _ _) (w0 := w) (by assumption)).mono ?_; clear hb0; rintro e w' ⟨rfl, hb0⟩))
      refine wp_loop_rounds 1 ?_
      rw [rounds_succ]
      go_wp2_with (go_at_call 9; refine (at_of (check_any _ _) (w0 := w) (by assumption)).mono ?_; clear hb0; rintro e w' ⟨rfl, hb0⟩)
      go_ret
      exact ⟨rfl, hb0⟩
    · have hpos : 0 < len0 := by omega
      have hz1' : ((len0 : Int) == 0) = false := by simp; omega
      have hz2' : decide (1024 < (len0 : Int)) = false := by simp; omega
      clear h0
      obtain ⟨i0, hi, hz0, hz1, hz2⟩ := info_parts Try.info3
      go_enter Try.func5, Try.ntmps5
      go_wp2_with (go_at_call 12; refine (at_of (level_max _ _ _ _ _ (HI.out.later (by assumption))) (w0 := w) (by assumption)).mono ?_; clear hb0; rintro e w' ⟨rfl, hb0⟩)
      have hr0 : (w'.alloc (.cells #[] 3)).ownsRow w.heap.size 3 1 (.slice (some ⟨w'.heap.size, 0, none⟩) 0 0) 0 ((l.reverse.take 0).map (Value.int .i64)) :=
        World.ownsRow_lit w' #[] 0 hb0.size (by unfold maxLen; omega) rfl
      have hb1 := hb0.alloc hb0.size (.cells #[] 3)
      have HR0 := Lib.hid hr0
      clear hr0 hb0
      go_loopw [7, 8, 9, 10] (fun v t a i wr => ∃ (k : Nat) (tb ab : Bool), k ≤ len0 ∧ i = .int .i64 k ∧ t = .bool tb ∧ a = .bool ab ∧ Hid (tb = (l.take k).any (fun z => z == grv l)) ∧ Hid (ab = (l.take k).all lvl) ∧
          Hid (wr.ownsRow w.heap.size 3 1 v k ((l.reverse.take k).map (Value.int .i64))) ∧ Below w.heap.size w wr) (fun _ _ _ i _ => len0 - (intOf i).toNat)
      case atStart => exact ⟨0, false, true, Nat.zero_le _, rfl, rfl, rfl, Lib.hid rfl, Lib.hid rfl, HR0, hb1⟩
      case round =>
        obtain ⟨k, tb, ab, hk, rfl, rfl, rfl, HT, HA, HO, hb⟩ := hrel
        clear HR0 hb1
        by_cases hlt : k < len0
        · have hkl : k < l.length := by have := HL.out; omega
          obtain ⟨b, off, rfl, hc⟩ := HI.out.2.2.resolve_left (by omega)
          have hcw := hc k hkl
          have hj : ((len0 : Int) - 1 - (k : Int)) = ((len0 - 1 - k : Nat) : Int) := by omega
          have hjl : len0 - 1 - k < len0 := by omega
          have hcw2 := hc (len0 - 1 - k) (by have := HL.out; omega)
          have hbw := World.block_lt_of_cell? w _ hcw
          have hcell := (hb.cell (p := ⟨b, off + k, none⟩) hbw).trans hcw
          have hcell2 := (hb.cell (p := ⟨b, off + (len0 - 1 - k), none⟩) hbw).trans hcw2
          have HT1 := Lib.hid (take_any_succ l (fun z => z == grv l) k hkl)
          have HA1 := Lib.hid (take_all_succ l k hkl)
          have hr := rev_succ l k hkl
          rw [HL.out] at hr
          have HR := Lib.hid hr
          clear hc hkl hr hcw2
          generalize l.getD (len0 - 1 - k) 0 = y at hcell2 HR
          generalize len0 - 1 - k = j at hj hcell2 hjl
          generalize l.getD k 0 = z at hcell HT1 HA1 hcw
          have HW := Lib.hid hcw
          clear hcw
          cases tb <;> cases ab
          all_goals
            go_wp2_with (first
              | (at_builtin; go_loud (refine wpList_append_own _ rfl _ _ 29 rfl w.heap.size 3 i0 (.int .i64 0) 1 8 Try.underlying29 hi hz0 hz1 hz2 rfl (by decide) _ k _ rfl (HO.out.alloc _) ⟨wr.heap.size, 0, none⟩ 1 1 [.int .i64 y] rfl rfl (cell_one_new _ _ _) (fun x hx => by simp at hx; subst hx; rfl) (by unfold maxLen; omega) (by omega) (by simp; have := hb.size; omega) ?_); intro v' w1 hown' hgrow _; rw [← HR.out] at hown'; have hb2 := (hb.alloc hb.size _).grown hgrow (by simp; have := hb.size; omega) (fun q hq => (HO.out.lt q hq).1); clear hb hgrow; have hb := hb2; clear hb2; have hcell := (hb.cell (p := ⟨b, off + k, none⟩) hbw).trans HW.out; have HO' := Lib.hid hown'; clear hown' HO)
              | (go_at_call 9; refine (check_any _ _).mono ?_; rintro e w2 ⟨rfl, hbc⟩; have hb2 := hb.trans (hbc.mono hb.size); have HO := Lib.hid (owns_later HO'.out hbc); clear hb hbc HO'; have hb := hb2; clear hb2; have HO' := HO; clear HO))
            go_roundw
            case rel => exact ⟨k + 1, _, _, by omega, by go_num, rfl, rfl, Lib.hid (by rw [HT1.out, ← HT.out]; simp), Lib.hid (by rw [HA1.out, ← HA.out]; simp [chk_beq]), HO', hb⟩
            case measure => simp [intOf]; omega
        · obtain rfl : k = len0 := by omega
          have e1 : l.take k = l := List.take_of_length_le (by have := HL.out; omega)
          have e2 : l.reverse.take k = l.reverse := List.take_of_length_le (by have := HL.out; simp; omega)
          rw [e1] at HT HA
          rw [e2] at HO
          clear e1 e2
          cases hall : l.all lvl
          · rw [hall] at HA
            obtain rfl := HA.out
            have g1 : grv l = 0 := by unfold grv; rw [hall]; rfl
            have g2 : gre l = 1 := by unfold gre; rw [hall]; rfl
            clear HA hall
            go_wp2
            go_ret
            exact ⟨rfl, hb⟩
          · rw [hall] at HA
            rw [grv_in l hall (by have := HL.out; omega)] at HT
            obtain rfl := HA.out
            obtain rfl := HT.out
            have g2 : gre l = 0 := by unfold gre; rw [hall]; rfl
            obtain ⟨b, off, rfl, hc⟩ := HI.out.2.2.resolve_left (by omega)
            have hq0 : 0 ≤ a1 % (k : Int) := Int.emod_nonneg _ (by omega)
            have hq1 : a1 % (k : Int) < k := Int.emod_lt_of_pos _ (by omega)
            obtain ⟨q, hq⟩ : ∃ q : Nat, a1 % (k : Int) = (q : Int) := ⟨(a1 % (k : Int)).toNat, by omega⟩
            have hqk : q < k := by omega
            have hcw := hc q (by have := HL.out; omega)
            have hbw := World.block_lt_of_cell? w _ hcw
            have hcell := (hb.cell (p := ⟨b, off + q, none⟩) hbw).trans hcw
            have hin : l.getD q 0 ∈ l := by
              have e : q < l.length := by have := HL.out; omega
              have e' : l.getD q 0 = l[q] := by simp [e]
              rw [e']; exact List.getElem_mem e
            obtain ⟨f1, f2⟩ := grv_same l (l.reverse ++ [l.getD q 0]) hall (by
              intro z; simp only [List.mem_append, List.mem_reverse, List.mem_singleton]
              exact ⟨fun h => h.elim id (fun h => h ▸ hin), .inl⟩)
            have HGE := Lib.hid (grv_ge l hall)
            have HC := Lib.hid hc
            clear HA HT hall hq0 hq1 hin hcw hc
            generalize l.getD q 0 = x at hcell f1 f2
            go_wp2_with (first
              | (at_builtin; go_loud (refine wpList_append_own _ rfl _ _ 29 rfl w.heap.size 3 i0 (.int .i64 0) 1 8 Try.underlying29 hi hz0 hz1 hz2 rfl (by decide) _ k _ rfl (HO.out.alloc _) ⟨wr.heap.size, 0, none⟩ 1 1 [.int .i64 x] rfl rfl (cell_one_new _ _ _) (fun x hx => by simp at hx; subst hx; rfl) (by unfold maxLen; omega) (by omega) (by simp; have := hb.size; omega) ?_); intro v' w1 hown' hgrow _; rw [show l.reverse.map (Value.int .i64) ++ [Value.int .i64 x] = (l.reverse ++ [x]).map (Value.int .i64) from by simp] at hown'; have hb2 := (hb.alloc hb.size _).grown hgrow (by simp; have := hb.size; omega) (fun q hq => (HO.out.lt q hq).1); clear hb hgrow; have hb := hb2; clear hb2; obtain ⟨ga, gc, rfl, hgi⟩ := owns_any hown' (by omega); have HGI := Lib.hid hgi; clear hgi hown' HO hcell)
              | (go_at_call 12; go_loud (refine (at_of (level_max _ _ _ _ _ HGI.out) (w0 := w) (by assumption)).mono ?_); clear hb; rintro e w2 ⟨rfl, hb⟩))
            go_loop [13] (fun i => ∃ m : Nat, m ≤ k ∧ i = .int .i64 m) (fun i => k - (intOf i).toNat)
            case atStart => exact ⟨0, Nat.zero_le _, rfl⟩
            case round =>
              obtain ⟨m, hm, rfl⟩ := hrel
              by_cases hmk : m < k
              · have hml : m < l.length := by have := HL.out; omega
                have hcell := (hb.cell (p := ⟨b, off + m, none⟩) hbw).trans (HC.out m hml)
                have hge := HGE.out m hml
                generalize l.getD m 0 = z at hcell hge
                have hge' : decide (grv l < z) = false := by simp; omega
                clear hml hge
                go_wp2
                go_round
                case rel => exact ⟨m + 1, by omega, by go_num⟩
                case measure => simp [intOf]; omega
              · obtain rfl : m = k := by omega
                go_wp2_with (go_at_call 9; refine (at_of (check_any _ _) (w0 := w) (by assumption)).mono ?_; clear hb; rintro e w3 ⟨rfl, hb⟩)
                go_ret
                exact ⟨rfl, hb⟩

/-! ### THE ROW's STEP: WRITTEN OUT: LEAVE IT -/
set_option maxRecDepth 100000 in
theorem lifted (os : Os) (started : os.Started) (H : Type) (enc : TypeId × Value → H) :
    ReturnsInHanded {} Try.checked os 5 .any (Rows.levelMaxSpec.pre6 enc Try.prog Try.f5 Rows.levelMaxRow.domain false) (Rows.levelMaxSpec.post enc Try.prog Try.f5 false true false false) := by
  refine returnsInHanded_of_change (C := Try.checked) own started (by kernel_rfl) Try.func5
    (ChangeSpec.witness6 (enc := enc) (C := Try.checked) false ⟨#[], #[.slice none 0 0, .int .u8 0], []⟩ 8 (by kernel_rfl) (by kernel_rfl) (by kernel_rfl) (by kernel_rfl)) ?_
  intro W base args ds gs before hval0 hW hcnd _
  have hval : ∀ (j : Nat) t v, Try.f5.params[j]? = some t → args[j]? = some v → Value.okWide Try.prog W .any base t v := hval0
  have hW' := hW
  obtain ⟨p, q, hA0, hV, rfl, hfz, hnd⟩ := hW
  have hA : DataW.TrodAll enc Try.prog W 0 (fun _ => true) true Try.f5.params.toList args.toList ds p := hA0
  rw [Try.params5] at hA hval
  obtain ⟨v0, vs0, d0, ds0, p0, q0, hargs, rfl, rfl, h0, r0⟩ := trodAll_cons hA
  obtain ⟨v1, vs1, d1, ds1, p1, q1, rfl, rfl, rfl, h1, r1⟩ := trodAll_cons r0
  obtain ⟨rfl, rfl, rfl⟩ := trodAll_nil r1
  obtain rfl : args = #[v0, v1] := by cases args; simp_all
  obtain ⟨rfl, rfl⟩ := trodVars_none hV
  obtain ⟨a0, len0, cap0, rfl⟩ := okWide_slice Try.underlying29 (hval 0 29 v0 rfl rfl)
  have k0 := h0
  have lt0 : ∀ x ∈ p0, x.block < W.heap.size := by obtain ⟨m, hm⟩ := k0; exact DataW.trod_lt m _ _ _ hm
  obtain ⟨z0, w0⟩ : ∃ zs, IsRow .i64 W a0 len0 cap0 zs := by
    obtain ⟨fuel, hf⟩ := h0
    rcases open_ints Try.underlying29 Try.underlying3 (by kernel_rfl) hf with ⟨hcs, _⟩ | ⟨x, l, c, zs, hcs, _, hl, hm, hz, _, hcell, hwz⟩
    · simp [Value.cells] at hcs
      obtain ⟨rfl, rfl, rfl⟩ := hcs
      exact ⟨[], .inl ⟨rfl, rfl, rfl, rfl⟩⟩
    · simp [Value.cells] at hcs
      obtain ⟨rfl, rfl, rfl⟩ := hcs
      exact ⟨zs, .inr ⟨_, rfl, hl, hm, by simpa using hz, hcell, hwz⟩⟩
  obtain ⟨a1, rfl, rfl, rfl, w1⟩ := open_int Try.underlying5 (hval 1 5 v1 rfl rfl) h1
  clear hA0 hval0
  refine (walk a0 len0 cap0 z0 a1 W w0 w1).mono fun e W' ⟨he, bel⟩ => ?_
  subst he
  exact ⟨_, rfl, _, _, _, [], _, [], hW', trodAll_mk1 (shut_bool Try.underlying4 _), (trodAll_cons_mk (Below.trod laidOut (by kernel_rfl) (of_decide_eq_true (by kernel_rfl)) k0 bel lt0) (trodAll_cons_mk (shut_int Try.underlying5 w1) trodAll_mk0)), rfl, bel.frame _, fun h => by cases h⟩

theorem over : Rows.levelMaxRow.holds Try.pinned (OpenSpec.ofChange Rows.levelMaxSpec) :=
  OpenClaim.holds_of_wide 5 Try.f5 rfl rfl rfl rfl rfl rfl rfl ⟨rfl, rfl, rfl, rfl, rfl⟩ rfl rfl rfl rfl rfl (by kernel_rfl) Try.func5 (by kernel_rfl)
    (of_decide_eq_true (by kernel_rfl)) (by unfold Func.isWrapper; first | (rw [if_pos (by decide +kernel)]; kernel_rfl) | (rw [if_neg (by decide +kernel)]; exact ⟨rfl, rfl⟩))
    (fun os started H enc _ => lifted os started H enc)

/-- ████ THE STATEMENT ████ -/
theorem proved : Rows.LevelMaxSaid := over
#print axioms proved
end Go.Proofs.Ytimhenmhepincaa.levelMax
