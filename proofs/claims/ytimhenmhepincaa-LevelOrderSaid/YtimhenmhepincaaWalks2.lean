/-
  THE CONTRACTS OF PACKAGE level's FUNCTIONS, ON, AND OF THE REFERENCE's: each by one walk of its text.
-/
import Derived.Test.YtimhenmhepincaaWalks
namespace Go.Proofs.Ytimhenmhepincaa
open Go.RowKit
set_option maxHeartbeats 400000 in
theorem level_max (a : Option Addr) (n cap : Nat) (l : List Int) (w : World) (h : Ints w a n l) :
    Calls Try.prog 12 #[.slice a n cap] w fun e w' => e = .returned (.tuple #[.int .i64 (grv l), .int .i64 (gre l)]) ∧ Below w.heap.size w w' := by
  have hc := greatest_any a n cap l w h
  have HC := Lib.hid hc
  clear hc h
  go_enter Try.func12, Try.ntmps12
  go_wp2_with (go_at_call 22; refine (HC.out).mono ?_; rintro e w' ⟨rfl, hb⟩)
  go_ret2
  exact ⟨rfl, hb⟩

theorem greatest_two (x y : Int) (w : World) : Calls Try.prog 22 #[.slice (some ⟨w.heap.size, 0, none⟩) 2 2] (w.alloc (.cells #[.int .i64 x, .int .i64 y] 3)) fun e w' =>
    e = .returned (.tuple #[.int .i64 (grv [x, y]), .int .i64 (gre [x, y])]) ∧ Below w.heap.size w w' :=
  (greatest_any _ 2 2 _ _ (ints_two w x y 3)).mono fun _ _ ⟨he, hb⟩ => ⟨he, ((Below.refl _ _).alloc (Nat.le_refl _) _).trans (hb.mono (by simp))⟩

set_option maxHeartbeats 400000 in
theorem ofSig_any (x y : Int) (w : World) :
    Calls Try.prog 14 #[.int .i64 x, .int .i64 y] w fun e w' => e = .returned (.tuple #[.int .i64 (grv [x, y]), .int .i64 (gre [x, y])]) ∧ Below w.heap.size w w' := by
  have HC := Lib.hid (greatest_two x y w)
  go_enter Try.func14, Try.ntmps14
  go_wp2_with (go_at_call 22; refine (HC.out).mono ?_; rintro e w' ⟨rfl, hb⟩)
  go_ret2
  exact ⟨rfl, hb⟩

/-- OfPi's first answer. -/
def piv (x y : Int) : Int := if y == 0 then 0 else grv [x, y]

set_option maxHeartbeats 400000 in
theorem ofPi_any (x y : Int) (w : World) :
    Calls Try.prog 13 #[.int .i64 x, .int .i64 y] w fun e w' => e = .returned (.tuple #[.int .i64 (piv x y), .int .i64 (gre [x, y])]) ∧ Below w.heap.size w w' := by
  have HC := Lib.hid (greatest_two x y w)
  unfold piv
  cases h : y == 0
  all_goals
    go_enter Try.func13, Try.ntmps13
    go_wp2_with (first | (go_at_call 22; refine (HC.out).mono ?_; rintro e w' ⟨rfl, hb⟩) | (go_at_call 11; refine (strict_any _ _).mono ?_; rintro e w' ⟨rfl, rfl⟩))
    all_goals go_ret2
    all_goals exact ⟨rfl, hb⟩

/-! ### The references. -/

set_option maxHeartbeats 400000 in
theorem ref_level (n : Int) (w : World) :
    Calls Try.prog 23 #[.int .i64 n] w fun e w' => e = .returned (.bool (lvl n)) ∧ w = w' := by
  unfold lvl
  by_cases h : 0 ≤ n
  · have h1 : decide (0 ≤ n) = true := by simp; omega
    go_enter Try.func23, Try.ntmps23
    go_wp2
    all_goals go_ret
    all_goals exact ⟨by simp [*], rfl⟩
  · have h1 : decide (0 ≤ n) = false := by simp; omega
    go_enter Try.func23, Try.ntmps23
    go_wp2
    all_goals go_ret
    all_goals exact ⟨by simp [*], rfl⟩

set_option maxHeartbeats 400000 in
theorem ref_check (n : Int) (w : World) :
    Calls Try.prog 19 #[.int .i64 n] w fun e w' => e = .returned (.int .i64 (chk n)) ∧ w = w' := by
  have hc := ref_level n
  unfold chk
  generalize lvl n = x at hc ⊢
  have HC := Lib.hid hc
  clear hc
  cases x
  all_goals
    go_enter Try.func19, Try.ntmps19
    go_wp2_with (go_at_call 23; refine (HC.out _).mono ?_; rintro e w' ⟨rfl, rfl⟩)
    all_goals go_ret
    all_goals exact ⟨rfl, rfl⟩

set_option maxHeartbeats 400000 in
theorem ref_up (n : Int) (w : World) :
    Calls Try.prog 15 #[.int .i64 n] w fun e w' => e = .returned (.tuple #[.int .i64 (upv n), .int .i64 (upe n)]) ∧ w = w' := by
  have hc := ref_level n
  have hb : lvl n = true → 0 ≤ n ∧ n ≤ 9 := by intro h; simpa [lvl] using h
  unfold upv upe
  generalize lvl n = x at hc hb ⊢
  have HC := Lib.hid hc
  clear hc
  cases x
  · clear hb
    go_enter Try.func15, Try.ntmps15
    go_wp2_with (go_at_call 23; refine (HC.out _).mono ?_; rintro e w' ⟨rfl, rfl⟩)
    all_goals go_ret2
    all_goals exact ⟨rfl, rfl⟩
  · obtain ⟨hb1, hb2⟩ := hb rfl
    by_cases h9 : n = 9
    · subst h9
      clear hb1 hb2
      go_enter Try.func15, Try.ntmps15
      go_wp2_with (go_at_call 23; refine (HC.out _).mono ?_; rintro e w' ⟨rfl, rfl⟩)
      all_goals go_ret2
      all_goals exact ⟨rfl, rfl⟩
    · have h9' : (n == 9) = false := by simp [h9]
      have h99 : ¬ 9 ≤ n := by omega
      go_enter Try.func15, Try.ntmps15
      go_wp2_with (go_at_call 23; refine (HC.out _).mono ?_; rintro e w' ⟨rfl, rfl⟩)
      all_goals go_ret2
      all_goals exact ⟨by simp, rfl⟩

theorem bel_no (x y : Int) (h : lvl x = false ∨ lvl y = false) : bel x y = false := by
  unfold bel; rcases h with h | h <;> simp [h]
theorem bel_eq (x y : Int) (hx : lvl x = true) (hy : lvl y = true) (h : x = 0 ∨ y = 0) : bel x y = (x == y) := by
  unfold bel
  simp only [lvl, Bool.and_eq_true, decide_eq_true_eq] at hx hy
  rw [Bool.eq_iff_iff]
  rcases h with rfl | rfl
  · by_cases e : y = 0
    · subst e; decide
    · have e1 : (y == 0) = false := by simp [e]
      have e2 : ((0 : Int) == y) = false := by simp; omega
      simp [e1, e2]
  · by_cases e : x = 0
    · subst e; decide
    · have e1 : (x == 0) = false := by simp [e]
      simp [e1]
theorem bel_le (x y : Int) (hx : lvl x = true) (hy : lvl y = true) (h : x ≠ 0) (h' : y ≠ 0) : bel x y = decide (x ≤ y) := by
  unfold bel
  have e1 : (x == 0) = false := by simp [h]
  have e2 : (y == 0) = false := by simp [h']
  simp [hx, hy, e1, e2]

theorem ret_bool {a b : Bool} (h : a = b) : Ending.returned (.bool a) = .returned (.bool b) := by rw [h]

set_option maxHeartbeats 400000 in
theorem ref_below (x y : Int) (w : World) :
    Calls Try.prog 20 #[.int .i64 x, .int .i64 y] w fun e w' => e = .returned (.bool (bel x y)) ∧ w = w' := by
  cases hx : lvl x
  · have HB := Lib.hid (bel_no x y (.inl hx))
    go_enter Try.func20, Try.ntmps20
    go_wp2_with (go_at_call 23; refine (ref_level _ _).mono ?_; rintro e w' ⟨rfl, rfl⟩)
    all_goals go_ret
    all_goals exact ⟨ret_bool HB.out.symm, rfl⟩
  · cases hy : lvl y
    · have HB := Lib.hid (bel_no x y (.inr hy))
      go_enter Try.func20, Try.ntmps20
      go_wp2_with (go_at_call 23; refine (ref_level _ _).mono ?_; rintro e w' ⟨rfl, rfl⟩)
      all_goals go_ret
      all_goals exact ⟨ret_bool HB.out.symm, rfl⟩
    · by_cases h0 : x = 0 ∨ y = 0
      · have HB := Lib.hid (bel_eq x y hx hy h0)
        by_cases h1 : x = 0
        · have h1' : (x == 0) = true := by simp [h1]
          clear h0 h1
          go_enter Try.func20, Try.ntmps20
          go_wp2_with (go_at_call 23; refine (ref_level _ _).mono ?_; rintro e w' ⟨rfl, rfl⟩)
          all_goals go_ret
          all_goals exact ⟨ret_bool HB.out.symm, rfl⟩
        · have h1' : (x == 0) = false := by simp [h1]
          have h2' : (y == 0) = true := by simp; omega
          clear h0 h1
          go_enter Try.func20, Try.ntmps20
          go_wp2_with (go_at_call 23; refine (ref_level _ _).mono ?_; rintro e w' ⟨rfl, rfl⟩)
          all_goals go_ret
          all_goals exact ⟨ret_bool HB.out.symm, rfl⟩
      · have HB := Lib.hid (bel_le x y hx hy (by omega) (by omega))
        have h1' : (x == 0) = false := by simp; omega
        have h2' : (y == 0) = false := by simp; omega
        clear h0
        go_enter Try.func20, Try.ntmps20
        go_wp2_with (go_at_call 23; refine (ref_level _ _).mono ?_; rintro e w' ⟨rfl, rfl⟩)
        all_goals go_ret
        all_goals exact ⟨ret_bool HB.out.symm, rfl⟩

theorem grv_two (x y : Int) (hx : lvl x = true) (hy : lvl y = true) : grv [x, y] = mx2 x y := by
  simp only [lvl, Bool.and_eq_true, decide_eq_true_eq] at hx hy
  have e : [x, y].all lvl = true := by simp [lvl]; omega
  unfold grv
  rw [e]
  simp only [if_true, List.foldl_cons, List.foldl_nil]
  have e0 : mx2 0 x = x := by unfold mx2; split <;> omega
  rw [e0]
theorem grv_no (x y : Int) (h : lvl x = false ∨ lvl y = false) : grv [x, y] = 0 ∧ gre [x, y] = 1 ∧ piv x y = 0 := by
  have e : [x, y].all lvl = false := by rcases h with h | h <;> simp [h]
  unfold piv grv gre
  rw [e]
  simp
theorem gre_yes (x y : Int) (hx : lvl x = true) (hy : lvl y = true) : gre [x, y] = 0 := by
  unfold gre; simp [hx, hy]

theorem ret_two {a b c d : Int} (h : a = b) (h' : c = d) : Ending.returned (.tuple #[.int .i64 a, .int .i64 c]) = .returned (.tuple #[.int .i64 b, .int .i64 d]) := by rw [h, h']

set_option maxHeartbeats 400000 in
theorem ref_ofSig (x y : Int) (w : World) :
    Calls Try.prog 17 #[.int .i64 x, .int .i64 y] w fun e w' => e = .returned (.tuple #[.int .i64 (grv [x, y]), .int .i64 (gre [x, y])]) ∧ w = w' := by
  cases hx : lvl x
  · obtain ⟨e1, e2, _⟩ := grv_no x y (.inl hx)
    have H1 := Lib.hid e1
    have H2 := Lib.hid e2
    clear e1 e2
    go_enter Try.func17, Try.ntmps17
    go_wp2_with (go_at_call 23; refine (ref_level _ _).mono ?_; rintro e w' ⟨rfl, rfl⟩)
    all_goals go_ret2
    all_goals exact ⟨ret_two H1.out.symm H2.out.symm, rfl⟩
  · cases hy : lvl y
    · obtain ⟨e1, e2, _⟩ := grv_no x y (.inr hy)
      have H1 := Lib.hid e1
      have H2 := Lib.hid e2
      clear e1 e2
      go_enter Try.func17, Try.ntmps17
      go_wp2_with (go_at_call 23; refine (ref_level _ _).mono ?_; rintro e w' ⟨rfl, rfl⟩)
      all_goals go_ret2
      all_goals exact ⟨ret_two H1.out.symm H2.out.symm, rfl⟩
    · have H1 := Lib.hid (grv_two x y hx hy)
      have H2 := Lib.hid (gre_yes x y hx hy)
      go_enter Try.func17, Try.ntmps17
      go_wp2_with (go_at_call 23; refine (ref_level _ _).mono ?_; rintro e w' ⟨rfl, rfl⟩)
      all_goals go_ret2
      all_goals exact ⟨ret_two (by rw [H1.out]; unfold mx2; split <;> omega) H2.out.symm, rfl⟩

set_option maxHeartbeats 400000 in
theorem ref_ofPi (x y : Int) (w : World) :
    Calls Try.prog 16 #[.int .i64 x, .int .i64 y] w fun e w' => e = .returned (.tuple #[.int .i64 (piv x y), .int .i64 (gre [x, y])]) ∧ w = w' := by
  cases hx : lvl x
  · obtain ⟨_, e2, e1⟩ := grv_no x y (.inl hx)
    have H1 := Lib.hid e1
    have H2 := Lib.hid e2
    clear e1 e2
    go_enter Try.func16, Try.ntmps16
    go_wp2_with (go_at_call 23; refine (ref_level _ _).mono ?_; rintro e w' ⟨rfl, rfl⟩)
    all_goals go_ret2
    all_goals exact ⟨ret_two H1.out.symm H2.out.symm, rfl⟩
  · cases hy : lvl y
    · obtain ⟨_, e2, e1⟩ := grv_no x y (.inr hy)
      have H1 := Lib.hid e1
      have H2 := Lib.hid e2
      clear e1 e2
      go_enter Try.func16, Try.ntmps16
      go_wp2_with (go_at_call 23; refine (ref_level _ _).mono ?_; rintro e w' ⟨rfl, rfl⟩)
      all_goals go_ret2
      all_goals exact ⟨ret_two H1.out.symm H2.out.symm, rfl⟩
    · cases h0 : y == 0
      · have H1 : Hid (piv x y = mx2 x y) := Lib.hid (by unfold piv; rw [h0]; exact grv_two x y hx hy)
        have H2 := Lib.hid (gre_yes x y hx hy)
        go_enter Try.func16, Try.ntmps16
        go_wp2_with (go_at_call 23; refine (ref_level _ _).mono ?_; rintro e w' ⟨rfl, rfl⟩)
        all_goals go_ret2
        all_goals exact ⟨ret_two (by rw [H1.out]; unfold mx2; split <;> omega) H2.out.symm, rfl⟩
      · have H1 : Hid (piv x y = 0) := Lib.hid (by unfold piv; rw [h0]; rfl)
        have H2 := Lib.hid (gre_yes x y hx hy)
        go_enter Try.func16, Try.ntmps16
        go_wp2_with (go_at_call 23; refine (ref_level _ _).mono ?_; rintro e w' ⟨rfl, rfl⟩)
        all_goals go_ret2
        all_goals exact ⟨ret_two H1.out.symm H2.out.symm, rfl⟩

theorem take_all_succ (l : List Int) (k : Nat) (hk : k < l.length) : (l.take (k + 1)).all lvl = ((l.take k).all lvl && lvl (l.getD k 0)) := by
  rw [List.take_succ_eq_append_getElem hk, List.all_append]
  simp [hk]
theorem take_fold_succ (l : List Int) (k : Nat) (hk : k < l.length) : (l.take (k + 1)).foldl mx2 0 = mx2 ((l.take k).foldl mx2 0) (l.getD k 0) := by
  rw [List.take_succ_eq_append_getElem hk, List.foldl_append]
  simp [hk]
theorem all_no (l : List Int) (k : Nat) (hk : k < l.length) (h : lvl (l.getD k 0) = false) : l.all lvl = false := by
  rw [List.all_eq_false]
  refine ⟨l[k], List.getElem_mem hk, ?_⟩
  simp [hk] at h
  simp [h]

set_option maxHeartbeats 800000 in
theorem ref_max (a : Option Addr) (n cap : Nat) (l : List Int) (w : World) (h : Ints w a n l) :
    Calls Try.prog 18 #[.slice a n cap] w fun e w' => e = .returned (.tuple #[.int .i64 (grv l), .int .i64 (gre l)]) ∧ w = w' := by
  obtain ⟨h1, h2, h3⟩ := h
  have HL := Lib.hid h1
  clear h1
  go_enter Try.func18, Try.ntmps18
  go_wp2
  go_loop [4, 5] (fun m i => ∃ k : Nat, k ≤ n ∧ i = .int .i64 k ∧ m = .int .i64 ((l.take k).foldl mx2 0) ∧ Hid ((l.take k).all lvl = true)) (fun _ i => n - (intOf i).toNat)
  case atStart => exact ⟨0, Nat.zero_le _, rfl, rfl, Lib.hid rfl⟩
  case round =>
    obtain ⟨k, hk, rfl, rfl, H⟩ := hrel
    by_cases hlt : k < n
    · obtain ⟨b, off, rfl, hc⟩ := h3.resolve_left (by omega)
      have hkl : k < l.length := by have := HL.out; omega
      have hcell : w.cell? ⟨b, off + k, none⟩ = some (.int .i64 (l.getD k 0)) := hc k hkl
      have HS := Lib.hid (take_fold_succ l k hkl)
      have HA := Lib.hid (take_all_succ l k hkl)
      have HN := Lib.hid (all_no l k hkl)
      clear hc hkl h3
      generalize l.getD k 0 = z at hcell HS HA HN
      cases hv : lvl z
      · have H1 : Hid (grv l = 0) := Lib.hid (by unfold grv; rw [HN.out hv]; rfl)
        have H2 : Hid (gre l = 1) := Lib.hid (by unfold gre; rw [HN.out hv]; rfl)
        go_wp2_with (go_at_call 23; refine (ref_level _ _).mono ?_; rintro e w' ⟨rfl, rfl⟩)
        go_ret2
        exact ⟨ret_two H1.out.symm H2.out.symm, rfl⟩
      · go_wp2_with (go_at_call 23; refine (ref_level _ _).mono ?_; rintro e w' ⟨rfl, rfl⟩)
        go_round
        case rel => exact ⟨k + 1, by omega, by go_num, by rw [HS.out]; rfl, Lib.hid (by rw [HA.out, H.out, hv]; rfl)⟩
        case measure => simp [intOf]; omega
    · obtain rfl : k = n := by omega
      have e : l.take k = l := List.take_of_length_le (by have := HL.out; omega)
      rw [e] at H ⊢
      have H1 : Hid (grv l = l.foldl mx2 0) := Lib.hid (by unfold grv; rw [H.out]; rfl)
      have H2 : Hid (gre l = 0) := Lib.hid (by unfold gre; rw [H.out]; rfl)
      clear e h3
      go_wp2
      go_ret2
      exact ⟨ret_two H1.out.symm H2.out.symm, rfl⟩

theorem lvl_iff (n : Int) : lvl n = true ↔ 0 ≤ n ∧ n ≤ 9 := by simp [lvl]
theorem bel_iff (a b : Int) : bel a b = true ↔ (0 ≤ a ∧ a ≤ 9) ∧ (0 ≤ b ∧ b ≤ 9) ∧ (a = 0 ↔ b = 0) ∧ a ≤ b := by
  unfold bel
  simp only [List.all_cons, List.all_nil, Bool.and_true, Bool.and_eq_true, lvl_iff, decide_eq_true_eq, beq_iff_eq]
  have e : ((a == 0) = (b == 0)) ↔ (a = 0 ↔ b = 0) := by
    rw [Bool.eq_iff_iff]; simp
  rw [e]
  constructor
  · rintro ⟨⟨⟨h1, h2⟩, h3⟩, h4⟩; exact ⟨h1, h2, h3, h4⟩
  · rintro ⟨h1, h2, h3, h4⟩; exact ⟨⟨⟨h1, h2⟩, h3⟩, h4⟩


/-- A slice of the caller's is what it was, behind whatever makes memory. -/
theorem Ints.later {w w' : World} {a : Option Addr} {n : Nat} {l : List Int} (h : Ints w a n l) (hb : Below w.heap.size w w') : Ints w' a n l := by
  obtain ⟨h1, h2, h3⟩ := h
  refine ⟨h1, h2, h3.imp id ?_⟩
  rintro ⟨b, off, rfl, hc⟩
  refine ⟨b, off, rfl, fun j hj => ?_⟩
  have := hc j hj
  rw [hb.cell (World.block_lt_of_cell? w _ this), this]

/-- A contract that makes memory, said from an earlier world on. -/
theorem at_of {f : FuncId} {args : Array Value} {w w0 : World} {Q : Ending → Prop} (h : Calls Try.prog f args w fun e w' => Q e ∧ Below w.heap.size w w') (hb : Below w0.heap.size w0 w) :
    Calls Try.prog f args w fun e w' => Q e ∧ Below w0.heap.size w0 w' :=
  h.mono fun _ _ ⟨he, hb'⟩ => ⟨he, hb.trans (hb'.mono hb.size)⟩
end Go.Proofs.Ytimhenmhepincaa
