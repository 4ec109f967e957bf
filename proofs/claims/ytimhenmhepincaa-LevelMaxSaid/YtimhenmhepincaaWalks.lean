/-
  THE CONTRACTS OF PACKAGE level's FUNCTIONS, AND OF WHAT THEY CALL (slices.IndexFunc, ContainsFunc, Max at []int): each by one walk of its text.
-/
import Derived.Test.YtimhenmhepincaaRows
import Derived.WalkKit
import Derived.WalkSpells
import Derived.WalkLawsBesides
import Derived.Lib.Hide
import Derived.Laws.AppendOwnNone
namespace Go.Proofs.Ytimhenmhepincaa
open Go.RowKit

/-- Is a number a level? -/
def lvl (n : Int) : Bool := decide (0 ≤ n) && decide (n ≤ 9)
/-- The place of the first number that is no level; -1: there is none. -/
def idx : List Int → Nat → Int
  | [], _ => -1
  | z :: zs, k => if lvl z then idx zs (k + 1) else k

theorem idx_ge (l : List Int) (k : Nat) : decide (0 ≤ idx l k) = !l.all lvl := by
  induction l generalizing k with
  | nil => rfl
  | cons z zs ih =>
    unfold idx
    cases h : lvl z
    · simp [h]
    · simp [h, ih]

theorem idx_drop (l : List Int) (k j : Nat) (hk : k < l.length) : idx (l.drop k) j = if lvl (l.getD k 0) then idx (l.drop (k + 1)) (j + 1) else j := by
  rw [List.drop_eq_getElem_cons hk]
  have e : l.getD k 0 = l[k] := by simp [hk]
  rw [e]; rfl

set_option maxHeartbeats 400000 in
theorem lit_yes (n : Int) (w : World) (h : lvl n = true) :
    Calls Try.prog 25 #[.int .i64 n] w fun e w' => e = .returned (.bool false) ∧ w = w' := by
  simp only [lvl, Bool.and_eq_true, decide_eq_true_eq] at h
  obtain ⟨h1, h2⟩ := h
  have h3 : decide (n < 0) = false := by simp; omega
  have h4 : decide (9 < n) = false := by simp; omega
  go_enter Try.func25, Try.ntmps25
  go_wp2
  go_ret
  exact ⟨rfl, rfl⟩

set_option maxHeartbeats 400000 in
theorem lit_no (n : Int) (w : World) (h : lvl n = false) :
    Calls Try.prog 25 #[.int .i64 n] w fun e w' => e = .returned (.bool true) ∧ w = w' := by
  by_cases h1 : n < 0
  · have h3 : decide (n < 0) = true := by simp; omega
    go_enter Try.func25, Try.ntmps25
    go_wp2
    go_ret
    exact ⟨rfl, rfl⟩
  · have h3 : decide (n < 0) = false := by simp; omega
    have h4 : decide (9 < n) = true := by
      simp only [lvl, Bool.and_eq_false_iff, decide_eq_false_iff_not] at h
      simp; omega
    go_enter Try.func25, Try.ntmps25
    go_wp2
    go_ret
    exact ⟨rfl, rfl⟩

set_option maxHeartbeats 800000 in
theorem indexFunc_walk (b off n cap : Nat) (zs : List Int) (w : World) (hz : n ≤ zs.length) (hbig : n ≤ 9223372036854775807)
    (hc : ∀ j, j < zs.length → w.cell? ⟨b, off + j, none⟩ = some (.int .i64 (zs.getD j 0))) :
    Calls Try.prog 27 #[.slice (some ⟨b, off, none⟩) n cap, .func (.func 25) #[] #[]] w fun e w' => e = .returned (.int .i64 (idx (zs.take n) 0)) ∧ w = w' := by
  have hl : (zs.take n).length = n := by simp; omega
  go_enter Try.func27, Try.ntmps27
  go_wp2
  go_loop [8] (fun i => ∃ k : Nat, k ≤ n ∧ i = .int .i64 k ∧ Hid (idx (zs.take n) 0 = idx ((zs.take n).drop k) k)) (fun i => n - (intOf i).toNat)
  case atStart => exact ⟨0, Nat.zero_le _, rfl, Lib.hid (by simp)⟩
  case round =>
    obtain ⟨k, hk, rfl, H⟩ := hrel
    by_cases hlt : k < n
    · have hcell : w.cell? ⟨b, off + k, none⟩ = some (.int .i64 (zs.getD k 0)) := hc k (by omega)
      have hd := idx_drop (zs.take n) k k (by omega)
      have hg : (zs.take n).getD k 0 = zs.getD k 0 := by simp [List.getD, hlt]
      rw [hg] at hd
      generalize zs.getD k 0 = z at hcell hd
      have HD := Lib.hid hd
      clear hd hg hc hl
      cases hv : lvl z
      · have V := Lib.hid hv
        clear hv
        go_wp2_with (go_at_call 25; refine (lit_no _ _ V.out).mono ?_; rintro e w' ⟨rfl, rfl⟩)
        go_ret
        refine ⟨?_, rfl⟩
        rw [H.out, HD.out, V.out]; rfl
      · have V := Lib.hid hv
        clear hv
        go_wp2_with (go_at_call 25; refine (lit_yes _ _ V.out).mono ?_; rintro e w' ⟨rfl, rfl⟩)
        go_round
        case rel => exact ⟨k + 1, by omega, by go_num, Lib.hid (by rw [H.out, HD.out, V.out]; rfl)⟩
        case measure => simp [intOf]; omega
    · obtain rfl : k = n := by omega
      go_wp2
      go_ret
      refine ⟨?_, rfl⟩
      rw [H.out, List.drop_of_length_le (by omega)]; rfl

/-- A slice of n integers l, as it lies in memory. -/
def Ints (w : World) (a : Option Addr) (n : Nat) (l : List Int) : Prop :=
  l.length = n ∧ n ≤ 1099511627776 ∧ (n = 0 ∨ ∃ b off, a = some ⟨b, off, none⟩ ∧ ∀ j, j < l.length → w.cell? ⟨b, off + j, none⟩ = some (.int .i64 (l.getD j 0)))

set_option maxHeartbeats 400000 in
theorem indexFunc_empty (a : Option Addr) (cap : Nat) (w : World) :
    Calls Try.prog 27 #[.slice a 0 cap, .func (.func 25) #[] #[]] w fun e w' => e = .returned (.int .i64 (-1)) ∧ w = w' := by
  go_enter Try.func27, Try.ntmps27
  go_wp2
  go_loop [8] (fun i => i = .int .i64 0) (fun _ => 0)
  case atStart => rfl
  case round =>
    subst hrel
    go_wp2
    go_ret
    exact ⟨rfl, rfl⟩

theorem indexFunc_any (a : Option Addr) (n cap : Nat) (l : List Int) (w : World) (h : Ints w a n l) :
    Calls Try.prog 27 #[.slice a n cap, .func (.func 25) #[] #[]] w fun e w' => e = .returned (.int .i64 (idx l 0)) ∧ w = w' := by
  obtain ⟨h1, h2, h3 | ⟨b, off, rfl, hc⟩⟩ := h
  · subst h3
    obtain rfl : l = [] := List.length_eq_zero_iff.1 h1
    exact indexFunc_empty a cap w
  · have := indexFunc_walk b off n cap l w (by omega) (by omega) hc
    rwa [List.take_of_length_le (by omega)] at this

set_option maxHeartbeats 400000 in
theorem containsFunc_any (a : Option Addr) (n cap : Nat) (l : List Int) (w : World) (h : Ints w a n l) :
    Calls Try.prog 24 #[.slice a n cap, .func (.func 25) #[] #[]] w fun e w' => e = .returned (.bool (!l.all lvl)) ∧ w = w' := by
  have H := Lib.hid h
  clear h
  go_enter Try.func24, Try.ntmps24
  go_wp2_with (go_at_call 27; refine (indexFunc_any _ _ _ _ _ H.out).mono ?_; rintro e w' ⟨rfl, rfl⟩)
  go_ret
  refine ⟨?_, rfl⟩
  rw [← idx_ge l 0]; rfl

set_option maxHeartbeats 400000 in
theorem all_any (a : Option Addr) (n cap : Nat) (l : List Int) (w : World) (h : Ints w a n l) :
    Calls Try.prog 21 #[.slice a n cap] w fun e w' => e = .returned (.bool (l.all lvl)) ∧ w = w' := by
  have H := Lib.hid h
  clear h
  generalize hx : l.all lvl = x
  have hc : Calls Try.prog 24 #[.slice a n cap, .func (.func 25) #[] #[]] w fun e w' => e = .returned (.bool (!x)) ∧ w = w' := by
    rw [← hx]; exact containsFunc_any _ _ _ _ _ H.out
  have HC := Lib.hid hc
  clear hc hx H
  go_enter Try.func21, Try.ntmps21
  go_wp2_with (go_at_call 24; refine (HC.out).mono ?_; rintro e w' ⟨rfl, rfl⟩)
  go_ret
  exact ⟨by simp, rfl⟩

theorem ints_one (w : World) (x : Int) (t : TypeId) : Ints (w.alloc (.cells #[.int .i64 x] t)) (some ⟨w.heap.size, 0, none⟩) 1 [x] := by
  refine ⟨rfl, by omega, .inr ⟨_, _, rfl, fun j hj => ?_⟩⟩
  simp at hj
  subst hj
  go_simp
theorem ints_two (w : World) (x y : Int) (t : TypeId) : Ints (w.alloc (.cells #[.int .i64 x, .int .i64 y] t)) (some ⟨w.heap.size, 0, none⟩) 2 [x, y] := by
  refine ⟨rfl, by omega, .inr ⟨_, _, rfl, fun j hj => ?_⟩⟩
  have hj2 : j < 2 := by simpa using hj
  obtain rfl | rfl : j = 0 ∨ j = 1 := by omega
  · go_simp
  · go_simp

set_option maxHeartbeats 400000 in
theorem strict_any (n : Int) (w : World) :
    Calls Try.prog 11 #[.int .i64 n] w fun e w' => e = .returned (.bool (n == 0)) ∧ w = w' := by
  go_enter Try.func11, Try.ntmps11
  go_wp2
  go_ret
  exact ⟨rfl, rfl⟩

/-- Below's answer. -/
def bel (a b : Int) : Bool := [a, b].all lvl && ((a == 0) == (b == 0)) && decide (a ≤ b)

set_option maxHeartbeats 400000 in
theorem below_any (a b : Int) (w : World) :
    Calls Try.prog 8 #[.int .i64 a, .int .i64 b] w fun e w' => e = .returned (.bool (bel a b)) ∧ Below w.heap.size w w' := by
  unfold bel
  generalize hx : [a, b].all lvl = x
  have hc : Calls Try.prog 21 #[.slice (some ⟨w.heap.size, 0, none⟩) 2 2] (w.alloc (.cells #[.int .i64 a, .int .i64 b] 3)) fun e w' => e = .returned (.bool x) ∧ w.alloc (.cells #[.int .i64 a, .int .i64 b] 3) = w' := by
    rw [← hx]; exact all_any _ _ _ _ _ (ints_two w a b 3)
  have HC := Lib.hid hc
  clear hc hx
  cases x
  all_goals
    go_enter Try.func8, Try.ntmps8
    go_wp2_with (first | (go_at_call 21; refine (HC.out).mono ?_; rintro e w' ⟨rfl, rfl⟩) | (go_at_call 11; refine (strict_any _ _).mono ?_; rintro e w' ⟨rfl, rfl⟩))
    all_goals go_ret
    all_goals exact ⟨by simp [*], (Below.refl _ _).alloc (Nat.le_refl _) _⟩

/-- Check's answer. -/
def chk (n : Int) : Int := if lvl n then 0 else 1

set_option maxHeartbeats 400000 in
theorem check_any (n : Int) (w : World) :
    Calls Try.prog 9 #[.int .i64 n] w fun e w' => e = .returned (.int .i64 (chk n)) ∧ Below w.heap.size w w' := by
  unfold chk
  generalize hx : lvl n = x
  have hc : Calls Try.prog 21 #[.slice (some ⟨w.heap.size, 0, none⟩) 1 1] (w.alloc (.cells #[.int .i64 n] 3)) fun e w' => e = .returned (.bool x) ∧ w.alloc (.cells #[.int .i64 n] 3) = w' := by
    have := all_any _ 1 1 _ _ (ints_one w n 3)
    simpa [hx] using this
  have HC := Lib.hid hc
  clear hc hx
  cases x
  all_goals
    go_enter Try.func9, Try.ntmps9
    go_wp2_with (go_at_call 21; refine (HC.out).mono ?_; rintro e w' ⟨rfl, rfl⟩)
    all_goals go_ret
    all_goals exact ⟨rfl, (Below.refl _ _).alloc (Nat.le_refl _) _⟩

/-- Up's answers. -/
def upv (n : Int) : Int := if lvl n then (if 9 ≤ n then 0 else n + 1) else 0
def upe (n : Int) : Int := if lvl n then (if 9 ≤ n then 2 else 0) else 1

set_option maxHeartbeats 400000 in
theorem up_any (n : Int) (w : World) :
    Calls Try.prog 10 #[.int .i64 n] w fun e w' => e = .returned (.tuple #[.int .i64 (upv n), .int .i64 (upe n)]) ∧ Below w.heap.size w w' := by
  unfold upv upe
  generalize hx : lvl n = x
  have hb : x = true → 0 ≤ n ∧ n ≤ 9 := by
    rintro rfl; simpa [lvl] using hx
  have hc : Calls Try.prog 21 #[.slice (some ⟨w.heap.size, 0, none⟩) 1 1] (w.alloc (.cells #[.int .i64 n] 3)) fun e w' => e = .returned (.bool x) ∧ w.alloc (.cells #[.int .i64 n] 3) = w' := by
    have := all_any _ 1 1 _ _ (ints_one w n 3)
    simpa [hx] using this
  have HC := Lib.hid hc
  clear hc hx
  cases x
  · clear hb
    go_enter Try.func10, Try.ntmps10
    go_wp2_with (go_at_call 21; refine (HC.out).mono ?_; rintro e w' ⟨rfl, rfl⟩)
    all_goals go_ret2
    all_goals exact ⟨rfl, (Below.refl _ _).alloc (Nat.le_refl _) _⟩
  · obtain ⟨hb1, hb2⟩ := hb rfl
    by_cases h9 : 9 ≤ n
    · have h9' : decide (9 ≤ n) = true := by simp; omega
      go_enter Try.func10, Try.ntmps10
      go_wp2_with (go_at_call 21; refine (HC.out).mono ?_; rintro e w' ⟨rfl, rfl⟩)
      all_goals go_ret2
      all_goals exact ⟨by simp, (Below.refl _ _).alloc (Nat.le_refl _) _⟩
    · have h9' : decide (9 ≤ n) = false := by simp; omega
      go_enter Try.func10, Try.ntmps10
      go_wp2_with (go_at_call 21; refine (HC.out).mono ?_; rintro e w' ⟨rfl, rfl⟩)
      all_goals go_ret2
      all_goals exact ⟨by simp, (Below.refl _ _).alloc (Nat.le_refl _) _⟩

def mx2 (a z : Int) : Int := if a < z then z else a
/-- The greatest of a list that is not empty. -/
def mxl : List Int → Int
  | [] => 0
  | z :: zs => zs.foldl mx2 z

theorem mxl_snoc (l : List Int) (k : Nat) (h0 : 0 < k) (hk : k < l.length) : mxl (l.take (k + 1)) = mx2 (mxl (l.take k)) (l.getD k 0) := by
  rw [List.take_succ_eq_append_getElem hk]
  have e : l.getD k 0 = l[k] := by simp [hk]
  rw [e]
  cases l with
  | nil => simp at hk
  | cons z zs =>
    obtain ⟨k, rfl⟩ : ∃ m, k = m + 1 := ⟨k - 1, by omega⟩
    simp only [List.take_succ_cons, List.cons_append, mxl, List.foldl_append, List.foldl_cons, List.foldl_nil]

set_option maxHeartbeats 800000 in
theorem max_walk (b off n cap : Nat) (l : List Int) (w : World) (hn : 0 < n) (hz : l.length = n) (hbig : n ≤ 9223372036854775807)
    (hc : ∀ j, j < l.length → w.cell? ⟨b, off + j, none⟩ = some (.int .i64 (l.getD j 0))) :
    Calls Try.prog 26 #[.slice (some ⟨b, off, none⟩) n cap] w fun e w' => e = .returned (.int .i64 (mxl l)) ∧ w = w' := by
  have hn1 : ¬ n < 1 := by omega
  have hc0 : w.cell? ⟨b, off, none⟩ = some (.int .i64 (l.getD 0 0)) := hc 0 (by omega)
  have hm0 : l.getD 0 0 = mxl (l.take 1) := by
    cases l with
    | nil => simp at hz; omega
    | cons z zs => simp [mxl]
  rw [hm0] at hc0
  clear hm0
  have HZ := Lib.hid hz
  clear hz
  have HC := Lib.hid hc
  clear hc
  go_enter Try.func26, Try.ntmps26
  go_wp2
  go_loop [3, 4] (fun m i => ∃ k : Nat, 1 ≤ k ∧ k ≤ n ∧ i = .int .i64 k ∧ m = .int .i64 (mxl (l.take k))) (fun _ i => n - (intOf i).toNat)
  case atStart => exact ⟨1, by omega, by omega, rfl, rfl⟩
  case round =>
    obtain ⟨k, hk0, hk, rfl, rfl⟩ := hrel
    clear hc0
    by_cases hlt : k < n
    · have hcell : w.cell? ⟨b, off + k, none⟩ = some (.int .i64 (l.getD k 0)) := HC.out k (by have := HZ.out; omega)
      have hd := mxl_snoc l k (by omega) (by have := HZ.out; omega)
      generalize l.getD k 0 = z at hcell hd
      have HD := Lib.hid hd
      clear hd
      go_wp2
      go_round
      case rel => exact ⟨k + 1, by omega, by omega, by go_num, by rw [HD.out]; rfl⟩
      case measure => simp [intOf]; omega
    · obtain rfl : k = n := by omega
      go_wp2
      go_ret
      refine ⟨?_, rfl⟩
      rw [List.take_of_length_le (by have := HZ.out; omega)]; rfl

theorem Try.info3 : (Try.prog.info? 3).map (fun i => (i.zero, i.size, i.bytes)) = some (some (.int .i64 0), 1, 8) := by kernel_rfl

theorem owns_ints {w : World} {base : Nat} {v : Value} {n : Nat} {l : List Int} (h : w.ownsRow base 3 1 v n (l.map (.int .i64))) (hn : 0 < n) :
    ∃ g cap, v = .slice (some ⟨g, 0, none⟩) n cap ∧ base ≤ g ∧ l.length = n ∧ ∀ j, j < l.length → w.cell? ⟨g, 0 + j, none⟩ = some (.int .i64 (l.getD j 0)) := by
  have h1 := h.1
  rcases h.2 with ⟨_, h0⟩ | ⟨g, cap, cur, rfl, hb, _⟩
  · omega
  · have hl : l.length = n := by simpa using h1
    refine ⟨g, cap, rfl, hb, hl, fun j hj => ?_⟩
    have := h.cellAt j (by omega)
    rw [Nat.zero_add, this]
    simp [hj]

/-- What 'greatest' answers. -/
def grv (l : List Int) : Int := if l.all lvl then l.foldl mx2 0 else 0
def gre (l : List Int) : Int := if l.all lvl then 0 else 1

set_option maxHeartbeats 800000 in
theorem greatest_any (a : Option Addr) (n cap : Nat) (l : List Int) (w : World) (h : Ints w a n l) :
    Calls Try.prog 22 #[.slice a n cap] w fun e w' => e = .returned (.tuple #[.int .i64 (grv l), .int .i64 (gre l)]) ∧ Below w.heap.size w w' := by
  have hall := all_any a n cap l w h
  unfold grv gre
  generalize l.all lvl = x at hall ⊢
  have HA := Lib.hid hall
  clear hall
  cases x
  · clear h
    go_enter Try.func22, Try.ntmps22
    go_wp2_with (go_at_call 21; refine (HA.out).mono ?_; rintro e w' ⟨rfl, rfl⟩)
    go_ret2
    exact ⟨rfl, Below.refl _ _⟩
  · obtain ⟨i0, hi, hz0, hz1, hz2⟩ := info_parts Try.info3
    obtain ⟨h1, h2, h3⟩ := h
    have hown : ((w.alloc (.cells #[.int .i64 0] 3))).ownsRow w.heap.size 3 1 (.slice (some ⟨w.heap.size, 0, none⟩) 1 1) 1 [.int .i64 0] :=
      World.ownsRow_lit w #[.int .i64 0] 1 (Nat.le_refl _) (by unfold maxLen; omega) rfl
    cases a with
    | none =>
      have hn0 : n = 0 := by
        rcases h3 with h3 | ⟨_, _, h3, _⟩
        · exact h3
        · cases h3
      subst hn0
      obtain rfl : l = [] := List.length_eq_zero_iff.1 h1
      have hm := max_walk w.heap.size 0 1 1 [0] (w.alloc (.cells #[.int .i64 0] 3)) (by omega) rfl (by omega) (fun j hj => by
        have : j = 0 := by simpa using hj
        subst this; go_simp)
      have HM := Lib.hid hm
      have HO := Lib.hid hown
      clear hm hown h1 h2 h3
      go_enter Try.func22, Try.ntmps22
      go_wp2_with (first
        | (go_at_call 21; refine (HA.out).mono ?_; rintro e w' ⟨rfl, rfl⟩)
        | (go_at_call 26; refine (HM.out).mono ?_; rintro e w' ⟨rfl, rfl⟩)
)
      go_ret2
      exact ⟨rfl, (Below.refl _ _).alloc (Nat.le_refl _) _⟩
    | some ad =>
      have hnews : ∀ j u, (l.map (Value.int .i64))[j]? = some u → (w.alloc (.cells #[.int .i64 0] 3)).cell? (ad.add j) = some u := by
        intro j u hu
        have hj : j < l.length := by
          rcases Nat.lt_or_ge j l.length with h | h
          · exact h
          · simp [List.getElem?_eq_none h] at hu
        rcases h3 with h3 | ⟨b, off, e, hc⟩
        · omega
        · cases e
          have := hc j hj
          have hb := World.block_lt_of_cell? w _ this
          rw [show (⟨b, off, none⟩ : Addr).add j = ⟨b, off + j, none⟩ from by simp [Addr.add], World.cell?_alloc_lt _ _ _ hb, this, ← hu]
          simp [hj]
      have HN := Lib.hid hnews
      have HO := Lib.hid hown
      have HL := Lib.hid h1
      clear hnews hown h1 h3
      go_enter Try.func22, Try.ntmps22
      go_wp2_with (first
        | (go_at_call 21; refine (HA.out).mono ?_; rintro e w' ⟨rfl, rfl⟩)
        | (at_builtin; go_loud (refine wpList_append_own _ rfl _ _ 29 rfl w.heap.size 3 i0 (.int .i64 0) 1 8 Try.underlying29 hi hz0 hz1 hz2 rfl (by decide) (.slice (some ⟨w.heap.size, 0, none⟩) 1 1) 1 [.int .i64 0] rfl HO.out ad n cap (l.map (Value.int .i64)) rfl (by have := HL.out; simp; omega) HN.out (fun u hu => by simp at hu; obtain ⟨z, _, rfl⟩ := hu; rfl) (by unfold maxLen; omega) (by omega) (by simp) ?_); intro v' w1 hown' hgrow _; obtain ⟨g, c, rfl, hg, hgl, hgc⟩ := owns_ints (l := 0 :: l) hown' (by omega); have HG := Lib.hid hgrow; have HGL := Lib.hid hgl; have HGC := Lib.hid hgc; clear hown' hgrow hgl hgc)
        | (go_at_call 26; go_loud (refine (max_walk _ 0 _ _ (0 :: l) _ (by omega) HGL.out (by omega) HGC.out).mono ?_); rintro e w' ⟨rfl, rfl⟩))
      go_ret2
      exact ⟨rfl, ((Below.refl _ _).alloc (Nat.le_refl _) _).grown HG.out (by simp) (fun k hk => by cases hk; exact Nat.le_refl _)⟩

end Go.Proofs.Ytimhenmhepincaa
