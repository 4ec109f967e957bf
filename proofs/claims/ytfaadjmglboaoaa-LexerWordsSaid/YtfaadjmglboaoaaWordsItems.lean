/-
  What the scanner sends of a word between blanks.
-/
import Derived.Test.YtfaadjmglboaoaaScan1
namespace Go.Proofs.Ytfaadjmglboaoaa
open Go.Conc Go.RowKit

/-- All bytes of a text are as wished. -/
def AllB (f : Int → Bool) (s : ByteArray) : Prop := ∀ j (h : j < s.size), f (s[j].toNat : Int) = true

theorem blank_word_all : ((List.range 256).all fun n => !(isBlank (n : Int) && wordOf (n : Int))) = true := by decide +kernel
theorem blank_word (c : UInt8) : ¬ (isBlank (c.toNat : Int) = true ∧ wordOf (c.toNat : Int) = true) := by
  have := List.all_eq_true.1 blank_word_all c.toNat (List.mem_range.2 c.toNat_lt)
  rintro ⟨h1, h2⟩
  rw [h1, h2] at this
  cases this
theorem blank_not_word {c : UInt8} (h : isBlank (c.toNat : Int) = true) : wordOf (c.toNat : Int) = false := by
  cases h2 : wordOf (c.toNat : Int)
  · rfl
  · exact absurd ⟨h, h2⟩ (blank_word c)
theorem word_not_blank {c : UInt8} (h : wordOf (c.toNat : Int) = true) : isBlank (c.toNat : Int) = false := by
  cases h2 : isBlank (c.toNat : Int)
  · rfl
  · exact absurd ⟨h2, h⟩ (blank_word c)

theorem isRun_append {f : Int → Bool} {q r : ByteArray} (hq : AllB f q) (hr : ∀ h : 0 < r.size, f (r[0].toNat : Int) = false) : IsRun f (q ++ r) q.size := by
  refine ⟨by rw [ByteArray.size_append]; omega, fun j hj hlt => ?_, fun hn => ?_⟩
  · rw [ByteArray.getElem_append_left hlt]
    exact hq j hlt
  · have h0 : 0 < r.size := by rw [ByteArray.size_append] at hn; omega
    rw [ByteArray.getElem_append_right (Nat.le_refl _)]
    have := hr h0
    simpa using this

theorem extract_behind {p x : ByteArray} : (p ++ x).extract p.size (p ++ x).size = x := by
  apply ByteArray.ext_getElem
  · rw [ByteArray.size_extract, ByteArray.size_append]; omega
  · intro i h1 h2
    rw [ByteArray.getElem_extract, ByteArray.getElem_append_right (by omega)]
    congr 1
    omega
theorem extract_mid {p q r : ByteArray} : (p ++ (q ++ r)).extract p.size (p.size + q.size) = q := by
  apply ByteArray.ext_getElem
  · rw [ByteArray.size_extract, ByteArray.size_append, ByteArray.size_append]; omega
  · intro i h1 h2
    rw [ByteArray.getElem_extract, ByteArray.getElem_append_right (by omega), ByteArray.getElem_append_left (by omega)]
    congr 1
    omega
theorem get_behind {p q r : ByteArray} (hq : 0 < q.size) (h : p.size < (p ++ (q ++ r)).size) : (p ++ (q ++ r))[p.size] = q[0] := by
  rw [ByteArray.getElem_append_right (Nat.le_refl _), ByteArray.getElem_append_left (by omega)]
  congr 1
  omega

/-- Blanks are left out. -/
theorem items_blanks {p q r : ByteArray} {l : List Value} (hq : AllB isBlank q) (h0 : 0 < q.size) (hr : ∀ h : 0 < r.size, isBlank (r[0].toNat : Int) = false) (H : Items (p ++ (q ++ r)) (p.size + q.size) l) : Items (p ++ (q ++ r)) p.size l := by
  have hlt : p.size < (p ++ (q ++ r)).size := by rw [ByteArray.size_append, ByteArray.size_append]; omega
  have hb := hq 0 h0
  refine .skip (j := 1) (n := q.size) hlt (by decide) (fun k hk => ?_) ?_ ?_ rfl H
  · obtain rfl : k = 0 := by omega
    rw [get_behind h0 hlt]
    exact blank_not_word hb
  · rw [get_behind h0 hlt]
    exact hb
  · rw [extract_behind]
    exact isRun_append hq hr

/-- A word is one token. -/
theorem items_word {p q r : ByteArray} {l : List Value} (hq : AllB wordOf q) (h0 : 0 < q.size) (hr : ∀ h : 0 < r.size, wordOf (r[0].toNat : Int) = false) (H : Items (p ++ (q ++ r)) (p.size + q.size) l) : Items (p ++ (q ++ r)) p.size (item 1 p.size q 0 :: l) := by
  have hlt : p.size < (p ++ (q ++ r)).size := by rw [ByteArray.size_append, ByteArray.size_append]; omega
  have := Items.item (s := p ++ (q ++ r)) (i := p.size) (j := 0) (n := q.size) (l := l) hlt (by decide) (fun k hk => by omega) (by rw [get_behind h0 hlt]; exact hq 0 h0) (by rw [extract_behind]; exact isRun_append hq hr) (by decide) H
  rw [extract_mid] at this
  exact this

theorem words_items {t s b : ByteArray} (ht : AllB isBlank t) (hs : AllB wordOf s) (h0 : 0 < s.size) (hb : AllB isBlank b) : Items (t ++ s ++ b) 0 [item 1 t.size s 0] := by
  rw [ByteArray.append_assoc]
  have hend : Items (t ++ (s ++ b)) (t.size + s.size) [] := by
    rcases Nat.eq_zero_or_pos b.size with hz | hp
    · refine .done ?_
      rw [ByteArray.size_append, ByteArray.size_append]; omega
    · have e : t ++ (s ++ b) = (t ++ s) ++ (b ++ ByteArray.empty) := by rw [ByteArray.append_empty, ByteArray.append_assoc]
      rw [e]
      have := items_blanks (p := t ++ s) (q := b) (r := ByteArray.empty) (l := []) hb hp (fun h => by cases h) (.done (by have : ByteArray.empty.size = 0 := rfl; simp only [ByteArray.size_append]; omega))
      rw [ByteArray.size_append] at this
      exact this
  have hmid := items_word (p := t) (q := s) (r := b) hs h0 (fun h => blank_not_word (hb 0 h)) hend
  rcases Nat.eq_zero_or_pos t.size with hz | hp
  · have e : (0 : Nat) = t.size := hz.symm
    rw [show Items (t ++ (s ++ b)) 0 = Items (t ++ (s ++ b)) t.size by rw [hz]]
    exact hmid
  · have e : t ++ (s ++ b) = ByteArray.empty ++ (t ++ (s ++ b)) := by rw [ByteArray.empty_append]
    have hsz : ByteArray.empty.size = 0 := rfl
    have := items_blanks (p := ByteArray.empty) (q := t) (r := s ++ b) (l := [item 1 t.size s 0]) ht hp (fun h => by rw [ByteArray.getElem_append_left h0]; exact word_not_blank (hs 0 h0)) (by rw [← e, hsz, Nat.zero_add]; exact hmid)
    rw [← e, hsz] at this
    exact this
end Go.Proofs.Ytfaadjmglboaoaa
