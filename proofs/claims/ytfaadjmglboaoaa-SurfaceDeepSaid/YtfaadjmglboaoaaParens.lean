/-
  Texts of parentheses, so many of the one and so many of the other: what is read of them.
-/
import Derived.Test.YtfaadjmglboaoaaRead
namespace Go.Proofs.Ytfaadjmglboaoaa
open Go.Conc Go.RowKit

def bstr (l : List UInt8) : ByteArray := ⟨l.toArray⟩
theorem bstr_size (l : List UInt8) : (bstr l).size = l.length := by simp [bstr, ByteArray.size]
theorem bstr_append (l m : List UInt8) : bstr l ++ bstr m = bstr (l ++ m) := by
  apply ByteArray.ext
  simp [bstr]
theorem bstr_get (l : List UInt8) (i : Nat) (h : i < (bstr l).size) : (bstr l)[i] = l[i]'(by rw [bstr_size] at h; exact h) := by
  simp [bstr, ByteArray.getElem_eq_getElem_data]

/-- So many open ones, so many that shut. -/
def op (k c : Nat) : ByteArray := bstr (List.replicate k 40 ++ List.replicate c 41)
theorem op_size (k c : Nat) : (op k c).size = k + c := by simp [op, bstr_size]
theorem op_open (k : Nat) : op k 0 ++ { data := #[40] } = op (k + 1) 0 := by
  show op k 0 ++ bstr [40] = _
  unfold op
  rw [bstr_append]
  congr 1
  simp [List.replicate_succ']
theorem op_shut (k c : Nat) : op k c ++ { data := #[41] } = op k (c + 1) := by
  show op k c ++ bstr [41] = _
  unfold op
  rw [bstr_append]
  congr 1
  simp [List.replicate_succ']
theorem op_zero : op 0 0 = { data := #[] } := rfl
theorem op_get (k c i : Nat) (h : i < (op k c).size) : (op k c)[i] = if i < k then 40 else 41 := by
  have : (op k c)[i] = (List.replicate k (40 : UInt8) ++ List.replicate c 41)[i]'(by rw [op_size] at h; simpa using h) := bstr_get _ i h
  rw [this]
  by_cases hk : i < k
  · rw [List.getElem_append_left (by simpa using hk), List.getElem_replicate, if_pos hk]
  · rw [List.getElem_append_right (by simpa using hk), List.getElem_replicate, if_neg hk]
theorem op_extract (k c n : Nat) (h : n ≤ c) : (op k c).extract 0 (k + n) = op k n := by
  apply ByteArray.ext_getElem
  · rw [ByteArray.size_extract, op_size, op_size]; omega
  · intro i h1 h2
    rw [ByteArray.getElem_extract, op_get, op_get, Nat.zero_add]

/-- One item each. -/
def pit (s : ByteArray) (k i : Nat) : It := ⟨if i < k then 2 else 3, i, s.extract i (i + 1), 0⟩
def pits (k c : Nat) : Nat → Nat → List It
  | _, 0 => []
  | i, n + 1 => pit (op k c) k i :: pits k c (i + 1) n
theorem pits_length (k c : Nat) : ∀ n i, (pits k c i n).length = n
  | 0, _ => rfl
  | n + 1, i => by simp [pits, pits_length k c n (i + 1)]
theorem pits_add (k c : Nat) : ∀ n m i, pits k c i (n + m) = pits k c i n ++ pits k c (i + n) m
  | 0, m, i => by simp [pits]
  | n + 1, m, i => by
    rw [show n + 1 + m = (n + m) + 1 by omega, pits, pits, pits_add k c n m (i + 1), show i + 1 + n = i + (n + 1) by omega]; rfl

theorem pits_items (k c : Nat) : ∀ n i, i + n = k + c → Items (op k c) i ((pits k c i n).map It.val) := by
  intro n
  induction n with
  | zero => intro i h; exact .done (by rw [op_size]; omega)
  | succ n ih =>
    intro i h
    have hi : i < (op k c).size := by rw [op_size]; omega
    have ht := ih (i + 1) (by omega)
    by_cases hk : i < k
    · have hg : (op k c)[i] = 40 := by rw [op_get, if_pos hk]
      have := Items.item (s := op k c) (i := i) (j := 2) (n := 1) hi (by decide) (by rw [hg]; decide) (by rw [hg]; decide) rfl (by decide) ht
      have e : (pits k c i (n + 1)).map It.val = item (kindAt 2) i ((op k c).extract i (i + 1)) 0 :: (pits k c (i + 1) n).map It.val := by
        rw [pits, List.map_cons]; simp only [pit, It.val, if_pos hk]; rfl
      rw [e]; exact this
    · have hg : (op k c)[i] = 41 := by rw [op_get, if_neg hk]
      have := Items.item (s := op k c) (i := i) (j := 3) (n := 1) hi (by decide) (by rw [hg]; decide) (by rw [hg]; decide) rfl (by decide) ht
      have e : (pits k c i (n + 1)).map It.val = item (kindAt 3) i ((op k c).extract i (i + 1)) 0 :: (pits k c (i + 1) n).map It.val := by
        rw [pits, List.map_cons]; simp only [pit, It.val, if_neg hk]; rfl
      rw [e]; exact this

theorem pits_good (k c : Nat) : ∀ n i b, (pits k c i n).foldl (fun b x => if x.e = 0 then b else x) b = b
  | 0, _, _ => rfl
  | n + 1, i, b => by
    rw [pits, List.foldl_cons, if_pos (show (pit (op k c) k i).e = 0 from rfl)]
    exact pits_good k c n (i + 1) b
theorem pits_bad (k c n i : Nat) : (lastBad (pits k c i n)).e = 0 := by
  unfold lastBad
  rw [pits_good]

theorem tok3_append (l m : List It) : tok3 (l ++ m) = tok3 l ++ tok3 m := by simp [tok3]
theorem tok3_pit (s : ByteArray) (k i : Nat) (l : List It) : tok3 (pit s k i :: l) = ⟨if i < k then 2 else 3, i, s.extract i (i + 1)⟩ :: tok3 l := by
  simp [tok3, pit]

/-- The topmost list, and those below it, when so many are open. -/
def tops : Nat → Int × Int
  | 0 => (0, 0)
  | n + 1 => (0, (n : Int))
def rim : Nat → List (Int × Int)
  | 0 => []
  | n + 1 => tops n :: rim n
theorem rim_length : ∀ n, (rim n).length = n
  | 0 => rfl
  | n + 1 => by simp [rim, rim_length n]
theorem tops_fst : ∀ n, (tops n).1 = 0
  | 0 => rfl
  | _ + 1 => rfl

theorem pgo_opens (k c : Nat) (ts row : List T3) : ∀ n m, m + n ≤ k → m ≤ 60 → pgo (tok3 (pits k c m n) ++ ts) row (rim m) (tops m) = if m + n ≤ 60 then pgo ts row (rim (m + n)) (tops (m + n)) else .err 60 22 := by
  intro n
  induction n with
  | zero => intro m _ h; rw [Nat.add_zero, if_pos h]; rfl
  | succ n ih =>
    intro m h1 h2
    rw [pits, tok3_pit, if_pos (show m < k by omega), List.cons_append]
    by_cases hm : m = 60
    · subst hm
      rw [pgo_deep rfl (by rw [rim_length]; omega), if_neg (by omega)]; rfl
    · rw [pgo_push rfl (by rw [rim_length]; omega)]
      have := ih (m + 1) (by omega) (by omega)
      rw [show m + 1 + n = m + (n + 1) by omega] at this
      exact this

/-- The topmost one behind so many that shut. -/
def topc (k c : Nat) : Int × Int := (if c = 0 then 0 else 1, (tops (k - c)).2)
theorem pgo_shuts (k b : Nat) (ts : List T3) : ∀ n c row, c + n ≤ k → ∃ row', row'.length = row.length + n ∧ pgo (tok3 (pits k b (k + c) n) ++ ts) row (rim (k - c)) (topc k c) = pgo ts row' (rim (k - (c + n))) (topc k (c + n)) := by
  intro n
  induction n with
  | zero => intro c row _; exact ⟨row, rfl, rfl⟩
  | succ n ih =>
    intro c row h
    rw [pits, tok3_pit, if_neg (show ¬ k + c < k by omega), List.cons_append]
    have hr : rim (k - c) = tops (k - (c + 1)) :: rim (k - (c + 1)) := by
      rw [show k - c = (k - (c + 1)) + 1 by omega]; rfl
    rw [hr, pgo_pop rfl]
    obtain ⟨row', e1, e2⟩ := ih (c + 1) (row ++ [⟨(topc k c).1, (topc k c).2, { data := #[] }⟩]) (by omega)
    refine ⟨row', by rw [e1]; simp; omega, ?_⟩
    rw [show c + 1 + n = c + (n + 1) by omega, show k + (c + 1) = k + c + 1 by omega] at e2
    rw [← e2]
    congr 1
    unfold topc
    rw [tops_fst]
    rfl

theorem parse_deep (k c : Nat) (h : 60 < k) : parse (tok3 (pits k c 0 (k + c))) = .err 60 22 := by
  rw [pits_add, tok3_append]
  have := pgo_opens k c (tok3 (pits k c (0 + k) c)) [] k 0 (by omega) (by omega)
  rw [if_neg (by omega)] at this
  exact this
theorem opens_then (k c : Nat) (h : k ≤ 60) : parse (tok3 (pits k c 0 (k + c))) = pgo (tok3 (pits k c (k + 0) c)) [] (rim (k - 0)) (topc k 0) := by
  rw [pits_add, tok3_append]
  have := pgo_opens k c (tok3 (pits k c (0 + k) c)) [] k 0 (by omega) (by omega)
  rw [if_pos (by omega)] at this
  have e : topc k 0 = tops k := by
    unfold topc
    exact Prod.ext (tops_fst k).symm rfl
  rw [e]
  simp only [Nat.zero_add, Nat.add_zero, Nat.sub_zero] at *
  exact this
theorem parse_less (k c : Nat) (h : k ≤ 60) (hc : c < k) : parse (tok3 (pits k c 0 (k + c))) = .err ((k - c - 1 : Nat) : Int) 70 := by
  rw [opens_then k c h]
  obtain ⟨row', _, e⟩ := pgo_shuts k c [] c 0 [] (by omega)
  rw [List.append_nil] at e
  rw [e]
  obtain ⟨m, hm⟩ : ∃ m, k - c = m + 1 := ⟨k - c - 1, by omega⟩
  rw [Nat.zero_add]
  unfold topc
  rw [hm]
  rfl
theorem parse_even (k : Nat) (h : k ≤ 60) : ∃ row, row.length = k ∧ parse (tok3 (pits k k 0 (k + k))) = .ok row := by
  rw [opens_then k k h]
  obtain ⟨row', e1, e⟩ := pgo_shuts k k [] k 0 [] (by omega)
  rw [List.append_nil] at e
  refine ⟨row', by simpa using e1, ?_⟩
  rw [e, Nat.zero_add, Nat.sub_self]
  rfl
theorem parse_more (k : Nat) (h : k ≤ 60) : parse (tok3 (pits k (k + 1) 0 (k + (k + 1)))) = .err ((2 * k : Nat) : Int) 70 := by
  rw [opens_then k (k + 1) h, pits_add k (k + 1) k 1, tok3_append]
  obtain ⟨row', _, e⟩ := pgo_shuts k (k + 1) (tok3 (pits k (k + 1) (k + 0 + k) 1)) k 0 [] (by omega)
  rw [e, Nat.zero_add, Nat.sub_self]
  show pgo (tok3 (pit _ _ _ :: [])) _ _ _ = _
  rw [tok3_pit, if_neg (by omega)]
  show pgo _ _ [] _ = _
  rw [pgo_shut rfl]
  congr 1
  show ((k + 0 + k : Nat) : Int) = _
  omega

/-- surface.Read of such a text. -/
theorem readP {W : World} (h : PH) (k c : Nat) (hk : k ≤ 100) (hc : c ≤ k + 1) : CallsG Try.prog (GLB W) 35 #[.string (op k c)] h fun r h' => Ext h h' ∧
    ((60 < k ∧ r = .tuple #[.slice none 0 0, .int .i64 60, .int .i64 22]) ∨ (k ≤ 60 ∧ c = k ∧ ∃ p q, r = .tuple #[.slice p k q, .int .i64 0, .int .i64 0]) ∨
      (k ≤ 60 ∧ c < k ∧ r = .tuple #[.slice none 0 0, .int .i64 (k - c - 1 : Nat), .int .i64 70]) ∨ (k ≤ 60 ∧ c = k + 1 ∧ r = .tuple #[.slice none 0 0, .int .i64 (2 * k : Nat), .int .i64 70])) := by
  refine (read35 h (op k c) (pits k c 0 (k + c)) (pits_items k c _ 0 (by omega)) (by rw [op_size]; omega) (by rw [op_size, pits_length]; omega)).mono ?_
  rintro r h' ⟨hE, hr⟩
  refine ⟨hE, ?_⟩
  unfold ReadRes at hr
  rw [if_pos (pits_bad _ _ _ _)] at hr
  rcases Nat.lt_or_ge 60 k with h6 | h6
  · rw [parse_deep k c h6] at hr
    exact .inl ⟨h6, hr⟩
  · right
    rcases Nat.lt_trichotomy c k with hlt | rfl | hgt
    · rw [parse_less k c h6 hlt] at hr
      exact .inr (.inl ⟨h6, hlt, hr⟩)
    · obtain ⟨row, e1, e2⟩ := parse_even c h6
      rw [e2] at hr
      obtain ⟨v, rfl, hO, _⟩ := hr
      rcases hO.2 with ⟨rfl, e⟩ | ⟨g, cap, cur, rfl, _⟩
      · exact .inl ⟨h6, rfl, _, _, by rw [← e1, e]⟩
      · exact .inl ⟨h6, rfl, _, _, by rw [e1]⟩
    · obtain rfl : c = k + 1 := by omega
      rw [parse_more k h6] at hr
      exact .inr (.inr ⟨h6, rfl, hr⟩)
end Go.Proofs.Ytfaadjmglboaoaa
