/-
  SLICES in memory of one's own: what is read at any place of a block; append of any number of elements of any size.
-/
import Derived.Test.YtfaadjmglboaoaaRefWord
namespace Go.Proofs.Ytfaadjmglboaoaa
open Go.Conc Go.RowKit

/-- Cells stand in a block from a place on. -/
def SlAt (h : PH) (B o : Nat) (xs : List Value) : Prop := ∃ cur ty f, h B = some (.cells cur ty f) ∧ ∀ i x, xs[i]? = some x → cur[o + i]? = some x

/-- A slice that is read: elements of k cells. -/
def RSl (h : PH) (k : Nat) (v : Value) (n : Nat) (xs : List Value) : Prop :=
  xs.length = n * k ∧ ((n = 0 ∧ ∃ p c, v = .slice p 0 c) ∨ ∃ B o cap, v = .slice (some ⟨B, o, none⟩) n cap ∧ SlAt h B o xs)

/-- A slice of one's own, from its block's first cell on. -/
def OwnK (h : PH) (e : TypeId) (k : Nat) (v : Value) (n : Nat) (xs : List Value) : Prop :=
  xs.length = n * k ∧ ((v = .slice none 0 0 ∧ n = 0) ∨
    ∃ g cap cur, v = .slice (some ⟨g, 0, none⟩) n cap ∧ h g = some (.cells cur e (0, 0)) ∧ n ≤ cap ∧ cap ≤ maxLen ∧ cur.size = cap * k ∧ cur.toList.take (n * k) = xs)

theorem SlAt.ext {h h' : PH} {B o : Nat} {xs : List Value} (s : SlAt h B o xs) (e : h' B = h B) : SlAt h' B o xs := by
  obtain ⟨cur, ty, f, h1, h2⟩ := s
  exact ⟨cur, ty, f, by rw [e]; exact h1, h2⟩
theorem RSl.ext {h h' : PH} {k n : Nat} {v : Value} {xs : List Value} (s : RSl h k v n xs) (e : Ext h h') : RSl h' k v n xs := by
  rcases s with ⟨h1, h2 | ⟨B, o, cap, h2, cur, ty, f, h3, h4⟩⟩
  · exact ⟨h1, .inl h2⟩
  · exact ⟨h1, .inr ⟨B, o, cap, h2, cur, ty, f, e _ _ h3, h4⟩⟩
theorem OwnK.rsl {h : PH} {e : TypeId} {k n : Nat} {v : Value} {xs : List Value} (s : OwnK h e k v n xs) : RSl h k v n xs := by
  rcases s with ⟨h1, ⟨rfl, rfl⟩ | ⟨g, cap, cur, rfl, h3, _, _, h6, h7⟩⟩
  · exact ⟨h1, .inl ⟨rfl, _, _, rfl⟩⟩
  · refine ⟨h1, .inr ⟨g, 0, cap, rfl, cur, e, _, h3, fun i x hx => ?_⟩⟩
    rw [← h7, List.getElem?_take] at hx
    split at hx
    · simpa using hx
    · cases hx
theorem OwnK.ext {h h' : PH} {e : TypeId} {k n : Nat} {v : Value} {xs : List Value} (s : OwnK h e k v n xs) (y : ∀ g, v.ownBlock = some g → ∀ o, h g = some o → h' g = some o) : OwnK h' e k v n xs := by
  rcases s with ⟨h1, h2 | ⟨g, cap, cur, rfl, h3, h4⟩⟩
  · exact ⟨h1, .inl h2⟩
  · exact ⟨h1, .inr ⟨g, cap, cur, rfl, y g rfl _ h3, h4⟩⟩
theorem ownK_nil (h : PH) (e : TypeId) (k : Nat) : OwnK h e k (.slice none 0 0) 0 [] := ⟨by simp, .inl ⟨rfl, rfl⟩⟩
theorem SlAt.get {h : PH} {B o : Nat} {xs : List Value} (s : SlAt h B o xs) {w : World} (hw : viewB.Holds h w) {i : Nat} {x : Value} (hx : xs[i]? = some x) : w.cell? ⟨B, o + i, none⟩ = some x := by
  obtain ⟨cur, ty, f, h1, h2⟩ := s
  exact cell_of hw h1 (h2 i x hx)
theorem SlAt.own {h : PH} {B o : Nat} {xs : List Value} (s : SlAt h B o xs) : h B ≠ none := by
  obtain ⟨cur, ty, f, h1, _⟩ := s
  rw [h1]; simp

/-- An element's type: so many cells, so many bytes. -/
structure ElemTy (T E k b : Nat) (z : Value) : Prop where
  under : Try.prog.underlying T = some (.slice E)
  info : ∃ i, Try.prog.info? E = some i ∧ i.size = k ∧ i.bytes = b ∧ i.zero = some z
  zs : z.cells.size = k
  pos : 0 < k
  small : b ≤ 64

theorem elemTy {T E k b : Nat} {z : Value} (h1 : Try.prog.underlying T = some (.slice E)) (h2 : (Try.prog.info? E).map (fun i => (i.size, i.bytes)) = some (k, b)) (h3 : (Try.prog.info? E).bind (·.zero) = some z) (h4 : z.cells.size = k) (h5 : 0 < k) (h6 : b ≤ 64) : ElemTy T E k b z := by
  refine ⟨h1, ?_, h4, h5, h6⟩
  cases h : Try.prog.info? E with
  | none => rw [h] at h2; cases h2
  | some i =>
    rw [h] at h2 h3
    simp at h2 h3
    exact ⟨i, rfl, h2.1, h2.2, h3⟩

def zero3 : Value := .agg #[.int .i64 0, .int .i64 0, .string { data := #[] }]
theorem ty36 : ElemTy 36 40 3 32 zero3 := elemTy (by kernel_rfl) (by kernel_rfl) (by kernel_rfl) rfl (by decide) (by decide)
theorem ty42 : ElemTy 42 43 3 32 zero3 := elemTy (by kernel_rfl) (by kernel_rfl) (by kernel_rfl) rfl (by decide) (by decide)
theorem ty44 : ElemTy 44 63 3 32 zero3 := elemTy (by kernel_rfl) (by kernel_rfl) (by kernel_rfl) rfl (by decide) (by decide)
theorem ty47 : ElemTy 47 84 3 32 zero3 := elemTy (by kernel_rfl) (by kernel_rfl) (by kernel_rfl) rfl (by decide) (by decide)
theorem ty83 : ElemTy 83 82 2 16 (.agg #[.int .i64 0, .int .i64 0]) := elemTy (by kernel_rfl) (by kernel_rfl) (by kernel_rfl) rfl (by decide) (by decide)
theorem ty29 : ElemTy 29 3 1 8 (.int .i64 0) := elemTy (by kernel_rfl) (by kernel_rfl) (by kernel_rfl) rfl (by decide) (by decide)
theorem ty56 : ElemTy 56 44 1 24 (.slice none 0 0) := elemTy (by kernel_rfl) (by kernel_rfl) (by kernel_rfl) rfl (by decide) (by decide)
theorem ty59 : ElemTy 59 47 1 24 (.slice none 0 0) := elemTy (by kernel_rfl) (by kernel_rfl) (by kernel_rfl) rfl (by decide) (by decide)

theorem setRow_set {w : World} {g : Nat} {cur : Array Value} {e : TypeId} (hgw : w.heap[g]? = some (.cells cur e (0, 0))) (cs : Array Value) : w.setRow g cs = { w with heap := w.heap.setIfInBounds g (.cells cs e) } := by
  have hlt := (Array.getElem?_eq_some_iff.1 hgw).1
  unfold World.setRow
  show World.mk _ _ _ _ _ = World.mk _ _ _ _ _
  refine congrArg (fun x => World.mk x w.tape w.drawn w.os w.output) ?_
  apply Array.ext_getElem?
  intro k
  rw [Array.getElem?_modify, Array.getElem?_setIfInBounds]
  by_cases hk : g = k
  · subst hk
    simp [hlt, (Array.getElem?_eq_some_iff.1 hgw).2]
  · simp [hk]

section
variable {h : PH} {w : World} {v : Value} {n m c : Nat} {xs news : List Value} {B o : Nat} {T E k b : Nat} {z : Value} {ty : TypeId}

/-- ████ append of m elements (m > 0). ████ -/
theorem append_k (ET : ElemTy T E k b z) (hw : viewB.Holds h w) (hO : OwnK h E k v n xs) (hA : SlAt h B o news) (hl : news.length = m * k) (hm : 0 < m) (h1 : ∀ u ∈ news, u.oneCell' = true) (hn : n + m ≤ 2 ^ 40) :
    ∃ v' w' h', (Builtin.append_ #[T, T] ty #[v, .slice (some ⟨B, o, none⟩) m c]).run Try.prog w = .ok v' w' ∧ (∀ e ∈ (Builtin.append_ #[T, T] ty #[v, .slice (some ⟨B, o, none⟩) m c]).events Try.prog w #[], OwnEv h' e) ∧ Kept h w w' h' ∧ OwnK h' E k v' (n + m) (xs ++ news) ∧
      (∀ r o, h r = some o → some r ≠ v.ownBlock → h' r = some o) ∧ (v'.ownBlock = v.ownBlock ∨ ∀ g, v'.ownBlock = some g → h g = none) := by
  have ht := ET.under
  have hzs := ET.zs
  have hpos := ET.pos
  have hsm := ET.small
  obtain ⟨i, hi, rfl, rfl, hz⟩ := ET.info
  have hadd : ∀ (B o j : Nat), (⟨B, o, none⟩ : Addr).add j = ⟨B, o + j, none⟩ := fun B o j => by unfold Addr.add; split <;> simp_all
  have hnews : ∀ (d : Nat) j u, news[j]? = some u → (w.at d).cell? ((⟨B, o, none⟩ : Addr).add j) = some u := fun d j u hu => by
    rw [hadd]
    show w.cell? _ = _
    exact hA.get hw hu
  have hAcells : ∀ j, j < m * i.size → ∃ u, w.cell? ((⟨B, o, none⟩ : Addr).add j) = some u := fun j hj => by
    have hlt : j < news.length := by rw [hl]; exact hj
    exact ⟨_, hnews 0 j _ (List.getElem?_eq_getElem hlt)⟩
  have hAo : h (⟨B, o, none⟩ : Addr).block ≠ none := hA.own
  have hml : maxLen = 2 ^ 63 - 1 := rfl
  have hbb : (n + m) * i.bytes ≤ 140737488355328 := by
    have : (n + m) * i.bytes ≤ 2 ^ 40 * 64 := Nat.mul_le_mul hn hsm
    omega
  rcases hO with ⟨hx3, ⟨rfl, rfl⟩ | ⟨g, cap, cur, rfl, hg, hnc, hcm, hcs, htake⟩⟩
  · obtain rfl : xs = [] := List.eq_nil_of_length_eq_zero (by simpa using hx3)
    have hr := run_append_nil (P := Try.prog) w T ty E i _ ht hi hz ⟨B, o, none⟩ m c news hl (hnews w.drawn) hm (by omega) (by simp only [Nat.zero_add] at hbb; omega)
    have hk := kept_push (o := .cells (news.toArray ++ Builtin.zeroCells z.cells (grownCap w m 0 E - m)) E) hw (w.drawn + 1)
    refine ⟨_, _, _, hr, fun e he => ?_, hk, ⟨by simp [hl], .inr ⟨_, _, _, by rw [Nat.zero_add], put_self _ _ _, by rw [Nat.zero_add]; exact grownCap_ge .., grownCap_le_maxLen _ _ _ _ (by omega), ?_, ?_⟩⟩, fun r o hr hne => ?_, .inr fun g hg => ?_⟩
    · have h48' : ¬ (281474976710656 < Builtin.nextslicecap m 0 * i.bytes) := by rw [nextslicecap_zero (by omega)]; simp only [Nat.zero_add] at hbb; omega
      have h63' : ¬ (9223372036854775807 < (m : Int)) := by omega
      have hm0 : m ≠ 0 := by omega
      have hf := run_firstCells_some (P := Try.prog) w.drew i.size m ⟨B, o, none⟩ m c news hl (hnews (w.drawn + 1))
      simp [Builtin.append_, run_underlying ht, sizeOf, typeInfo, zeroValue, hi, hz, Builtin.lenOf, hm0, h63', h48', Question.forced, run_firstCells_none, hf, newRow] at he
      rcases own_firstCells hAo (by intro j hj; exact hAcells j hj) e he with he | he
      · rcases events_askRoom _ _ _ e he with he | ⟨m, rfl, hm⟩
        · simp at he
        · exact own_neutral hm
      · exact he.mono hk.mine
    · simp only [Array.size_append, List.size_toArray, size_zeroCells, hzs, hl]
      have := grownCap_ge w m 0 E
      rw [← Nat.add_mul, Nat.add_sub_cancel' this]
    · simp only [Array.toList_append, List.nil_append, Nat.zero_add, ← hl]
      exact List.take_left
    · unfold put; rw [if_neg]
      · exact hr
      · rintro rfl
        have := (Array.getElem?_eq_some_iff.1 (hw _ _ hr)).1
        omega
    · have hgg : w.heap.size = g := Option.some.inj hg
      rw [← hgg]
      cases hx : h w.heap.size with
      | none => rfl
      | some x => have := (Array.getElem?_eq_some_iff.1 (hw _ _ hx)).1; omega
  · have hg0 : h (⟨g, 0, none⟩ : Addr).block ≠ none := by show h g ≠ none; rw [hg]; simp
    have hgw := hw g _ hg
    have hold : ∀ (d : Nat) j u, xs[j]? = some u → (w.at d).cell? ((⟨g, 0, none⟩ : Addr).add j) = some u := fun d j u hu => by
      rw [hadd]
      show w.cell? _ = _
      refine cell_of hw hg ?_
      rw [← htake, List.getElem?_take] at hu
      split at hu
      · simpa using hu
      · cases hu
    by_cases hroom : n + m ≤ cap
    · have hfit : n * i.size + news.length ≤ cur.size := by rw [hl, hcs, ← Nat.add_mul]; exact Nat.mul_le_mul_right _ hroom
      have hr := run_append_room (P := Try.prog) w T ty E i ht hi g n cap cur hgw ⟨B, o, none⟩ m c news hl (hnews w.drawn) h1 hroom hfit
      have hk := stB_set (o' := .cells (cur.toList.take (n * i.size) ++ news ++ cur.toList.drop (n * i.size + news.length)).toArray E) hw hg (es := #[]) (by simp)
      rw [setRow_set hgw] at hr
      refine ⟨_, _, _, hr, fun e he => ?_, hk.2, ⟨by rw [List.length_append, hx3, hl, ← Nat.add_mul], .inr ⟨g, cap, _, rfl, put_self _ _ _, hroom, hcm, ?_, ?_⟩⟩, fun r o hr hne => ?_, .inl rfl⟩
      · have hf := run_firstCells_some (P := Try.prog) w i.size m ⟨B, o, none⟩ m c news hl (hnews w.drawn)
        simp [Builtin.append_, run_underlying ht, sizeOf, typeInfo, hi, Builtin.lenOf, hroom, hf, Addr.add_lit] at he
        rcases own_storeCells (h := h) (P := Try.prog) (g := g) hg0 (n * i.size) E news 0 cur w _ hgw (by simpa using hfit) h1 e he with he | he
        · rcases own_firstCells hAo (by intro j hj; exact hAcells j hj) e he with he | he
          · simp at he
          · exact he.mono hk.2.mine
        · exact he.mono hk.2.mine
      · simp only [List.size_toArray, List.length_append, List.length_take, List.length_drop, Array.length_toList]
        omega
      · rw [htake]
        have e2 : (n + m) * i.size = (xs ++ news).length := by rw [List.length_append, hx3, hl, ← Nat.add_mul]
        rw [e2]
        exact List.take_left
      · unfold put; rw [if_neg]
        · exact hr
        · rintro rfl; exact hne rfl
    · have hr := run_append_grow (P := Try.prog) w T ty E i _ ht hi hz ⟨g, 0, none⟩ n cap xs hx3 (hold w.drawn) ⟨B, o, none⟩ m c news hl (hnews w.drawn) (by omega) (by omega) (growslice_fits (by omega) hbb)
      have hk := kept_push (o := .cells (xs.toArray ++ news.toArray ++ Builtin.zeroCells z.cells (grownCap w (n + m) cap E - (n + m))) E) hw (w.drawn + 1)
      have hlen2 : (xs ++ news).length = (n + m) * i.size := by rw [List.length_append, hx3, hl, ← Nat.add_mul]
      refine ⟨_, _, _, hr, fun e he => ?_, hk, ⟨hlen2, .inr ⟨_, _, _, rfl, put_self _ _ _, grownCap_ge .., grownCap_le_maxLen _ _ _ _ (by omega), ?_, ?_⟩⟩, fun r o hr hne => ?_, .inr fun g' hg' => ?_⟩
      · have h63' : ¬ (9223372036854775807 < ((n : Int) + (m : Int))) := by omega
        have h48' : ¬ (281474976710656 < Builtin.nextslicecap (n + m) cap * i.bytes) := by have := growslice_fits (need := n + m) (old := cap) (bytes := i.bytes) (by omega) hbb; omega
        have hf := run_firstCells_some (P := Try.prog) w.drew i.size m ⟨B, o, none⟩ m c news hl (hnews (w.drawn + 1))
        have hfo := run_firstCells_some (P := Try.prog) w.drew i.size n ⟨g, 0, none⟩ n cap xs hx3 (hold (w.drawn + 1))
        simp [Builtin.append_, run_underlying ht, sizeOf, typeInfo, zeroValue, hi, hz, Builtin.lenOf, hroom, h63', h48', Question.forced, hf, hfo, newRow] at he
        rcases own_firstCells hAo (by intro j hj; exact hAcells j hj) e he with he | he
        · rcases own_firstCells hg0 (by intro j hj; rw [← hx3] at hj; exact ⟨_, hold (w.drawn + 1) j _ (List.getElem?_eq_getElem hj)⟩) e he with he | he
          · rcases events_askRoom _ _ _ e he with he | ⟨m, rfl, hm⟩
            · simp at he
            · exact own_neutral hm
          · exact he.mono hk.mine
        · exact he.mono hk.mine
      · simp only [Array.size_append, List.size_toArray, size_zeroCells, hzs, hx3, hl]
        have := grownCap_ge w (n + m) cap E
        rw [← Nat.add_mul, ← Nat.add_mul, Nat.add_sub_cancel' this]
      · simp only [Array.toList_append, List.append_assoc]
        rw [← List.append_assoc, ← hlen2]
        exact List.take_left
      · unfold put; rw [if_neg]
        · exact hr
        · rintro rfl
          have := (Array.getElem?_eq_some_iff.1 (hw _ _ hr)).1
          omega
      · have hgg : w.heap.size = g' := Option.some.inj hg'
        rw [← hgg]
        cases hx : h w.heap.size with
        | none => rfl
        | some x => have := (Array.getElem?_eq_some_iff.1 (hw _ _ hx)).1; omega
end
end Go.Proofs.Ytfaadjmglboaoaa
