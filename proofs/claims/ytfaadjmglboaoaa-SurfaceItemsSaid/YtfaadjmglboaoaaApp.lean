/-
  append in memory of one's own.
-/
import Derived.Test.YtfaadjmglboaoaaScan3
import Derived.Laws.AppendOwn
import Derived.Conc.AppendEvents2
namespace Go.Proofs.Ytfaadjmglboaoaa
open Go.Conc Go.RowKit

/-- A slice of one's own memory, elements of three cells. -/
def POwn (h : PH) (e : TypeId) (v : Value) (n : Nat) (xs : List Value) : Prop :=
  xs.length = n * 3 ∧ ((v = .slice none 0 0 ∧ n = 0) ∨
    ∃ g cap cur, v = .slice (some ⟨g, 0, none⟩) n cap ∧ h g = some (.cells cur e (0, 0)) ∧ n ≤ cap ∧ cap ≤ maxLen ∧ cur.size = cap * 3 ∧ cur.toList.take (n * 3) = xs)

theorem pOwn_nil (h : PH) (e : TypeId) : POwn h e (.slice none 0 0) 0 [] := ⟨rfl, .inl ⟨rfl, rfl⟩⟩

section events
variable {P : Program} {h : PH}

theorem own_load {a : Addr} (ha : h a.block ≠ none) {w : World} {v : Value} (hv : w.cell? a = some v) (es : Array Event) : ∀ ev ∈ (load a).events P w es, ev ∈ es ∨ OwnEv h ev := by
  intro ev he
  rw [events_load, hv] at he
  simp only at he
  rcases Array.mem_push.1 he with he | rfl
  · exact .inl he
  · exact .inr (ownEv_cell ha)

theorem own_loadCellsFrom {a : Addr} (ha : h a.block ≠ none) : ∀ (n i : Nat) (acc : Array Value) (w : World) (es : Array Event), (∀ j, i ≤ j → j < i + n → ∃ v, w.cell? (a.add j) = some v) → ∀ ev ∈ (loadCellsFrom a i n acc).events P w es, ev ∈ es ∨ OwnEv h ev
  | 0, _, _, _, _, _ => fun ev h => .inl (by simpa [loadCellsFrom] using h)
  | n + 1, i, acc, w, es, hc => fun ev he => by
    have hb : (a.add i).block = a.block := by unfold Addr.add; split <;> rfl
    obtain ⟨v, hv⟩ := hc i (Nat.le_refl _) (by omega)
    simp only [loadCellsFrom, Sem.events_bind] at he
    cases hr : (load (a.add i)).run P w with
    | halt x w' => rw [hr] at he; exact own_load (by rw [hb]; exact ha) hv es ev he
    | ok v' w' =>
      rw [hr] at he
      have hw : w' = w := by
        have : (load (a.add i)).run P w = .ok v w := by simp [go_sem, hv]
        rw [this] at hr; cases hr; rfl
      subst hw
      rcases own_loadCellsFrom ha n (i + 1) (acc.push v') w' _ (fun j h1 h2 => hc j (by omega) (by omega)) ev he with he | he
      · exact own_load (by rw [hb]; exact ha) hv es ev he
      · exact .inr he

theorem own_firstCells {a : Addr} (ha : h a.block ≠ none) {size n m c : Nat} {w : World} {es : Array Event} (hc : ∀ j, j < n * size → ∃ v, w.cell? (a.add j) = some v) : ∀ ev ∈ (Builtin.firstCells size n (.slice (some a) m c)).events P w es, ev ∈ es ∨ OwnEv h ev :=
  own_loadCellsFrom ha _ 0 #[] w es fun j _ h2 => hc j (by omega)

theorem own_neutral {m : Mark} (hm : Neutral m) : OwnEv h ⟨.mark m, false, true⟩ := by
  unfold Neutral at hm
  subst hm
  refine ⟨⟨by simp, by simp⟩, fun x hx _ => ?_⟩
  simp [MemAct.ofEvent, MemAct.touch?] at hx
end events

theorem OwnEv.mono {h h' : PH} {e : Event} (x : OwnEv h e) (hm : ∀ r, h r ≠ none → h' r ≠ none) : OwnEv h' e := ⟨x.1, fun y hy hy' => by
  obtain ⟨r, h1, h2⟩ := x.2 y hy hy'
  exact ⟨r, h1, hm r h2⟩⟩

theorem kept_push {h : PH} {w : World} {o : Obj} (hh : viewB.Holds h w) (d : Nat) : Kept h w { w with heap := w.heap.push o, drawn := d } (put h w.heap.size o) := by
  have := (stB_new (o := o) hh).2
  exact ⟨this.has, this.size, this.others, this.mine, this.os, this.output⟩

theorem info40 : ∃ i, Try.prog.info? 40 = some i ∧ i.size = 3 ∧ i.bytes = 32 ∧ i.zero = some (.agg #[.int .i64 0, .int .i64 0, .string { data := #[] }]) := by
  have h1 : (Try.prog.info? 40).map (fun i => (i.size, i.bytes)) = some (3, 32) := by kernel_rfl
  have h2 : (Try.prog.info? 40).bind (·.zero) = some (.agg #[.int .i64 0, .int .i64 0, .string { data := #[] }]) := by kernel_rfl
  cases h : Try.prog.info? 40 with
  | none => rw [h] at h1; cases h1
  | some i =>
    rw [h] at h1 h2
    simp at h1 h2
    exact ⟨i, rfl, h1.1, h1.2, h2⟩

section
variable {h : PH} {w : World} {v : Value} {n : Nat} {xs : List Value} {A : Nat} {x y z : Value} {ty : TypeId}

theorem append_b (hw : viewB.Holds h w) (hO : POwn h 40 v n xs) (hA : h A = some (.cells #[x, y, z] 40)) (h1 : x.oneCell' = true ∧ y.oneCell' = true ∧ z.oneCell' = true) (hn : n ≤ 2 ^ 40) :
    ∃ v' w' h', (Builtin.append_ #[36, 36] ty #[v, .slice (some ⟨A, 0, none⟩) 1 1]).run Try.prog w = .ok v' w' ∧ (∀ e ∈ (Builtin.append_ #[36, 36] ty #[v, .slice (some ⟨A, 0, none⟩) 1 1]).events Try.prog w #[], OwnEv h' e) ∧ Kept h w w' h' ∧ POwn h' 40 v' (n + 1) (xs ++ [x, y, z]) ∧
      ∀ r o, h r = some o → some r ≠ v.ownBlock → h' r = some o := by
  obtain ⟨i, hi, hsz, hby, hz⟩ := info40
  have ht : Try.prog.underlying 36 = some (.slice 40) := by kernel_rfl
  have hAw := hw A _ hA
  have hnews : ∀ (d : Nat) j u, [x, y, z][j]? = some u → (w.at d).cell? ((⟨A, 0, none⟩ : Addr).add j) = some u := fun d j u hu => by
    have : (⟨A, 0, none⟩ : Addr).add j = ⟨A, j, none⟩ := by unfold Addr.add; split <;> simp_all
    rw [this]
    show w.cell? _ = _
    exact cell_of hw hA (by simpa using hu)
  have hAcells : ∀ j, j < 1 * i.size → ∃ u, w.cell? ((⟨A, 0, none⟩ : Addr).add j) = some u := fun j hj => by
    rw [hsz] at hj
    have hlt : j < [x, y, z].length := by simpa using hj
    exact ⟨_, hnews 0 j _ (List.getElem?_eq_getElem hlt)⟩
  have hAo : h (⟨A, 0, none⟩ : Addr).block ≠ none := by show h A ≠ none; rw [hA]; simp
  have hl3 : [x, y, z].length = 1 * i.size := by rw [hsz]; rfl
  have h13 : ∀ u ∈ [x, y, z], u.oneCell' = true := by simpa using h1
  have hlen : ∀ m, m ≤ 2 ^ 40 → m + 1 ≤ maxLen := fun m hm => by have : maxLen = 2 ^ 63 - 1 := rfl; omega
  rcases hO with ⟨hx3, ⟨rfl, rfl⟩ | ⟨g, cap, cur, rfl, hg, hnc, hcm, hcs, htake⟩⟩
  · obtain rfl : xs = [] := List.eq_nil_of_length_eq_zero (by simpa using hx3)
    have hr := run_append_nil (P := Try.prog) w 36 ty 40 i _ ht hi hz ⟨A, 0, none⟩ 1 1 [x, y, z] hl3 (hnews w.drawn) (by omega) (by omega) (by rw [hby]; omega)
    have hk := kept_push (o := .cells ([x, y, z].toArray ++ Builtin.zeroCells (Value.cells (.agg #[.int .i64 0, .int .i64 0, .string { data := #[] }])) (grownCap w 1 0 40 - 1)) 40) hw (w.drawn + 1)
    refine ⟨_, _, _, hr, fun e he => ?_, hk, ⟨rfl, .inr ⟨_, _, _, rfl, put_self _ _ _, grownCap_ge .., grownCap_le_maxLen _ _ _ _ (hlen 0 (by omega)), ?_, ?_⟩⟩, fun r o hr hne => ?_⟩
    · have h48' : ¬ (281474976710656 < Builtin.nextslicecap 1 0 * i.bytes) := by rw [nextslicecap_zero (by omega), hby]; omega
      have hf := run_firstCells_some (P := Try.prog) w.drew i.size 1 ⟨A, 0, none⟩ 1 1 [x, y, z] hl3 (hnews (w.drawn + 1))
      simp [Builtin.append_, run_underlying ht, sizeOf, typeInfo, zeroValue, hi, hz, Builtin.lenOf, h48', Question.forced, run_firstCells_none, hf, newRow] at he
      rcases own_firstCells hAo (by intro j hj; exact hAcells j hj) e he with he | he
      · rcases events_askRoom _ _ _ e he with he | ⟨m, rfl, hm⟩
        · simp at he
        · exact own_neutral hm
      · exact he.mono hk.mine
    · simp only [Array.size_append, List.size_toArray, size_zeroCells, Value.cells]
      have := grownCap_ge w 1 0 40
      simp; omega
    · simp
    · unfold put; rw [if_neg]
      · exact hr
      · rintro rfl
        have := (Array.getElem?_eq_some_iff.1 (hw _ _ hr)).1
        omega
  · have hg0 : h (⟨g, 0, none⟩ : Addr).block ≠ none := by show h g ≠ none; rw [hg]; simp
    have hgw := hw g _ hg
    have hold : ∀ (d : Nat) j u, xs[j]? = some u → (w.at d).cell? ((⟨g, 0, none⟩ : Addr).add j) = some u := fun d j u hu => by
      have : (⟨g, 0, none⟩ : Addr).add j = ⟨g, j, none⟩ := by unfold Addr.add; split <;> simp_all
      rw [this]
      show w.cell? _ = _
      refine cell_of hw hg ?_
      rw [← htake, List.getElem?_take] at hu
      split at hu
      · simpa using hu
      · cases hu
    have hlx : xs.length = n * i.size := by rw [hsz]; exact hx3
    by_cases hroom : n + 1 ≤ cap
    · have hfit : n * i.size + [x, y, z].length ≤ cur.size := by rw [hsz, hcs]; simp; omega
      have hr := run_append_room (P := Try.prog) w 36 ty 40 i ht hi g n cap cur hgw ⟨A, 0, none⟩ 1 1 [x, y, z] hl3 (hnews w.drawn) h13 hroom hfit
      have hset : ∀ cs, w.setRow g cs = { w with heap := w.heap.setIfInBounds g (.cells cs 40) } := fun cs => by
        have hlt := (Array.getElem?_eq_some_iff.1 hgw).1
        unfold World.setRow
        show World.mk _ _ _ _ _ = World.mk _ _ _ _ _
        refine congrArg (fun x => World.mk x w.tape w.drawn w.os w.output) ?_
        apply Array.ext_getElem?
        intro k
        rw [Array.getElem?_modify, Array.getElem?_setIfInBounds]
        by_cases hk : g = k
        · subst hk
          simp [hlt, (Array.getElem?_eq_some_iff.1 hgw).2]
        · simp [hk]
      have hk := stB_set (o' := .cells (cur.toList.take (n * i.size) ++ [x, y, z] ++ cur.toList.drop (n * i.size + [x, y, z].length)).toArray 40) hw hg (es := #[]) (by simp)
      rw [hset] at hr
      refine ⟨_, _, _, hr, fun e he => ?_, hk.2, ⟨by rw [List.length_append, hx3]; simp; omega, .inr ⟨g, cap, _, rfl, put_self _ _ _, hroom, hcm, ?_, ?_⟩⟩, fun r o hr hne => ?_⟩
      · have hf := run_firstCells_some (P := Try.prog) w i.size 1 ⟨A, 0, none⟩ 1 1 [x, y, z] hl3 (hnews w.drawn)
        simp [Builtin.append_, run_underlying ht, sizeOf, typeInfo, hi, Builtin.lenOf, hroom, hf, Addr.add_lit] at he
        rcases own_storeCells (h := h) (P := Try.prog) (g := g) hg0 (n * i.size) 40 [x, y, z] 0 cur w _ hgw (by simpa using hfit) h13 e he with he | he
        · rcases own_firstCells hAo (by intro j hj; exact hAcells j hj) e he with he | he
          · simp at he
          · exact he.mono hk.2.mine
        · exact he.mono hk.2.mine
      · simp only [List.size_toArray, List.length_append, List.length_take, List.length_drop, Array.length_toList]
        rw [hsz, hcs]; simp; omega
      · have e1 : cur.toList.take (n * i.size) = xs := by rw [hsz]; exact htake
        rw [e1]
        have e2 : (n + 1) * 3 = (xs ++ [x, y, z]).length := by rw [List.length_append, hx3]; simp; omega
        rw [e2]
        exact List.take_left
      · unfold put; rw [if_neg]
        · exact hr
        · rintro rfl; exact hne rfl
    · have hr := run_append_grow (P := Try.prog) w 36 ty 40 i _ ht hi hz ⟨g, 0, none⟩ n cap xs hlx (hold w.drawn) ⟨A, 0, none⟩ 1 1 [x, y, z] hl3 (hnews w.drawn) (by omega) (by omega) (growslice_fits (by omega) (by rw [hby]; omega))
      have hk := kept_push (o := .cells (xs.toArray ++ [x, y, z].toArray ++ Builtin.zeroCells (Value.cells (.agg #[.int .i64 0, .int .i64 0, .string { data := #[] }])) (grownCap w (n + 1) cap 40 - (n + 1))) 40) hw (w.drawn + 1)
      have hlen2 : (xs ++ [x, y, z]).length = (n + 1) * 3 := by rw [List.length_append, hx3]; simp; omega
      refine ⟨_, _, _, hr, fun e he => ?_, hk, ⟨hlen2, .inr ⟨_, _, _, rfl, put_self _ _ _, grownCap_ge .., grownCap_le_maxLen _ _ _ _ (hlen n hn), ?_, ?_⟩⟩, fun r o hr hne => ?_⟩
      · have h63' : ¬ (9223372036854775807 < ((n : Int) + (1 : Int))) := by omega
        have h48' : ¬ (281474976710656 < Builtin.nextslicecap (n + 1) cap * i.bytes) := by have := growslice_fits (need := n + 1) (old := cap) (bytes := i.bytes) (by omega) (by rw [hby]; omega); omega
        have hf := run_firstCells_some (P := Try.prog) w.drew i.size 1 ⟨A, 0, none⟩ 1 1 [x, y, z] hl3 (hnews (w.drawn + 1))
        have hfo := run_firstCells_some (P := Try.prog) w.drew i.size n ⟨g, 0, none⟩ n cap xs hlx (hold (w.drawn + 1))
        simp [Builtin.append_, run_underlying ht, sizeOf, typeInfo, zeroValue, hi, hz, Builtin.lenOf, hroom, h63', h48', Question.forced, hf, hfo, newRow] at he
        rcases own_firstCells hAo (by intro j hj; exact hAcells j hj) e he with he | he
        · rcases own_firstCells hg0 (by intro j hj; rw [← hlx] at hj; exact ⟨_, hold (w.drawn + 1) j _ (List.getElem?_eq_getElem hj)⟩) e he with he | he
          · rcases events_askRoom _ _ _ e he with he | ⟨m, rfl, hm⟩
            · simp at he
            · exact own_neutral hm
          · exact he.mono hk.mine
        · exact he.mono hk.mine
      · simp only [Array.size_append, List.size_toArray, size_zeroCells, Value.cells, hx3]
        have := grownCap_ge w (n + 1) cap 40
        simp; omega
      · simp only [Array.toList_append, List.append_assoc]
        rw [← List.append_assoc, ← hlen2]
        exact List.take_left
      · unfold put; rw [if_neg]
        · exact hr
        · rintro rfl
          have := (Array.getElem?_eq_some_iff.1 (hw _ _ hr)).1
          omega
end
end Go.Proofs.Ytfaadjmglboaoaa
