/-
  ████ THE PHASE, whole. ████
-/
import Derived.Test.YtfaadjmglboaoaaMeta14
namespace Go.Proofs.Ytfaadjmglboaoaa
open Go.Conc

section
variable {P : Program} {c co cq n0 p : Nat} {v0 : World} {Post : Value → World → Prop} {z z1 z2 : Value} {K : Goroutine → PH → Prop}

theorem tries {main : Bool} {g : Goroutine} (hg : g.status = .running) (cs : Array CommCase) (sh : CommShape) (w : World) : stepG P main { parked g cs sh with status := .running } w = stepG P main g w := by
  rw [stepG_tries]
  congr 1
  cases g
  simp only at hg
  subst hg
  rfl

theorem close_ne {n : Nat} {g g' : Goroutine} {w : World} (hw : mayWake P g = true) (hq : QuitsD P n 0 g') (o : Goroutine) : woken P g g' w o = o.again w := by
  unfold woken
  rw [if_pos]
  rcases hq.status with h | h <;> simp [hw, h]

/-- From where both are at work to the run's good end. -/
theorem phase (hcl : Cl P v0) (hcg : ∀ r, r < P.globals.size → r < n0 ∧ r ≠ co) (hK : ∀ g h v, K g h → After co n0 v0 h v → Ends P Post g v) :
    ∀ (xs : List Value) {a : Goroutine} {hp : PH}, Recvs P co z K xs a hp → ∀ {b : Goroutine} {hc : PH}, Sends P co cq z1 z2 xs b hc → ∀ gs w sl t q, Sit P c co cq n0 p v0 a b hp hc gs w t q → Well P Post (crowd gs w sl) t := by
  intro xs
  -- goroutine 0 comes to the receive and waits
  have parks : ∀ {a b : Goroutine} {hp hc : PH} {gs : Array Goroutine} {w w0 : World} {sl sl0 : Option (Nat × Nat)} {t : Trace} {q : Nat → Nat}, AtRecv P co z a → b.status = .running → Sit P c co cq n0 p v0 a b hp hc gs w t q →
      stepT P (crowd gs w0 sl0) = runT P (crowd gs w sl) 0 → Well P Post (crowd (gs.setIfInBounds 0 (parked a #[rcase co z] (.recv true))) w sl) t → Well P Post (crowd gs w0 sl0) t := by
    intro a b hp hc gs w w0 sl sl0 t q hat rb S hT hW
    obtain ⟨s, r, hout⟩ := S.out
    have hno : partners (gs.setIfInBounds 0 ph) co true = [] := by rw [S.partners0, offersAt_of_not_blocked (by rw [rb]; simp)]; rfl
    have hrunT := crowd_waits (P := P) (sl := sl) (i := 0) S.i0 (show stepG P (0 == 0) a w = _ from hat.2 w) (fun cc hcc => by
      have : cc = rcase co z := by simpa using hcc
      subst this
      exact ways_recv_none hout hno)
    exact Well.head (hT.trans hrunT) (by rw [ofEvents_none, Array.append_empty]; exact hW)
  induction xs with
  | nil =>
    intro a hp ga b hc gb
    refine walk_both (Sa := fun g h => AtRecv P co z g ∧ K (Go.Conc.served g (.tuple #[z, .bool false])) h) (Sb := fun g _ => AtClose P co g) (fun a hp ⟨hat, hk⟩ => ⟨hat.1, fun b hc gb rb gs w w0 sl sl0 t q S hT => parks hat rb S hT ?_⟩)
      (fun b hc ⟨rb, hwk, n, b', hq, hst⟩ => ⟨rb, fun a hp ga ra gs w w0 sl sl0 t q S hT => ?_⟩) ga gb
    · refine walk_b (Sb := fun g _ => AtClose P co g) (co := co) (cq := cq) rfl (fun w h => fix_recv h a z) (fun b hc ⟨rb, hwk, n, b', hq, hst⟩ => ⟨rb, fun gs w w0 sl sl0 t q S hT => ?_⟩) gb _ _ _ _ _ (S.park0 _)
      obtain ⟨s, r, hout⟩ := S.out
      have hi0 : (c == 0) = false := by have := S.c0; simp; omega
      have hcolt : co < w.heap.size := by have := S.size; have := S.co_lt; omega
      have hrunT := runT_crowd_go (P := P) (sl := sl) (i := c) S.ic (show stepG P (c == 0) b w = _ by rw [hi0]; exact hst w s r false hout)
      exact Well.head (hT.trans hrunT) (shut_stop hcl hcg hK (g₂ := a) rfl (fun w => by rw [tries hat.1]; exact hat.2 w) hk _ _ _ _ _
        (S.close hq s r (a' := { parked a #[rcase co z] (.recv true) with status := .running }) (by
          rw [close_ne hwk hq]
          exact again_recv_closed (s := s) (r := r) (cap := 0) (buf := #[]) (tm := false) (by simp [hcolt]))))
    · obtain ⟨s, r, hout⟩ := S.out
      have hi0 : (c == 0) = false := by have := S.c0; simp; omega
      have hrunT := runT_crowd_go (P := P) (sl := sl) (i := c) S.ic (show stepG P (c == 0) b w = _ by rw [hi0]; exact hst w s r false hout)
      exact Well.head (hT.trans hrunT) (shut_run hcl hcg hK ga _ _ _ _ _ (S.close hq s r (woken_run ra)))
  | cons x xs ih =>
    intro a hp ga b hc gb
    refine walk_both (Sa := fun g h => AtRecv P co z g ∧ Recvs P co z K xs (Go.Conc.served g (.tuple #[x, .bool true])) h)
      (Sb := fun g h => AtSel P co cq z1 z2 x g ∧ Sends P co cq z1 z2 xs (g.finishComm P (selCases co cq z1 z2 x) .select 0 undef false) h)
      (fun a hp ⟨hat, hk⟩ => ⟨hat.1, fun b hc gb rb gs w w0 sl sl0 t q S hT => parks hat rb S hT ?_⟩)
      (fun b hc ⟨⟨rb, hst⟩, hgo⟩ => ⟨rb, fun a hp ga ra gs w w0 sl sl0 t q S hT => ?_⟩) ga gb
    · refine walk_b (Sb := fun g h => AtSel P co cq z1 z2 x g ∧ Sends P co cq z1 z2 xs (g.finishComm P (selCases co cq z1 z2 x) .select 0 undef false) h) (co := co) (cq := cq) rfl (fun w h => fix_recv h a z)
        (fun b hc ⟨⟨rb, hst⟩, hgo⟩ => ⟨rb, fun gs w w0 sl sl0 t q S hT => ?_⟩) gb _ _ _ _ _ (S.park0 _)
      obtain ⟨s, r, hout⟩ := S.out
      obtain ⟨s', r', tm, hquit⟩ := S.quitw
      have hi0 : (c == 0) = false := by have := S.c0; simp; omega
      have hne := S.ne
      have hp1 : partners (gs.setIfInBounds c ph) co false = [(0, 0)] := by rw [S.partnersc, offersAt_parked_recv]; simp
      have hp2 : partners (gs.setIfInBounds c ph) cq true = [] := by rw [S.partnersc, offersAt_parked_recv']; rfl
      have hrunT := crowd_sel_send_meets (P := P) (sl := sl) (i := c) (j := 0) (k := 0) S.ic (show stepG P (c == 0) b w = _ by rw [hi0]; exact hst w) (show (selCases co cq z1 z2 x)[0]? = some (scase co x z1) from rfl)
        (fun m c' hm hc' => by
          match m, hm, hc' with
          | 0, hm, _ => exact absurd rfl hm
          | 1, _, hc' =>
            have : c' = rcase cq z2 := by simpa [selCases] using hc'.symm
            subst this
            exact ways_recv_none hquit hp2
          | m + 2, _, hc' => simp [selCases] at hc') hout (by have := S.c0; omega) S.i0 hp1
      refine Well.head (hT.trans hrunT) ?_
      rw [finishComm_recv, ofEvents_none, Array.empty_append]
      refine ih hk hgo _ _ _ _ _ (((S.park0 _).parkc _).met (s + 1) (r + 1) (comm_ops rfl ?_))
      intro o ho
      simp only [List.mem_cons, List.not_mem_nil, or_false] at ho
      rcases ho with rfl | rfl | rfl | rfl <;> exact ⟨rfl, fun m => by simp⟩
    · obtain ⟨s, r, hout⟩ := S.out
      obtain ⟨s', r', tm, hquit⟩ := S.quitw
      have hi0 : (c == 0) = false := by have := S.c0; simp; omega
      have hp1 : ∀ d sd, partners (gs.setIfInBounds c ph) d sd = [] := fun d sd => by rw [S.partnersc, offersAt_of_not_blocked (by rw [ra]; simp)]; rfl
      have hrunT := crowd_waits (P := P) (sl := sl) (i := c) S.ic (show stepG P (c == 0) b w = _ by rw [hi0]; exact hst w) (fun cc hcc => by
        have : cc = scase co x z1 ∨ cc = rcase cq z2 := by simpa [selCases] using hcc
        rcases this with rfl | rfl
        · exact ways_send_none hout (by simp) (hp1 co false)
        · exact ways_recv_none hquit (hp1 cq true))
      refine Well.head (hT.trans hrunT) ?_
      rw [ofEvents_none, Array.append_empty]
      refine walk_a (Sa := fun g h => AtRecv P co z g ∧ Recvs P co z K xs (Go.Conc.served g (.tuple #[x, .bool true])) h) (b := parked b (selCases co cq z1 z2 x) .select) (hc := hc) rfl (fun w h => fix_sel h b x z1 z2) (fun a hp ⟨hat, hk⟩ => ⟨hat.1, fun gs w w0 sl sl0 t q S hT => ?_⟩) ga _ _ _ _ _ (S.parkc _)
      obtain ⟨s, r, hout⟩ := S.out
      have hp1 : partners (gs.setIfInBounds 0 ph) co true = [(c, 0)] := by
        rw [S.partners0]
        have : offersAt (parked b (selCases co cq z1 z2 x) .select) co true = [0] := offers_sel_send
        rw [this]; rfl
      have hrunT := crowd_recv_meets_sel (P := P) (sl := sl) (i := 0) (j := c) (k := 0) S.i0 (show stepG P (0 == 0) a w = _ from hat.2 w) hout (by have := S.c0; omega) S.ic (show (selCases co cq z1 z2 x)[0]? = some (scase co x z1) from rfl) hp1
      refine Well.head (hT.trans hrunT) ?_
      rw [finishComm_recv, ofEvents_none, Array.empty_append]
      have hcomm : ∀ (gs : Array Goroutine) (x y : Goroutine), (gs.setIfInBounds c x).setIfInBounds 0 y = (gs.setIfInBounds 0 y).setIfInBounds c x := fun gs x y => Array.setIfInBounds_comm _ _ (by have := S.c0; omega)
      rw [hcomm]
      refine ih hk hgo _ _ _ _ _ (((S.park0 _).parkc _).met (s + 1) (r + 1) (comm_ops rfl ?_))
      intro o ho
      simp only [List.mem_cons, List.not_mem_nil, or_false] at ho
      rcases ho with rfl | rfl | rfl | rfl <;> exact ⟨rfl, fun m => by simp⟩
end
end Go.Proofs.Ytfaadjmglboaoaa
