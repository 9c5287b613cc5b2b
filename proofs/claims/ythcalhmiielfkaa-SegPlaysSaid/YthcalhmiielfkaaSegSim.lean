/-
  The reference's Seg and the program's go in lock step: the plain part.
-/
import Derived.Test.YthcalhmiielfkaaSegV
namespace Go.Proofs.Ythcalhmiielfkaa

/-- The reference's lists are the Seg's lists, each number with its flag. -/
structure Sim (S : Sg) (R : Nat → List Nd) : Prop where
  ids : ∀ t, t < 3 → ids (R t) = S.get t
  flag : ∀ t y, t < 3 → y ∈ R t → y.2 = S.isUsed y.1

theorem used_pushed {S : Sg} {x z : Int} {t : Nat} : (S.pushed x t).isUsed z = if z = x then false else S.isUsed z := by
  unfold Sg.isUsed
  rw [show (S.pushed x t).U = delM S.U x from rfl, getM_delM]
  split <;> rfl
theorem used_set {S : Sg} {t : Nat} {l : List Int} {z : Int} : (S.set t l).isUsed z = S.isUsed z := by
  unfold Sg.isUsed
  rw [S.set_U]

theorem Sim.sink {S : Sg} {R : Nat → List Nd} (m : Sim S R) (o : S.Ok) {t : Nat} (ht : t < 3) {l : List Nd} {y : Nd} (hl : R t = l ++ [y]) : S.get t = Go.Proofs.Ythcalhmiielfkaa.ids l ++ [y.1] ∧ Sim (S.sink t (Go.Proofs.Ythcalhmiielfkaa.ids l) y.1) (rsink R t l y) := by
  have hg : S.get t = Go.Proofs.Ythcalhmiielfkaa.ids l ++ [y.1] := by
    rw [← m.ids t ht, hl]
    simp [Go.Proofs.Ythcalhmiielfkaa.ids]
  have hy : y.2 = S.isUsed y.1 := m.flag t y ht (by rw [hl]; simp)
  refine ⟨hg, ?_⟩
  have ok' := o.sink ht hg
  have hnd := o.nod t ht
  rw [hg, List.nodup_append] at hnd
  have hnot : ∀ k z, k < 3 → z ∈ rset R t l k → z.1 ≠ y.1 := fun k z hk hz e => by
    unfold rset at hz
    by_cases ek : k = t
    · rw [if_pos ek] at hz
      exact hnd.2.2 z.1 (List.mem_map.2 ⟨z, hz, rfl⟩) y.1 (by simp) e
    · rw [if_neg ek] at hz
      have h1 : z.1 ∈ S.get k := by rw [← m.ids k hk]; exact List.mem_map.2 ⟨z, hz, rfl⟩
      have h2 : y.1 ∈ S.get t := by rw [hg]; simp
      rw [o.inn z.1 k hk] at h1
      rw [o.inn y.1 t ht, ← e, h1] at h2
      simp at h2
      omega
  have hflag : ∀ k z, k < 3 → z ∈ rset R t l k → z.2 = S.isUsed z.1 := fun k z hk hz => by
    unfold rset at hz
    by_cases ek : k = t
    · rw [if_pos ek] at hz
      exact m.flag t z ht (by rw [hl]; exact List.mem_append_left _ hz)
    · rw [if_neg ek] at hz
      exact m.flag k z hk hz
  have hids : ∀ k, k < 3 → Go.Proofs.Ythcalhmiielfkaa.ids (rset R t l k) = (S.set t (Go.Proofs.Ythcalhmiielfkaa.ids l)).get k := fun k hk => by
    rw [S.get_set ht _ k hk]
    unfold rset
    by_cases ek : k = t
    · rw [if_pos ek, if_pos ek]
    · rw [if_neg ek, if_neg ek]
      exact m.ids k hk
  unfold Sg.sink rsink
  rw [hy]
  generalize hc : (if S.isUsed y.1 = true then 1 else 2) = c
  have hc3 : c < 3 := by
    rw [← hc]
    split <;> omega
  refine ⟨fun k hk => ?_, fun k z hk hz => ?_⟩
  · rw [Sg.get_pushed _ _ hc3 k hk]
    show Go.Proofs.Ythcalhmiielfkaa.ids (if k = c then (y.1, false) :: rset R t l c else rset R t l k) = _
    by_cases e : k = c
    · rw [if_pos e, if_pos e, ← hids c hc3]
      rfl
    · rw [if_neg e, if_neg e]
      exact hids k hk
  · rw [used_pushed, used_set]
    have hz : z ∈ (if k = c then (y.1, false) :: rset R t l c else rset R t l k) := hz
    by_cases e : k = c
    · rw [if_pos e, List.mem_cons] at hz
      rcases hz with rfl | hz
      · rw [if_pos rfl]
      · rw [if_neg (hnot c z hc3 hz)]
        exact hflag c z hc3 hz
    · rw [if_neg e] at hz
      rw [if_neg (hnot k z hk hz)]
      exact hflag k z hk hz

theorem RSunk.sim {b t : Nat} (ht : t < 3) {R R' : Nat → List Nd} (k : RSunk b t R R') : ∀ {S : Sg}, Sim S R → S.Ok → ∃ S', Sunk b t S S' ∧ Sim S' R' ∧ S'.Ok := by
  induction k with
  | @done R h =>
    intro S m o
    exact ⟨S, .done (by rw [← m.ids t ht, ids_len]; exact h), m, o⟩
  | more h hl _ ih =>
    intro S m o
    obtain ⟨hg, m'⟩ := m.sink o ht hl
    obtain ⟨S', k', m2, o2⟩ := ih m' (o.sink ht hg)
    exact ⟨S', .more (by rw [← m.ids t ht, ids_len]; exact h) hg k', m2, o2⟩

theorem Sim.has {S : Sg} {R : Nat → List Nd} (m : Sim S R) (o : S.Ok) (x : Int) : rHas R x = (getM S.I x).isSome := by
  cases h : (getM S.I x).isSome with
  | true =>
    obtain ⟨v, hv⟩ := Option.isSome_iff_exists.1 h
    obtain ⟨t, ht, rfl⟩ := o.rng x v hv
    exact rHas_iff.2 ⟨t, ht, by rw [m.ids t ht]; exact (o.inn x t ht).2 hv⟩
  | false =>
    cases h2 : rHas R x with
    | false => rfl
    | true =>
      obtain ⟨t, ht, hm⟩ := rHas_iff.1 h2
      rw [m.ids t ht, o.inn x t ht] at hm
      rw [hm] at h
      cases h

theorem Sim.tot {S : Sg} {R : Nat → List Nd} (m : Sim S R) : rLen R = S.tot := by
  rw [Sg.tot_eq, ← m.ids 0 (by omega), ← m.ids 1 (by omega), ← m.ids 2 (by omega), ids_len, ids_len, ids_len]
  rfl

theorem Sim.uniq {S : Sg} {R : Nat → List Nd} (m : Sim S R) (o : S.Ok) : Uniq R := by
  refine ⟨fun t ht => by rw [m.ids t ht]; exact o.nod t ht, fun s t x hs ht h1 h2 => ?_⟩
  rw [m.ids s hs, o.inn x s hs] at h1
  rw [m.ids t ht, o.inn x t ht, h1] at h2
  simp at h2
  omega

theorem Sim.push {S : Sg} {R : Nat → List Nd} (m : Sim S R) (o : S.Ok) {x : Int} (hx : getM S.I x = Option.none) : Sim (S.pushed x 0) (rset R 0 ((x, false) :: R 0)) := by
  have hnot : ∀ k z, k < 3 → z ∈ R k → z.1 ≠ x := fun k z hk hz e => by
    have h1 : z.1 ∈ S.get k := by rw [← m.ids k hk]; exact List.mem_map.2 ⟨z, hz, rfl⟩
    rw [o.inn z.1 k hk, e, hx] at h1
    cases h1
  refine ⟨fun k hk => ?_, fun k z hk hz => ?_⟩
  · rw [S.get_pushed x (by omega) k hk]
    show Go.Proofs.Ythcalhmiielfkaa.ids (if k = 0 then (x, false) :: R 0 else R k) = _
    by_cases e : k = 0
    · rw [if_pos e, if_pos e, ← m.ids 0 (by omega)]
      rfl
    · rw [if_neg e, if_neg e]
      exact m.ids k hk
  · rw [used_pushed]
    have hz : z ∈ (if k = 0 then (x, false) :: R 0 else R k) := hz
    by_cases e : k = 0
    · rw [if_pos e, List.mem_cons] at hz
      rcases hz with rfl | hz
      · rw [if_pos rfl]
      · rw [if_neg (hnot 0 z (by omega) hz)]
        exact m.flag 0 z (by omega) hz
    · rw [if_neg e] at hz
      rw [if_neg (hnot k z hk hz)]
      exact m.flag k z hk hz

/-- The two Adds agree. -/
theorem Sim.added {S S' : Sg} {R R' : Nat → List Nd} {x : Int} (m : Sim S R) (o : S.Ok) (hx : (getM S.I x).isSome = false) (h : AddTo S x S') (r : RAdded R x R') : Sim S' R' := by
  have hn : getM S.I x = Option.none := by
    cases hg : getM S.I x with
    | none => rfl
    | some v => rw [hg] at hx; cases hx
  obtain ⟨S1, k1, k2⟩ := h.2.2 hx
  obtain ⟨R1, r1, r2⟩ := r
  rw [m.tot] at r1 r2
  obtain ⟨S1', q1, m1, o1⟩ := r1.sim (by omega) (m.push o hn) (o.push hn (by omega))
  have e1 := k1.det q1
  subst e1
  obtain ⟨S2', q2, m2, _⟩ := r2.sim (by omega) m1 o1
  have e2 := k2.det q2
  subst e2
  exact m2

/-- The two Touches agree. -/
theorem Sim.touch {S : Sg} {R : Nat → List Nd} (m : Sim S R) (x : Int) : Sim (if (getM S.I x).isSome then S.touched x else S) (if (getM S.I x).isSome then fun t => upd (R t) x else R) := by
  split
  · refine ⟨fun t ht => ?_, fun t y ht hy => ?_⟩
    · rw [show (S.touched x).get t = S.get t from Sg.get_I S _ _ t, ← m.ids t ht]
      unfold upd Go.Proofs.Ythcalhmiielfkaa.ids
      rw [List.map_map]
      apply List.map_congr_left
      intro y _
      show (if y.1 = x then (x, true) else y).1 = y.1
      split
      · rename_i e; exact e.symm
      · rfl
    · unfold upd at hy
      obtain ⟨z, hz, rfl⟩ := List.mem_map.1 hy
      have hu : ∀ a, (S.touched x).isUsed a = if a = x then true else S.isUsed a := fun a => by
        unfold Sg.isUsed
        rw [show (S.touched x).U = setM S.U x true from rfl, getM_setM]
        split <;> rfl
      by_cases e : z.1 = x
      · rw [if_pos e, hu, if_pos rfl]
      · rw [if_neg e, hu, if_neg e]
        exact m.flag t z ht hz
  · exact m

/-- What Remove makes of the lists. -/
theorem Sim.cut {S S' : Sg} {R : Nat → List Nd} {x : Int} (m : Sim S R) (o : S.Ok) (hx : (getM S.I x).isSome = true) (h : RemTo S x S') : Sim S' (fun t => cut (R t) x) := by
  obtain ⟨t, a, b, ht, hl, rfl⟩ := h.2.1 hx
  have hxt : getM S.I x = some (t : Int) := (o.inn x t ht).1 (by rw [hl]; simp)
  have hnd := o.nod t ht
  rw [hl, List.nodup_append, List.nodup_cons] at hnd
  refine ⟨fun k hk => ?_, fun k y hk hy => ?_⟩
  · rw [Sg.get_gone, S.get_set ht _ k hk]
    have h1 : Go.Proofs.Ythcalhmiielfkaa.ids (Go.Proofs.Ythcalhmiielfkaa.cut (R k) x) = (S.get k).filter fun z => decide (z ≠ x) := by
      rw [← m.ids k hk]
      unfold Go.Proofs.Ythcalhmiielfkaa.ids Go.Proofs.Ythcalhmiielfkaa.cut
      rw [List.filter_map]
      rfl
    rw [h1]
    by_cases e : k = t
    · subst e
      rw [if_pos rfl, hl, List.filter_append, List.filter_cons]
      have ha : a.filter (fun z => decide (z ≠ x)) = a := List.filter_eq_self.2 fun z hz => by
        simpa using fun e => hnd.2.2 z hz x (by simp) e
      have hb : b.filter (fun z => decide (z ≠ x)) = b := List.filter_eq_self.2 fun z hz => by
        simpa using fun e : z = x => hnd.2.1.1 (e ▸ hz)
      rw [ha, hb]
      simp
    · rw [if_neg e]
      refine List.filter_eq_self.2 fun z hz => ?_
      simp only [decide_eq_true_eq]
      intro e2
      rw [o.inn z k hk, e2, hxt] at hz
      simp at hz
      omega
  · have hy2 : y ∈ R k ∧ y.1 ≠ x := by
      have := hy
      unfold Go.Proofs.Ythcalhmiielfkaa.cut at this
      rw [List.mem_filter] at this
      exact ⟨this.1, by simpa using this.2⟩
    have hu : ((S.set t (a ++ b)).gone x).isUsed y.1 = S.isUsed y.1 := by
      unfold Sg.isUsed
      rw [show ((S.set t (a ++ b)).gone x).U = delM (S.set t (a ++ b)).U x from rfl, S.set_U, getM_delM, if_neg hy2.2]
    rw [hu]
    exact m.flag k y hk hy2.1

end Go.Proofs.Ythcalhmiielfkaa
