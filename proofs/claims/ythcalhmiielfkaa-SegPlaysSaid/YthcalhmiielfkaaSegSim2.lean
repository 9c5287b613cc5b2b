/-
  The two Evicts agree: the plain part.
-/
import Derived.Test.YthcalhmiielfkaaSegSim
namespace Go.Proofs.Ythcalhmiielfkaa

/-- The reference's used nodes go from cold to warm till cold's last one is none of them. -/
inductive RMoved : (Nat → List Nd) → (Nat → List Nd) → Prop
  | done {R : Nat → List Nd} (h : ∀ l y, R 2 = l ++ [y] → y.2 = false) : RMoved R R
  | more {R R' : Nat → List Nd} {l : List Nd} {y : Nd} (hl : R 2 = l ++ [y]) (h : y.2 = true) (k : RMoved (rsink R 2 l y) R') : RMoved R R'

/-- What it lets go: of the first list, of cold, warm, hot, that has any. -/
def RLeft (R : Nat → List Nd) (x : Int) (R' : Nat → List Nd) : Prop := ∃ k l y, k < 3 ∧ (∀ j, j < k → R (2 - j) = []) ∧ R (2 - k) = l ++ [y] ∧ x = y.1 ∧ R' = rset R (2 - k) l

def REv (R : Nat → List Nd) (x : Int) (ok : Bool) (R' : Nat → List Nd) : Prop := ∃ R1, RMoved R R1 ∧ ((ok = true ∧ RLeft R1 x R') ∨ (ok = false ∧ x = 0 ∧ rLen R1 = 0 ∧ R' = R1))

theorem RMoved.sim {R R' : Nat → List Nd} (k : RMoved R R') : ∀ {S : Sg}, Sim S R → S.Ok → ∃ S', Moved S S' ∧ Sim S' R' ∧ S'.Ok := by
  induction k with
  | @done R h =>
    intro S m o
    refine ⟨S, .done fun l x hl => ?_, m, o⟩
    have h2 : ids (R 2) = l ++ [x] := by rw [m.ids 2 (by omega)]; exact hl
    obtain ⟨l', y, hr⟩ := lastN (l := R 2) (by rw [← ids_len, h2]; simp)
    have hy := h l' y hr
    rw [hr] at h2
    have h3 : ids l' ++ [y.1] = l ++ [x] := by rw [← h2]; simp [ids]
    obtain ⟨_, rfl⟩ := snoc_inj h3
    rw [← m.flag 2 y (by omega) (by rw [hr]; simp)]
    exact hy
  | @more R R' l y hl h _ ih =>
    intro S m o
    obtain ⟨hg, m'⟩ := m.sink o (t := 2) (by omega) hl
    have hu : S.isUsed y.1 = true := by rw [← m.flag 2 y (by omega) (by rw [hl]; simp)]; exact h
    have hs : S.sink 2 (ids l) y.1 = (S.set 2 (ids l)).pushed y.1 1 := by unfold Sg.sink; rw [hu]; rfl
    obtain ⟨S', k', m2, o2⟩ := ih m' (o.sink (by omega) hg)
    rw [hs] at k'
    exact ⟨S', .more hg hu k', m2, o2⟩

theorem Sim.left {S : Sg} {R R' : Nat → List Nd} {x : Int} (m : Sim S R) (o : S.Ok) (h : RLeft R x R') : ∃ S', Left S x S' ∧ Sim S' R' ∧ S'.Ok := by
  obtain ⟨k, l, y, hk, he, hl, rfl, rfl⟩ := h
  have ht : 2 - k < 3 := by omega
  have hg : S.get (2 - k) = Go.Proofs.Ythcalhmiielfkaa.ids l ++ [y.1] := by rw [← m.ids _ ht, hl]; simp [Go.Proofs.Ythcalhmiielfkaa.ids]
  have hleft := left_of (S := S) hk (fun j hj => by rw [← m.ids _ (by omega), he j hj]; rfl) hg
  refine ⟨_, hleft, ⟨fun j hj => ?_, fun j z hj hz => ?_⟩, hleft.ok o⟩
  · rw [Sg.get_gone, S.get_set ht _ j hj]
    unfold rset
    by_cases e : j = 2 - k
    · rw [if_pos e, if_pos e]
    · rw [if_neg e, if_neg e]
      exact m.ids j hj
  · have hz2 : z ∈ R j ∧ z.1 ≠ y.1 := by
      unfold rset at hz
      have hnd := o.nod _ ht
      rw [hg, List.nodup_append] at hnd
      by_cases e : j = 2 - k
      · rw [if_pos e] at hz
        refine ⟨by rw [e, hl]; exact List.mem_append_left _ hz, fun e2 => ?_⟩
        exact hnd.2.2 z.1 (List.mem_map.2 ⟨z, hz, rfl⟩) y.1 (by simp) e2
      · rw [if_neg e] at hz
        refine ⟨hz, fun e2 => e ?_⟩
        have h1 : z.1 ∈ S.get j := by rw [← m.ids j hj]; exact List.mem_map.2 ⟨z, hz, rfl⟩
        have h2 : y.1 ∈ S.get (2 - k) := by rw [hg]; simp
        rw [o.inn z.1 j hj] at h1
        rw [o.inn y.1 _ ht, ← e2, h1] at h2
        simp at h2
        omega
    have hu : ((S.set (2 - k) (Go.Proofs.Ythcalhmiielfkaa.ids l)).gone y.1).isUsed z.1 = S.isUsed z.1 := by
      unfold Sg.isUsed
      rw [show ((S.set (2 - k) (Go.Proofs.Ythcalhmiielfkaa.ids l)).gone y.1).U = delM (S.set (2 - k) (Go.Proofs.Ythcalhmiielfkaa.ids l)).U y.1 from rfl, S.set_U, getM_delM, if_neg hz2.2]
    rw [hu]
    exact m.flag j z hj hz2.1

/-- The two Evicts agree. -/
theorem Sim.evict {S S' : Sg} {R R' : Nat → List Nd} {x x' : Int} {ok ok' : Bool} (m : Sim S R) (o : S.Ok) (h : EvTo S x ok S') (r : REv R x' ok' R') : x = x' ∧ ok = ok' ∧ Sim S' R' := by
  obtain ⟨_, S1, k, h⟩ := h
  obtain ⟨R1, kr, r⟩ := r
  obtain ⟨S1', k', m1, o1⟩ := kr.sim m o
  have e := k.det k'
  subst e
  have ht := m1.tot
  rcases h with ⟨rfl, h⟩ | ⟨rfl, rfl, h0, rfl⟩
  · rcases r with ⟨rfl, r⟩ | ⟨_, _, r0, _⟩
    · obtain ⟨S2, h2, m2, _⟩ := m1.left o1 r
      obtain ⟨rfl, rfl⟩ := h.det h2
      exact ⟨rfl, rfl, m2⟩
    · have := h.tot
      omega
  · rcases r with ⟨_, r⟩ | ⟨rfl, rfl, _, rfl⟩
    · obtain ⟨S2, h2, _, _⟩ := m1.left o1 r
      have := h2.tot
      omega
    · exact ⟨rfl, rfl, m1⟩

end Go.Proofs.Ythcalhmiielfkaa
