/-
  tomb: pages through a loss of power: plain.
-/
import Derived.Test.YtpdljgjofebgpaaTombL
namespace Go.Proofs.Ytpdljgjofebgpaa

/-- Nothing waits. -/
def Still (D : Dv) : Prop := ∀ c, c ∈ D.pg → c.2 = none
theorem Still.new (n : Nat) : Still (Dv.new n) := fun c hc => by
  unfold Dv.new at hc
  simp only [List.mem_replicate] at hc
  rw [hc.2]
theorem Still.like {D D' : Dv} (h : Still D) (l : LikeD D D') : Still D' := fun c hc => h c (by rw [← l.pg]; exact hc)
theorem still_flush {D : Dv} (h : D.spend.off = false) : Still D.flush := fun c hc => by
  unfold Dv.flush at hc
  rw [if_neg (by simp [h])] at hc
  unfold Dv.sunk at hc
  simp only [List.mem_map] at hc
  obtain ⟨x, _, rfl⟩ := hc
  rfl
theorem settled_still {l : List Pc} (h : ∀ c, c ∈ l → c.2 = none) (picks : List UInt8) : settled l picks = l := by
  apply List.ext_getElem?
  intro i
  cases hc : l[i]? with
  | none => unfold settled; rw [List.getElem?_mapIdx, hc]; rfl
  | some c =>
    rw [settled_at l picks i c hc]
    have h2 := h c (List.mem_of_getElem? hc)
    obtain ⟨c1, c2⟩ := c
    simp only at h2
    subst h2
    rfl
theorem Still.now {D : Dv} (h : Still D) (i : Nat) : D.now i = (D.pg.getD i (.blank, none)).1 := by
  unfold Dv.now Pc.now
  have : (D.pg.getD i (.blank, none)).2 = none := by
    rw [List.getD_eq_getElem?_getD]
    cases hc : D.pg[i]? with
    | none => rfl
    | some c => exact h c (List.mem_of_getElem? hc)
  rw [this]
  rfl

theorem on_pg {D : Dv} (h : Still D) : D.on.pg = D.pg := settled_still h []
theorem crash_pg {D : Dv} (h : Still D) (picks : List UInt8) : (D.crash picks).pg = D.pg := settled_still h picks
theorem on_off (D : Dv) : D.on.off = false := rfl
theorem on_arm (D : Dv) : D.on.arm = 0 := rfl
theorem now_pg {D D' : Dv} (h : D'.pg = D.pg) (i : Nat) : D'.now i = D.now i := by unfold Dv.now; rw [h]
theorem calm_on {n : Nat} {D : Dv} (hl : D.pg.length = n) : CalmN n D.on := ⟨by show (settled D.pg []).length = n; rw [settled_len]; exact hl, rfl, Int.le_refl 0⟩

end Go.Proofs.Ytpdljgjofebgpaa
