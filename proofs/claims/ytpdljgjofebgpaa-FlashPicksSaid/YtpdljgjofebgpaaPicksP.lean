/-
  Law 3: FlashPicks, plain; the device and its copy beside one another, with a row of the law's own.
-/
import Derived.Test.YtpdljgjofebgpaaRefO
import Derived.Test.YtpdljgjofebgpaaActs3
namespace Go.Proofs.Ytpdljgjofebgpaa
open Go.RowKit

def pgU : Pg → UInt8
  | .whole _ => 0
  | .blank => 5
  | .torn => 6
theorem pgU_eq (p : Pg) : ((pgU p).toNat : Int) = pgE p := by cases p <;> rfl
/-- What stands on a page, and what Read answers. -/
def tagP (p : Pg) : List UInt8 := pgB p ++ [pgU p]
def tagV (p : Pg) : Value := strB (tagP p)
def nowV (D : Dv) (j : Nat) : List Value := ((waits D.pg).take j).map fun i => tagV (D.now i)
theorem nowV_succ {D : Dv} {j i : Nat} (h : (waits D.pg)[j]? = some i) : nowV D (j + 1) = nowV D j ++ [tagV (D.now i)] := by
  unfold nowV
  rw [List.take_add_one, h, List.map_append]
  rfl
theorem nowV_len {D : Dv} {j : Nat} (h : j ≤ (waits D.pg).length) : (nowV D j).length = j := by
  unfold nowV
  rw [List.length_map, List.length_take]
  omega
theorem nowV_at {D : Dv} {n j i : Nat} (h : (waits D.pg)[j]? = some i) (hj : j < n) : (nowV D n)[j]? = some (tagV (D.now i)) := by
  unfold nowV
  rw [List.getElem?_map, List.getElem?_take, if_pos hj, h]
  rfl

theorem waits_of {l : List Pc} {i : Nat} (hi : i < l.length) (h : (l.getD i (.blank, none)).2.isSome = true) : (waits l)[rank l i]? = some i := by
  obtain ⟨k, hk, e⟩ := List.getElem_of_mem (waits_mem.2 ⟨hi, h⟩)
  have h2 : (waits l)[k]? = some i := by rw [List.getElem?_eq_getElem hk, e]
  rw [waits_rank h2]
  exact h2
theorem waits_none (l : List Pc) (p : List UInt8) : waits (settled l p) = [] := by
  apply List.eq_nil_iff_forall_not_mem.2
  intro i h
  obtain ⟨h1, h2⟩ := waits_mem.1 h
  rw [settled_len] at h1
  rw [List.getD_eq_getElem?_getD, settled_at l p i l[i] (by rw [List.getElem?_eq_getElem h1])] at h2
  cases h2
theorem fate_nil (k : Nat) : fate [] k = 0 := rfl
theorem pick_zero (c : Pc) : pick 0 c = c.1 := by unfold pick; cases c.2 <;> rfl
theorem settled_twice (l : List Pc) (p : List UInt8) : settled (settled l p) [] = settled l p := by
  apply List.ext_getElem?
  intro i
  by_cases h : i < l.length
  · have h1 := settled_at l p i l[i] (by rw [List.getElem?_eq_getElem h])
    rw [settled_at _ _ _ _ h1, h1, fate_nil, pick_zero]
  · rw [List.getElem?_eq_none (by rw [settled_len, settled_len]; omega), List.getElem?_eq_none (by rw [settled_len]; omega)]
theorem now_settled {l : List Pc} {p : List UInt8} {D : Dv} (h : D.pg = settled l p) {i : Nat} (hi : i < l.length) : D.now i = pick (fate p (rank l i)) (l.getD i (.blank, none)) := by
  unfold Dv.now
  rw [h, List.getD_eq_getElem?_getD, settled_at l p i l[i] (by rw [List.getElem?_eq_getElem hi]), List.getD_eq_getElem?_getD, List.getElem?_eq_getElem hi]
  rfl

theorem PgAt.len {w : World} {P : Nat → Prop} {v : Value} {p : Pg} (h : PgAt w P v p) : (pgB p).length ≤ 384 := by
  cases p with
  | blank => exact Nat.zero_le _
  | torn => exact Nat.zero_le _
  | whole bs =>
    obtain ⟨_, _, _, _, _, _, _, h6⟩ := h
    exact Nat.le_of_eq h6
theorem DL.pg_len {W w : World} {q : Nat} {K N : Nat → Prop} {D : Dv} (h : DL W w q K N D) {i : Nat} (hi : i < D.pg.length) : (pgB (D.now i)).length ≤ 384 := by
  obtain ⟨P, ⟨g, cap, m, vals, L, s, hK, hP⟩, _⟩ := h
  obtain ⟨c, hc⟩ : ∃ c, D.pg[i]? = some c := ⟨_, List.getElem?_eq_getElem hi⟩
  have hn : D.now i = Pc.now c := by
    unfold Dv.now
    rw [List.getD_eq_getElem?_getD, hc]
    rfl
  rw [hn]
  unfold Pc.now
  cases e : c.2 with
  | none =>
    obtain ⟨v, _, a⟩ := s.fl i c hc
    exact a.len
  | some p =>
    have a := s.wt i c hc
    rw [e] at a
    obtain ⟨v, _, a⟩ := a
    exact a.len

/-- The device, its copy, a row of the law's own (its block: vb). -/
structure PK (W w3 w : World) (q : Nat) (K : Nat → Prop) (q2 : Nat) (K2 : Nat → Prop) (vb : Option Nat) (D O : Dv) : Prop where
  d : DL W w q K (fun k => K2 k ∨ vb = some k) D
  o : DL W w q2 K2 (fun k => K k ∨ vb = some k) O
  ap : ∀ k, K k → ¬ K2 k
  kl : ∀ k, K k ∨ K2 k → k < w3.heap.size
  vl : ∀ k, vb = some k → w3.heap.size ≤ k
  fr : Fr (fun k => K k ∨ K2 k) w3 w
  ws : W.heap.size ≤ w3.heap.size

section
variable {W w3 w w' : World} {q q2 : Nat} {K K2 : Nat → Prop} {vb vb' : Option Nat} {D O D' O' : Dv}
theorem PK.dev (h : PK W w3 w q K q2 K2 vb D O) (d : DL W w' q K (fun k => K2 k ∨ vb = some k) D') (f : Fr K w w') : PK W w3 w' q K q2 K2 vb D' O :=
  ⟨d, h.o.keep f d.fr fun k hk _ => ⟨.inl hk, h.ap k hk⟩, h.ap, h.kl, h.vl, h.fr.trans f fun _ _ hk => .inl hk, h.ws⟩
theorem PK.cp (h : PK W w3 w q K q2 K2 vb D O) (d : DL W w' q2 K2 (fun k => K k ∨ vb = some k) O') (f : Fr K2 w w') : PK W w3 w' q K q2 K2 vb D O' :=
  ⟨h.d.keep f d.fr fun k hk _ => ⟨.inl hk, fun h2 => h.ap k h2 hk⟩, d, h.ap, h.kl, h.vl, h.fr.trans f fun _ _ hk => .inr hk, h.ws⟩
theorem PK.nob (h : PK W w3 w q K q2 K2 vb D O) (f : Fr Nob w w') : PK W w3 w' q K q2 K2 vb D O :=
  ⟨h.d.nob f, h.o.nob f, h.ap, h.kl, h.vl, h.fr.trans f fun _ _ h => h.elim, h.ws⟩
theorem PK.turn (h : PK W w3 w q K q2 K2 vb D O) (f : Fr (fun k => vb = some k) w w') (hv : vb' = vb ∨ ∃ g, vb' = some g ∧ w.heap.size ≤ g ∧ g < w'.heap.size) : PK W w3 w' q K q2 K2 vb' D O := by
  have fw : Fr Nob W w' := h.d.fr.trans f fun k hk e => by
    have := h.vl k e
    have := h.ws
    omega
  have nk : ∀ k, vb = some k → ¬ K k ∧ ¬ K2 k := fun k e => by
    have := h.vl k e
    exact ⟨fun hk => by have := h.kl k (.inl hk); omega, fun hk => by have := h.kl k (.inr hk); omega⟩
  have hs := h.fr.size
  refine ⟨h.d.grow' f fw (fun k e _ => ⟨.inr e, (nk k e).1⟩) fun k hk => ?_, h.o.grow' f fw (fun k e _ => ⟨.inr e, (nk k e).2⟩) fun k hk => ?_, h.ap, h.kl, fun k hk => ?_, h.fr.trans f fun k hk e => ?_, h.ws⟩
  · rcases hk with hk | hk
    · exact .inl (.inl hk)
    · rcases hv with e | ⟨g, e, h1, h2⟩
      · exact .inl (.inr (by rw [← e]; exact hk))
      · rw [e] at hk
        injection hk with hk
        exact .inr (by omega)
  · rcases hk with hk | hk
    · exact .inl (.inl hk)
    · rcases hv with e | ⟨g, e, h1, h2⟩
      · exact .inl (.inr (by rw [← e]; exact hk))
      · rw [e] at hk
        injection hk with hk
        exact .inr (by omega)
  · rcases hv with e | ⟨g, e, h1, h2⟩
    · exact h.vl k (by rw [← e]; exact hk)
    · rw [e] at hk
      injection hk with hk
      omega
  · have := h.vl k e
    omega
end

end Go.Proofs.Ytpdljgjofebgpaa
