/-
  flash: 'both' for any call; what a flushed page is, whatever comes (plain); []Act that came in.
-/
import Derived.Test.YtpdljgjofebgpaaRefJ
namespace Go.Proofs.Ytpdljgjofebgpaa
open Go.RowKit Go.ChangeShapes Go.WideShapes Go.Deep

theorem both_eq {W w : World} {q u : Nat} {K M : Nat → Prop} {D E : Dv} (h : Two W w q K u M D E) (op x : Int) (hx : (Lit.int .i64 x).wf = true) (A : Option Addr) (pn pc : Nat) (bs : List UInt8) (hr : RdB W (.slice A pn pc) bs) (hold : 0 < pn → ∀ k, (Value.slice A pn pc).ownBlock = some k → k < W.heap.size) (hn : pn ≤ 140737488355328) :
    Calls Try.prog 41 #[.pointer (some ⟨q, 0, none⟩), .pointer (some ⟨u, 0, none⟩), .agg #[.int .i64 op, .int .i64 x, .slice A pn pc]] w (BothPost W q K u D E op x bs) := by
  by_cases h0 : op = 0
  · subst h0
    exact both_0 h x A pn pc bs hr hn
  · by_cases h1 : op = 1
    · subst h1
      exact both_1 h x A pn pc bs
    · by_cases h2 : op = 2
      · subst h2
        exact both_2 h x A pn pc bs
      · by_cases h3 : op = 3
        · subst h3
          exact both_3 h x hx A pn pc bs
        · by_cases h4 : op = 4
          · subst h4
            exact both_4 h x A pn pc bs hr hold hn
          · exact both_5 h op x (by omega) A pn pc bs

/-- A page lasts: it is what it is, and nothing waits there. -/
def Lasting (D : Dv) (i : Nat) (p : Pg) : Prop := D.pg[i]? = some (p, none)

theorem Lasting.pg {D D' : Dv} {i : Nat} {p : Pg} (h : Lasting D i p) (e : D'.pg = D.pg) : Lasting D' i p := by
  unfold Lasting
  rw [e]
  exact h
theorem Lasting.change {D : Dv} {i j : Nat} {p q : Pg} (h : Lasting D i p) (hj : j ≠ i) : Lasting (D.change j q) i p := by
  unfold Dv.change
  split
  · exact h.pg (spend_pg D)
  · unfold Lasting Dv.put
    simp only
    have h' : D.pg[i]? = some (p, none) := h
    rw [List.getElem?_modify, spend_pg, h']
    simp [hj]
theorem Lasting.flush {D : Dv} {i : Nat} {p : Pg} (h : Lasting D i p) : Lasting D.flush i p := by
  unfold Dv.flush
  split
  · exact h.pg (spend_pg D)
  · unfold Lasting Dv.sunk
    simp only
    have h' : D.pg[i]? = some (p, none) := h
    rw [List.getElem?_map, spend_pg, h']
    rfl
theorem Lasting.settle {D : Dv} {i : Nat} {p : Pg} (h : Lasting D i p) (picks : List UInt8) : (settled D.pg picks)[i]? = some (p, none) := by
  rw [settled_at D.pg picks i (p, none) h]
  rfl
theorem Lasting.crash {D : Dv} {i : Nat} {p : Pg} (h : Lasting D i p) (picks : List UInt8) : Lasting (D.crash picks) i p := h.settle picks
theorem Lasting.on {D : Dv} {i : Nat} {p : Pg} (h : Lasting D i p) : Lasting D.on i p := h.settle []
theorem Lasting.now {D : Dv} {i : Nat} {p : Pg} (h : Lasting D i p) : D.now i = p := by
  unfold Dv.now
  have h' : D.pg[i]? = some (p, none) := h
  rw [List.getD_eq_getElem?_getD, h']
  rfl
/-- Any call but a Write or an Erase of that very page. -/
theorem Lasting.act {D : Dv} {i : Nat} {p : Pg} (h : Lasting D i p) (op x : Int) (bs : List UInt8) (hne : ¬ ((op = 0 ∨ op = 1) ∧ x = i)) : Lasting (actD D op x bs) i p := by
  unfold actD
  split
  · next h0 =>
    unfold writeD
    split
    · exact h
    · refine h.change fun e => hne ⟨.inl h0, ?_⟩
      omega
  · split
    · next h1 =>
      unfold eraseD
      split
      · exact h
      · refine h.change fun e => hne ⟨.inr h1, ?_⟩
        omega
    · split
      · exact h.flush
      · split
        · exact h.pg rfl
        · split
          · exact h.crash bs
          · exact h.on
/-- A Write and a Flush of a device that is on and not armed: the page lasts. -/
theorem Lasting.start {D : Dv} (ho : D.off = false) (ha : D.arm ≤ 0) {i : Nat} (hi : i < D.pg.length) (p : Pg) : Lasting (D.change i p).flush i p ∧ D.spend.off = false ∧ (D.change i p).spend.off = false := by
  have hs : D.spend = D := spend_on ho ha
  have hc : D.change i p = D.put i p := by
    unfold Dv.change
    rw [hs, if_neg (by rw [ho]; simp)]
  have hs2 : (D.put i p).spend = D.put i p := spend_on ho ha
  refine ⟨?_, by rw [hs]; exact ho, by rw [hc, hs2]; exact ho⟩
  unfold Dv.flush
  rw [hc, hs2, if_neg (by show ¬ D.off = true; rw [ho]; simp)]
  unfold Lasting Dv.sunk Dv.put
  simp only
  rw [List.getElem?_map, List.getElem?_modify, List.getElem?_eq_getElem hi]
  simp [Pc.now]
theorem act_len (D : Dv) (op x : Int) (bs : List UInt8) : (actD D op x bs).pg.length = D.pg.length := by
  unfold actD writeD eraseD
  repeat' split
  · rfl
  · exact change_len _ _ _
  · rfl
  · exact change_len _ _ _
  · exact flush_len _
  · rfl
  · exact settled_len _ _
  · exact settled_len _ _

end Go.Proofs.Ytpdljgjofebgpaa
