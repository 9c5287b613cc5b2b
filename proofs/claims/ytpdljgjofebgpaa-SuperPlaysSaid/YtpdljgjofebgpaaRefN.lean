/-
  Two devices and two references beside one another: blocks are apart by their types; 'alike'.
-/
import Derived.Test.YtpdljgjofebgpaaRefL
import Derived.Test.YtpdljgjofebgpaaRefH
import Derived.Test.YtpdljgjofebgpaaSupD
namespace Go.Proofs.Ytpdljgjofebgpaa
open Go.RowKit

/-- A block that is no page's, by its type. -/
def NoPg (w : World) (k : Nat) : Prop := k < w.heap.size ∧ (∀ c f, w.heap[k]? ≠ some (.cells c 115 f)) ∧ ∀ c f, w.heap[k]? ≠ some (.cells c 5 f)
theorem NoPg.of {w : World} {k : Nat} {b : Obj} (h : w.heap[k]? = some b) (h1 : ∀ c f, b ≠ .cells c 115 f) (h2 : ∀ c f, b ≠ .cells c 5 f) : NoPg w k :=
  ⟨lt_of_block h, fun c f e => h1 c f (Option.some.inj (h.symm.trans e)), fun c f e => h2 c f (Option.some.inj (h.symm.trans e))⟩
theorem PgAt.narrow {w : World} {P T : Nat → Prop} {v : Value} {p : Pg} (h : PgAt w P v p) (hT : ∀ k, T k → NoPg w k) : PgAt w (fun k => P k ∧ ¬ T k) v p := by
  cases p with
  | blank => exact h
  | torn =>
    obtain ⟨g, b, h1, h2, h3⟩ := h
    exact ⟨g, b, h1, ⟨h2, fun t => (hT g t).2.1 _ _ h3⟩, h3⟩
  | whole bs =>
    obtain ⟨g, r, h1, h2, h3, h4, h5, h6⟩ := h
    exact ⟨g, r, h1, ⟨h2, fun t => (hT g t).2.1 _ _ h4⟩, ⟨h3, fun t => (hT r t).2.2 _ _ h5⟩, h4, h5, h6⟩
theorem DL.avoid {W w : World} {q : Nat} {K N T : Nat → Prop} {D : Dv} (h : DL W w q K N D) (hT : ∀ k, T k → NoPg w k) : DL W w q K (fun k => N k ∨ T k) D := by
  obtain ⟨P, ⟨g, cap, m, vals, L, s, hK, hP⟩, f, hk, hn, hp⟩ := h
  refine ⟨fun k => P k ∧ ¬ T k, ⟨g, cap, m, vals, L, ⟨s.top, s.row, s.map, fun i c hc => ?_, fun i c hc => ?_, s.keys, s.arm0, s.arm1, s.low, s.most⟩, hK, fun k h => hP k h.1⟩, f, hk, fun k h => ?_, fun k h1 h2 => ?_⟩
  · obtain ⟨v, a, b⟩ := s.fl i c hc
    exact ⟨v, a, b.narrow hT⟩
  · have := s.wt i c hc
    cases e : c.2 with
    | none => rw [e] at this; exact this
    | some p =>
      rw [e] at this
      obtain ⟨v, a, b⟩ := this
      exact ⟨v, a, b.narrow hT⟩
  · rcases h with h | h
    · exact hn k h
    · exact (hT k h).1
  · rcases h2 with h | h
    · exact hp k h1.1 h
    · exact h1.2 h
theorem DL.kinds {W w : World} {q : Nat} {K N : Nat → Prop} {D : Dv} (h : DL W w q K N D) : ∀ k, K k → NoPg w k := by
  obtain ⟨P, ⟨g, cap, m, vals, L, s, hK, hP⟩, f, hk, hn, hp⟩ := h
  intro k hkk
  obtain ⟨cur, hg, _⟩ := s.block
  obtain ⟨es, clock, hm, _⟩ := s.map
  rcases (hK k).1 hkk with rfl | rfl | rfl
  · exact NoPg.of s.top (fun c f e => by injection e with _ e2; exact absurd e2 (by decide)) (fun c f e => by injection e with _ e2; exact absurd e2 (by decide))
  · exact NoPg.of hg (fun c f e => by injection e with _ e2; exact absurd e2 (by decide)) (fun c f e => by injection e with _ e2; exact absurd e2 (by decide))
  · exact NoPg.of hm (fun c f e => by cases e) (fun c f e => by cases e)
theorem RefAt.kinds {w : World} {u : Nat} {M : Nat → Prop} {D : Dv} (h : RefAt w u M D) : ∀ k, M k → NoPg w k := by
  obtain ⟨gl, cl, gn, cn, gw, cw, s, hM⟩ := h
  intro k hkk
  obtain ⟨_, h1, _⟩ := row_cur s.last
  obtain ⟨_, h2, _⟩ := row_cur s.now
  obtain ⟨_, h3, _⟩ := row_cur s.wait
  rcases (hM k).1 hkk with rfl | rfl | rfl | rfl
  · exact NoPg.of s.top (fun c f e => by injection e with _ e2; exact absurd e2 (by decide)) (fun c f e => by injection e with _ e2; exact absurd e2 (by decide))
  · exact NoPg.of h1 (fun c f e => by injection e with _ e2; exact absurd e2 (by decide)) (fun c f e => by injection e with _ e2; exact absurd e2 (by decide))
  · exact NoPg.of h2 (fun c f e => by injection e with _ e2; exact absurd e2 (by decide)) (fun c f e => by injection e with _ e2; exact absurd e2 (by decide))
  · exact NoPg.of h3 (fun c f e => by injection e with _ e2; exact absurd e2 (by decide)) (fun c f e => by injection e with _ e2; exact absurd e2 (by decide))

end Go.Proofs.Ytpdljgjofebgpaa
