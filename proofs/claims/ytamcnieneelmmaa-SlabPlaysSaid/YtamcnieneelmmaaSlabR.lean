/-
  The reference's Slab, told by the same plain pages.
-/
import Derived.Test.YtamcnieneelmmaaSlabE
import Derived.Test.YtamcnieneelmmaaSlabLeft
namespace Go.Proofs.Ytamcnieneelmmaa
open Go.RowKit

/-- How many chunks the reference keeps of a page. -/
def lenP (q : Pg) : Nat := if q.cls = -1 then 0 else (chunksOf q.cls).toNat
def boolsP (q : Pg) : List Value := (List.range (lenP q)).map fun k => .bool (q.tk k)
def clsV (S : List Pg) : List Value := S.map fun q => .int .i64 q.cls

structure RSl (w : World) (u go gt cgo cgt : Nat) (tb : Nat → Value) (S : List Pg) : Prop where
  top : w.heap[u]? = some (.cells #[.slice (some ⟨go, 0, none⟩) S.length cgo, .slice (some ⟨gt, 0, none⟩) S.length cgt] 41 (0, 0))
  of : w.ownsRow 0 3 1 (.slice (some ⟨go, 0, none⟩) S.length cgo) S.length (clsV S)
  tk : w.ownsRow 0 54 1 (.slice (some ⟨gt, 0, none⟩) S.length cgt) S.length ((List.range S.length).map tb)
  pg : ∀ i (h : i < S.length), w.ownsRow 0 4 1 (tb i) (lenP S[i]) (boolsP S[i])
  sep : ∀ i g, i < S.length → (tb i).ownBlock = some g → g ≠ u ∧ g ≠ go ∧ g ≠ gt
  two : ∀ i j g, i < S.length → j < S.length → i ≠ j → (tb i).ownBlock = some g → (tb j).ownBlock ≠ some g
  pos : 1 ≤ S.length
  len : S.length ≤ 1024
  ok : ∀ q, q ∈ S → q.ok

def RSOwn (u go gt : Nat) (tb : Nat → Value) (n : Nat) : Nat → Prop := fun k => k = u ∨ k = go ∨ k = gt ∨ ∃ i, i < n ∧ (tb i).ownBlock = some k
def RSAt (w : World) (u : Nat) (K : Nat → Prop) (S : List Pg) : Prop := ∃ go gt cgo cgt tb, RSl w u go gt cgo cgt tb S ∧ ∀ k, K k ↔ RSOwn u go gt tb S.length k
/-- What a call on it leaves. -/
def RSTo (w : World) (u : Nat) (K : Nat → Prop) (w' : World) (S' : List Pg) : Prop := ∃ K', RSAt w' u K' S' ∧ Fr K w w' ∧ ∀ k, K' k → K k ∨ w.heap.size ≤ k

section
variable {w w' : World} {u go gt cgo cgt : Nat} {tb : Nat → Value} {S : List Pg} {T K : Nat → Prop}
theorem own_is {g n cap k : Nat} (h : (Value.slice (some ⟨g, 0, none⟩) n cap).ownBlock = some k) : g = k := by simpa [Value.ownBlock] using h
theorem RSl.keep (s : RSl w u go gt cgo cgt tb S) (f : Fr T w w') (hT : ∀ k, RSOwn u go gt tb S.length k → ¬ T k) : RSl w' u go gt cgo cgt tb S :=
  ⟨f.heap s.top (hT u (.inl rfl)), f.ownsRow s.of fun k hk => hT k (.inr (.inl (own_is hk).symm)), f.ownsRow s.tk fun k hk => hT k (.inr (.inr (.inl (own_is hk).symm))), fun i h => f.ownsRow (s.pg i h) fun k hk => hT k (.inr (.inr (.inr ⟨i, h, hk⟩))), s.sep, s.two, s.pos, s.len, s.ok⟩
theorem RSAt.keep (s : RSAt w u K S) (f : Fr T w w') (hT : ∀ k, K k → ¬ T k) : RSAt w' u K S := by
  obtain ⟨go, gt, cgo, cgt, tb, s, h⟩ := s
  exact ⟨go, gt, cgo, cgt, tb, s.keep f fun k hk => hT k ((h k).2 hk), h⟩
theorem RSl.lt (s : RSl w u go gt cgo cgt tb S) : ∀ k, RSOwn u go gt tb S.length k → k < w.heap.size := fun k hk => by
  rcases hk with rfl | rfl | rfl | ⟨i, hi, hk⟩
  · exact lt_of_block s.top
  · exact (s.of.lt _ rfl).2
  · exact (s.tk.lt _ rfl).2
  · exact ((s.pg i hi).lt _ hk).2
theorem RSAt.lt (s : RSAt w u K S) : ∀ k, K k → k < w.heap.size := fun k hk => by
  obtain ⟨go, gt, cgo, cgt, tb, s, h⟩ := s
  exact s.lt k ((h k).1 hk)
theorem row_cell {base n cap g size : Nat} {t : TypeId} {xs : List Value} (h : w.ownsRow base t size (.slice (some ⟨g, 0, none⟩) n cap) n xs) {i : Nat} {v : Value} (hv : xs[i]? = some v) : w.cell? ⟨g, i, none⟩ = some v := by
  have := h.cells (g := g) rfl i v hv
  rwa [Addr.add_lit, Nat.zero_add] at this
theorem RSl.cells (s : RSl w u go gt cgo cgt tb S) : w.cell? ⟨u, 0, none⟩ = some (.slice (some ⟨go, 0, none⟩) S.length cgo) ∧ w.cell? ⟨u, 1, none⟩ = some (.slice (some ⟨gt, 0, none⟩) S.length cgt) ∧
    ∀ i (h : i < S.length), w.cell? ⟨go, i, none⟩ = some (.int .i64 S[i].cls) ∧ w.cell? ⟨gt, i, none⟩ = some (tb i) :=
  ⟨cell_of_row w u 0 _ _ (0, 0) s.top, cell_of_row w u 1 _ _ (0, 0) s.top, fun i h => ⟨row_cell s.of (by unfold clsV; rw [List.getElem?_map, List.getElem?_eq_getElem h]; rfl), row_cell s.tk (by rw [List.getElem?_map, List.getElem?_range h]; rfl)⟩⟩
theorem row_set {w : World} {base n cap g : Nat} {t : TypeId} {xs : List Value} (h : w.ownsRow base t 1 (.slice (some ⟨g, 0, none⟩) n cap) n xs) (i : Nat) (u : Value) : (w.setCell ⟨g, i, none⟩ u).ownsRow base t 1 (.slice (some ⟨g, 0, none⟩) n cap) n (xs.set i u) := by
  refine ⟨by rw [List.length_set]; exact h.1, .inr ?_⟩
  rcases h.2 with ⟨h1, _⟩ | ⟨g', cap', cur, h1, h2, h3, h4, h5, h6, h7⟩
  · cases h1
  · simp only [Value.slice.injEq, Option.some.injEq, Addr.mk.injEq, and_true] at h1
    obtain ⟨rfl, _, rfl⟩ := h1
    refine ⟨g, cap, cur.setIfInBounds i u, rfl, h2, heap_setCell_same w g i _ _ _ h3, h4, h5, by simpa using h6, ?_⟩
    rw [Array.toList_setIfInBounds, List.take_set, h7]
/-- A page's row of bools. -/
theorem RSl.page (s : RSl w u go gt cgo cgt tb S) {i : Nat} (h : i < S.length) : ∃ a cap, tb i = .slice a (lenP S[i]) cap ∧ lenP S[i] ≤ 64 ∧ ∀ k, k < lenP S[i] → ∃ g, a = some ⟨g, 0, none⟩ ∧ w.cell? ⟨g, k, none⟩ = some (.bool (S[i].tk k)) ∧ w.frozen? ⟨g, k, none⟩ = false := by
  have hr := s.pg i h
  have hl : lenP S[i] ≤ 64 := by
    unfold lenP
    split
    · omega
    · unfold chunksOf
      split
      · have : (64 : Int) / 2 ^ S[i].cls.toNat ≤ 64 := Int.ediv_le_self _ (by omega)
        omega
      · simp
  rcases hr.2 with ⟨e, h0⟩ | ⟨g, cap, cur, e, _, h1, _⟩
  · exact ⟨none, 0, by rw [e, h0], hl, fun k hk => by omega⟩
  · refine ⟨_, cap, e, hl, fun k hk => ⟨g, rfl, ?_, frozen_of_row w g k _ _ h1⟩⟩
    have hr2 := hr
    rw [e] at hr2
    exact row_cell hr2 (by unfold boolsP; rw [List.getElem?_map, List.getElem?_range hk]; rfl)
end

theorem Pg.ok.past {q : Pg} (h : q.ok) {k : Nat} (hk : lenP q ≤ k) : q.tk k = false := by
  rcases h with h | ⟨h0, h6, h3, h4⟩
  · exact h.2.2 k
  · refine h4 k ?_
    unfold lenP at hk
    rw [if_neg (by omega)] at hk
    exact hk
theorem Pg.ok.count {q : Pg} (h : q.ok) : (cnt q.tk (lenP q) : Int) = q.us := by
  rcases h with h | ⟨h0, h6, h3, h4⟩
  · unfold lenP
    rw [if_pos h.1, h.2.1]
    rfl
  · unfold lenP
    rw [if_neg (by omega), h3]

theorem clsV_set (S : List Pg) (i : Nat) (q : Pg) : clsV (S.set i q) = (clsV S).set i (.int .i64 q.cls) := by unfold clsV; rw [List.map_set]
theorem boolsP_set {p q : Pg} {k : Nat} {x : Bool} (hc : q.cls = p.cls) (ht : q.tk = upd p.tk k x) (hk : k < lenP p) : lenP q = lenP p ∧ boolsP q = (boolsP p).set k (.bool x) := by
  have hl : lenP q = lenP p := by unfold lenP; rw [hc]
  refine ⟨hl, ?_⟩
  unfold boolsP
  rw [hl, ht]
  apply List.ext_getElem?
  intro j
  rw [List.getElem?_set, List.getElem?_map]
  by_cases hj : j < lenP p
  · rw [List.getElem?_range hj, Option.map_some]
    by_cases e : k = j
    · subst e
      rw [if_pos rfl, if_pos (by simpa using hk)]
      unfold upd
      rw [if_pos rfl]
    · rw [if_neg e, List.getElem?_map, List.getElem?_range hj, Option.map_some]
      unfold upd
      rw [if_neg (fun h => e h.symm)]
  · rw [List.getElem?_eq_none (by simp; omega), Option.map_none]
    by_cases e : k = j
    · omega
    · rw [if_neg e, List.getElem?_map, List.getElem?_eq_none (by simp; omega), Option.map_none]

section
variable {w : World} {u go gt cgo cgt : Nat} {tb : Nat → Value} {S : List Pg} {K : Nat → Prop}
theorem RSl.apart (s : RSl w u go gt cgo cgt tb S) : u ≠ go ∧ u ≠ gt ∧ go ≠ gt := by
  have ne_of : ∀ {b1 : Nat} {t1 t2 e : TypeId} {v : Value} {n : Nat} {xs : List Value} {cs : Array Value} {fr : Nat × Nat}, w.heap[b1]? = some (.cells cs t1 fr) → ∀ {b2 cap}, w.ownsRow 0 t2 1 (.slice (some ⟨b2, 0, none⟩) n cap) n xs → t1 ≠ t2 → b1 ≠ b2 := by
    intro b1 t1 t2 e v n xs cs fr h1 b2 cap h2 hne e2
    subst e2
    rcases h2.2 with ⟨h3, _⟩ | ⟨g', cap', cur, h3, _, h4, _⟩
    · cases h3
    · simp only [Value.slice.injEq, Option.some.injEq, Addr.mk.injEq, and_true] at h3
      obtain ⟨rfl, _, rfl⟩ := h3
      rw [h1] at h4
      injection h4 with h4
      injection h4 with _ h4
      exact hne h4
  have g0 : ∃ cur fr, w.heap[go]? = some (.cells cur 3 fr) := by
    rcases s.of.2 with ⟨h3, _⟩ | ⟨g', cap', cur, h3, _, h4, _⟩
    · cases h3
    · simp only [Value.slice.injEq, Option.some.injEq, Addr.mk.injEq, and_true] at h3
      obtain ⟨rfl, _, rfl⟩ := h3
      exact ⟨_, _, h4⟩
  obtain ⟨cur, fr, hg⟩ := g0
  exact ⟨ne_of (e := 0) (v := .bool true) s.top s.of (by decide), ne_of (e := 0) (v := .bool true) s.top s.tk (by decide), ne_of (e := 0) (v := .bool true) hg s.tk (by decide)⟩

/-- A chunk of a page is turned. -/
theorem RSl.set_tk (s : RSl w u go gt cgo cgt tb S) {i k g cap : Nat} (hi : i < S.length) (hg : tb i = .slice (some ⟨g, 0, none⟩) (lenP S[i]) cap) (x : Bool) {q : Pg} (hq : q.ok) (hc : q.cls = S[i].cls) (ht : q.tk = upd S[i].tk k x) (hk : k < lenP S[i]) :
    RSl (w.setCell ⟨g, k, none⟩ (.bool x)) u go gt cgo cgt tb (S.set i q) := by
  have hown : (tb i).ownBlock = some g := by rw [hg]; rfl
  obtain ⟨n1, n2, n3⟩ := s.sep i g hi hown
  have hl : (S.set i q).length = S.length := List.length_set
  obtain ⟨b1, b2⟩ := boolsP_set hc ht hk
  refine ⟨?_, ?_, ?_, fun j hj => ?_, fun j g' hj => ?_, fun a b hh ha hb => ?_, ?_, ?_, set_ok s.ok i hq⟩
  · rw [hl, Below.heap_setCell _ _ _ _ (fun e => n1 e.symm)]; exact s.top
  · rw [hl, clsV_set, hc]
    have e : (clsV S).set i (.int .i64 S[i].cls) = clsV S := by
      unfold clsV
      apply List.ext_getElem?
      intro j
      rw [List.getElem?_set]
      split
      · rename_i h; subst h; simp [hi]
      · rfl
    rw [e]
    exact ownsRow_setCell_other s.of (by rw [Value.ownBlock]; simpa using fun e => n2 e.symm) _
  · rw [hl]
    exact ownsRow_setCell_other s.tk (by rw [Value.ownBlock]; simpa using fun e => n3 e.symm) _
  · rw [hl] at hj
    by_cases e : i = j
    · subst e
      simp only [List.getElem_set_self]
      rw [b1, b2, hg]
      have := s.pg i hi
      rw [hg] at this
      exact row_set this k _
    · rw [List.getElem_set_ne e]
      exact ownsRow_setCell_other (s.pg j hj) (s.two i j g hi hj e hown) _
  · rw [hl] at hj; exact s.sep j g' hj
  · rw [hl] at ha hb; exact s.two a b hh ha hb
  · rw [hl]; exact s.pos
  · rw [hl]; exact s.len
end

end Go.Proofs.Ytamcnieneelmmaa
