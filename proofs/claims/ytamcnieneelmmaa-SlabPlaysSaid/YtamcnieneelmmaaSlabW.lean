/-
  The slab, the reference's slab and a row of numbers, side by side.
-/
import Derived.Test.YtamcnieneelmmaaSlabV
namespace Go.Proofs.Ytamcnieneelmmaa
open Go.RowKit

theorem slab_kind {w : World} {p b : Nat} {S : List Pg} (h : SlabAt w p b S) : (∃ cur, w.heap[p]? = some (.cells cur 48 (0, 0))) ∧ ∃ cur, w.heap[b]? = some (.cells cur 51 (0, 0)) := by
  obtain ⟨cur, h1, _⟩ := h.row
  exact ⟨⟨_, h.hd⟩, ⟨_, h1⟩⟩
theorem own_kind {w : World} {base n k : Nat} {e : TypeId} {v : Value} {x : List Value} (h : w.ownsRow base e 1 v n x) (hk : v.ownBlock = some k) : ∃ cur, w.heap[k]? = some (.cells cur e (0, 0)) := by
  rcases h.2 with ⟨a1, _⟩ | ⟨g1, c1, cur1, a1, _, a2, _⟩
  · rw [a1] at hk; cases hk
  · rw [a1] at hk
    rw [← own_is hk]
    exact ⟨_, a2⟩
theorem RSAt.kinds {w : World} {u : Nat} {K : Nat → Prop} {R : List Pg} (s : RSAt w u K R) {k : Nat} (hk : K k) :
    ∃ cur t, w.heap[k]? = some (.cells cur t (0, 0)) ∧ (t = 41 ∨ t = 3 ∨ t = 54 ∨ t = 4) := by
  obtain ⟨go, gt, cgo, cgt, tb, s, hK⟩ := s
  rcases (hK k).1 hk with rfl | rfl | rfl | ⟨i, hi, hb⟩
  · exact ⟨_, _, s.top, .inl rfl⟩
  · obtain ⟨cur, h⟩ := own_kind s.of rfl
    exact ⟨_, _, h, .inr (.inl rfl)⟩
  · obtain ⟨cur, h⟩ := own_kind s.tk rfl
    exact ⟨_, _, h, .inr (.inr (.inl rfl))⟩
  · obtain ⟨cur, h⟩ := own_kind (s.pg i hi) hb
    exact ⟨_, _, h, .inr (.inr (.inr rfl))⟩
theorem RSAt.far {w : World} {u : Nat} {K : Nat → Prop} {R : List Pg} (s : RSAt w u K R) {k : Nat} {cur : Array Value} {t : TypeId} {fr : Nat × Nat} (h : w.heap[k]? = some (.cells cur t fr)) (ht : t ≠ 41 ∧ t ≠ 3 ∧ t ≠ 54 ∧ t ≠ 4) : ¬ K k := by
  intro hk
  obtain ⟨cur2, t2, h2, h3⟩ := s.kinds hk
  rw [h] at h2
  injection h2 with h2
  injection h2 with _ h2
  subst h2
  rcases h3 with h3 | h3 | h3 | h3
  · exact ht.1 h3
  · exact ht.2.1 h3
  · exact ht.2.2.1 h3
  · exact ht.2.2.2 h3

structure BS (w0 wr : World) (p b u : Nat) (K : Nat → Prop) (S R : List Pg) (l : Value) (T : List Int) : Prop where
  s : SlabAt wr p b S
  r : RSAt wr u K R
  f : Fr Nob w0 wr
  o : wr.ownsRow w0.heap.size 3 1 l T.length (intRow T)
  lk : ∀ k, K k → ¬ l.ownBlock = some k
  k0 : ∀ k, K k → w0.heap.size ≤ k
  b0 : w0.heap.size ≤ b
  bd : ∀ x, x ∈ T → x ≤ 9223372036854775807

section
variable {w0 wr w' : World} {p b u : Nat} {K : Nat → Prop} {S R S' R' : List Pg} {l l' : Value} {T T' : List Int}
theorem BS.quiet (s : BS w0 wr p b u K S R l T) (f : Fr Nob wr w') : BS w0 w' p b u K S R l T :=
  ⟨s.s.keep f (fun h => h) (fun h => h), s.r.keep f fun _ _ h => h, s.f.trans' f, f.ownsRow s.o fun _ _ h => h, s.lk, s.k0, s.b0, s.bd⟩
theorem BS.prog (s : BS w0 wr p b u K S R l T) (h : SlabAt w' p b S') (f : Fr (One b) wr w') : BS w0 w' p b u K S' R l T := by
  obtain ⟨_, cur, hb⟩ := slab_kind s.s
  have hK : ¬ K b := s.r.far hb (by decide)
  have hl := (slab_own_ne s.s s.o).2
  refine ⟨h, s.r.keep f fun k hk e => ?_, s.f.trans f fun k hk e => ?_, f.ownsRow s.o fun k hk e => ?_, s.lk, s.k0, s.b0, s.bd⟩
  · rw [show k = b from e] at hk; exact hK hk
  · have : k = b := e
    have := s.b0
    omega
  · rw [show k = b from e] at hk; exact hl hk
theorem BS.refr (s : BS w0 wr p b u K S R l T) (h : RSTo wr u K w' R') : ∃ K', BS w0 w' p b u K' S R' l T ∧ Fr K wr w' := by
  obtain ⟨K', r', f, hn⟩ := h
  obtain ⟨⟨_, hp⟩, ⟨_, hb⟩⟩ := slab_kind s.s
  refine ⟨K', ⟨s.s.keep f (s.r.far hp (by decide)) (s.r.far hb (by decide)), r', s.f.trans f (fun k hk h => by have := s.k0 k h; omega), f.ownsRow s.o fun k hk h => s.lk k h hk, fun k hk e => ?_, fun k hk => ?_, s.b0, s.bd⟩, f⟩
  · rcases hn k hk with h | h
    · exact s.lk k h e
    · have := (s.o.lt k e).2
      omega
  · rcases hn k hk with h | h
    · exact s.k0 k h
    · have := s.f.size
      omega
theorem BS.app (s : BS w0 wr p b u K S R l T) (f : Fr (fun k => l.ownBlock = some k) wr w') (o : w'.ownsRow w0.heap.size 3 1 l' T'.length (intRow T')) (hb : l'.ownBlock = l.ownBlock ∨ l'.ownBlock = some wr.heap.size) (bd : ∀ x, x ∈ T' → x ≤ 9223372036854775807) : BS w0 w' p b u K S R l' T' := by
  obtain ⟨n1, n2⟩ := slab_own_ne s.s s.o
  refine ⟨s.s.keep f n1 n2, s.r.keep f fun k hk e => s.lk k hk e, s.f.trans f (fun k hk e => ownsRow_base s.o k hk e), o, fun k hk e => ?_, s.k0, s.b0, bd⟩
  rcases hb with h | h
  · exact s.lk k hk (by rw [← h]; exact e)
  · rw [h] at e
    have := s.r.lt k hk
    injection e with e
    omega
/-- An act's own block is apart from both. -/
theorem BS.act (s : BS w0 wr p b u K S R l T) {X : Nat} {cur : Array Value} (h : wr.heap[X]? = some (.cells cur 37 (0, 0))) : X ≠ b ∧ ¬ K X ∧ ¬ l.ownBlock = some X := by
  obtain ⟨_, ⟨_, hb⟩⟩ := slab_kind s.s
  refine ⟨fun e => ?_, s.r.far h (by decide), fun e => ?_⟩
  · rw [e, hb] at h
    injection h with h
    injection h with _ h
    cases h
  · obtain ⟨_, h2⟩ := own_kind s.o e
    rw [h] at h2
    injection h2 with h2
    injection h2 with _ h2
    cases h2
theorem act_cells {w : World} {X : Nat} {f r : Bool} {a o : Int} (h : w.heap[X]? = some (.cells #[.bool f, .int .i64 a, .int .i64 o, .bool r] 37 (0, 0))) :
    w.cell? ⟨X, 0, none⟩ = some (.bool f) ∧ w.cell? ⟨X, 1, none⟩ = some (.int .i64 a) ∧ w.cell? ⟨X, 2, none⟩ = some (.int .i64 o) ∧ w.cell? ⟨X, 3, none⟩ = some (.bool r) :=
  ⟨cell_of_row w X 0 _ _ (0, 0) h, cell_of_row w X 1 _ _ (0, 0) h, cell_of_row w X 2 _ _ (0, 0) h, cell_of_row w X 3 _ _ (0, 0) h⟩
/-- What was taken is of its class. -/
theorem takeN_of {c : Int} (h0 : 0 ≤ c) (h6 : c < 6) (hok : ∀ q, q ∈ S → q.ok) (he : takeE S c = 0) : ofS (takeS S c) (takeN S c) = c ∧ refN S c = takeN S c ∧ 0 ≤ takeN S c ∧ takeN S c < 64 * (S.length : Int) := by
  have hin : inCls c = true := by simp [inCls, h0, h6]
  obtain ⟨g, b0, b1⟩ := take_gone h0 h6 hok he
  cases hs : slot S c with
  | none => rw [(take_full hin hs).2.2] at he; cases he
  | some i =>
    obtain ⟨t1, t2, _⟩ := take_slot hin hs
    obtain ⟨hi, f1, f2, f3⟩ := slot_free h0 h6 hok hs
    refine ⟨?_, by unfold refN; rw [if_pos he], b0, b1⟩
    have ht := g.now (takeN S c)
    rw [if_pos rfl] at ht
    unfold ofS
    rw [ht, if_pos rfl, t2, t1, getD_of hi]
    have e1 : ((64 * (i : Int) + (freeIn S[i].tk : Int)) / 64).toNat = i := by omega
    rw [e1, getD_of (by rw [List.length_set]; exact hi), List.getElem_set_self]
theorem take_no {c : Int} (h0 : 0 ≤ c) (h6 : c < 6) (hs : slot S c = none) : takeS S c = S ∧ takeN S c = 0 ∧ takeE S c = 7 ∧ refN S c = -1 := by
  have hin : inCls c = true := by simp [inCls, h0, h6]
  obtain ⟨t1, t2, t3⟩ := take_full hin hs
  exact ⟨t1, t2, t3, (refN_full hin hs).1⟩
theorem free_of (S : List Pg) (x : Int) : ofS (freeS S x) x = -1 := by
  refine ofS_no ?_
  cases hx : isTaken S x
  · unfold freeS; rw [hx]; exact hx
  · have := (free_gone hx).now x
    rwa [if_pos rfl] at this
theorem takeS_ok' {w : World} (h : SlabAt w p b S) : ∀ q, q ∈ S → q.ok := h.ok
end
end Go.Proofs.Ytamcnieneelmmaa
