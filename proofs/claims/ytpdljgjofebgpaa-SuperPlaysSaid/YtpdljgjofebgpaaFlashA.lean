/-
  flash: how a device lies in memory; Pages, has, spend, Losses, Power.
-/
import Derived.Test.YtpdljgjofebgpaaBytes
import Derived.Test.YtpdljgjofebgpaaFlashP
namespace Go.Proofs.Ytpdljgjofebgpaa
open Go.RowKit

/-- Value v is a page of this content; all that it leads to lies in P. -/
def PgAt (w : World) (P : Nat → Prop) (v : Value) : Pg → Prop
  | .blank => v = .pointer none
  | .torn => ∃ g b, v = .pointer (some ⟨g, 0, none⟩) ∧ P g ∧ w.heap[g]? = some (.cells #[b, .bool true] 115 (0, 0))
  | .whole bs => ∃ g r, v = .pointer (some ⟨g, 0, none⟩) ∧ P g ∧ P r ∧ w.heap[g]? = some (.cells #[.slice (some ⟨r, 0, none⟩) 384 384, .bool false] 115 (0, 0)) ∧
      w.heap[r]? = some (.cells (bytesV bs).toArray 5 (0, 0)) ∧ bs.length = 384

theorem PgAt.keep {w w' : World} {P T : Nat → Prop} {v : Value} {p : Pg} (h : PgAt w P v p) (f : Fr T w w') (hT : ∀ k, P k → ¬ T k) : PgAt w' P v p := by
  cases p with
  | blank => exact h
  | torn => obtain ⟨g, b, h1, h2, h3⟩ := h; exact ⟨g, b, h1, h2, f.heap h3 (hT g h2)⟩
  | whole bs => obtain ⟨g, r, h1, h2, h3, h4, h5, h6⟩ := h; exact ⟨g, r, h1, h2, h3, f.heap h4 (hT g h2), f.heap h5 (hT r h3), h6⟩
theorem PgAt.mono {w : World} {P P' : Nat → Prop} {v : Value} {p : Pg} (h : PgAt w P v p) (hP : ∀ k, P k → P' k) : PgAt w P' v p := by
  cases p with
  | blank => exact h
  | torn => obtain ⟨g, b, h1, h2, h3⟩ := h; exact ⟨g, b, h1, hP g h2, h3⟩
  | whole bs => obtain ⟨g, r, h1, h2, h3, h4⟩ := h; exact ⟨g, r, h1, hP g h2, hP r h3, h4⟩
theorem PgAt.shape {w : World} {P : Nat → Prop} {v : Value} {p : Pg} (h : PgAt w P v p) : ∃ a, v = .pointer a := by
  cases p with
  | blank => exact ⟨none, h⟩
  | torn => obtain ⟨g, b, h1, _⟩ := h; exact ⟨_, h1⟩
  | whole bs => obtain ⟨g, r, h1, _⟩ := h; exact ⟨_, h1⟩

/-- What the map holds of a page. -/
def WtAt (w : World) (P : Nat → Prop) (L : List (Int × Value)) (i : Nat) : Option Pg → Prop
  | none => getM L (i : Int) = none
  | some p => ∃ v, getM L (i : Int) = some v ∧ PgAt w P v p

structure DevIn (w : World) (q g cap m : Nat) (vals : List Value) (L : List (Int × Value)) (P : Nat → Prop) (D : Dv) : Prop where
  top : w.heap[q]? = some (.cells #[.slice (some ⟨g, 0, none⟩) D.pg.length cap, .map (some m), .bool D.off, .int .i64 D.arm, .int .i64 D.loss, .int .i64 D.n0, .int .i64 D.n1, .int .i64 D.n2, .int .i64 D.n3] 101 (0, 0))
  row : w.ownsRow 0 112 1 (.slice (some ⟨g, 0, none⟩) D.pg.length cap) D.pg.length vals
  map : MapIs (Value.int .i64) id w m L
  fl : ∀ (i : Nat) (c : Pc), D.pg[i]? = some c → ∃ v, vals[i]? = some v ∧ PgAt w P v c.1
  wt : ∀ (i : Nat) (c : Pc), D.pg[i]? = some c → WtAt w P L i c.2
  keys : ∀ k, k ∈ keysM L → 0 ≤ k ∧ k < D.pg.length
  arm0 : 0 ≤ D.arm
  arm1 : D.arm ≤ 9223372036854775807
  low : 1 ≤ D.pg.length
  most : D.pg.length ≤ 4096

def DOwn (q g m : Nat) : Nat → Prop := fun k => k = q ∨ k = g ∨ k = m

/-- At q lies a device: K are the blocks that it writes, P those of pages. -/
def DevAt (w : World) (q : Nat) (K P : Nat → Prop) (D : Dv) : Prop :=
  ∃ g cap m vals L, DevIn w q g cap m vals L P D ∧ (∀ k, K k ↔ DOwn q g m k) ∧ ∀ k, P k → k < w.heap.size ∧ ¬ K k

/-- What a call leaves: the device, a new one perhaps; pages may be new. -/
def DTo (w : World) (q : Nat) (K P : Nat → Prop) (w' : World) (D' : Dv) : Prop :=
  ∃ P', DevAt w' q K P' D' ∧ Fr K w w' ∧ (∀ k, P k → P' k) ∧ ∀ k, P' k → P k ∨ w.heap.size ≤ k

theorem DevIn.cells {w : World} {q g cap m : Nat} {vals : List Value} {L : List (Int × Value)} {P : Nat → Prop} {D : Dv} (s : DevIn w q g cap m vals L P D) :
    w.cell? ⟨q, 0, none⟩ = some (.slice (some ⟨g, 0, none⟩) D.pg.length cap) ∧ w.cell? ⟨q, 1, none⟩ = some (.map (some m)) ∧ w.cell? ⟨q, 2, none⟩ = some (.bool D.off) ∧ w.cell? ⟨q, 3, none⟩ = some (.int .i64 D.arm) ∧
      w.cell? ⟨q, 4, none⟩ = some (.int .i64 D.loss) ∧ w.cell? ⟨q, 5, none⟩ = some (.int .i64 D.n0) ∧ w.cell? ⟨q, 6, none⟩ = some (.int .i64 D.n1) ∧ w.cell? ⟨q, 7, none⟩ = some (.int .i64 D.n2) ∧ w.cell? ⟨q, 8, none⟩ = some (.int .i64 D.n3) ∧
      ∀ j, w.frozen? ⟨q, j, none⟩ = false := by
  have h := fun j => cell_of_row w q j _ _ (0, 0) s.top
  exact ⟨h 0, h 1, h 2, h 3, h 4, h 5, h 6, h 7, h 8, fun j => frozen_of_row w q j _ _ s.top⟩

theorem DevIn.block {w : World} {q g cap m : Nat} {vals : List Value} {L : List (Int × Value)} {P : Nat → Prop} {D : Dv} (s : DevIn w q g cap m vals L P D) :
    ∃ cur, w.heap[g]? = some (.cells cur 112 (0, 0)) ∧ D.pg.length ≤ cap ∧ cap ≤ maxLen ∧ cur.size = cap ∧ cur.toList.take D.pg.length = vals := by
  rcases s.row.2 with ⟨h, _⟩ | ⟨g', cap', cur, he, _, h1, h2, h3, h4, h5⟩
  · simp at h
  · simp only [Value.slice.injEq, Option.some.injEq, Addr.mk.injEq] at he
    obtain ⟨⟨rfl, _⟩, _, rfl⟩ := he
    rw [Nat.mul_one] at h4 h5
    exact ⟨cur, h1, h2, h3, h4, h5⟩
theorem DevIn.len {w : World} {q g cap m : Nat} {vals : List Value} {L : List (Int × Value)} {P : Nat → Prop} {D : Dv} (s : DevIn w q g cap m vals L P D) : vals.length = D.pg.length := by
  have := s.row.1
  rw [Nat.mul_one] at this
  exact this

theorem DevIn.ne {w : World} {q g cap m : Nat} {vals : List Value} {L : List (Int × Value)} {P : Nat → Prop} {D : Dv} (s : DevIn w q g cap m vals L P D) : q ≠ g ∧ q ≠ m ∧ g ≠ m := by
  obtain ⟨cur, hg, _⟩ := s.block
  obtain ⟨es, clock, hm, _⟩ := s.map
  have hq := s.top
  refine ⟨fun e => ?_, fun e => ?_, fun e => ?_⟩
  · subst e
    rw [hg] at hq
    injection hq with hq
    injection hq with _ ht
    exact absurd ht (by decide)
  · subst e
    rw [hm] at hq
    cases hq
  · subst e
    rw [hm] at hg
    cases hg

theorem DevIn.lt {w : World} {q g cap m : Nat} {vals : List Value} {L : List (Int × Value)} {P : Nat → Prop} {D : Dv} (s : DevIn w q g cap m vals L P D) : ∀ k, DOwn q g m k → k < w.heap.size := by
  obtain ⟨cur, hg, _⟩ := s.block
  rintro k (rfl | rfl | rfl)
  · exact lt_of_block s.top
  · exact lt_of_block hg
  · exact s.map.lt

theorem WtAt.keep {w w' : World} {P T : Nat → Prop} {L : List (Int × Value)} {i : Nat} {p : Option Pg} (h : WtAt w P L i p) (f : Fr T w w') (hT : ∀ k, P k → ¬ T k) : WtAt w' P L i p := by
  cases p with
  | none => exact h
  | some p => obtain ⟨v, h1, h2⟩ := h; exact ⟨v, h1, h2.keep f hT⟩
theorem WtAt.mono {w : World} {P P' : Nat → Prop} {L : List (Int × Value)} {i : Nat} {p : Option Pg} (h : WtAt w P L i p) (hP : ∀ k, P k → P' k) : WtAt w P' L i p := by
  cases p with
  | none => exact h
  | some p => obtain ⟨v, h1, h2⟩ := h; exact ⟨v, h1, h2.mono hP⟩

theorem DevIn.keep {w w' : World} {q g cap m : Nat} {vals : List Value} {L : List (Int × Value)} {P T : Nat → Prop} {D : Dv} (s : DevIn w q g cap m vals L P D) (f : Fr T w w') (hT : ∀ k, DOwn q g m k → ¬ T k) (hP : ∀ k, P k → ¬ T k) : DevIn w' q g cap m vals L P D where
  top := f.heap s.top (hT q (.inl rfl))
  row := f.ownsRow s.row fun k hk => hT k (by
    have : g = k := by simpa [Value.ownBlock] using hk
    exact .inr (.inl this.symm))
  map := s.map.keep f (hT m (.inr (.inr rfl)))
  fl := fun i c h => by obtain ⟨v, h1, h2⟩ := s.fl i c h; exact ⟨v, h1, h2.keep f hP⟩
  wt := fun i c h => (s.wt i c h).keep f hP
  keys := s.keys
  arm0 := s.arm0
  arm1 := s.arm1
  low := s.low
  most := s.most

theorem DevAt.keep {w w' : World} {q : Nat} {K P T : Nat → Prop} {D : Dv} (s : DevAt w q K P D) (f : Fr T w w') (hT : ∀ k, K k → ¬ T k) (hP : ∀ k, P k → ¬ T k) : DevAt w' q K P D := by
  obtain ⟨g, cap, m, vals, L, s, hK, hl⟩ := s
  exact ⟨g, cap, m, vals, L, s.keep f (fun k hk => hT k ((hK k).2 hk)) hP, hK, fun k hk => ⟨Nat.lt_of_lt_of_le (hl k hk).1 f.size, (hl k hk).2⟩⟩
theorem DevAt.nob {w w' : World} {q : Nat} {K P : Nat → Prop} {D : Dv} (s : DevAt w q K P D) (f : Fr Nob w w') : DevAt w' q K P D := s.keep f (fun _ _ h => h) fun _ _ h => h
theorem DevAt.lt {w : World} {q : Nat} {K P : Nat → Prop} {D : Dv} (s : DevAt w q K P D) : ∀ k, K k → k < w.heap.size := by
  obtain ⟨g, cap, m, vals, L, s, hK, _⟩ := s
  exact fun k hk => s.lt k ((hK k).1 hk)
theorem DevAt.plt {w : World} {q : Nat} {K P : Nat → Prop} {D : Dv} (s : DevAt w q K P D) : ∀ k, P k → k < w.heap.size := by
  obtain ⟨g, cap, m, vals, L, s, hK, h⟩ := s
  exact fun k hk => (h k hk).1
theorem DevAt.apart {w : World} {q : Nat} {K P : Nat → Prop} {D : Dv} (s : DevAt w q K P D) : ∀ k, P k → ¬ K k := by
  obtain ⟨g, cap, m, vals, L, s, hK, h⟩ := s
  exact fun k hk => (h k hk).2
theorem DevAt.own {w : World} {q : Nat} {K P : Nat → Prop} {D : Dv} (s : DevAt w q K P D) : K q := by
  obtain ⟨g, cap, m, vals, L, s, hK, h⟩ := s
  exact (hK q).2 (.inl rfl)
/-- More pages. -/
theorem DevAt.wide {w : World} {q : Nat} {K P P' : Nat → Prop} {D : Dv} (s : DevAt w q K P D) (hP : ∀ k, P k → P' k) (h : ∀ k, P' k → k < w.heap.size ∧ ¬ K k) : DevAt w q K P' D := by
  obtain ⟨g, cap, m, vals, L, s, hK, _⟩ := s
  refine ⟨g, cap, m, vals, L, ⟨s.top, s.row, s.map, fun i c hc => ?_, fun i c hc => (s.wt i c hc).mono hP, s.keys, s.arm0, s.arm1, s.low, s.most⟩, hK, h⟩
  obtain ⟨v, h1, h2⟩ := s.fl i c hc
  exact ⟨v, h1, h2.mono hP⟩

theorem DTo.refl {w : World} {q : Nat} {K P : Nat → Prop} {D : Dv} (s : DevAt w q K P D) : DTo w q K P w D := ⟨P, s, Fr.refl _ _, fun _ h => h, fun _ h => .inl h⟩
theorem DTo.trans {w w1 w2 : World} {q : Nat} {K P P1 : Nat → Prop} {D : Dv} (f : Fr K w w1) (h1 : ∀ k, P k → P1 k) (h2 : ∀ k, P1 k → P k ∨ w.heap.size ≤ k) (t : DTo w1 q K P1 w2 D) : DTo w q K P w2 D := by
  obtain ⟨P', s, f', a, b⟩ := t
  refine ⟨P', s, f.trans' f', fun k hk => a k (h1 k hk), fun k hk => ?_⟩
  rcases b k hk with h | h
  · exact h2 k h
  · exact .inr (Nat.le_trans f.size h)
theorem DTo.pre {w w1 w2 : World} {q : Nat} {K P : Nat → Prop} {D : Dv} (f : Fr Nob w w1) (t : DTo w1 q K P w2 D) : DTo w q K P w2 D := DTo.trans f.nob (fun _ h => h) (fun _ h => .inl h) t
theorem DTo.plus {w w1 w2 : World} {q : Nat} {K P : Nat → Prop} {D : Dv} (t : DTo w q K P w1 D) (f : Fr Nob w1 w2) : DTo w q K P w2 D := by
  obtain ⟨P', s, f', a, b⟩ := t
  exact ⟨P', s.nob f, f'.trans' f.nob, a, b⟩

theorem pages_eq {w : World} {q : Nat} {K P : Nat → Prop} {D : Dv} (s : DevAt w q K P D) :
    Calls Try.prog 61 #[.pointer (some ⟨q, 0, none⟩)] w fun e w' => e = .returned (.int .i64 D.pg.length) ∧ w = w' := by
  obtain ⟨g, cap, m, vals, L, s, _⟩ := s
  have c0 := s.cells.1
  have hm := s.most
  generalize D.pg.length = n at c0 hm
  clear s
  go_enter Try.func61, Try.ntmps61
  go_wp2_with fail
  go_ret
  exact ⟨rfl, rfl⟩

theorem losses_eq {w : World} {q : Nat} {K P : Nat → Prop} {D : Dv} (s : DevAt w q K P D) :
    Calls Try.prog 39 #[.pointer (some ⟨q, 0, none⟩)] w fun e w' => e = .returned (.int .i64 D.loss) ∧ w = w' := by
  obtain ⟨g, cap, m, vals, L, s, _⟩ := s
  obtain ⟨_, _, _, _, c4, _⟩ := s.cells
  generalize D.loss = n at c4
  clear s
  go_enter Try.func39, Try.ntmps39
  go_wp2_with fail
  go_ret
  exact ⟨rfl, rfl⟩

theorem power_eq {w : World} {q : Nat} {K P : Nat → Prop} {D : Dv} (s : DevAt w q K P D) :
    Calls Try.prog 38 #[.pointer (some ⟨q, 0, none⟩)] w fun e w' => e = .returned (.bool (!D.off)) ∧ w = w' := by
  obtain ⟨g, cap, m, vals, L, s, _⟩ := s
  obtain ⟨_, _, c2, _⟩ := s.cells
  generalize D.off = n at c2
  clear s
  go_enter Try.func38, Try.ntmps38
  go_wp2_with fail
  go_ret
  exact ⟨rfl, rfl⟩

theorem has_yes {w : World} {q : Nat} {K P : Nat → Prop} {D : Dv} (s : DevAt w q K P D) {x : Int} (h0 : 0 ≤ x) (h1 : x < (D.pg.length : Int)) :
    Calls Try.prog 70 #[.pointer (some ⟨q, 0, none⟩), .int .i64 x] w fun e w' => e = .returned (.bool true) ∧ w = w' := by
  obtain ⟨g, cap, m, vals, L, s, _⟩ := s
  have c0 := s.cells.1
  have hm := s.most
  generalize D.pg.length = n at c0 hm h1
  clear s
  go_enter Try.func70, Try.ntmps70
  go_wp2_with fail
  go_ret
  exact ⟨rfl, rfl⟩

theorem has_no {w : World} {q : Nat} {K P : Nat → Prop} {D : Dv} (s : DevAt w q K P D) {x : Int} (h : x < 0 ∨ (D.pg.length : Int) ≤ x) :
    Calls Try.prog 70 #[.pointer (some ⟨q, 0, none⟩), .int .i64 x] w fun e w' => e = .returned (.bool false) ∧ w = w' := by
  obtain ⟨g, cap, m, vals, L, s, _⟩ := s
  have c0 := s.cells.1
  have hm := s.most
  generalize D.pg.length = n at c0 hm h
  clear s
  rcases h with h | h
  · have h' : ¬ 0 ≤ x := by omega
    go_enter Try.func70, Try.ntmps70
    go_wp2_with fail
    go_ret
    exact ⟨rfl, rfl⟩
  · have h0 : 0 ≤ x := by omega
    have h' : ¬ x < (n : Int) := by omega
    go_enter Try.func70, Try.ntmps70
    go_wp2_with fail
    go_ret
    exact ⟨rfl, rfl⟩

/-- The device's own numbers turn; its pages stay. -/
theorem DevIn.turn {w w' : World} {q g cap m : Nat} {vals : List Value} {L : List (Int × Value)} {P : Nat → Prop} {D D' : Dv} (s : DevIn w q g cap m vals L P D) (hP : ∀ k, P k → k ≠ q) (f : Fr (One q) w w')
    (ht : w'.heap[q]? = some (.cells #[.slice (some ⟨g, 0, none⟩) D'.pg.length cap, .map (some m), .bool D'.off, .int .i64 D'.arm, .int .i64 D'.loss, .int .i64 D'.n0, .int .i64 D'.n1, .int .i64 D'.n2, .int .i64 D'.n3] 101 (0, 0)))
    (hp : D'.pg = D.pg) (h0 : 0 ≤ D'.arm) (h1 : D'.arm ≤ 9223372036854775807) : DevIn w' q g cap m vals L P D' where
  top := ht
  row := by
    rw [hp]
    exact f.ownsRow s.row fun k hk => by
      have : g = k := by simpa [Value.ownBlock] using hk
      subst this
      exact fun e => s.ne.1 e.symm
  map := s.map.keep f fun e => s.ne.2.1 (Eq.symm e)
  fl := fun i c h => by
    obtain ⟨v, h1, h2⟩ := s.fl i c (by rw [← hp]; exact h)
    exact ⟨v, h1, h2.keep f hP⟩
  wt := fun i c h => (s.wt i c (by rw [← hp]; exact h)).keep f hP
  keys := by rw [hp]; exact s.keys
  arm0 := h0
  arm1 := h1
  low := by rw [hp]; exact s.low
  most := by rw [hp]; exact s.most

theorem DevIn.to {w w' : World} {q g cap m : Nat} {vals : List Value} {L : List (Int × Value)} {K P : Nat → Prop} {D D' : Dv} (s : DevIn w q g cap m vals L P D) (hK : ∀ k, K k ↔ DOwn q g m k) (hl : ∀ k, P k → k < w.heap.size ∧ ¬ K k) (f : Fr (One q) w w')
    (ht : w'.heap[q]? = some (.cells #[.slice (some ⟨g, 0, none⟩) D'.pg.length cap, .map (some m), .bool D'.off, .int .i64 D'.arm, .int .i64 D'.loss, .int .i64 D'.n0, .int .i64 D'.n1, .int .i64 D'.n2, .int .i64 D'.n3] 101 (0, 0)))
    (hp : D'.pg = D.pg) (h0 : 0 ≤ D'.arm) (h1 : D'.arm ≤ 9223372036854775807) : DTo w q K P w' D' :=
  ⟨P, ⟨g, cap, m, vals, L, s.turn (fun k hk e => (hl k hk).2 ((hK k).2 (.inl e))) f ht hp h0 h1, hK, fun k hk => ⟨Nat.lt_of_lt_of_le (hl k hk).1 f.size, (hl k hk).2⟩⟩,
    f.mono fun k _ h => (hK k).2 (.inl h), fun _ h => h, fun _ h => .inl h⟩

theorem spend_eq {w : World} {q : Nat} {K P : Nat → Prop} {D : Dv} (s : DevAt w q K P D) (b : Bool) (hb : D.spend.off = b) :
    Calls Try.prog 77 #[.pointer (some ⟨q, 0, none⟩)] w fun e w' => e = .returned (.bool (!b)) ∧ DTo w q K P w' D.spend := by
  have s0 := Lib.hid (DTo.refl s)
  obtain ⟨g, cap, m, vals, L, s, hK, hl⟩ := s
  have HK := Lib.hid hK
  have HL := Lib.hid hl
  obtain ⟨c0, c1, c2, c3, c4, _, _, _, _, fz⟩ := s.cells
  have S := Lib.hid s
  have top := Lib.hid s.top
  have h0 := s.arm0
  have h1 := s.arm1
  have HB := Lib.hid hb
  clear s hK hl hb
  cases hoff : D.off with
  | true =>
    have e := spend_off hoff
    rw [hoff] at c2
    have hb2 : b = true := by rw [← HB.out, e, hoff]
    subst hb2
    have E := Lib.hid e
    clear e HB hoff
    go_enter Try.func77, Try.ntmps77
    go_wp2_with fail
    go_ret
    rw [E.out]
    exact ⟨rfl, s0.out⟩
  | false =>
    rw [hoff] at c2
    by_cases ha : D.arm = 0
    · have e := spend_on hoff (by omega)
      have hb2 : b = false := by rw [← HB.out, e, hoff]
      subst hb2
      rw [ha] at c3
      have E := Lib.hid e
      clear e HB hoff ha h0 h1
      go_enter Try.func77, Try.ntmps77
      go_wp2_with fail
      go_ret
      rw [E.out]
      exact ⟨rfl, s0.out⟩
    · by_cases hone : D.arm = 1
      · have e := spend_last hoff hone
        have hb2 : b = true := by rw [← HB.out, e]
        subst hb2
        rw [hone] at c3
        have E := Lib.hid e
        have OFF := Lib.hid hoff
        have ONE := Lib.hid hone
        clear e HB hoff ha h0 h1 hone
        go_enter Try.func77, Try.ntmps77
        go_wp2_with fail
        go_ret
        rw [E.out]
        refine ⟨rfl, S.out.to HK.out HL.out ?_ ?_ rfl (Int.le_refl 0) (by show (0 : Int) ≤ _; omega)⟩
        · exact (((Fr.refl (One q) w).set1 _).set1 _).set1 _
        · rw [heap_setCell_same _ q 4 _ _ _ (heap_setCell_same _ q 2 _ _ _ (heap_setCell_same _ q 3 _ _ _ top.out))]
          rfl
      · have e := spend_more hoff (by omega)
        have hb2 : b = false := by rw [← HB.out, e]; exact hoff
        subst hb2
        have E := Lib.hid e
        have OFF := Lib.hid hoff
        have hp : 0 < D.arm := by omega
        have hp1 : 1 < D.arm := by omega
        have hz : (D.arm - 1 == 0) = false := by simpa using by omega
        clear e HB hoff ha h0 hone
        go_enter Try.func77, Try.ntmps77
        go_wp2_with fail
        go_ret
        rw [E.out]
        refine ⟨rfl, S.out.to HK.out HL.out ((Fr.refl (One q) w).set1 _) ?_ rfl ?_ ?_⟩
        · rw [heap_setCell_same _ q 3 _ _ _ top.out, OFF.out]
          rfl
        · show 0 ≤ D.arm - 1; omega
        · show D.arm - 1 ≤ _; omega

end Go.Proofs.Ytpdljgjofebgpaa
