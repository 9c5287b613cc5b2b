/-
  The program's Seg and the reference's beside one another.
-/
import Derived.Test.YthcalhmiielfkaaSegY
import Derived.Test.YthcalhmiielfkaaSegN
import Derived.Test.YthcalhmiielfkaaSegActs
namespace Go.Proofs.Ythcalhmiielfkaa
open Go.RowKit

/-- The two, and a block that lies beside them. -/
def Bth (W w : World) (p : Nat) (S : Sg) (q : Nat) (R : Nat → List Nd) (X : Nat) (o : Option Obj) : Prop := ∃ K1 K2, SegAt w p K1 S ∧ RAt w q K2 R ∧ (∀ k, K1 k → ¬ K2 k) ∧ (∀ k, K1 k ∨ K2 k → W.heap.size ≤ k) ∧ Fr Nob W w ∧ ∀ ob, o = some ob → w.heap[X]? = some ob ∧ ¬ K1 X ∧ ¬ K2 X

section
variable {W w w' : World} {p q X : Nat} {S S' : Sg} {R R' : Nat → List Nd} {o : Option Obj}
theorem Bth.nob (b : Bth W w p S q R X o) (f : Fr Nob w w') : Bth W w' p S q R X o := by
  obtain ⟨K1, K2, a, r, d, l, fw, hx⟩ := b
  exact ⟨K1, K2, a.keep f fun _ _ h => h, r.keep f fun _ _ h => h, d, l, fw.trans' f, fun ob e => ⟨f.heap (hx ob e).1 fun h => h, (hx ob e).2⟩⟩
theorem Bth.fr (b : Bth W w p S q R X o) : Fr Nob W w := by
  obtain ⟨K1, K2, a, r, d, l, fw, hx⟩ := b
  exact fw
theorem Bth.at_ {ob : Obj} (b : Bth W w p S q R X (some ob)) : w.heap[X]? = some ob := by
  obtain ⟨K1, K2, a, r, d, l, fw, hx⟩ := b
  exact (hx ob rfl).1
theorem Bth.off (b : Bth W w p S q R X o) (Y : Nat) : Bth W w p S q R Y none := by
  obtain ⟨K1, K2, a, r, d, l, fw, hx⟩ := b
  exact ⟨K1, K2, a, r, d, l, fw, fun ob e => by cases e⟩
theorem Bth.side (b : Bth W w p S q R X o) (f : Fr Nob w w') {Y : Nat} {ob : Obj} (hY : w.heap.size ≤ Y) (h : w'.heap[Y]? = some ob) : Bth W w' p S q R Y (some ob) := by
  obtain ⟨K1, K2, a, r, d, l, fw, hx⟩ := b
  refine ⟨K1, K2, a.keep f fun _ _ h => h, r.keep f fun _ _ h => h, d, l, fw.trans' f, fun ob' e => ?_⟩
  have e := Option.some.inj e
  subst e
  exact ⟨h, fun hk => by have := a.lt Y hk; omega, fun hk => by have := r.lt Y hk; omega⟩
theorem Bth.s1 (b : Bth W w p S q R X o) : ∃ K, SegAt w p K S ∧ ∀ w' S', SegTo w p K w' S' → Bth W w' p S' q R X o := by
  obtain ⟨K1, K2, a, r, d, l, fw, hx⟩ := b
  refine ⟨K1, a, fun w' S' g => ?_⟩
  obtain ⟨K', a', f, h⟩ := g
  have hs := fw.size
  refine ⟨K', K2, a', r.keep f fun k hk h1 => d k h1 hk, fun k hk h2 => ?_, fun k hk => ?_, fw.trans f fun k hk h1 => ?_, fun ob e => ?_⟩
  · rcases h k hk with h3 | h3
    · exact d k h3 h2
    · have := r.lt k h2
      omega
  · rcases hk with hk | hk
    · rcases h k hk with h3 | h3
      · exact l k (.inl h3)
      · omega
    · exact l k (.inr hk)
  · have := l k (.inl h1)
    omega
  · obtain ⟨x1, x2, x3⟩ := hx ob e
    refine ⟨f.heap x1 x2, fun hk => ?_, x3⟩
    rcases h _ hk with h3 | h3
    · exact x2 h3
    · have := lt_of_block x1
      omega
theorem Bth.r1 (b : Bth W w p S q R X o) : ∃ K, RAt w q K R ∧ ∀ w' R', RTo w q K w' R' → Bth W w' p S q R' X o := by
  obtain ⟨K1, K2, a, r, d, l, fw, hx⟩ := b
  refine ⟨K2, r, fun w' R' g => ?_⟩
  obtain ⟨K', r', f, h⟩ := g
  have hs := fw.size
  refine ⟨K1, K', a.keep f d, r', fun k h1 hk => ?_, fun k hk => ?_, fw.trans f fun k hk h1 => ?_, fun ob e => ?_⟩
  · rcases h k hk with h3 | h3
    · exact d k h1 h3
    · have := a.lt k h1
      omega
  · rcases hk with hk | hk
    · exact l k (.inl hk)
    · rcases h k hk with h3 | h3
      · exact l k (.inr h3)
      · omega
  · have := l k (.inr h1)
    omega
  · obtain ⟨x1, x2, x3⟩ := hx ob e
    refine ⟨f.heap x1 x3, x2, fun hk => ?_⟩
    rcases h _ hk with h3 | h3
    · exact x3 h3
    · have := lt_of_block x1
      omega

theorem Bth.add (b : Bth W w p S q R X o) (ok : S.Ok) (hn : S.tot ≤ 10000) (x : Int) :
    Calls Try.prog 15 #[.pointer (some ⟨p, 0, none⟩), .int .i64 x] w fun e w' => e = .returned (.bool !(getM S.I x).isSome) ∧ ∃ S', Bth W w' p S' q R X o ∧ AddTo S x S' := by
  obtain ⟨K, a, g⟩ := b.s1
  refine (add_eq a ok hn x).mono ?_
  rintro e w' ⟨rfl, S', t, h⟩
  exact ⟨rfl, S', g _ _ t, h⟩
theorem Bth.radd (b : Bth W w p S' q R X o) (m : Sim S R) (ok : S.Ok) (hn : rLen R ≤ 10000) {x : Int} (h : AddTo S x S') :
    Calls Try.prog 16 #[.pointer (some ⟨q, 0, none⟩), .int .i64 x] w fun e w' => e = .returned (.bool !(getM S.I x).isSome) ∧ ∃ R', Bth W w' p S' q R' X o ∧ Sim S' R' := by
  obtain ⟨K, r, g⟩ := b.r1
  cases hs : (getM S.I x).isSome with
  | true =>
    refine (radd_no r hn x ((m.has ok x).trans hs)).mono ?_
    rintro e w' ⟨rfl, t⟩
    have e : S' = S := h.2.1 hs
    subst e
    exact ⟨rfl, R, g _ _ t, m⟩
  | false =>
    refine (radd_in r hn x ((m.has ok x).trans hs)).mono ?_
    rintro e w' ⟨rfl, R', t, ra⟩
    exact ⟨rfl, R', g _ _ t, m.added ok hs h ra⟩
theorem Bth.touch (b : Bth W w p S q R X o) (x : Int) :
    Calls Try.prog 12 #[.pointer (some ⟨p, 0, none⟩), .int .i64 x] w fun e w' => e = .returned (.bool (getM S.I x).isSome) ∧ Bth W w' p (if (getM S.I x).isSome then S.touched x else S) q R X o := by
  obtain ⟨K, a, g⟩ := b.s1
  refine (touch_eq a x).mono ?_
  rintro e w' ⟨rfl, t⟩
  exact ⟨rfl, g _ _ t⟩
theorem Bth.rtouch (b : Bth W w p S' q R X o) (m : Sim S R) (ok : S.Ok) (hn : rLen R ≤ 10000) (x : Int) (hS : S' = if (getM S.I x).isSome then S.touched x else S) :
    Calls Try.prog 17 #[.pointer (some ⟨q, 0, none⟩), .int .i64 x] w fun e w' => e = .returned (.bool (getM S.I x).isSome) ∧ ∃ R', Bth W w' p S' q R' X o ∧ Sim S' R' := by
  obtain ⟨K, r, g⟩ := b.r1
  refine (rtouch_in r (m.uniq ok) (by omega) x _ (m.has ok x)).mono ?_
  rintro e w' ⟨rfl, t⟩
  refine ⟨rfl, _, g _ _ t, ?_⟩
  have k := m.touch x
  rw [← hS] at k
  cases hs : (getM S.I x).isSome with
  | true =>
    rw [hs] at k
    exact k
  | false =>
    rw [hs] at k
    have hno : ∀ t, t < 3 → upd (R t) x = R t := fun t ht => upd_none fun hx => by
      have h2 := (m.has ok x).trans hs
      rw [rHas_iff.2 ⟨t, ht, hx⟩] at h2
      cases h2
    exact ⟨fun t ht => by rw [hno t ht]; exact k.ids t ht, fun t y ht hy => k.flag t y ht (by
      rw [hno t ht] at hy
      exact hy)⟩
theorem Bth.remove (b : Bth W w p S q R X o) (ok : S.Ok) (hn : S.tot ≤ 10000) (x : Int) :
    Calls Try.prog 13 #[.pointer (some ⟨p, 0, none⟩), .int .i64 x] w fun e w' => e = .returned (.bool (getM S.I x).isSome) ∧ ∃ S', Bth W w' p S' q R X o ∧ RemTo S x S' := by
  obtain ⟨K, a, g⟩ := b.s1
  refine (remove_eq a ok (by omega) x).mono ?_
  rintro e w' ⟨rfl, S', t, h⟩
  exact ⟨rfl, S', g _ _ t, h⟩
theorem Bth.rremove (b : Bth W w p S' q R X o) (m : Sim S R) (ok : S.Ok) (hn : rLen R ≤ 10000) {x : Int} (h : RemTo S x S') :
    Calls Try.prog 18 #[.pointer (some ⟨q, 0, none⟩), .int .i64 x] w fun e w' => e = .returned (.bool (getM S.I x).isSome) ∧ ∃ R', Bth W w' p S' q R' X o ∧ Sim S' R' := by
  obtain ⟨K, r, g⟩ := b.r1
  cases hs : (getM S.I x).isSome with
  | true =>
    refine (rremove_in r hn x ((m.has ok x).trans hs)).mono ?_
    rintro e w' ⟨rfl, t⟩
    exact ⟨rfl, _, g _ _ t, m.cut ok hs h⟩
  | false =>
    refine (rremove_no r hn x ((m.has ok x).trans hs)).mono ?_
    rintro e w' ⟨rfl, t⟩
    have e : S' = S := h.2.2 hs
    subst e
    exact ⟨rfl, R, g _ _ t, m⟩
theorem Bth.evict (b : Bth W w p S q R X o) (ok : S.Ok) (hn : S.tot ≤ 10000) :
    Calls Try.prog 11 #[.pointer (some ⟨p, 0, none⟩)] w fun e w' => ∃ x b' S', e = .returned (.tuple #[.int .i64 x, .bool b']) ∧ Bth W w' p S' q R X o ∧ EvTo S x b' S' := by
  obtain ⟨K, a, g⟩ := b.s1
  refine (evict_eq a ok (by omega)).mono ?_
  rintro e w' ⟨x, ok, S', rfl, t, h⟩
  exact ⟨x, ok, S', rfl, g _ _ t, h⟩
theorem Bth.revict (b : Bth W w p S' q R X o) (m : Sim S R) (ok : S.Ok) (hn : rLen R ≤ 10000) {x : Int} {b' : Bool} (h : EvTo S x b' S') :
    Calls Try.prog 19 #[.pointer (some ⟨q, 0, none⟩)] w fun e w' => e = .returned (.tuple #[.int .i64 x, .bool b']) ∧ ∃ R', Bth W w' p S' q R' X o ∧ Sim S' R' := by
  obtain ⟨K, r, g⟩ := b.r1
  refine (revict_in r hn).mono ?_
  rintro e w' ⟨x', ok', R', rfl, t, hr⟩
  obtain ⟨rfl, rfl, m'⟩ := m.evict ok h hr
  exact ⟨rfl, R', g _ _ t, m'⟩
theorem Bth.lists (b : Bth W w p S q R X o) (hn : S.tot ≤ 10000) :
    Calls Try.prog 20 #[.pointer (some ⟨p, 0, none⟩)] w fun e w' => ∃ x y z, e = .returned (.tuple #[x, y, z]) ∧ RdInts w' x (S.get 0) ∧ RdInts w' y (S.get 1) ∧ RdInts w' z (S.get 2) ∧ Fr Nob w w' := by
  obtain ⟨K, a, g⟩ := b.s1
  refine (lists_eq a (by omega)).mono ?_
  rintro e w' ⟨x, y, z, rfl, h1, h2, h3, f⟩
  exact ⟨x, y, z, rfl, .of_row h1, .of_row h2, .of_row h3, f⟩
theorem Bth.len (b : Bth W w p S q R X o) (ok : S.Ok) :
    Calls Try.prog 14 #[.pointer (some ⟨p, 0, none⟩)] w fun e w' => e = .returned (.int .i64 S.tot) ∧ w = w' := by
  obtain ⟨K, a, g⟩ := b.s1
  rw [← ok.len]
  exact len_eq a
theorem Bth.rlen (b : Bth W w p S q R X o) (m : Sim S R) (hn : S.tot ≤ 10000) :
    Calls Try.prog 23 #[.pointer (some ⟨q, 0, none⟩)] w fun e w' => e = .returned (.int .i64 S.tot) ∧ Fr Nob w w' := by
  obtain ⟨K, r, g⟩ := b.r1
  have h := rlen_eq r (by rw [m.tot]; omega)
  rw [m.tot] at h
  exact h
theorem Bth.nodes (b : Bth W w p S q R X o) : ∃ V : Nat → Value, ∀ t, t < 3 → w.cell? ⟨q, t, none⟩ = some (V t) ∧ RdNodes w (V t) (R t) := by
  obtain ⟨K, r, g⟩ := b.r1
  obtain ⟨V, s, hK⟩ := r
  exact ⟨V, fun t ht => ⟨s.cells.1 t ht, .of_row (s.rows t ht)⟩⟩
theorem Bth.start {W w w' : World} {p : Nat} {K : Nat → Prop} {S : Sg} (a : SegAt w p K S) (low : ∀ k, K k → W.heap.size ≤ k) (fw : Fr Nob W w) (f : Fr Nob w w') {q : Nat} (hq : w.heap.size ≤ q) (h : w'.heap[q]? = some (.cells #[.slice none 0 0, .slice none 0 0, .slice none 0 0] 33 (0, 0))) : Bth W w' p S q (fun _ => []) 0 none := by
  have hs := fw.size
  refine ⟨K, ROwn q fun _ => .slice none 0 0, a.keep f fun _ _ h => h, ⟨fun _ => .slice none 0 0, ⟨h, fun t _ => World.ownsRow_nil w' 0 _ 2, fun t g _ e => by simp [Value.ownBlock] at e, fun s t g _ _ _ e => by simp [Value.ownBlock] at e⟩, fun k => Iff.rfl⟩, fun k hk hr => ?_, fun k hk => ?_, fw.trans' f, fun ob e => by cases e⟩
  · rcases hr with rfl | ⟨t, _, e⟩
    · have := a.lt k hk
      omega
    · simp [Value.ownBlock] at e
  · rcases hk with hk | hr
    · exact low k hk
    · rcases hr with rfl | ⟨t, _, e⟩
      · omega
      · simp [Value.ownBlock] at e
theorem Sim.start : Sim Sg.none fun _ => [] := ⟨fun t ht => by
  match t, ht with
  | 0, _ => rfl
  | 1, _ => rfl
  | 2, _ => rfl, fun t y _ h => by cases h⟩
end

end Go.Proofs.Ythcalhmiielfkaa
