/-
  seg: the calls told of a Seg that was made behind a world's begin; the law's awake.
-/
import Derived.Test.YthcalhmiielfkaaSegK
namespace Go.Proofs.Ythcalhmiielfkaa
open Go.RowKit

/-- The Seg at p was made since the world w; it holds S now. -/
def SegNew (w : World) (p : Nat) (w' : World) (S : Sg) : Prop := ∃ K, SegAt w' p K S ∧ Fr Nob w w' ∧ ∀ k, K k → w.heap.size ≤ k

theorem SegNew.fr {w w' : World} {p : Nat} {S : Sg} (s : SegNew w p w' S) : Fr Nob w w' := by
  obtain ⟨_, _, f, _⟩ := s
  exact f
theorem SegNew.plus {w w' w'' : World} {p : Nat} {S : Sg} (s : SegNew w p w' S) (f : Fr Nob w' w'') : SegNew w p w'' S := by
  obtain ⟨K, s, f', h⟩ := s
  exact ⟨K, s.keep f fun _ _ h => h, f'.trans f fun _ _ h => h.elim, h⟩


theorem SegTo.new {w w' w'' : World} {p : Nat} {K : Nat → Prop} {S' : Sg} (f : Fr Nob w w') (h : ∀ k, K k → w.heap.size ≤ k) (g : SegTo w' p K w'' S') : SegNew w p w'' S' := by
  obtain ⟨K', s, f', h'⟩ := g
  refine ⟨K', s, f.trans f' fun k hk h1 => absurd (h k h1) (by omega), fun k hk => ?_⟩
  rcases h' k hk with h2 | h2
  · exact h k h2
  · exact Nat.le_trans f.size h2

theorem new_new (w w0 : World) (f : Fr Nob w0 w) : Calls Try.prog 10 #[] w fun e w' => ∃ p, e = .returned (.pointer (some ⟨p, 0, none⟩)) ∧ SegNew w0 p w' Sg.none := by
  refine (new_eq w).mono ?_
  rintro e w' ⟨p, K, rfl, s, f', h⟩
  exact ⟨p, rfl, K, s, f.trans f' fun _ _ h => h.elim, fun k hk => Nat.le_trans f.size (h k hk)⟩

/-- A list that was told: it is there, and of no block of the Seg's. -/
structure Told (w : World) (p : Nat) (S : Sg) (v : Value) (xs : List Int) : Prop where
  rd : RdInts w v xs
  off : ∀ K, SegAt w p K S → ∀ k, v.ownBlock = some k → ¬ K k
  lt : ∀ k, v.ownBlock = some k → k < w.heap.size

theorem SegAt.one {w : World} {p : Nat} {K K' : Nat → Prop} {S S' : Sg} (a : SegAt w p K S) (b : SegAt w p K' S') : ∀ k, K k ↔ K' k := by
  obtain ⟨ru, ri, V, s, h⟩ := a
  obtain ⟨ru', ri', V', s', h'⟩ := b
  have e := s.top.symm.trans s'.top
  simp only [Option.some.injEq, Obj.cells.injEq, Array.mk.injEq, List.cons.injEq, Value.map.injEq] at e
  obtain ⟨⟨e0, e1, e2, e3, e4, _⟩, _⟩ := e
  have ev : ∀ t, t < 3 → V t = V' t := fun t ht => by
    match t with
    | 0 => exact e0
    | 1 => exact e1
    | 2 => exact e2
    | t + 3 => omega
  have e3' : ru = ru' := by simpa using e3
  have e4' : ri = ri' := by simpa using e4
  subst e3'
  subst e4'
  intro k
  rw [h k, h' k]
  unfold SegOwn
  constructor
  · rintro (h | h | h | ⟨t, ht, h⟩)
    · exact .inl h
    · exact .inr (.inl h)
    · exact .inr (.inr (.inl h))
    · exact .inr (.inr (.inr ⟨t, ht, by rw [← ev t ht]; exact h⟩))
  · rintro (h | h | h | ⟨t, ht, h⟩)
    · exact .inl h
    · exact .inr (.inl h)
    · exact .inr (.inr (.inl h))
    · exact .inr (.inr (.inr ⟨t, ht, by rw [ev t ht]; exact h⟩))

theorem Told.plus {w0 w w' : World} {p : Nat} {S : Sg} {v : Value} {xs : List Int} (t : Told w p S v xs) (f : Fr Nob w w') (s : SegNew w0 p w S) : Told w' p S v xs := by
  obtain ⟨K, s, _, _⟩ := s
  refine ⟨t.rd.keep f fun _ _ h => h, fun K' s' k hk h => ?_, fun k hk => Nat.lt_of_lt_of_le (t.lt k hk) f.size⟩
  exact t.off K s k hk (((s.keep (T := Nob) f fun _ _ h => h).one s' k).2 h)

theorem Told.to {w w' : World} {p : Nat} {K : Nat → Prop} {S S' : Sg} {v : Value} {xs : List Int} (t : Told w p S v xs) (s : SegAt w p K S) (g : SegTo w p K w' S') : Told w' p S' v xs := by
  obtain ⟨K', s', f, h⟩ := g
  refine ⟨t.rd.keep f fun k hk => t.off K s k hk, fun K2 s2 k hk h2 => ?_, fun k hk => Nat.lt_of_lt_of_le (t.lt k hk) f.size⟩
  rcases h k ((s'.one s2 k).2 h2) with h3 | h3
  · exact t.off K s k hk h3
  · have := t.lt k hk
    omega

/-- From one state of the Seg to the next: lists that were told stand. -/
def Step (w : World) (p : Nat) (S : Sg) (w' : World) (S' : Sg) : Prop := (∀ w0, SegNew w0 p w S → SegNew w0 p w' S') ∧ ∀ v xs, Told w p S v xs → Told w' p S' v xs

theorem SegTo.step {w w' : World} {p : Nat} {K : Nat → Prop} {S S' : Sg} (s : SegAt w p K S) (g : SegTo w p K w' S') : Step w p S w' S' := by
  refine ⟨fun w0 n => ?_, fun v xs t => t.to s g⟩
  obtain ⟨K0, s0, f0, h0⟩ := n
  exact SegTo.new f0 (fun k hk => h0 k ((s0.one s k).2 hk)) g

theorem add_new {w0 w : World} {p : Nat} {S : Sg} (s : SegNew w0 p w S) (o : S.Ok) (hn : S.tot ≤ 10000) (x : Int) :
    Calls Try.prog 15 #[.pointer (some ⟨p, 0, none⟩), .int .i64 x] w fun e w' => e = .returned (.bool !(getM S.I x).isSome) ∧ ∃ S', Step w p S w' S' ∧ AddTo S x S' := by
  obtain ⟨K, s, _, _⟩ := s
  refine (add_eq s o hn x).mono ?_
  rintro e w' ⟨rfl, S', g, h⟩
  exact ⟨rfl, S', g.step s, h⟩
theorem touch_new {w0 w : World} {p : Nat} {S : Sg} (s : SegNew w0 p w S) (x : Int) :
    Calls Try.prog 12 #[.pointer (some ⟨p, 0, none⟩), .int .i64 x] w fun e w' => e = .returned (.bool (getM S.I x).isSome) ∧ Step w p S w' (if (getM S.I x).isSome then S.touched x else S) := by
  obtain ⟨K, s, _, _⟩ := s
  refine (touch_eq s x).mono ?_
  rintro e w' ⟨rfl, g⟩
  exact ⟨rfl, g.step s⟩
theorem remove_new {w0 w : World} {p : Nat} {S : Sg} (s : SegNew w0 p w S) (o : S.Ok) (hn : S.tot ≤ 10000) (x : Int) :
    Calls Try.prog 13 #[.pointer (some ⟨p, 0, none⟩), .int .i64 x] w fun e w' => e = .returned (.bool (getM S.I x).isSome) ∧ ∃ S', Step w p S w' S' ∧ RemTo S x S' := by
  obtain ⟨K, s, _, _⟩ := s
  refine (remove_eq s o (by omega) x).mono ?_
  rintro e w' ⟨rfl, S', g, h⟩
  exact ⟨rfl, S', g.step s, h⟩
theorem evict_new {w0 w : World} {p : Nat} {S : Sg} (s : SegNew w0 p w S) (o : S.Ok) (hn : S.tot ≤ 10000) :
    Calls Try.prog 11 #[.pointer (some ⟨p, 0, none⟩)] w fun e w' => ∃ x ok S', e = .returned (.tuple #[.int .i64 x, .bool ok]) ∧ Step w p S w' S' ∧ EvTo S x ok S' := by
  obtain ⟨K, s, _, _⟩ := s
  refine (evict_eq s o (by omega)).mono ?_
  rintro e w' ⟨x, ok, S', rfl, g, h⟩
  exact ⟨x, ok, S', rfl, g.step s, h⟩
theorem len_new {w0 w : World} {p : Nat} {S : Sg} (s : SegNew w0 p w S) (o : S.Ok) :
    Calls Try.prog 14 #[.pointer (some ⟨p, 0, none⟩)] w fun e w' => e = .returned (.int .i64 S.tot) ∧ w = w' := by
  obtain ⟨K, s, _, _⟩ := s
  rw [← o.len]
  exact len_eq s
theorem lists_new {w0 w : World} {p : Nat} {S : Sg} (s : SegNew w0 p w S) (hn : S.tot ≤ 10000) :
    Calls Try.prog 20 #[.pointer (some ⟨p, 0, none⟩)] w fun e w' => ∃ a b c, e = .returned (.tuple #[a, b, c]) ∧ Step w p S w' S ∧ Told w' p S a S.h ∧ Told w' p S b S.m ∧ Told w' p S c S.c := by
  obtain ⟨K, s, _, _⟩ := s
  refine (lists_eq s (by omega)).mono ?_
  rintro e w' ⟨a, b, c, rfl, h1, h2, h3, f⟩
  have s' := s.keep (T := Nob) f fun _ _ h => h
  have told : ∀ {v : Value} {n : Nat} {xs : List Int}, w'.ownsRow w.heap.size 3 1 v n (ints xs) → Told w' p S v xs := fun h =>
    ⟨.of_row h, fun K2 s2 k hk h2 => by
      have h3 := (h.lt k hk).1
      have h4 := s.lt k ((s'.one s2 k).2 h2)
      omega, fun k hk => (h.lt k hk).2⟩
  exact ⟨a, b, c, rfl, SegTo.step s ⟨K, s', f.nob, fun _ h => .inl h⟩, told h1, told h2, told h3⟩

end Go.Proofs.Ythcalhmiielfkaa
