/-
  A slice of structs that came in, opened to its cells.
-/
import Derived.Test.YtpbbokpmlemboaaBase
import Derived.Deep.Slices
namespace Go.Proofs.Ytpbbokpmlemboaa
open Go.RowKit Go.ChangeShapes Go.WideShapes Go.Deep

/-- What a slice that came in holds: n elements of 'size' cells each, element i the cells f i. -/
def ArgRows (w : World) (size : Nat) (A : Option Addr) (n : Nat) (f : Nat → List Value) : Prop :=
  0 < n → ∃ b o, A = some ⟨b, o, none⟩ ∧ b < w.heap.size ∧ ∀ i, i < n → (f i).length = size ∧ ∀ j, j < size → w.cell? ⟨b, o + i * size + j, none⟩ = (f i)[j]?

theorem ArgRows.keep {w w' : World} {size n : Nat} {A : Option Addr} {f : Nat → List Value} (h : ArgRows w size A n f) (hf : Fr Nob w w') : ArgRows w' size A n f := fun hn => by
  obtain ⟨b, o, hA, hb, hc⟩ := h hn
  refine ⟨b, o, hA, Nat.lt_of_lt_of_le hb hf.size, fun i hi => ⟨(hc i hi).1, fun j hj => ?_⟩⟩
  rw [← (hc i hi).2 j hj]
  exact World.cell?_of_block (w := w) (hf.block b hb fun h => h)

theorem spot_of_cell {w : World} {a : Addr} {v : Value} (h : w.cell? a = some v) : a.spot = none := by
  unfold World.cell? at h
  split at h
  · split at h
    · cases h
    · rename_i hs
      simpa using hs
  · cases h

section
variable {H : Type} {enc : TypeId × Value → H} {P : Program} {w : World} {held : Bool}

theorem open_rows {t e : TypeId} {size n c : Nat} {A : Option Addr} {d : DataW H} {ps : List MemPlace} (ht : P.underlying t = some (.slice e)) (hs : P.cellsOf e = size) (h0 : 0 < size)
    (h : DataW.Trod enc P w 0 (fun _ => true) held t (.slice A n c) d ps) :
    ∃ f : Nat → List Value, ArgRows w size A n f ∧ n ≤ c ∧ c ≤ maxLen ∧ ∀ i, i < n → ∃ fuel x, DataW.trod enc P w 0 (fun _ => true) held fuel e (f i) = some x := by
  obtain ⟨fuel, hf⟩ := h
  have hf' : DataW.trod enc P w 0 (fun _ => true) held fuel t [.slice A n c] = some (d, ps) := by simpa [Value.cells] using hf
  rcases open_slice ht hf' with ⟨hc, _⟩ | ⟨a, len, cap, m, fu, D, Pl, hcs, _, hl, hm, hmm, _, hi⟩
  · simp at hc
    obtain ⟨rfl, rfl, rfl⟩ := hc
    exact ⟨fun _ => [], fun h => absurd h (by omega), by omega, by simp [maxLen], fun i hi => absurd hi (by omega)⟩
  · simp at hcs
    obtain ⟨rfl, rfl, rfl⟩ := hcs
    simp at hmm
    obtain ⟨f, hfn⟩ := choose_lt (α := List Value) (n := n) (p := fun i l => w.cells? 0 (a.add (i * P.cellsOf e)) (P.cellsOf e) = some l ∧ DataW.trod enc P w 0 (fun _ => true) held fu e l = some (D i, Pl i)) (fun i hin => hi i (by omega))
    refine ⟨f, fun hn => ?_, hl, hm, fun i hin => ⟨fu, _, (hfn i hin).2⟩⟩
    have key : ∀ i, i < n → (f i).length = size ∧ ∀ j, j < size → w.cell? (a.add (i * size + j)) = (f i)[j]? := fun i hin => by
      obtain ⟨_, h2, h3⟩ := World.cells?_some (hfn i hin).1
      rw [hs] at h2 h3
      refine ⟨h2, fun j hj => ?_⟩
      have := h3 j hj
      rw [add_add] at this
      exact this
    have hsp : a.spot = none := by
      obtain ⟨k1, k2⟩ := key 0 hn
      have := k2 0 h0
      rw [List.getElem?_eq_getElem (by omega)] at this
      have := spot_of_cell this
      simpa [Addr.add] using this
    obtain ⟨b, o, sp⟩ := a
    simp only at hsp
    subst hsp
    refine ⟨b, o, rfl, ?_, fun i hin => ⟨(key i hin).1, fun j hj => ?_⟩⟩
    · obtain ⟨k1, k2⟩ := key 0 hn
      have := k2 0 h0
      rw [List.getElem?_eq_getElem (by omega)] at this
      have := World.block_lt_of_cell? w _ this
      rw [Addr.add_lit] at this
      exact this
    · have := (key i hin).2 j hj
      rw [Addr.add_lit] at this
      rw [Nat.add_assoc]
      exact this
end

end Go.Proofs.Ytpbbokpmlemboaa
