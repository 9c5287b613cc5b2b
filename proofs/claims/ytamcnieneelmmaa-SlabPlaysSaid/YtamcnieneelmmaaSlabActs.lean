/-
  The slab's laws' acts, as they come in.
-/
import Derived.Test.YtamcnieneelmmaaOpen
import Derived.Test.YtamcnieneelmmaaSlabAgain
namespace Go.Proofs.Ytamcnieneelmmaa
open Go.RowKit Go.ChangeShapes Go.WideShapes Go.Deep

structure ActD where
  free : Bool
  at_ : Int
  of_ : Int
  raw : Bool
  deriving Inhabited

def ActD.cells (x : ActD) : List Value := [.bool x.free, .int .i64 x.at_, .int .i64 x.of_, .bool x.raw]
def I64 (x : Int) : Prop := -9223372036854775808 ≤ x ∧ x ≤ 9223372036854775807

structure ActRow (w : World) (A : Option Addr) (n : Nat) (z : Nat → ActD) : Prop where
  rows : ArgRows w 4 A n fun i => (z i).cells
  at_ : ∀ i, i < n → I64 (z i).at_
  of_ : ∀ i, i < n → I64 (z i).of_

theorem ActRow.keep {w w' : World} {n : Nat} {A : Option Addr} {z : Nat → ActD} (h : ActRow w A n z) (hf : Fr Nob w w') : ActRow w' A n z := ⟨h.rows.keep hf, h.at_, h.of_⟩

theorem open_acts {H : Type} {enc : TypeId × Value → H} {w : World} {held : Bool} {n c : Nat} {A : Option Addr} {d : DataW H} {ps : List MemPlace}
    (h : DataW.Trod enc Try.prog w 0 (fun _ => true) held 32 (.slice A n c) d ps) : ∃ z : Nat → ActD, ActRow w A n z := by
  obtain ⟨f, h1, _, _, h2⟩ := open_rows (size := 4) Try.underlying32 (by kernel_rfl) (by omega) h
  obtain ⟨z, hz⟩ := choose_lt (α := ActD) (n := n) (p := fun i x => f i = x.cells ∧ I64 x.at_ ∧ I64 x.of_) (fun i hi => by
    obtain ⟨fuel, x, hx⟩ := h2 i hi
    obtain ⟨xs, m, _, _, hlen, hxl, hf⟩ := DataW.trod_struct Try.underlying37 hx
    have hlen' : (f i).length = 4 := hlen
    have g0 := hf 0 _ rfl
    have g1 := hf 1 _ rfl
    have g2 := hf 2 _ rfl
    have g3 := hf 3 _ rfl
    generalize f i = l at *
    match l, hlen' with
    | [v0, v1, v2, v3], _ =>
      have c1 : Try.prog.cellsOf 3 = 1 := by kernel_rfl
      have c2 : Try.prog.cellsOf 4 = 1 := by kernel_rfl
      match xs, (show xs.length = 4 from hxl) with
      | [y0, y1, y2, y3], _ =>
        simp [c1, c2] at g0 g1 g2 g3
        obtain ⟨b0, e0, _⟩ := DataW.trod_bool Try.underlying4 g0
        obtain ⟨n1, e1, _, w1⟩ := DataW.trod_int Try.underlying3 g1
        obtain ⟨n2, e2, _, w2⟩ := DataW.trod_int Try.underlying3 g2
        obtain ⟨b3, e3, _⟩ := DataW.trod_bool Try.underlying4 g3
        simp at e0 e1 e2 e3
        subst e0 e1 e2 e3
        exact ⟨⟨b0, n1, n2, b3⟩, rfl, i64_bd w1, i64_bd w2⟩)
  refine ⟨z, fun hn => ?_, fun i hi => (hz i hi).2.1, fun i hi => (hz i hi).2.2⟩
  obtain ⟨b, o, hA, hb, hc⟩ := h1 hn
  exact ⟨b, o, hA, hb, fun i hi => by show (z i).cells.length = 4 ∧ ∀ j, j < 4 → _ = (z i).cells[j]?; rw [← (hz i hi).1]; exact hc i hi⟩

/-- One act's cells, at the walk's addresses. -/
theorem ActRow.cell {w : World} {A : Option Addr} {n : Nat} {z : Nat → ActD} (h : ActRow w A n z) {b o : Nat} (hA : A = some ⟨b, o, none⟩) {i : Nat} (hi : i < n) :
    w.cell? ⟨b, o + i * 4, none⟩ = some (.bool (z i).free) ∧ w.cell? ⟨b, o + i * 4 + 1, none⟩ = some (.int .i64 (z i).at_) ∧ w.cell? ⟨b, o + i * 4 + 2, none⟩ = some (.int .i64 (z i).of_) ∧ w.cell? ⟨b, o + i * 4 + 3, none⟩ = some (.bool (z i).raw) := by
  obtain ⟨b', o', hA', _, hc⟩ := h.rows (by omega)
  rw [hA] at hA'
  obtain ⟨rfl, rfl⟩ : b = b' ∧ o = o' := by simpa using hA'
  have h1 := (hc i hi).2
  exact ⟨h1 0 (by omega), h1 1 (by omega), h1 2 (by omega), h1 3 (by omega)⟩
theorem ActRow.addr {w : World} {A : Option Addr} {n : Nat} {z : Nat → ActD} (h : ActRow w A n z) (hn : 0 < n) : ∃ b o, A = some ⟨b, o, none⟩ := by
  obtain ⟨b', o', hA', _, hc⟩ := h.rows hn
  exact ⟨b', o', hA'⟩

end Go.Proofs.Ytamcnieneelmmaa
