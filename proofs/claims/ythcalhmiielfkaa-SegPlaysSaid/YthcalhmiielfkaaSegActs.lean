/-
  The seg's laws' acts, as they come in.
-/
import Derived.Test.YthcalhmiielfkaaOpen
import Derived.Test.YthcalhmiielfkaaSegW
namespace Go.Proofs.Ythcalhmiielfkaa
open Go.RowKit Go.ChangeShapes Go.WideShapes Go.Deep

def I64 (x : Int) : Prop := -9223372036854775808 ≤ x ∧ x ≤ 9223372036854775807

structure ActRow (w : World) (A : Option Addr) (n : Nat) (z : Nat → Int × Int) : Prop where
  rows : ArgRows w 2 A n fun i => [.int .i64 (z i).1, .int .i64 (z i).2]
  op : ∀ i, i < n → I64 (z i).1
  id : ∀ i, i < n → I64 (z i).2

theorem ActRow.keep {w w' : World} {n : Nat} {A : Option Addr} {z : Nat → Int × Int} (h : ActRow w A n z) (hf : Fr Nob w w') : ActRow w' A n z := ⟨h.rows.keep hf, h.op, h.id⟩

theorem open_acts {H : Type} {enc : TypeId × Value → H} {w : World} {held : Bool} {n c : Nat} {A : Option Addr} {d : DataW H} {ps : List MemPlace}
    (h : DataW.Trod enc Try.prog w 0 (fun _ => true) held 29 (.slice A n c) d ps) : ∃ z : Nat → Int × Int, ActRow w A n z := by
  obtain ⟨f, h1, _, _, h2⟩ := open_rows (size := 2) Try.underlying29 (by kernel_rfl) (by omega) h
  obtain ⟨z, hz⟩ := choose_lt (α := Int × Int) (n := n) (p := fun i x => f i = [.int .i64 x.1, .int .i64 x.2] ∧ I64 x.1 ∧ I64 x.2) (fun i hi => by
    obtain ⟨fuel, x, hx⟩ := h2 i hi
    obtain ⟨xs, m, _, _, hlen, hxl, hf⟩ := DataW.trod_struct Try.underlying35 hx
    have hlen' : (f i).length = 2 := hlen
    have g0 := hf 0 _ rfl
    have g1 := hf 1 _ rfl
    generalize f i = l at *
    match l, hlen' with
    | [v0, v1], _ =>
      have c1 : Try.prog.cellsOf 3 = 1 := by kernel_rfl
      match xs, (show xs.length = 2 from hxl) with
      | [y0, y1], _ =>
        simp [c1] at g0 g1
        obtain ⟨n1, e1, _, w1⟩ := DataW.trod_int Try.underlying3 g0
        obtain ⟨n2, e2, _, w2⟩ := DataW.trod_int Try.underlying3 g1
        simp at e1 e2
        subst e1 e2
        exact ⟨(n1, n2), rfl, i64_bd w1, i64_bd w2⟩)
  refine ⟨z, fun hn => ?_, fun i hi => (hz i hi).2.1, fun i hi => (hz i hi).2.2⟩
  obtain ⟨b, o, hA, hb, hc⟩ := h1 hn
  exact ⟨b, o, hA, hb, fun i hi => by show ([.int .i64 (z i).1, .int .i64 (z i).2] : List Value).length = 2 ∧ ∀ j, j < 2 → _ = ([.int .i64 (z i).1, .int .i64 (z i).2] : List Value)[j]?; rw [← (hz i hi).1]; exact hc i hi⟩

/-- One act's cells, at the walk's addresses. -/
theorem ActRow.cell {w : World} {A : Option Addr} {n : Nat} {z : Nat → Int × Int} (h : ActRow w A n z) {b o : Nat} (hA : A = some ⟨b, o, none⟩) {i : Nat} (hi : i < n) :
    w.cell? ⟨b, o + i * 2, none⟩ = some (.int .i64 (z i).1) ∧ w.cell? ⟨b, o + i * 2 + 1, none⟩ = some (.int .i64 (z i).2) := by
  obtain ⟨b', o', hA', _, hc⟩ := h.rows (by omega)
  rw [hA] at hA'
  simp only [Option.some.injEq, Addr.mk.injEq, and_true] at hA'
  obtain ⟨rfl, rfl⟩ := hA'
  have h2 := (hc i hi).2
  exact ⟨h2 0 (by omega), h2 1 (by omega)⟩

theorem ActRow.addr {w : World} {A : Option Addr} {n : Nat} {z : Nat → Int × Int} (h : ActRow w A n z) (hn : 0 < n) : ∃ b o, A = some ⟨b, o, none⟩ := by
  obtain ⟨b, o, hA, _⟩ := h.rows hn
  exact ⟨b, o, hA⟩

end Go.Proofs.Ythcalhmiielfkaa
