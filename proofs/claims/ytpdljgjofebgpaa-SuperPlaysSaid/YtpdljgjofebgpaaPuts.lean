/-
  []cellaretlaw5.Put that came in. (Printed by gen/puts5.py.)
-/
import Derived.Test.YtpdljgjofebgpaaSupH
namespace Go.Proofs.Ytpdljgjofebgpaa
open Go.RowKit Go.ChangeShapes Go.WideShapes Go.Deep

set_option maxRecDepth 100000

theorem trod_blk {H : Type} {enc : TypeId × Value → H} {w : World} {held : Bool} {fuel : Nat} {l : List Value} {x : DataW H × List MemPlace} (hx : DataW.trod enc Try.prog w 0 (fun _ => true) held fuel 29 l = some x) : ∃ z : Blk, l = (blkV z).toList ∧ z.ok := by
  obtain ⟨xs, m, _, _, hlen, hxl, hf⟩ := DataW.trod_struct Try.underlying29 hx
  have hlen' : l.length = 7 := hlen
  have g0 := hf 0 _ rfl
  have g1 := hf 1 _ rfl
  have g2 := hf 2 _ rfl
  have g3 := hf 3 _ rfl
  have g4 := hf 4 _ rfl
  have g5 := hf 5 _ rfl
  have g6 := hf 6 _ rfl
  match l, hlen' with
  | [v0, v1, v2, v3, v4, v5, v6], _ =>
    have c1 : Try.prog.cellsOf 3 = 1 := by kernel_rfl
    have c2 : Try.prog.cellsOf 27 = 1 := by kernel_rfl
    have c3 : Try.prog.cellsOf 4 = 1 := by kernel_rfl
    match xs, (show xs.length = 7 from hxl) with
    | [y0, y1, y2, y3, y4, y5, y6], _ =>
      simp [c1, c2, c3] at g0 g1 g2 g3 g4 g5 g6
      obtain ⟨n0, e0, _, w0⟩ := DataW.trod_int Try.underlying27 g0
      obtain ⟨n1, e1, _, w1⟩ := DataW.trod_int Try.underlying27 g1
      obtain ⟨n2, e2, _, w2⟩ := DataW.trod_int Try.underlying27 g2
      obtain ⟨n3, e3, _, w3⟩ := DataW.trod_int Try.underlying27 g3
      obtain ⟨n4, e4, _, w4⟩ := DataW.trod_int Try.underlying27 g4
      obtain ⟨b5, e5, _⟩ := DataW.trod_bool Try.underlying4 g5
      obtain ⟨n6, e6, _, w6⟩ := DataW.trod_int Try.underlying3 g6
      simp at e0 e1 e2 e3 e4 e5 e6
      subst e0 e1 e2 e3 e4 e5 e6
      obtain ⟨m0, rfl, q0⟩ := u64_nat w0
      obtain ⟨m1, rfl, q1⟩ := u64_nat w1
      obtain ⟨m2, rfl, q2⟩ := u64_nat w2
      obtain ⟨m3, rfl, q3⟩ := u64_nat w3
      obtain ⟨m4, rfl, q4⟩ := u64_nat w4
      exact ⟨⟨m0, m1, m2, m3, m4, b5, n6⟩, rfl, q0, q1, q2, q3, q4⟩

/-- A Put. -/
abbrev PutV := Int × Blk × (Option Addr × Nat × Nat) × Bool
def putV (z : PutV) : List Value := .int .i64 z.1 :: ((blkV z.2.1).toList ++ [.slice z.2.2.1.1 z.2.2.1.2.1 z.2.2.1.2.2, .bool z.2.2.2])
structure PutRow (w : World) (A : Option Addr) (n : Nat) (z : Nat → PutV) (l : Nat → List UInt8) : Prop where
  rows : ArgRows w 10 A n fun i => putV (z i)
  el : ∀ i, i < n → (Lit.int .i64 (z i).1).wf = true ∧ (z i).2.1.ok ∧ RdB w (.slice (z i).2.2.1.1 (z i).2.2.1.2.1 (z i).2.2.1.2.2) (l i) ∧ (0 < (z i).2.2.1.2.1 → ∀ k, (Value.slice (z i).2.2.1.1 (z i).2.2.1.2.1 (z i).2.2.1.2.2).ownBlock = some k → k < w.heap.size) ∧ (z i).2.2.1.2.1 ≤ 9223372036854775807

theorem open_bytes {H : Type} {enc : TypeId × Value → H} {w : World} {held : Bool} {fuel : Nat} {v : Value} {x : DataW H × List MemPlace} (hx : DataW.trod enc Try.prog w 0 (fun _ => true) held fuel 34 [v] = some x) :
    ∃ (a : Option Addr) (m c : Nat) (bs : List UInt8), v = .slice a m c ∧ RdB w (.slice a m c) bs ∧ (0 < m → ∀ k, (Value.slice a m c).ownBlock = some k → k < w.heap.size) ∧ m ≤ 9223372036854775807 := by
  have inner : ∀ (a : Option Addr) (m c : Nat), v = .slice a m c → ∃ bs, RdB w (.slice a m c) bs ∧ (0 < m → ∀ k, (Value.slice a m c).ownBlock = some k → k < w.heap.size) ∧ m ≤ 9223372036854775807 := fun a m c hv => by
    subst hv
    obtain ⟨f', k1, hle, hmx, k2⟩ := open_rows (A := a) (n := m) (c := c) (d := x.1) (ps := x.2) (size := 1) Try.underlying34 (by kernel_rfl) (by omega) ⟨_, by simpa [Value.cells] using hx⟩
    obtain ⟨zb, hzb⟩ := choose_lt (α := UInt8) (n := m) (p := fun i x => f' i = [.int .u8 (x.toNat : Int)]) (fun i hi => by
      obtain ⟨fuel, x, hx⟩ := k2 i hi
      obtain ⟨n0, e0, _, w0⟩ := DataW.trod_int Try.underlying5 hx
      obtain ⟨b, rfl⟩ := u8_of w0
      exact ⟨b, e0⟩)
    refine ⟨(List.range m).map zb, ⟨a, c, by simp, fun hp => ?_⟩, fun h0 k hk => ?_, by unfold maxLen at hmx; omega⟩
    · simp at hp
      obtain ⟨b, o, hA, _, hcell⟩ := k1 hp
      refine ⟨b, o, hA, fun j hj => ?_⟩
      simp at hj
      have := (hcell j hj).2 0 (by omega)
      rw [hzb j hj, Nat.mul_one, Nat.add_zero] at this
      rw [this]
      simp [List.getD_eq_getElem?_getD, hj]
    · obtain ⟨b, o, rfl, hb, _⟩ := k1 h0
      have : b = k := by simpa [Value.ownBlock] using hk
      rw [← this]
      exact hb
  rcases open_slice Try.underlying34 hx with ⟨hc, _⟩ | ⟨a, len, cap, m, fu, D2, Pl, hcs, _⟩
  · simp at hc
    obtain ⟨bs, k1, k2, k3⟩ := inner none 0 0 hc
    exact ⟨none, 0, 0, bs, hc, k1, k2, k3⟩
  · simp at hcs
    obtain ⟨bs, k1, k2, k3⟩ := inner (some a) len cap hcs
    exact ⟨some a, len, cap, bs, hcs, k1, k2, k3⟩

theorem open_puts {H : Type} {enc : TypeId × Value → H} {w : World} {held : Bool} {n c : Nat} {A : Option Addr} {d : DataW H} {ps : List MemPlace}
    (h : DataW.Trod enc Try.prog w 0 (fun _ => true) held 86 (.slice A n c) d ps) : ∃ zl : (Nat → PutV) × (Nat → List UInt8), PutRow w A n zl.1 zl.2 := by
  obtain ⟨f, h1, _, _, h2⟩ := open_rows (size := 10) Try.underlying86 (by kernel_rfl) (by omega) h
  obtain ⟨z, hz⟩ := choose_lt (α := PutV × List UInt8) (n := n) (p := fun i x => f i = putV x.1 ∧ (Lit.int .i64 x.1.1).wf = true ∧ x.1.2.1.ok ∧ RdB w (.slice x.1.2.2.1.1 x.1.2.2.1.2.1 x.1.2.2.1.2.2) x.2 ∧ (0 < x.1.2.2.1.2.1 → ∀ k, (Value.slice x.1.2.2.1.1 x.1.2.2.1.2.1 x.1.2.2.1.2.2).ownBlock = some k → k < w.heap.size) ∧ x.1.2.2.1.2.1 ≤ 9223372036854775807) (fun i hi => by
    obtain ⟨fuel, x, hx⟩ := h2 i hi
    obtain ⟨xs, m, _, _, hlen, hxl, hf⟩ := DataW.trod_struct Try.underlying88 hx
    have hlen' : (f i).length = 10 := hlen
    have g0 := hf 0 _ rfl
    have g1 := hf 1 _ rfl
    have g2 := hf 2 _ rfl
    have g3 := hf 3 _ rfl
    generalize f i = l at *
    match l, hlen' with
    | [v0, v1, v2, v3, v4, v5, v6, v7, v8, v9], _ =>
      have c1 : Try.prog.cellsOf 3 = 1 := by kernel_rfl
      have c2 : Try.prog.cellsOf 29 = 7 := by kernel_rfl
      have c3 : Try.prog.cellsOf 34 = 1 := by kernel_rfl
      have c4 : Try.prog.cellsOf 4 = 1 := by kernel_rfl
      match xs, (show xs.length = 4 from hxl) with
      | [y0, y1, y2, y3], _ =>
        simp [c1, c2, c3, c4] at g0 g1 g2 g3
        obtain ⟨n0, e0, _, w0⟩ := DataW.trod_int Try.underlying3 g0
        obtain ⟨zb, eb, ob⟩ := trod_blk g1
        obtain ⟨a, mm, cc, bs, e8, k1, k2, k3⟩ := open_bytes g2
        obtain ⟨b9, e9, _⟩ := DataW.trod_bool Try.underlying4 g3
        simp at e0 e9
        subst e0 e8 e9
        refine ⟨((n0, zb, (a, mm, cc), b9), bs), ?_, w0, ob, k1, k2, k3⟩
        unfold putV
        rw [← eb]
        rfl)
  refine ⟨(fun i => (z i).1, fun i => (z i).2), fun hn => ?_, fun i hi => (hz i hi).2⟩
  obtain ⟨b, o, hA, hb, hc⟩ := h1 hn
  exact ⟨b, o, hA, hb, fun i hi => by
    have := hc i hi
    rw [(hz i hi).1] at this
    exact this⟩

end Go.Proofs.Ytpdljgjofebgpaa
