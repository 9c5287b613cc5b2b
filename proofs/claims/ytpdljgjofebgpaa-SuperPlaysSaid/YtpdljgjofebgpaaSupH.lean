/-
  super: blocks and bytes that come in as arguments; what a Store leaves where the power goes, plain.
-/
import Derived.Test.YtpdljgjofebgpaaSupG
namespace Go.Proofs.Ytpdljgjofebgpaa
open Go.RowKit Go.ChangeShapes Go.WideShapes Go.Deep

set_option maxRecDepth 100000

theorem open_blk {H : Type} {enc : TypeId × Value → H} {w : World} {held : Bool} {v : Value} {d : DataW H} {ps : List MemPlace}
    (hv : Value.okWide Try.prog w .any 0 29 v) (h : DataW.Trod enc Try.prog w 0 (fun _ => true) held 29 v d ps) : ∃ z : Blk, v = .agg (blkV z) ∧ z.ok := by
  obtain ⟨cs, rfl, hsz⟩ := okWide_struct Try.underlying29 hv
  obtain ⟨fuel, hx⟩ := h
  obtain ⟨xs, m, _, _, hlen, hxl, hf⟩ := DataW.trod_struct Try.underlying29 hx
  have hlen' : cs.toList.length = 7 := hlen
  have g0 := hf 0 _ rfl
  have g1 := hf 1 _ rfl
  have g2 := hf 2 _ rfl
  have g3 := hf 3 _ rfl
  have g4 := hf 4 _ rfl
  have g5 := hf 5 _ rfl
  have g6 := hf 6 _ rfl
  obtain ⟨l⟩ := cs
  simp only [Value.cells] at g0 g1 g2 g3 g4 g5 g6
  simp only at hlen'
  match l, hlen' with
  | [v0, v1, v2, v3, v4, v5, v6], _ =>
    have c1 : Try.prog.cellsOf 3 = 1 := by kernel_rfl
    have c2 : Try.prog.cellsOf 27 = 1 := by kernel_rfl
    have c3 : Try.prog.cellsOf 4 = 1 := by kernel_rfl
    match xs, (show xs.length = 7 from hxl) with
    | [y0, y1, y2, y3, y4, y5, y6], _ =>
      simp [c1, c2, c3] at g0 g1 g2 g3 g4 g5 g6
      obtain ⟨n0, e0, _, w0⟩ := DataW.trod_int Try.underlying27 g0
      obtain ⟨n1, e1, _, w1⟩ := DataW.trod_int Try.underlying27 g1
      obtain ⟨n2, e2, _, w2⟩ := DataW.trod_int Try.underlying27 g2
      obtain ⟨n3, e3, _, w3⟩ := DataW.trod_int Try.underlying27 g3
      obtain ⟨n4, e4, _, w4⟩ := DataW.trod_int Try.underlying27 g4
      obtain ⟨b5, e5, _⟩ := DataW.trod_bool Try.underlying4 g5
      obtain ⟨n6, e6, _, w6⟩ := DataW.trod_int Try.underlying3 g6
      simp at e0 e1 e2 e3 e4 e5 e6
      subst e0 e1 e2 e3 e4 e5 e6
      obtain ⟨m0, rfl, q0⟩ := u64_nat w0
      obtain ⟨m1, rfl, q1⟩ := u64_nat w1
      obtain ⟨m2, rfl, q2⟩ := u64_nat w2
      obtain ⟨m3, rfl, q3⟩ := u64_nat w3
      obtain ⟨m4, rfl, q4⟩ := u64_nat w4
      exact ⟨⟨m0, m1, m2, m3, m4, b5, n6⟩, rfl, q0, q1, q2, q3, q4⟩

/-- A []byte that came in: its bytes. -/
structure InB (w : World) (A : Option Addr) (n cap : Nat) (l : List UInt8) : Prop where
  rd : RdB w (.slice A n cap) l
  len : l.length = n
  le : n ≤ cap
  max : cap ≤ 9223372036854775807
  old : ∀ k, (Value.slice A n cap).ownBlock = some k → k < w.heap.size

theorem u8_of {x : Int} (h : (Lit.int .u8 x).wf = true) : ∃ b : UInt8, x = (b.toNat : Int) := by
  have h2 : 0 ≤ x ∧ x ≤ 255 := by
    simp [Lit.wf, IntKind.min, IntKind.max, IntKind.signed, IntKind.bits] at h
    omega
  refine ⟨UInt8.ofNat x.toNat, ?_⟩
  simp
  omega

theorem open_inb {H : Type} {enc : TypeId × Value → H} {w : World} {held : Bool} {n c : Nat} {A : Option Addr} {d : DataW H} {ps : List MemPlace}
    (hv : Value.okWide Try.prog w .any 0 34 (.slice A n c)) (h : DataW.Trod enc Try.prog w 0 (fun _ => true) held 34 (.slice A n c) d ps) : ∃ l : List UInt8, InB w A n c l := by
  obtain ⟨f, h1, hle, hmax, h2⟩ := open_rows (size := 1) Try.underlying34 (by kernel_rfl) (by omega) h
  obtain ⟨z, hz⟩ := choose_lt (α := UInt8) (n := n) (p := fun i x => f i = [.int .u8 (x.toNat : Int)]) (fun i hi => by
    obtain ⟨fuel, x, hx⟩ := h2 i hi
    obtain ⟨n0, e0, _, w0⟩ := DataW.trod_int Try.underlying5 hx
    obtain ⟨b, rfl⟩ := u8_of w0
    exact ⟨b, e0⟩)
  have hc : c ≤ 9223372036854775807 := Nat.le_trans hmax (by decide)
  have key : ∀ b o, A = some ⟨b, o, none⟩ → ∀ j, j < n → w.cell? ⟨b, o + j, none⟩ = some (.int .u8 ((((List.range n).map z).getD j 0).toNat : Int)) := fun b o hA j hj => by
    obtain ⟨b', o', hA', _, hcell⟩ := h1 (by omega)
    rw [hA] at hA'
    simp only [Option.some.injEq, Addr.mk.injEq, and_true] at hA'
    obtain ⟨rfl, rfl⟩ := hA'
    have := (hcell j hj).2 0 (by omega)
    rw [hz j hj] at this
    rw [Nat.mul_one, Nat.add_zero] at this
    rw [this]
    simp [List.getD_eq_getElem?_getD, hj]
  refine ⟨(List.range n).map z, ⟨A, c, by simp, fun hp => ?_⟩, by simp, hle, hc, fun k hk => ?_⟩
  · simp at hp
    obtain ⟨b, o, hA, _⟩ := h1 hp
    exact ⟨b, o, hA, fun j hj => by simp at hj; exact key b o hA j hj⟩
  · cases A with
    | none => cases hk
    | some a =>
      simp only [Value.okWide, Try.underlying34, Cell.okWide, Cell.ok] at hv
      obtain ⟨_, _, _, _, row, cells, hs, _⟩ := hv
      have hk : a.block = k := by simpa [Value.ownBlock] using hk
      rw [← hk]
      by_cases hlt : a.block < w.heap.size
      · exact hlt
      · unfold World.shape? at hs
        rw [Array.getElem?_eq_none (by omega)] at hs
        cases hs

end Go.Proofs.Ytpdljgjofebgpaa
