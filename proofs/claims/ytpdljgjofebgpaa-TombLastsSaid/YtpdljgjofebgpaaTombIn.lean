/-
  tomb: marks that come in as arguments.
-/
import Derived.Test.YtpdljgjofebgpaaTombAw
import Derived.Test.YtpdljgjofebgpaaSupG
namespace Go.Proofs.Ytpdljgjofebgpaa
open Go.RowKit Go.ChangeShapes Go.WideShapes Go.Deep

set_option maxRecDepth 100000

theorem open_mk {H : Type} {enc : TypeId × Value → H} {w : World} {held : Bool} {v : Value} {d : DataW H} {ps : List MemPlace}
    (hv : Value.okWide Try.prog w .any 0 80 v) (h : DataW.Trod enc Try.prog w 0 (fun _ => true) held 80 v d ps) : ∃ z : Mk, v = .agg #[.int .u64 (z.1 : Int), .int .u64 (z.2 : Int)] ∧ z.ok := by
  obtain ⟨cs, rfl, hsz⟩ := okWide_struct Try.underlying80 hv
  obtain ⟨fuel, hx⟩ := h
  obtain ⟨xs, m, _, _, hlen, hxl, hf⟩ := DataW.trod_struct Try.underlying80 hx
  have hlen' : cs.toList.length = 2 := hlen
  have g0 := hf 0 _ rfl
  have g1 := hf 1 _ rfl
  obtain ⟨l⟩ := cs
  simp only [Value.cells] at g0 g1
  simp only at hlen'
  match l, hlen' with
  | [v0, v1], _ =>
    have c2 : Try.prog.cellsOf 27 = 1 := by kernel_rfl
    match xs, (show xs.length = 2 from hxl) with
    | [y0, y1], _ =>
      simp [c2] at g0 g1
      obtain ⟨n0, e0, _, w0⟩ := DataW.trod_int Try.underlying27 g0
      obtain ⟨n1, e1, _, w1⟩ := DataW.trod_int Try.underlying27 g1
      simp at e0 e1
      subst e0 e1
      obtain ⟨m0, rfl, q0⟩ := u64_nat w0
      obtain ⟨m1, rfl, q1⟩ := u64_nat w1
      exact ⟨(m0, m1), rfl, q0, q1⟩

/-- A []Mark that came in. -/
structure InM (w : World) (A : Option Addr) (n cap : Nat) (l : List Mk) : Prop where
  rd : RdM w (.slice A n cap) l
  len : l.length = n
  ok : ∀ m, m ∈ l → m.ok
  old : 0 < n → ∀ k, (Value.slice A n cap).ownBlock = some k → k < w.heap.size

theorem InM.keep {w w' : World} {A : Option Addr} {n cap : Nat} {l : List Mk} (h : InM w A n cap l) (f : Fr Nob w w') : InM w' A n cap l := ⟨h.rd.nob f, h.len, h.ok, fun h0 k hk => Nat.lt_of_lt_of_le (h.old h0 k hk) f.size⟩

theorem open_mks {H : Type} {enc : TypeId × Value → H} {w : World} {held : Bool} {n c : Nat} {A : Option Addr} {d : DataW H} {ps : List MemPlace}
    (h : DataW.Trod enc Try.prog w 0 (fun _ => true) held 74 (.slice A n c) d ps) : ∃ l : List Mk, InM w A n c l := by
  obtain ⟨f, h1, _, _, h2⟩ := open_rows (size := 2) Try.underlying74 (by kernel_rfl) (by omega) h
  obtain ⟨z, hz⟩ := choose_lt (α := Mk) (n := n) (p := fun i x => f i = [.int .u64 (x.1 : Int), .int .u64 (x.2 : Int)] ∧ x.ok) (fun i hi => by
    obtain ⟨fuel, x, hx⟩ := h2 i hi
    obtain ⟨xs, m, _, _, hlen, hxl, hf⟩ := DataW.trod_struct Try.underlying80 hx
    have hlen' : (f i).length = 2 := hlen
    have g0 := hf 0 _ rfl
    have g1 := hf 1 _ rfl
    generalize f i = l at *
    match l, hlen' with
    | [v0, v1], _ =>
      have c2 : Try.prog.cellsOf 27 = 1 := by kernel_rfl
      match xs, (show xs.length = 2 from hxl) with
      | [y0, y1], _ =>
        simp [c2] at g0 g1
        obtain ⟨n0, e0, _, w0⟩ := DataW.trod_int Try.underlying27 g0
        obtain ⟨n1, e1, _, w1⟩ := DataW.trod_int Try.underlying27 g1
        simp at e0 e1
        subst e0 e1
        obtain ⟨m0, rfl, q0⟩ := u64_nat w0
        obtain ⟨m1, rfl, q1⟩ := u64_nat w1
        exact ⟨(m0, m1), rfl, q0, q1⟩)
  refine ⟨(List.range n).map z, ⟨A, c, by simp, fun hp => ?_⟩, by simp, fun m hm => ?_, fun h0 k hk => ?_⟩
  · simp at hp
    obtain ⟨b, o, hA, hb, hc⟩ := h1 hp
    refine ⟨b, o, hA, fun j hj => ?_⟩
    simp at hj
    have k0 := (hc j hj).2 0 (by omega)
    have k1 := (hc j hj).2 1 (by omega)
    rw [(hz j hj).1] at k0 k1
    have e : ((List.range n).map z).getD j (0, 0) = z j := by simp [List.getD_eq_getElem?_getD, hj]
    rw [e]
    exact ⟨by simpa using k0, by simpa using k1⟩
  · obtain ⟨i, hi, rfl⟩ := List.mem_map.1 hm
    exact (hz i (List.mem_range.1 hi)).2
  · obtain ⟨b, o, hA, hb, hc⟩ := h1 h0
    rw [hA] at hk
    have : b = k := by simpa [Value.ownBlock] using hk
    omega

/-- A [][]Mark that came in. -/
structure InMM (w : World) (A : Option Addr) (n : Nat) (z : Nat → Option Addr × Nat × Nat) (l : Nat → List Mk) : Prop where
  rows : ArgRows w 1 A n fun i => [.slice (z i).1 (z i).2.1 (z i).2.2]
  el : ∀ i, i < n → InM w (z i).1 (z i).2.1 (z i).2.2 (l i)

theorem open_mkss {H : Type} {enc : TypeId × Value → H} {w : World} {held : Bool} {n c : Nat} {A : Option Addr} {d : DataW H} {ps : List MemPlace}
    (h : DataW.Trod enc Try.prog w 0 (fun _ => true) held 93 (.slice A n c) d ps) : ∃ zl : (Nat → Option Addr × Nat × Nat) × (Nat → List Mk), InMM w A n zl.1 zl.2 := by
  obtain ⟨f, h1, _, _, h2⟩ := open_rows (size := 1) Try.underlying93 (by kernel_rfl) (by omega) h
  obtain ⟨z, hz⟩ := choose_lt (α := (Option Addr × Nat × Nat) × List Mk) (n := n) (p := fun i x => f i = [.slice x.1.1 x.1.2.1 x.1.2.2] ∧ InM w x.1.1 x.1.2.1 x.1.2.2 x.2) (fun i hi => by
    obtain ⟨fuel, x, hx⟩ := h2 i hi
    have hx' := hx
    obtain ⟨xd, xp⟩ := x
    rcases open_slice Try.underlying74 hx with ⟨hc, _⟩ | ⟨a, len, cap, m, fu, D, Pl, hcs, _⟩
    · rw [hc] at hx'
      obtain ⟨l, hl⟩ := open_mks (n := 0) (c := 0) (A := none) ⟨fuel, by simpa [Value.cells] using hx'⟩
      exact ⟨((none, 0, 0), l), hc, hl⟩
    · rw [hcs] at hx'
      obtain ⟨l, hl⟩ := open_mks (n := len) (c := cap) (A := some a) ⟨fuel, by simpa [Value.cells] using hx'⟩
      exact ⟨((some a, len, cap), l), hcs, hl⟩)
  refine ⟨(fun i => (z i).1, fun i => (z i).2), fun hn => ?_, fun i hi => (hz i hi).2⟩
  obtain ⟨b, o, hA, hb, hc⟩ := h1 hn
  exact ⟨b, o, hA, hb, fun i hi => by
    have := hc i hi
    rw [(hz i hi).1] at this
    exact this⟩

end Go.Proofs.Ytpdljgjofebgpaa
