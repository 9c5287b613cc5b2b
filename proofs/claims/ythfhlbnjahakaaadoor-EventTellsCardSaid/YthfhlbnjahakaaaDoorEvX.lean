/-
  A command of the reference that comes in as an argument.
-/
import Derived.Test.YthfhlbnjahakaaaDoorEvIn
namespace Go.Proofs.YthfhlbnjahakaaaDoor
open Go.RowKit Go.ChangeShapes Go.WideShapes Go.Deep

set_option maxRecDepth 100000

/-- What is known of a command that came in. -/
def CmIn (w : World) (z : Cm) : Prop :=
  z.what.size ≤ maxLen ∧ z.verb.size ≤ maxLen ∧ z.data.size ≤ maxLen ∧
  ∃ (l : List ByteArray) (A : Option Addr) (n cap : Nat), z.keys = .slice A n cap ∧ InS w A n cap l ∧ ∀ k ∈ l, k.size ≤ maxLen

theorem open_strs2 {H : Type} {enc : TypeId × Value → H} {w : World} {held : Bool} {n c : Nat} {A : Option Addr} {d : DataW H} {ps : List MemPlace}
    (h : DataW.Trod enc Tryd.prog w 0 (fun _ => true) held 24 (.slice A n c) d ps) : ∃ l : List ByteArray, InS w A n c l ∧ ∀ k ∈ l, k.size ≤ maxLen := by
  obtain ⟨f, h1, hnc, _, h2⟩ := open_rows (size := 1) Tryd.underlying24 (by kernel_rfl) (by omega) h
  obtain ⟨z, hz⟩ := choose_lt (α := ByteArray) (n := n) (p := fun i x => f i = [.string x] ∧ x.size ≤ maxLen) (fun i hi => by
    obtain ⟨fuel, x, hx⟩ := h2 i hi
    obtain ⟨s, e0, _, w0⟩ := DataW.trod_string Tryd.underlying9 hx
    exact ⟨s, e0, w0⟩)
  refine ⟨(List.range n).map z, ⟨⟨A, c, by simp, by simpa using hnc, fun hp => ?_⟩, by simp, fun h0 k hk => ?_⟩, fun k hk => ?_⟩
  · simp at hp
    obtain ⟨b, o, hA, hb, hc⟩ := h1 hp
    refine ⟨b, o, hA, fun j k hj => ?_⟩
    have hjn : j < n := by
      have := (List.getElem?_eq_some_iff.1 hj).1
      simpa using this
    have k0 := (hc j hjn).2 0 (by omega)
    rw [(hz j hjn).1] at k0
    have e : z j = k := by
      simp [hjn] at hj
      exact hj
    rw [Nat.mul_one, Nat.add_zero, e] at k0
    exact k0
  · obtain ⟨b, o, hA, hb, _⟩ := h1 h0
    subst hA
    have : b = k := by
      cases o <;> simpa [Value.ownBlock] using hk
    omega
  · obtain ⟨i, hi, rfl⟩ := List.mem_map.1 hk
    exact (hz i (List.mem_range.1 hi)).2

theorem list12 {α : Type} {l : List α} (h : l.length = 12) : ∃ v0 v1 v2 v3 v4 v5 v6 v7 v8 v9 v10 v11, l = [v0, v1, v2, v3, v4, v5, v6, v7, v8, v9, v10, v11] := by
  obtain ⟨v0, l, rfl⟩ := List.exists_cons_of_length_eq_add_one h
  obtain ⟨v1, l, rfl⟩ := List.exists_cons_of_length_eq_add_one (Nat.succ.inj h)
  obtain ⟨v2, l, rfl⟩ := List.exists_cons_of_length_eq_add_one (l := l) (n := 9) (by simp at h; omega)
  obtain ⟨v3, l, rfl⟩ := List.exists_cons_of_length_eq_add_one (l := l) (n := 8) (by simp at h; omega)
  obtain ⟨v4, l, rfl⟩ := List.exists_cons_of_length_eq_add_one (l := l) (n := 7) (by simp at h; omega)
  obtain ⟨v5, l, rfl⟩ := List.exists_cons_of_length_eq_add_one (l := l) (n := 6) (by simp at h; omega)
  obtain ⟨v6, l, rfl⟩ := List.exists_cons_of_length_eq_add_one (l := l) (n := 5) (by simp at h; omega)
  obtain ⟨v7, l, rfl⟩ := List.exists_cons_of_length_eq_add_one (l := l) (n := 4) (by simp at h; omega)
  obtain ⟨v8, l, rfl⟩ := List.exists_cons_of_length_eq_add_one (l := l) (n := 3) (by simp at h; omega)
  obtain ⟨v9, l, rfl⟩ := List.exists_cons_of_length_eq_add_one (l := l) (n := 2) (by simp at h; omega)
  obtain ⟨v10, l, rfl⟩ := List.exists_cons_of_length_eq_add_one (l := l) (n := 1) (by simp at h; omega)
  obtain ⟨v11, l, rfl⟩ := List.exists_cons_of_length_eq_add_one (l := l) (n := 0) (by simp at h; omega)
  obtain rfl : l = [] := by simpa using h
  exact ⟨v0, v1, v2, v3, v4, v5, v6, v7, v8, v9, v10, v11, rfl⟩

theorem open_cmd {H : Type} {enc : TypeId × Value → H} {w : World} {held : Bool} {v : Value} {d : DataW H} {ps : List MemPlace}
    (hv : Value.okWide Tryd.prog w .any 0 31 v) (h : DataW.Trod enc Tryd.prog w 0 (fun _ => true) held 31 v d ps) : ∃ z : Cm, v = .agg (cmCs z) ∧ CmIn w z := by
  obtain ⟨cs, rfl, hsz⟩ := okWide_struct Tryd.underlying31 hv
  obtain ⟨fuel, hx⟩ := h
  obtain ⟨xs, m, _, _, hlen, hxl, hf⟩ := DataW.trod_struct Tryd.underlying31 hx
  have hlen' : cs.toList.length = 12 := hlen
  have g0 := hf 0 _ rfl
  have g1 := hf 1 _ rfl
  have g2 := hf 2 _ rfl
  have g3 := hf 3 _ rfl
  have g4 := hf 4 _ rfl
  have g5 := hf 5 _ rfl
  have g6 := hf 6 _ rfl
  have g7 := hf 7 _ rfl
  have g8 := hf 8 _ rfl
  have g9 := hf 9 _ rfl
  have g10 := hf 10 _ rfl
  have g11 := hf 11 _ rfl
  clear hf
  obtain ⟨l⟩ := cs
  simp only [Value.cells] at g0 g1 g2 g3 g4 g5 g6 g7 g8 g9 g10 g11
  simp only at hlen'
  obtain ⟨v0, v1, v2, v3, v4, v5, v6, v7, v8, v9, v10, v11, rfl⟩ : ∃ v0 v1 v2 v3 v4 v5 v6 v7 v8 v9 v10 v11, l = [v0, v1, v2, v3, v4, v5, v6, v7, v8, v9, v10, v11] := list12 hlen'
  obtain ⟨y0, y1, y2, y3, y4, y5, y6, y7, y8, y9, y10, y11, rfl⟩ := list12 (show xs.length = 12 from hxl)
  have c1 : Tryd.prog.cellsOf 9 = 1 := by kernel_rfl
  have c2 : Tryd.prog.cellsOf 24 = 1 := by kernel_rfl
  have c3 : Tryd.prog.cellsOf 4 = 1 := by kernel_rfl
  have c4 : Tryd.prog.cellsOf 25 = 1 := by kernel_rfl
  have c5 : Tryd.prog.cellsOf 2 = 1 := by kernel_rfl
  have c6 : Tryd.prog.cellsOf 26 = 1 := by kernel_rfl
  simp [c1, c2, c3, c4, c5, c6] at g0 g1 g2 g3 g4 g5 g6 g7 g8 g9 g10 g11
  obtain ⟨s0, e0, _, w0⟩ := DataW.trod_string Tryd.underlying9 g0
  obtain ⟨s1, e1, _, w1⟩ := DataW.trod_string Tryd.underlying9 g1
  obtain ⟨s3, e3, _, w3⟩ := DataW.trod_string Tryd.underlying9 g3
  obtain ⟨n4, e4, _, w4⟩ := DataW.trod_int Tryd.underlying25 g4
  obtain ⟨n5, e5, _, w5⟩ := DataW.trod_int Tryd.underlying2 g5
  obtain ⟨n6, e6, _, w6⟩ := DataW.trod_int Tryd.underlying26 g6
  obtain ⟨n7, e7, _, w7⟩ := DataW.trod_int Tryd.underlying26 g7
  obtain ⟨b8, e8, _⟩ := DataW.trod_bool Tryd.underlying4 g8
  obtain ⟨b9, e9, _⟩ := DataW.trod_bool Tryd.underlying4 g9
  obtain ⟨b10, e10, _⟩ := DataW.trod_bool Tryd.underlying4 g10
  obtain ⟨b11, e11, _⟩ := DataW.trod_bool Tryd.underlying4 g11
  simp at e0 e1 e3 e4 e5 e6 e7 e8 e9 e10 e11
  subst e0 e1 e3 e4 e5 e6 e7 e8 e9 e10 e11
  obtain ⟨A, n, c, rfl⟩ : ∃ A n c, v2 = .slice A n c := by
    rcases DataW.trod_slice Tryd.underlying24 g2 with ⟨hc, _⟩ | ⟨a, len, cap, _, _, _, _, hc, _⟩
    · exact ⟨none, 0, 0, by simpa using hc⟩
    · exact ⟨some a, len, cap, by simpa using hc⟩
  obtain ⟨l, hl, hk⟩ := open_strs2 (w := w) (n := n) (c := c) (A := A) ⟨_, by simpa [Value.cells] using g2⟩
  exact ⟨⟨s0, s1, .slice A n c, s3, n4, n5, n6, n7, b8, b9, b10, b11⟩, rfl, w0, w1, w3, l, A, n, c, rfl, hl, hk⟩
end Go.Proofs.YthfhlbnjahakaaaDoor
