/-
  []string and []Act that come in as arguments.
-/
import Derived.Test.YtefjcjmdmnfbhaaTabAw
import Derived.Test.YtefjcjmdmnfbhaaOpen
namespace Go.Proofs.Ytefjcjmdmnfbhaa
open Go.RowKit Go.ChangeShapes Go.WideShapes Go.Deep

set_option maxRecDepth 100000

/-- A []string that came in. -/
structure InS (w : World) (A : Option Addr) (n cap : Nat) (l : List ByteArray) : Prop where
  rd : RdS w (.slice A n cap) l
  len : l.length = n
  sz : ∀ k, k ∈ l → k.size < 9223372036854775808
  old : 0 < n → ∀ k, (Value.slice A n cap).ownBlock = some k → k < w.heap.size

theorem RdS.old {w w' : World} {v : Value} {l : List ByteArray} (h : RdS w v l) (f : Fr Nob w w') : RdS w' v l := h.nob f
theorem InS.keep {w w' : World} {A : Option Addr} {n cap : Nat} {l : List ByteArray} (h : InS w A n cap l) (f : Fr Nob w w') : InS w' A n cap l :=
  ⟨h.rd.nob f, h.len, h.sz, fun h0 k hk => Nat.lt_of_lt_of_le (h.old h0 k hk) f.size⟩

structure TAct where
  op : Int
  v : Int
  key : ByteArray

instance : Inhabited TAct := ⟨⟨0, 0, ByteArray.empty⟩⟩
/-- A []Act that came in. -/
structure InA (w : World) (A : Option Addr) (n cap : Nat) (l : List TAct) : Prop where
  rd : 0 < n → ∃ b o, A = some ⟨b, o, none⟩ ∧ b < w.heap.size ∧ ∀ i x, l[i]? = some x → w.cell? ⟨b, o + i * 3, none⟩ = some (.int .i64 x.op) ∧ w.cell? ⟨b, o + i * 3 + 1, none⟩ = some (.int .i64 x.v) ∧ w.cell? ⟨b, o + i * 3 + 2, none⟩ = some (.string x.key)
  len : l.length = n
  sz : ∀ x, x ∈ l → x.key.size < 9223372036854775808
theorem InA.keep {w w' : World} {A : Option Addr} {n cap : Nat} {l : List TAct} (h : InA w A n cap l) (f : Fr Nob w w') : InA w' A n cap l := by
  refine ⟨fun h0 => ?_, h.len, h.sz⟩
  obtain ⟨b, o, hA, hb, hc⟩ := h.rd h0
  refine ⟨b, o, hA, Nat.lt_of_lt_of_le hb f.size, fun i x hx => ?_⟩
  obtain ⟨h1, h2, h3⟩ := hc i x hx
  exact ⟨f.cell h1 fun h => h, f.cell h2 fun h => h, f.cell h3 fun h => h⟩

theorem InS.cell {w w' : World} {A : Option Addr} {n cap : Nat} {l : List ByteArray} (h : InS w A n cap l) (f : Fr Nob w w') {k : Nat} (hk : k < n) :
    ∃ g o x, A = some ⟨g, o, none⟩ ∧ l[k]? = some x ∧ w'.cell? ⟨g, o + k, none⟩ = some (.string x) ∧ x.size < 9223372036854775808 := by
  obtain ⟨A', c', he, hc⟩ := h.rd
  injection he with h1 h2 h3
  subst h1
  have hl := h.len
  obtain ⟨g, o, rfl, hc2⟩ := hc (by omega)
  have hx : l[k]? = some l[k] := List.getElem?_eq_getElem (by omega)
  exact ⟨g, o, l[k], rfl, hx, f.cell (hc2 k _ hx) fun h => h, h.sz _ (List.mem_of_getElem? hx)⟩
theorem InA.cell {w w' : World} {A : Option Addr} {n cap : Nat} {l : List TAct} (h : InA w A n cap l) (f : Fr Nob w w') {k : Nat} (hk : k < n) :
    ∃ g o x, A = some ⟨g, o, none⟩ ∧ l[k]? = some x ∧ (w'.cell? ⟨g, o + k * 3, none⟩ = some (.int .i64 x.op) ∧ w'.cell? ⟨g, o + k * 3 + 1, none⟩ = some (.int .i64 x.v) ∧ w'.cell? ⟨g, o + k * 3 + 2, none⟩ = some (.string x.key)) ∧ x.key.size < 9223372036854775808 := by
  have hl := h.len
  obtain ⟨g, o, rfl, _, hc⟩ := (h.keep f).rd (by omega)
  have hx : l[k]? = some l[k] := List.getElem?_eq_getElem (by omega)
  exact ⟨g, o, l[k], rfl, hx, hc k _ hx, h.sz _ (List.mem_of_getElem? hx)⟩

theorem open_strs {H : Type} {enc : TypeId × Value → H} {w : World} {held : Bool} {n c : Nat} {A : Option Addr} {d : DataW H} {ps : List MemPlace}
    (h : DataW.Trod enc Try.prog w 0 (fun _ => true) held 29 (.slice A n c) d ps) : ∃ l : List ByteArray, InS w A n c l := by
  obtain ⟨f, h1, _, _, h2⟩ := open_rows (size := 1) Try.underlying29 (by kernel_rfl) (by omega) h
  obtain ⟨z, hz⟩ := choose_lt (α := ByteArray) (n := n) (p := fun i x => f i = [.string x] ∧ x.size < 9223372036854775808) (fun i hi => by
    obtain ⟨fuel, x, hx⟩ := h2 i hi
    obtain ⟨s, e0, _, w0⟩ := DataW.trod_string Try.underlying9 hx
    exact ⟨s, e0, Nat.lt_of_le_of_lt w0 (by decide)⟩)
  refine ⟨(List.range n).map z, ⟨A, c, by simp, fun hp => ?_⟩, by simp, fun m hm => ?_, fun h0 k hk => ?_⟩
  · simp at hp
    obtain ⟨b, o, hA, hb, hc⟩ := h1 hp
    refine ⟨b, o, hA, fun j k hj => ?_⟩
    have hjn : j < n := by
      have := (List.getElem?_eq_some_iff.1 hj).1
      simpa using this
    have k0 := (hc j hjn).2 0 (by omega)
    rw [(hz j hjn).1] at k0
    have e : z j = k := by
      simp [hjn] at hj
      exact hj
    rw [Nat.mul_one, Nat.add_zero, e] at k0
    exact k0
  · obtain ⟨i, hi, rfl⟩ := List.mem_map.1 hm
    exact (hz i (List.mem_range.1 hi)).2
  · obtain ⟨b, o, hA, hb, _⟩ := h1 h0
    subst hA
    have : b = k := by
      cases o <;> simpa [Value.ownBlock] using hk
    omega

theorem open_tacts {H : Type} {enc : TypeId × Value → H} {w : World} {held : Bool} {n c : Nat} {A : Option Addr} {d : DataW H} {ps : List MemPlace}
    (h : DataW.Trod enc Try.prog w 0 (fun _ => true) held 32 (.slice A n c) d ps) : ∃ l : List TAct, InA w A n c l := by
  obtain ⟨f, h1, _, _, h2⟩ := open_rows (size := 3) Try.underlying32 (by kernel_rfl) (by omega) h
  obtain ⟨z, hz⟩ := choose_lt (α := TAct) (n := n) (p := fun i x => f i = [.int .i64 x.op, .int .i64 x.v, .string x.key] ∧ x.key.size < 9223372036854775808) (fun i hi => by
    obtain ⟨fuel, x, hx⟩ := h2 i hi
    obtain ⟨xs, m, _, _, hlen, hxl, hf⟩ := DataW.trod_struct Try.underlying36 hx
    have hlen' : (f i).length = 3 := hlen
    have g0 := hf 0 _ rfl
    have g1 := hf 1 _ rfl
    have g2 := hf 2 _ rfl
    generalize f i = l at *
    match l, hlen' with
    | [v0, v1, v2], _ =>
      have c2 : Try.prog.cellsOf 3 = 1 := by kernel_rfl
      have c3 : Try.prog.cellsOf 9 = 1 := by kernel_rfl
      match xs, (show xs.length = 3 from hxl) with
      | [y0, y1, y2], _ =>
        simp [c2, c3] at g0 g1 g2
        obtain ⟨n0, e0, _, w0⟩ := DataW.trod_int Try.underlying3 g0
        obtain ⟨n1, e1, _, w1⟩ := DataW.trod_int Try.underlying3 g1
        obtain ⟨s, e2, _, w2⟩ := DataW.trod_string Try.underlying9 g2
        simp at e0 e1 e2
        subst e0 e1 e2
        exact ⟨⟨n0, n1, s⟩, rfl, Nat.lt_of_le_of_lt w2 (by decide)⟩)
  refine ⟨(List.range n).map z, fun hp => ?_, by simp, fun m hm => ?_⟩
  · obtain ⟨b, o, hA, hb, hc⟩ := h1 hp
    refine ⟨b, o, hA, hb, fun j x hj => ?_⟩
    have hjn : j < n := by
      have := (List.getElem?_eq_some_iff.1 hj).1
      simpa using this
    have e : z j = x := by
      simp [hjn] at hj
      exact hj
    have k0 := (hc j hjn).2 0 (by omega)
    have k1 := (hc j hjn).2 1 (by omega)
    have k2 := (hc j hjn).2 2 (by omega)
    rw [(hz j hjn).1, e] at k0 k1 k2
    exact ⟨by simpa using k0, by simpa using k1, by simpa using k2⟩
  · obtain ⟨i, hi, rfl⟩ := List.mem_map.1 hm
    exact (hz i (List.mem_range.1 hi)).2
end Go.Proofs.Ytefjcjmdmnfbhaa
