/-
  dram: items, []Item and []Act that come in as arguments.
-/
import Derived.Test.YtpbbokpmlemboaaDrY
import Derived.Test.YtpbbokpmlemboaaOpen
namespace Go.Proofs.Ytpbbokpmlemboaa
open Go.RowKit Go.ChangeShapes Go.WideShapes Go.Deep

set_option maxRecDepth 100000

instance : Inhabited It := ⟨zeroI⟩
/-- What an item that came in is known to be. -/
def It.in_ (z : It) : Prop := z.key.size < 9223372036854775808 ∧ z.val.size < 9223372036854775808

theorem item_trod {H : Type} {enc : TypeId × Value → H} {w : World} {held : Bool} {fuel : Nat} {l : List Value} {x : DataW H × List MemPlace} (hx : DataW.trod enc Try.prog w 0 (fun _ => true) held fuel 33 l = some x) :
    ∃ z : It, l = [.string z.key, .string z.val, .int .u32 z.flags, .int .i64 z.exp, .int .u64 z.ver] ∧ z.in_ := by
  obtain ⟨xs, m, _, _, hlen, hxl, hf⟩ := DataW.trod_struct Try.underlying33 hx
  have hlen' : l.length = 5 := hlen
  have g0 := hf 0 _ rfl
  have g1 := hf 1 _ rfl
  have g2 := hf 2 _ rfl
  have g3 := hf 3 _ rfl
  have g4 := hf 4 _ rfl
  match l, hlen' with
  | [v0, v1, v2, v3, v4], _ =>
    have c0 : Try.prog.cellsOf 9 = 1 := by kernel_rfl
    have c1 : Try.prog.cellsOf 30 = 1 := by kernel_rfl
    have c2 : Try.prog.cellsOf 2 = 1 := by kernel_rfl
    have c3 : Try.prog.cellsOf 31 = 1 := by kernel_rfl
    match xs, (show xs.length = 5 from hxl) with
    | [y0, y1, y2, y3, y4], _ =>
      simp [c0, c1, c2, c3] at g0 g1 g2 g3 g4
      obtain ⟨s0, e0, _, w0⟩ := DataW.trod_string Try.underlying9 g0
      obtain ⟨s1, e1, _, w1⟩ := DataW.trod_string Try.underlying9 g1
      obtain ⟨n2, e2, _, w2⟩ := DataW.trod_int Try.underlying30 g2
      obtain ⟨n3, e3, _, w3⟩ := DataW.trod_int Try.underlying2 g3
      obtain ⟨n4, e4, _, w4⟩ := DataW.trod_int Try.underlying31 g4
      simp at e0 e1 e2 e3 e4
      subst e0 e1 e2 e3 e4
      exact ⟨⟨s0, s1, n2, n3, n4⟩, rfl, Nat.lt_of_le_of_lt w0 (by decide), Nat.lt_of_le_of_lt w1 (by decide)⟩

theorem open_item {H : Type} {enc : TypeId × Value → H} {w : World} {held : Bool} {v : Value} {d : DataW H} {ps : List MemPlace}
    (hv : Value.okWide Try.prog w .any 0 33 v) (h : DataW.Trod enc Try.prog w 0 (fun _ => true) held 33 v d ps) : ∃ z : It, v = itV z ∧ z.in_ := by
  obtain ⟨cs, rfl, hsz⟩ := okWide_struct Try.underlying33 hv
  obtain ⟨fuel, hx⟩ := h
  obtain ⟨z, hz, hk⟩ := item_trod hx
  refine ⟨z, ?_, hk⟩
  have : cs.toList = [.string z.key, .string z.val, .int .u32 z.flags, .int .i64 z.exp, .int .u64 z.ver] := hz
  rw [show cs = cs.toList.toArray from (Array.toArray_toList ..).symm, this]

/-- A []Item that came in. -/
structure InI (w : World) (A : Option Addr) (n cap : Nat) (l : List It) : Prop where
  rd : 0 < n → ∃ b o, A = some ⟨b, o, none⟩ ∧ b < w.heap.size ∧ ∀ i z, l[i]? = some z → w.cell? ⟨b, o + i * 5, none⟩ = some (.string z.key) ∧ w.cell? ⟨b, o + i * 5 + 1, none⟩ = some (.string z.val) ∧ w.cell? ⟨b, o + i * 5 + 2, none⟩ = some (.int .u32 z.flags) ∧ w.cell? ⟨b, o + i * 5 + 3, none⟩ = some (.int .i64 z.exp) ∧ w.cell? ⟨b, o + i * 5 + 4, none⟩ = some (.int .u64 z.ver)
  len : l.length = n
  sz : ∀ z, z ∈ l → z.in_
theorem InI.keep {w w' : World} {A : Option Addr} {n cap : Nat} {l : List It} (h : InI w A n cap l) (f : Fr Nob w w') : InI w' A n cap l := by
  refine ⟨fun h0 => ?_, h.len, h.sz⟩
  obtain ⟨b, o, hA, hb, hc⟩ := h.rd h0
  refine ⟨b, o, hA, Nat.lt_of_lt_of_le hb f.size, fun i x hx => ?_⟩
  obtain ⟨h1, h2, h3, h4, h5⟩ := hc i x hx
  exact ⟨f.cell h1 fun h => h, f.cell h2 fun h => h, f.cell h3 fun h => h, f.cell h4 fun h => h, f.cell h5 fun h => h⟩
theorem InI.cell {w w' : World} {A : Option Addr} {n cap : Nat} {l : List It} (h : InI w A n cap l) (f : Fr Nob w w') {k : Nat} (hk : k < n) :
    ∃ g o z, A = some ⟨g, o, none⟩ ∧ l[k]? = some z ∧ (w'.cell? ⟨g, o + k * 5, none⟩ = some (.string z.key) ∧ w'.cell? ⟨g, o + k * 5 + 1, none⟩ = some (.string z.val) ∧ w'.cell? ⟨g, o + k * 5 + 2, none⟩ = some (.int .u32 z.flags) ∧ w'.cell? ⟨g, o + k * 5 + 3, none⟩ = some (.int .i64 z.exp) ∧ w'.cell? ⟨g, o + k * 5 + 4, none⟩ = some (.int .u64 z.ver)) ∧ z.in_ := by
  have hl := h.len
  obtain ⟨g, o, rfl, _, hc⟩ := (h.keep f).rd (by omega)
  have hx : l[k]? = some l[k] := List.getElem?_eq_getElem (by omega)
  exact ⟨g, o, l[k], rfl, hx, hc k _ hx, h.sz _ (List.mem_of_getElem? hx)⟩

theorem open_items {H : Type} {enc : TypeId × Value → H} {w : World} {held : Bool} {n c : Nat} {A : Option Addr} {d : DataW H} {ps : List MemPlace}
    (h : DataW.Trod enc Try.prog w 0 (fun _ => true) held 47 (.slice A n c) d ps) : ∃ l : List It, InI w A n c l := by
  obtain ⟨f, h1, _, _, h2⟩ := open_rows (size := 5) Try.underlying47 (by kernel_rfl) (by omega) h
  obtain ⟨z, hz⟩ := choose_lt (α := It) (n := n) (p := fun i z => f i = [.string z.key, .string z.val, .int .u32 z.flags, .int .i64 z.exp, .int .u64 z.ver] ∧ z.in_) (fun i hi => by
    obtain ⟨fuel, x, hx⟩ := h2 i hi
    exact item_trod hx)
  refine ⟨(List.range n).map z, fun hp => ?_, by simp, fun m hm => ?_⟩
  · obtain ⟨b, o, hA, hb, hc⟩ := h1 hp
    refine ⟨b, o, hA, hb, fun j x hj => ?_⟩
    have hjn : j < n := by
      have := (List.getElem?_eq_some_iff.1 hj).1
      simpa using this
    have e : z j = x := by
      simp [hjn] at hj
      exact hj
    have k0 := (hc j hjn).2 0 (by omega)
    have k1 := (hc j hjn).2 1 (by omega)
    have k2 := (hc j hjn).2 2 (by omega)
    have k3 := (hc j hjn).2 3 (by omega)
    have k4 := (hc j hjn).2 4 (by omega)
    rw [(hz j hjn).1, e] at k0 k1 k2 k3 k4
    exact ⟨by simpa using k0, by simpa using k1, by simpa using k2, by simpa using k3, by simpa using k4⟩
  · obtain ⟨i, hi, rfl⟩ := List.mem_map.1 hm
    exact (hz i (List.mem_range.1 hi)).2

structure DAct where
  op : Int
  x : It
  cl : Bool
  key : ByteArray
  now : Int
instance : Inhabited DAct := ⟨⟨0, zeroI, false, ByteArray.empty, 0⟩⟩
def DAct.cells (z : DAct) : List Value := [.int .i64 z.op, .string z.x.key, .string z.x.val, .int .u32 z.x.flags, .int .i64 z.x.exp, .int .u64 z.x.ver, .bool z.cl, .string z.key, .int .i64 z.now]
def DAct.in_ (z : DAct) : Prop := z.x.in_ ∧ z.key.size < 9223372036854775808

/-- A []Act that came in. -/
structure InD (w : World) (A : Option Addr) (n cap : Nat) (l : List DAct) : Prop where
  rd : 0 < n → ∃ b o, A = some ⟨b, o, none⟩ ∧ b < w.heap.size ∧ ∀ i z, l[i]? = some z → ∀ j, j < 9 → w.cell? ⟨b, o + i * 9 + j, none⟩ = z.cells[j]?
  len : l.length = n
  sz : ∀ z, z ∈ l → z.in_
theorem InD.keep {w w' : World} {A : Option Addr} {n cap : Nat} {l : List DAct} (h : InD w A n cap l) (f : Fr Nob w w') : InD w' A n cap l := by
  refine ⟨fun h0 => ?_, h.len, h.sz⟩
  obtain ⟨b, o, hA, hb, hc⟩ := h.rd h0
  refine ⟨b, o, hA, Nat.lt_of_lt_of_le hb f.size, fun i x hx j hj => ?_⟩
  rw [← hc i x hx j hj]
  exact World.cell?_of_block (w := w) (f.block b hb fun h => h)
theorem InD.cell {w w' : World} {A : Option Addr} {n cap : Nat} {l : List DAct} (h : InD w A n cap l) (f : Fr Nob w w') {k : Nat} (hk : k < n) :
    ∃ g o z, A = some ⟨g, o, none⟩ ∧ l[k]? = some z ∧ (w'.cell? ⟨g, o + k * 9, none⟩ = some (.int .i64 z.op) ∧ w'.cell? ⟨g, o + k * 9 + 1, none⟩ = some (.string z.x.key) ∧ w'.cell? ⟨g, o + k * 9 + 2, none⟩ = some (.string z.x.val) ∧ w'.cell? ⟨g, o + k * 9 + 3, none⟩ = some (.int .u32 z.x.flags) ∧ w'.cell? ⟨g, o + k * 9 + 4, none⟩ = some (.int .i64 z.x.exp) ∧
      w'.cell? ⟨g, o + k * 9 + 5, none⟩ = some (.int .u64 z.x.ver) ∧ w'.cell? ⟨g, o + k * 9 + 6, none⟩ = some (.bool z.cl) ∧ w'.cell? ⟨g, o + k * 9 + 7, none⟩ = some (.string z.key) ∧ w'.cell? ⟨g, o + k * 9 + 8, none⟩ = some (.int .i64 z.now)) ∧ z.in_ := by
  have hl := h.len
  obtain ⟨g, o, rfl, _, hc⟩ := (h.keep f).rd (by omega)
  have hx : l[k]? = some l[k] := List.getElem?_eq_getElem (by omega)
  have c := hc k _ hx
  exact ⟨g, o, l[k], rfl, hx, ⟨c 0 (by omega), c 1 (by omega), c 2 (by omega), c 3 (by omega), c 4 (by omega), c 5 (by omega), c 6 (by omega), c 7 (by omega), c 8 (by omega)⟩, h.sz _ (List.mem_of_getElem? hx)⟩

theorem open_dacts {H : Type} {enc : TypeId × Value → H} {w : World} {held : Bool} {n c : Nat} {A : Option Addr} {d : DataW H} {ps : List MemPlace}
    (h : DataW.Trod enc Try.prog w 0 (fun _ => true) held 38 (.slice A n c) d ps) : ∃ l : List DAct, InD w A n c l := by
  obtain ⟨f, h1, _, _, h2⟩ := open_rows (size := 9) Try.underlying38 (by kernel_rfl) (by omega) h
  obtain ⟨z, hz⟩ := choose_lt (α := DAct) (n := n) (p := fun i z => f i = z.cells ∧ z.in_) (fun i hi => by
    obtain ⟨fuel, x, hx⟩ := h2 i hi
    obtain ⟨xs, m, _, _, hlen, hxl, hf⟩ := DataW.trod_struct Try.underlying40 hx
    have hlen' : (f i).length = 9 := hlen
    have g0 := hf 0 _ rfl
    have g1 := hf 1 _ rfl
    have g2 := hf 2 _ rfl
    have g3 := hf 3 _ rfl
    have g4 := hf 4 _ rfl
    generalize f i = l at *
    match l, hlen' with
    | [v0, v1, v2, v3, v4, v5, v6, v7, v8], _ =>
      have c0 : Try.prog.cellsOf 3 = 1 := by kernel_rfl
      have c1 : Try.prog.cellsOf 9 = 1 := by kernel_rfl
      have c2 : Try.prog.cellsOf 33 = 5 := by kernel_rfl
      have c3 : Try.prog.cellsOf 4 = 1 := by kernel_rfl
      have c4 : Try.prog.cellsOf 2 = 1 := by kernel_rfl
      match xs, (show xs.length = 5 from hxl) with
      | [y0, y1, y2, y3, y4], _ =>
        simp [c0, c1, c2, c3, c4] at g0 g1 g2 g3 g4
        obtain ⟨n0, e0, _, w0⟩ := DataW.trod_int Try.underlying3 g0
        obtain ⟨zi, e1, w1⟩ := item_trod g1
        obtain ⟨b2, e2, _⟩ := DataW.trod_bool Try.underlying4 g2
        obtain ⟨s3, e3, _, w3⟩ := DataW.trod_string Try.underlying9 g3
        obtain ⟨n4, e4, _, w4⟩ := DataW.trod_int Try.underlying2 g4
        simp at e0 e1 e2 e3 e4
        obtain ⟨rfl, rfl, rfl, rfl, rfl⟩ := e1
        subst e0 e2 e3 e4
        exact ⟨⟨n0, zi, b2, s3, n4⟩, rfl, w1, Nat.lt_of_le_of_lt w3 (by decide)⟩)
  refine ⟨(List.range n).map z, fun hp => ?_, by simp, fun m hm => ?_⟩
  · obtain ⟨b, o, hA, hb, hc⟩ := h1 hp
    refine ⟨b, o, hA, hb, fun j x hj i hi => ?_⟩
    have hjn : j < n := by
      have := (List.getElem?_eq_some_iff.1 hj).1
      simpa using this
    have e : z j = x := by
      simp [hjn] at hj
      exact hj
    have k0 := (hc j hjn).2 i hi
    rw [(hz j hjn).1, e] at k0
    exact k0
  · obtain ⟨i, hi, rfl⟩ := List.mem_map.1 hm
    exact (hz i (List.mem_range.1 hi)).2
end Go.Proofs.Ytpbbokpmlemboaa
