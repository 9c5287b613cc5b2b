/-
  []string that comes in as an argument.
-/
import Derived.Test.YthfhlbnjahakaaaDoorEvAw
import Derived.Test.YthfhlbnjahakaaaDoorOpen
namespace Go.Proofs.YthfhlbnjahakaaaDoor
open Go.RowKit Go.ChangeShapes Go.WideShapes Go.Deep

set_option maxRecDepth 100000

structure InS (w : World) (A : Option Addr) (n cap : Nat) (l : List ByteArray) : Prop where
  rd : RdS w (.slice A n cap) l
  len : l.length = n
  old : 0 < n → ∀ k, (Value.slice A n cap).ownBlock = some k → k < w.heap.size

theorem open_strs {H : Type} {enc : TypeId × Value → H} {w : World} {held : Bool} {n c : Nat} {A : Option Addr} {d : DataW H} {ps : List MemPlace}
    (h : DataW.Trod enc Tryd.prog w 0 (fun _ => true) held 24 (.slice A n c) d ps) : ∃ l : List ByteArray, InS w A n c l := by
  obtain ⟨f, h1, hnc, _, h2⟩ := open_rows (size := 1) Tryd.underlying24 (by kernel_rfl) (by omega) h
  obtain ⟨z, hz⟩ := choose_lt (α := ByteArray) (n := n) (p := fun i x => f i = [.string x]) (fun i hi => by
    obtain ⟨fuel, x, hx⟩ := h2 i hi
    obtain ⟨s, e0, _, w0⟩ := DataW.trod_string Tryd.underlying9 hx
    exact ⟨s, e0⟩)
  refine ⟨(List.range n).map z, ⟨A, c, by simp, by simpa using hnc, fun hp => ?_⟩, by simp, fun h0 k hk => ?_⟩
  · simp at hp
    obtain ⟨b, o, hA, hb, hc⟩ := h1 hp
    refine ⟨b, o, hA, fun j k hj => ?_⟩
    have hjn : j < n := by
      have := (List.getElem?_eq_some_iff.1 hj).1
      simpa using this
    have k0 := (hc j hjn).2 0 (by omega)
    rw [hz j hjn] at k0
    have e : z j = k := by
      simp [hjn] at hj
      exact hj
    rw [Nat.mul_one, Nat.add_zero, e] at k0
    exact k0
  · obtain ⟨b, o, hA, hb, _⟩ := h1 h0
    subst hA
    have : b = k := by
      cases o <;> simpa [Value.ownBlock] using hk
    omega
end Go.Proofs.YthfhlbnjahakaaaDoor
