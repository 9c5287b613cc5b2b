/-
  []cellaretlaw3.Act that came in.
-/
import Derived.Test.YtpdljgjofebgpaaFlashLasts
import Derived.SizedLaws
namespace Go.Proofs.Ytpdljgjofebgpaa
open Go.RowKit Go.ChangeShapes Go.WideShapes Go.Deep

section
variable {H : Type} {enc : TypeId × Value → H} {P : Program} {w : World} {held : Bool}
theorem open_rowsD {t e : TypeId} {size n c : Nat} {A : Option Addr} {d : DataW H} {ps : List MemPlace} (ht : P.underlying t = some (.slice e)) (hs : P.cellsOf e = size) (h0 : 0 < size)
    (h : DataW.Trod enc P w 0 (fun _ => true) held t (.slice A n c) d ps) :
    ∃ f : Nat → List Value, ArgRows w size A n f ∧ n ≤ c ∧ c ≤ maxLen ∧ ∃ (D : Nat → DataW H) (sp : List (DataW H)), (n = 0 ∨ d = .slice ((List.range n).map D) sp) ∧ ∀ i, i < n → ∃ fuel p, DataW.trod enc P w 0 (fun _ => true) held fuel e (f i) = some (D i, p) := by
  obtain ⟨fuel, hf⟩ := h
  have hf' : DataW.trod enc P w 0 (fun _ => true) held fuel t [.slice A n c] = some (d, ps) := by simpa [Value.cells] using hf
  rcases open_slice ht hf' with ⟨hc, _⟩ | ⟨a, len, cap, m, fu, D, Pl, hcs, _, hl, hm, hmm, hxd, hi⟩
  · simp at hc
    obtain ⟨rfl, rfl, rfl⟩ := hc
    exact ⟨fun _ => [], fun h => absurd h (by omega), by omega, by simp [maxLen], fun _ => .nil, [], .inl rfl, fun i hi => absurd hi (by omega)⟩
  · simp at hcs
    obtain ⟨rfl, rfl, rfl⟩ := hcs
    simp at hmm
    obtain ⟨f, hfn⟩ := choose_lt (α := List Value) (n := n) (p := fun i l => w.cells? 0 (a.add (i * P.cellsOf e)) (P.cellsOf e) = some l ∧ DataW.trod enc P w 0 (fun _ => true) held fu e l = some (D i, Pl i)) (fun i hin => hi i (by omega))
    refine ⟨f, fun hn => ?_, hl, hm, D, _, .inr (congrArg Prod.fst hxd), fun i hin => ⟨fu, _, (hfn i hin).2⟩⟩
    have key : ∀ i, i < n → (f i).length = size ∧ ∀ j, j < size → w.cell? (a.add (i * size + j)) = (f i)[j]? := fun i hin => by
      obtain ⟨_, h2, h3⟩ := World.cells?_some (hfn i hin).1
      rw [hs] at h2 h3
      refine ⟨h2, fun j hj => ?_⟩
      have := h3 j hj
      rw [add_add] at this
      exact this
    have hsp : a.spot = none := by
      obtain ⟨k1, k2⟩ := key 0 hn
      have := k2 0 h0
      rw [List.getElem?_eq_getElem (by omega)] at this
      have := spot_of_cell this
      simpa [Addr.add] using this
    obtain ⟨b, o, sp⟩ := a
    simp only at hsp
    subst hsp
    refine ⟨b, o, rfl, ?_, fun i hin => ⟨(key i hin).1, fun j hj => ?_⟩⟩
    · obtain ⟨k1, k2⟩ := key 0 hn
      have := k2 0 h0
      rw [List.getElem?_eq_getElem (by omega)] at this
      have := World.block_lt_of_cell? w _ this
      rw [Addr.add_lit] at this
      exact this
    · have := (key i hin).2 j hj
      rw [Addr.add_lit] at this
      rw [Nat.add_assoc]
      exact this
theorem weightsAll_in {e : TypeId} : ∀ {l : List (DataW H)} {d : DataW H}, d ∈ l → ∀ n ∈ d.weights P e, n ∈ DataW.weightsAll P e l
  | x :: l, d, hd, n, hn => by
    simp only [DataW.weightsAll, List.mem_append]
    rcases List.mem_cons.1 hd with rfl | h
    · exact Or.inl hn
    · exact Or.inr (weightsAll_in h n hn)
end

set_option maxRecDepth 100000

theorem open_acts3 {H : Type} {enc : TypeId × Value → H} {w : World} {held : Bool} {n c : Nat} {A : Option Addr} {d : DataW H} {ps : List MemPlace}
    (hw : ∀ k ∈ d.weights Try.prog 54, k ≤ reachBytes) (h : DataW.Trod enc Try.prog w 0 (fun _ => true) held 54 (.slice A n c) d ps) :
    ∃ zl : (Nat → Int × Int × Option Addr × Nat × Nat) × (Nat → List UInt8), ActRow w A n zl.1 zl.2 := by
  obtain ⟨f, h1, _, _, D, sp, hD, h2⟩ := open_rowsD (size := 3) Try.underlying54 (by kernel_rfl) (by omega) h
  obtain ⟨z, hz⟩ := choose_lt (α := (Int × Int × Option Addr × Nat × Nat) × List UInt8) (n := n) (p := fun i x => f i = [.int .i64 x.1.1, .int .i64 x.1.2.1, .slice x.1.2.2.1 x.1.2.2.2.1 x.1.2.2.2.2] ∧ (Lit.int .i64 x.1.2.1).wf = true ∧ RdB w (.slice x.1.2.2.1 x.1.2.2.2.1 x.1.2.2.2.2) x.2 ∧ (0 < x.1.2.2.2.1 → ∀ k, (Value.slice x.1.2.2.1 x.1.2.2.2.1 x.1.2.2.2.2).ownBlock = some k → k < w.heap.size) ∧ x.1.2.2.2.1 ≤ 140737488355328) (fun i hi => by
    obtain ⟨fuel, p, hx⟩ := h2 i hi
    have hd : d = .slice ((List.range n).map D) sp := by
      rcases hD with h | h
      · omega
      · exact h
    obtain ⟨xs, k, _, hxe, hlen, hxl, hf⟩ := DataW.trod_struct Try.underlying59 hx
    have hlen' : (f i).length = 3 := hlen
    have g0 := hf 0 _ rfl
    have g1 := hf 1 _ rfl
    have g2 := hf 2 _ rfl
    generalize f i = l at *
    match l, hlen' with
    | [v0, v1, v2], _ =>
      have c1 : Try.prog.cellsOf 3 = 1 := by kernel_rfl
      have c2 : Try.prog.cellsOf 34 = 1 := by kernel_rfl
      match xs, (show xs.length = 3 from hxl) with
      | [y0, y1, y2], _ =>
        simp [c1, c2] at g0 g1 g2
        obtain ⟨n0, e0, _, w0⟩ := DataW.trod_int Try.underlying3 g0
        obtain ⟨n1, e1, _, w1⟩ := DataW.trod_int Try.underlying3 g1
        simp at e0 e1
        subst e0 e1
        have hDi : D i = .agg [y0.1, y1.1, y2.1] := by
          have := congrArg Prod.fst hxe
          simpa using this
        have hwt : ∀ q ∈ y2.1.weights Try.prog 34, q ≤ reachBytes := fun q hq => hw q (by
          rw [hd]
          simp only [DataW.weights, Try.underlying54, List.mem_cons, List.mem_append]
          right
          left
          refine weightsAll_in (List.mem_map.2 ⟨i, List.mem_range.2 hi, rfl⟩) q ?_
          rw [hDi]
          simp only [DataW.weights, Try.underlying59]
          exact DataW.weights_mem_each (j := 2) rfl rfl q hq)
        have inner : ∀ (a : Option Addr) (m c : Nat), v2 = .slice a m c → ∃ bs, RdB w (.slice a m c) bs ∧ (0 < m → ∀ k, (Value.slice a m c).ownBlock = some k → k < w.heap.size) ∧ m ≤ 140737488355328 := fun a m c hv => by
          subst hv
          obtain ⟨f', k1, _, _, D', sp', hD', k2⟩ := open_rowsD (A := a) (n := m) (c := c) (d := y2.1) (ps := y2.2) (size := 1) Try.underlying34 (by kernel_rfl) (by omega) ⟨_, by simpa [Value.cells] using g2⟩
          obtain ⟨zb, hzb⟩ := choose_lt (α := UInt8) (n := m) (p := fun i x => f' i = [.int .u8 (x.toNat : Int)]) (fun i hi => by
            obtain ⟨fuel, x, hx⟩ := k2 i hi
            obtain ⟨n0, e0, _, w0⟩ := DataW.trod_int Try.underlying5 hx
            obtain ⟨b, rfl⟩ := u8_of w0
            exact ⟨b, e0⟩)
          refine ⟨(List.range m).map zb, ⟨a, c, by simp, fun hp => ?_⟩, fun h0 k hk => ?_, ?_⟩
          · simp at hp
            obtain ⟨b, o, hA, _, hcell⟩ := k1 hp
            refine ⟨b, o, hA, fun j hj => ?_⟩
            simp at hj
            have := (hcell j hj).2 0 (by omega)
            rw [hzb j hj, Nat.mul_one, Nat.add_zero] at this
            rw [this]
            simp [List.getD_eq_getElem?_getD, hj]
          · obtain ⟨b, o, rfl, hb, _⟩ := k1 h0
            have : b = k := by simpa [Value.ownBlock] using hk
            rw [← this]
            exact hb
          · rcases hD' with h | h
            · omega
            · have hq := hwt ((((List.range m).map D').length + sp'.length) * Try.prog.bytesOf 5) (by
                rw [h]
                simp [DataW.weights, Try.underlying34])
              have hb : Try.prog.bytesOf 5 = 1 := by kernel_rfl
              rw [hb] at hq
              simp at hq
              have := reachBytes_lt
              omega
        rcases open_slice Try.underlying34 g2 with ⟨hc, _⟩ | ⟨a, len, cap, m, fu, D2, Pl, hcs, _⟩
        · simp at hc
          obtain ⟨bs, k1, k2, k3⟩ := inner none 0 0 hc
          exact ⟨((n0, n1, none, 0, 0), bs), by rw [hc], w1, k1, k2, k3⟩
        · simp at hcs
          obtain ⟨bs, k1, k2, k3⟩ := inner (some a) len cap hcs
          exact ⟨((n0, n1, some a, len, cap), bs), by rw [hcs], w1, k1, k2, k3⟩)
  refine ⟨(fun i => (z i).1, fun i => (z i).2), fun hn => ?_, fun i hi => (hz i hi).2⟩
  obtain ⟨b, o, hA, hb, hc⟩ := h1 hn
  exact ⟨b, o, hA, hb, fun i hi => by
    have := hc i hi
    rw [(hz i hi).1] at this
    exact this⟩

end Go.Proofs.Ytpdljgjofebgpaa
