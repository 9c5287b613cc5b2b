/-
  append of nothing; rows of bytes that turn cell by cell; strings out of bytes.
-/
import Derived.Test.YtpdljgjofebgpaaFlashL
namespace Go.Proofs.Ytpdljgjofebgpaa
open Go.RowKit

/-- append of nothing. -/
theorem wpList_app_none' {P : Program} {ops : Array Oper} {rest : List Oper} {o : Oper} {a : Act} {w : World} {Q : Exit → Act → World → Prop} (hgd : o.guard = none) (s x : Operand) (t : TypeId)
    (ho : o.op = .call { callee := .builtin .append, args := #[s, x], argTypes := #[t, t] })
    (e : TypeId) (z : Array Value) (size bytes : Nat) (ht : P.underlying t = some (.slice e))
    (hz : (P.info? e).map (fun i => (i.zero.map Value.cells, i.size, i.bytes)) = some (some z, size, bytes))
    (b : Option Addr) (n cap : Nat) (hle : n ≤ cap) (hs : a.eval s = .slice b n cap) (b2 : Option Addr) (c : Nat) (hx : a.eval x = .slice b2 0 c)
    (h : wpList P ops Q rest (a.put o.dst (.slice b n cap)) w) : wpList P ops Q (o :: rest) a w := by
  cases hq : P.info? e with
  | none => simp [hq] at hz
  | some i =>
    have hr : (Builtin.append_ #[t, t] o.type #[.slice b n cap, .slice b2 0 c]).run P w = .ok (.slice b n cap) w := by
      cases b <;> cases b2 <;> simp [Builtin.append_, Builtin.lenOf, Builtin.firstCells, run_underlying ht, sizeOf, typeInfo, hq, hle, storeCells, loadCells, loadCellsFrom]
    refine wpList_plain hgd fun K hK => ?_
    unfold Oper.wp execOp
    simp only [ho, resolve, invoke, builtin, Sem.run_bind, Sem.run_pure, Result.andThen_ok, List.map_toArray, List.map_cons, List.map_nil, hs, hx, hr]
    exact hK _ _ h

/-- Cells of the kind uint8. -/
def u8s (l : List Int) : List Value := l.map fun x => .int .u8 x
theorem bytesV_u8s (l : List UInt8) : bytesV l = u8s (l.map fun b => (b.toNat : Int)) := by unfold bytesV u8s; rw [List.map_map]; rfl
theorem row_set {w : World} {base n cap g : Nat} {t : TypeId} {xs : List Value} (h : w.ownsRow base t 1 (.slice (some ⟨g, 0, none⟩) n cap) n xs) (i : Nat) (u : Value) : (w.setCell ⟨g, i, none⟩ u).ownsRow base t 1 (.slice (some ⟨g, 0, none⟩) n cap) n (xs.set i u) := by
  refine ⟨by rw [List.length_set]; exact h.1, .inr ?_⟩
  rcases h.2 with ⟨h1, _⟩ | ⟨g', cap', cur, h1, h2, h3, h4, h5, h6, h7⟩
  · cases h1
  · simp only [Value.slice.injEq, Option.some.injEq, Addr.mk.injEq, and_true] at h1
    obtain ⟨rfl, _, rfl⟩ := h1
    refine ⟨g, cap, cur.setIfInBounds i u, rfl, h2, heap_setCell_same w g i _ _ _ h3, h4, h5, by simpa using h6, ?_⟩
    rw [Array.toList_setIfInBounds, List.take_set, h7]
theorem row_u8 {w : World} {base n cap g : Nat} {t : TypeId} {l : List Int} (h : w.ownsRow base t 1 (.slice (some ⟨g, 0, none⟩) n cap) n (u8s l)) {i : Nat} (hi : i < n) : (∃ x, w.cell? ⟨g, i, none⟩ = some (.int .u8 x)) ∧ w.frozen? ⟨g, i, none⟩ = false := by
  rcases h.2 with ⟨h1, _⟩ | ⟨g', cap', cur, h1, h2, h3, h4, h5, h6, h7⟩
  · cases h1
  · simp only [Value.slice.injEq, Option.some.injEq, Addr.mk.injEq, and_true] at h1
    obtain ⟨rfl, _, rfl⟩ := h1
    refine ⟨?_, frozen_of_row w g i _ _ h3⟩
    have hl : i < l.length := by have := h.1; unfold u8s at this; simp at this; omega
    refine ⟨l[i], ?_⟩
    rw [cell_of_row w g i _ _ (0, 0) h3]
    have hc : cur[i]? = (u8s l)[i]? := by
      rw [← h7, List.getElem?_take, if_pos (by omega)]
      simp
    rw [hc]
    unfold u8s
    rw [List.getElem?_map, List.getElem?_eq_getElem hl]
    rfl
theorem u8s_set (l : List Int) (i : Nat) (x : Int) : (u8s l).set i (.int .u8 x) = u8s (l.set i x) := by unfold u8s; rw [List.map_set]

theorem setCells_rowZ {b : Nat} {t : TypeId} : ∀ (vs : List Value) (o : Nat) (w : World) (cur : Array Value), w.heap[b]? = some (.cells cur t (0, 0)) →
    ∃ cur', (w.setCells b o vs).heap[b]? = some (.cells cur' t (0, 0)) ∧ cur'.size = cur.size ∧ (∀ j, j < vs.length → o + j < cur.size → cur'[o + j]? = vs[j]?) ∧ ∀ k, k < o ∨ o + vs.length ≤ k → cur'[k]? = cur[k]?
  | [], o, w, cur, h => ⟨cur, h, rfl, fun j hj => by simp at hj, fun _ _ => rfl⟩
  | v :: vs, o, w, cur, h => by
    obtain ⟨cur', h1, h2, h3, h4⟩ := setCells_rowZ vs (o + 1) (w.setCell ⟨b, o, none⟩ v) _ (heap_setCell_same w b o cur t v h)
    refine ⟨cur', h1, by rw [h2]; simp, fun j hj hs => ?_, fun k hk => ?_⟩
    · cases j with
      | zero =>
        rw [h4 (o + 0) (.inl (by omega))]
        have : o < cur.size := by omega
        simp [this]
      | succ j =>
        have := h3 j (by simpa using hj) (by simp; omega)
        rw [show o + (j + 1) = o + 1 + j by omega, this]
        simp
    · rw [h4 k (by simp at hk ⊢; omega), Array.getElem?_setIfInBounds_ne (by simp at hk; omega)]

theorem Fr.setCellsZ {S : Nat → Prop} {a : World} {b : Nat} (hb : b < a.heap.size → S b) : ∀ (vs : List Value) (o : Nat) {w : World}, Fr S a w → Fr S a (w.setCells b o vs)
  | [], _, _, h => h
  | v :: vs, o, _, h => Fr.setCellsZ hb vs (o + 1) (h.setCell ⟨b, o, none⟩ hb v)


end Go.Proofs.Ytpdljgjofebgpaa
