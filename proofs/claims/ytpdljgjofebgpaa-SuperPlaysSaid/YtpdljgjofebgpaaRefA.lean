/-
  The document's own device (cellaretref1.Dev): how it lies in memory, what it holds told by the same plain device; gone, Arm.
-/
import Derived.Test.YtpdljgjofebgpaaReadS
namespace Go.Proofs.Ytpdljgjofebgpaa
open Go.RowKit

def kindP : Pg → Int
  | .blank => 0
  | .whole _ => 1
  | .torn => 2
def txtP : Pg → List UInt8
  | .whole bs => bs
  | _ => []
def strB (bs : List UInt8) : Value := .string ⟨bs.toArray⟩
def pgV (p : Pg) : List Value := [.int .i64 (kindP p), strB (txtP p)]
def pgsV (l : List Pg) : List Value := l.flatMap pgV
def boolsV (l : List Bool) : List Value := l.map .bool
def Dv.lasts (D : Dv) : List Pg := D.pg.map (·.1)
def Dv.nows (D : Dv) : List Pg := D.pg.map Pc.now
def Dv.waitB (D : Dv) : List Bool := D.pg.map (·.2.isSome)

theorem pgsV_len : ∀ l : List Pg, (pgsV l).length = l.length * 2
  | [] => rfl
  | b :: L => by
    have := pgsV_len L
    unfold pgsV at this ⊢
    rw [List.flatMap_cons, List.length_append, this]
    show 2 + L.length * 2 = (L.length + 1) * 2
    omega
theorem pgsV_at : ∀ (L : List Pg) (i j : Nat), i < L.length → j < 2 → (pgsV L)[i * 2 + j]? = (pgV (L.getD i .blank))[j]?
  | b :: L, 0, j, _, hj => by
    unfold pgsV
    rw [List.flatMap_cons, Nat.zero_mul, Nat.zero_add, List.getElem?_append_left (show j < 2 from hj)]
    rfl
  | b :: L, i + 1, j, hi, hj => by
    have := pgsV_at L i j (by simpa using hi) hj
    unfold pgsV at this ⊢
    rw [List.flatMap_cons, List.getElem?_append_right (by show 2 ≤ _; omega), show (i + 1) * 2 + j - (pgV b).length = i * 2 + j by show (i + 1) * 2 + j - 2 = _; omega, this]
    rfl
theorem pgsV_set : ∀ (L : List Pg) (i : Nat) (p : Pg), i < L.length → ((pgsV L).set (i * 2) (.int .i64 (kindP p))).set (i * 2 + 1) (strB (txtP p)) = pgsV (L.set i p)
  | b :: L, 0, p, _ => rfl
  | b :: L, i + 1, p, hi => by
    have := pgsV_set L i p (by simpa using hi)
    show ((pgV b ++ pgsV L).set ((i + 1) * 2) _).set ((i + 1) * 2 + 1) _ = pgV b ++ pgsV (L.set i p)
    rw [← this]
    show (([Value.int .i64 (kindP b), strB (txtP b)] ++ pgsV L).set ((i + 1) * 2) _).set ((i + 1) * 2 + 1) _ = [Value.int .i64 (kindP b), strB (txtP b)] ++ _
    rw [show (i + 1) * 2 + 1 = (i * 2 + 1) + 2 by omega, show (i + 1) * 2 = i * 2 + 2 by omega]
    rfl
theorem pgsV_one (L : List Pg) : ∀ v ∈ pgsV L, v.oneCell' = true := fun v hv => by
  unfold pgsV at hv
  rw [List.mem_flatMap] at hv
  obtain ⟨p, _, h⟩ := hv
  simp only [pgV, List.mem_cons, List.not_mem_nil, or_false] at h
  rcases h with rfl | rfl <;> rfl

theorem row_setg {w : World} {base n cap g size : Nat} {t : TypeId} {xs : List Value} (h : w.ownsRow base t size (.slice (some ⟨g, 0, none⟩) n cap) n xs) (i : Nat) (u : Value) : (w.setCell ⟨g, i, none⟩ u).ownsRow base t size (.slice (some ⟨g, 0, none⟩) n cap) n (xs.set i u) := by
  refine ⟨by rw [List.length_set]; exact h.1, .inr ?_⟩
  rcases h.2 with ⟨h1, _⟩ | ⟨g', cap', cur, h1, h2, h3, h4, h5, h6, h7⟩
  · cases h1
  · simp only [Value.slice.injEq, Option.some.injEq, Addr.mk.injEq, and_true] at h1
    obtain ⟨rfl, _, rfl⟩ := h1
    refine ⟨g, cap, cur.setIfInBounds i u, rfl, h2, heap_setCell_same w g i _ _ _ h3, h4, h5, by simpa using h6, ?_⟩
    rw [Array.toList_setIfInBounds, List.take_set, h7]
theorem row_cur {w : World} {base n cap g size : Nat} {t : TypeId} {xs : List Value} (h : w.ownsRow base t size (.slice (some ⟨g, 0, none⟩) n cap) n xs) :
    ∃ cur, w.heap[g]? = some (.cells cur t (0, 0)) ∧ n ≤ cap ∧ cap ≤ maxLen ∧ cur.size = cap * size ∧ cur.toList.take (n * size) = xs := by
  rcases h.2 with ⟨h1, _⟩ | ⟨g', cap', cur, h1, h2, h3, h4, h5, h6, h7⟩
  · cases h1
  · simp only [Value.slice.injEq, Option.some.injEq, Addr.mk.injEq, and_true] at h1
    obtain ⟨rfl, _, rfl⟩ := h1
    exact ⟨cur, h3, h4, h5, h6, h7⟩
theorem row_froz {w : World} {base n cap g size : Nat} {t : TypeId} {xs : List Value} (h : w.ownsRow base t size (.slice (some ⟨g, 0, none⟩) n cap) n xs) (i : Nat) : w.frozen? ⟨g, i, none⟩ = false := by
  obtain ⟨cur, h1, _⟩ := row_cur h
  exact frozen_of_row w g i _ _ h1
theorem row_at {w : World} {base n cap g size : Nat} {t : TypeId} {xs : List Value} (h : w.ownsRow base t size (.slice (some ⟨g, 0, none⟩) n cap) n xs) {i : Nat} {v : Value} (hv : xs[i]? = some v) : w.cell? ⟨g, i, none⟩ = some v := by
  have := h.cells (g := g) rfl i v hv
  rwa [Addr.add_lit, Nat.zero_add] at this

/-- copy, whatever the size of an element, into a row of the same length. -/
theorem wpList_copyG {P : Program} {w : World} {ops : Array Oper} {rest : List Oper} {o : Oper} {a : Act} {Q : Exit → Act → World → Prop} (hgd : o.guard = none) (d s : Operand) (dT sT : TypeId)
    (ho : o.op = .call { callee := .builtin .copy, args := #[d, s], argTypes := #[dT, sT] }) (elem : TypeId) (size : Nat) (hu : P.underlying dT = some (.slice elem)) (hsz : (P.info? elem).map (·.size) = some size)
    (base g g2 n cap cap2 : Nat) (hd : a.eval d = .slice (some ⟨g, 0, none⟩) n cap) (hs : a.eval s = .slice (some ⟨g2, 0, none⟩) n cap2) (xs ys : List Value)
    (hx : w.ownsRow base elem size (.slice (some ⟨g, 0, none⟩) n cap) n xs) (hy : w.ownsRow base elem size (.slice (some ⟨g2, 0, none⟩) n cap2) n ys) (h1 : ∀ v ∈ ys, v.oneCell' = true)
    (h : ∀ w', Hid (w'.ownsRow base elem size (.slice (some ⟨g, 0, none⟩) n cap) n ys) → Hid (Fr (One g) w w') → wpList P ops Q rest (a.put o.dst (.int .i64 n)) w') : wpList P ops Q (o :: rest) a w := by
  cases hq : P.info? elem with
  | none => simp [hq] at hsz
  | some i =>
    simp only [hq, Option.map_some, Option.some.injEq] at hsz
    obtain ⟨cur, c1, c2, c3, c4, c5⟩ := row_cur hx
    have hly := hy.1
    have hnc : n * size ≤ cap * size := Nat.mul_le_mul_right _ c2
    have hload := run_loadCells_list (P := P) w ⟨g2, 0, none⟩ ys (fun j v hj => hy.cells (g := g2) rfl j v hj)
    rw [hly] at hload
    have hst := run_storeCells_cells (P := P) g 0 ys 0 w (fun j hj => by
      rw [cell_of_row w g _ _ _ (0, 0) c1, Array.getElem?_eq_getElem (by omega)]
      rfl) (fun j _ => frozen_of_row w g _ _ _ c1) h1
    rw [Nat.add_zero] at hst
    have hr : (Builtin.copy_ #[dT, sT] o.type #[.slice (some ⟨g, 0, none⟩) n cap, .slice (some ⟨g2, 0, none⟩) n cap2]).run P w = .ok (.int .i64 n) (w.setCells g 0 ys) := by
      simp [Builtin.copy_, run_underlying hu, Builtin.lenOf, Builtin.firstCells, sizeOf, typeInfo, hq, hsz, hload, hst, goInt]
    obtain ⟨cur', k1, k2, k3, k4⟩ := setCells_rowZ ys 0 w cur c1
    refine wpList_plain hgd fun K hK => ?_
    unfold Oper.wp execOp
    simp only [ho, resolve, invoke, builtin, Sem.run_bind, Sem.run_pure, Result.andThen_ok, List.map_toArray, List.map_cons, List.map_nil, hd, hs, hr]
    refine hK _ _ (h _ (Lib.hid ⟨hly, .inr ⟨g, cap, cur', rfl, ?_, k1, c2, c3, by rw [k2]; exact c4, ?_⟩⟩) (Lib.hid (Fr.setCellsZ (S := One g) (fun _ => rfl) _ _ (Fr.refl _ _))))
    · exact (hx.lt g rfl).1
    · apply List.ext_getElem?
      intro j
      rw [List.getElem?_take]
      by_cases hj : j < n * size
      · have h3 := k3 j (by omega) (by omega)
        rw [Nat.zero_add] at h3
        rw [if_pos hj, Array.getElem?_toList, h3]
      · rw [if_neg hj, List.getElem?_eq_none (by omega)]

end Go.Proofs.Ytpdljgjofebgpaa
