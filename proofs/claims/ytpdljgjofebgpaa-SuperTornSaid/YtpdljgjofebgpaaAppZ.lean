/-
  append of so many zeros (append of make) onto a row of bytes of the call's own.
-/
import Derived.Test.YtpdljgjofebgpaaAppN
import Derived.Test.YtpdljgjofebgpaaSupD
import Derived.Lib.AppendZerosOnto
namespace Go.Proofs.Ytpdljgjofebgpaa
open Go.RowKit

theorem setCells_rowZ {b : Nat} {t : TypeId} : ∀ (vs : List Value) (o : Nat) (w : World) (cur : Array Value), w.heap[b]? = some (.cells cur t (0, 0)) →
    ∃ cur', (w.setCells b o vs).heap[b]? = some (.cells cur' t (0, 0)) ∧ cur'.size = cur.size ∧ (∀ j, j < vs.length → o + j < cur.size → cur'[o + j]? = vs[j]?) ∧ ∀ k, k < o ∨ o + vs.length ≤ k → cur'[k]? = cur[k]?
  | [], o, w, cur, h => ⟨cur, h, rfl, fun j hj => by simp at hj, fun _ _ => rfl⟩
  | v :: vs, o, w, cur, h => by
    obtain ⟨cur', h1, h2, h3, h4⟩ := setCells_rowZ vs (o + 1) (w.setCell ⟨b, o, none⟩ v) _ (heap_setCell_same w b o cur t v h)
    refine ⟨cur', h1, by rw [h2]; simp, fun j hj hs => ?_, fun k hk => ?_⟩
    · cases j with
      | zero =>
        rw [h4 (o + 0) (.inl (by omega))]
        have : o < cur.size := by omega
        simp [this]
      | succ j =>
        have := h3 j (by simpa using hj) (by simp; omega)
        rw [show o + (j + 1) = o + 1 + j by omega, this]
        simp
    · rw [h4 k (by simp at hk ⊢; omega), Array.getElem?_setIfInBounds_ne (by simp at hk; omega)]

theorem Fr.setCellsZ {S : Nat → Prop} {a : World} {b : Nat} (hb : b < a.heap.size → S b) : ∀ (vs : List Value) (o : Nat) {w : World}, Fr S a w → Fr S a (w.setCells b o vs)
  | [], _, _, h => h
  | v :: vs, o, _, h => Fr.setCellsZ hb vs (o + 1) (h.setCell ⟨b, o, none⟩ hb v)

theorem zeroCells_list (u : Value) (n : Nat) : (Builtin.zeroCells #[u] n).toList = List.replicate n u := by
  apply List.ext_getElem?
  intro i
  unfold Builtin.zeroCells
  simp only [Array.toList_map, Array.toList_range, List.getElem?_map, List.getElem?_replicate]
  by_cases h : i < n
  · rw [List.getElem?_range (by simpa using h)]
    simp [h, Nat.mod_one]
  · rw [List.getElem?_eq_none (by simpa using Nat.le_of_not_lt h)]
    simp [h]
theorem bytesV_zeros (bs : List UInt8) (k : Nat) : bytesV (bs ++ List.replicate k 0) = bytesV bs ++ List.replicate k (.int .u8 0) := by
  unfold bytesV
  rw [List.map_append, List.map_replicate]
  rfl

/-- append(row, make([]byte, k)...). -/
theorem wpList_app_zeros {ops : Array Oper} {rest : List Oper} {o : Oper} {a : Act} {w : World} {Q : Exit → Act → World → Prop} (hgd : o.guard = none) (s x : Operand)
    (ho : o.op = .call { callee := .builtin .append, args := #[s, x], argTypes := #[34, 3] })
    (base g n cap : Nat) (bs : List UInt8) (hs : a.eval s = .slice (some ⟨g, 0, none⟩) n cap) (hown : w.ownsRow base 5 1 (.slice (some ⟨g, 0, none⟩) n cap) n (bytesV bs))
    (k : Nat) (hx : a.eval x = .int .i64 k) (h0 : 0 < k) (h63 : n + k ≤ 1000000) (hbase : base ≤ w.heap.size)
    (h : ∀ v' w', Hid (w'.ownsRow base 5 1 v' (n + k) (bytesV (bs ++ List.replicate k 0))) → Hid (Fr (One g) w w') → wpList Try.prog ops Q rest (a.put o.dst v') w') :
    wpList Try.prog ops Q (o :: rest) a w := by
  obtain ⟨i, zv, hi, hz, hzc, hsz, hby⟩ : ∃ i zv, Try.prog.info? 5 = some i ∧ i.zero = some zv ∧ zv.cells = #[.int .u8 0] ∧ i.size = 1 ∧ i.bytes = 1 := by
    have hu := u8_info'
    cases hq : Try.prog.info? 5 with
    | none => simp [hq] at hu
    | some i =>
      simp only [hq, Option.map_some, Option.some.injEq, Prod.mk.injEq] at hu
      obtain ⟨hz1, hz2, hz3⟩ := hu
      cases hzz : i.zero with
      | none => simp [hzz] at hz1
      | some zv => exact ⟨i, zv, rfl, hzz, by simpa [hzz] using hz1, hz2, hz3⟩
  have hl := hown.1
  rw [Nat.mul_one] at hl
  rcases hown.2 with ⟨h1, _⟩ | ⟨g', cap', cur, h1, hbg, hg, hnc, hcm, hcs, htake⟩
  · cases h1
  · simp only [Value.slice.injEq, Option.some.injEq, Addr.mk.injEq, and_true] at h1
    obtain ⟨rfl, _, rfl⟩ := h1
    rw [Nat.mul_one] at hcs
    have hw : IntKind.i64.wrap (k : Int) = k := by rw [IntKind.wrap_i64]; omega
    refine wpList_plain hgd fun K hK => ?_
    by_cases hroom : n + k ≤ cap
    · have hcell : ∀ j, j < k → (w.cell? ⟨g, n + 0 + j, none⟩).isSome = true := fun j hj => by
        rw [cell_of_row w g (n + 0 + j) _ _ (0, 0) hg, Array.getElem?_eq_getElem (by omega)]
        rfl
      have hfz : ∀ j, j < k → w.frozen? ⟨g, n + 0 + j, none⟩ = false := fun j hj => frozen_of_row w g (n + 0 + j) _ _ hg
      have hst := run_storeCells_cells (P := Try.prog) g n (List.replicate k (.int .u8 0)) 0 w (by simpa using hcell) (by simpa using hfz) (fun v hv => by rw [List.eq_of_mem_replicate hv]; rfl)
      rw [Nat.add_zero] at hst
      have hk : k ≠ 0 := by omega
      have hneg : ¬ ((k : Int) < 0) := by omega
      have h48 : ¬ (281474976710656 < (k : Int)) := by omega
      have hr : (Builtin.append_ #[34, 3] o.type #[.slice (some ⟨g, 0, none⟩) n cap, .int .i64 k]).run Try.prog w = .ok (.slice (some ⟨g, 0, none⟩) (n + k) cap) (w.setCells g n (List.replicate k (.int .u8 0))) := by
        simp [Builtin.append_, run_underlying Try.underlying34, run_underlying Try.underlying3, sizeOf, typeInfo, zeroValue, hi, hz, hsz, hby, asInt, asIntOf, hw, hneg, hk, h48, hroom, hzc, zeroCells_list, Addr.add_lit, hst]
      obtain ⟨cur', k1, k2, k3, k4⟩ := setCells_rowZ (List.replicate k (.int .u8 0)) n w cur hg
      unfold Oper.wp execOp
      simp only [ho, resolve, invoke, builtin, Sem.run_bind, Sem.run_pure, Result.andThen_ok, List.map_toArray, List.map_cons, List.map_nil, hs, hx, hr]
      refine hK _ _ (h _ _ (Lib.hid ⟨by rw [bytesV_zeros, List.length_append, hl]; simp, .inr ⟨g, cap, cur', rfl, hbg, k1, hroom, hcm, by rw [k2, Nat.mul_one]; exact hcs, ?_⟩⟩) (Lib.hid (Fr.setCellsZ (S := One g) (fun _ => rfl) _ _ (Fr.refl _ _))))
      rw [Nat.mul_one, bytesV_zeros]
      rw [Nat.mul_one] at htake
      apply List.ext_getElem?
      intro j
      rw [List.getElem?_take]
      by_cases hj : j < n + k
      · rw [if_pos hj, Array.getElem?_toList]
        by_cases hjn : j < n
        · rw [k4 j (.inl hjn), List.getElem?_append_left (by omega), ← htake, List.getElem?_take, if_pos hjn, Array.getElem?_toList]
        · have h3 := k3 (j - n) (by simp; omega) (by omega)
          rw [show n + (j - n) = j by omega] at h3
          rw [h3, List.getElem?_append_right (by omega), hl]
      · rw [if_neg hj, List.getElem?_eq_none (by simp [hl]; omega)]
    · have hold : (Builtin.firstCells i.size n (.slice (some ⟨g, 0, none⟩) n cap)).run Try.prog w.drew = .ok (bytesV bs).toArray w.drew := by
        have := run_firstCells_some (P := Try.prog) w.drew i.size n ⟨g, 0, none⟩ n cap (bytesV bs) (by rw [hsz, Nat.mul_one]; exact hl) (fun j u hj => hown.cells (g := g) rfl j u hj)
        exact this
      have hr := Lib.run_append_grow_zeros (P := Try.prog) w 34 3 o.type 5 i zv .i64 .i64 Try.underlying34 Try.underlying3 hi hz (some ⟨g, 0, none⟩) n cap _ hold k h0 (by omega) (by omega) (by omega) (by rw [hby]; omega) (by
        rw [hby]
        exact growslice_fits (by omega) (by omega))
      have hge := grownCap_ge w (n + k) cap 5
      have hcm2 : grownCap w (n + k) cap 5 ≤ maxLen := grownCap_le_maxLen w (n + k) cap 5 (by simp only [maxLen]; omega)
      unfold Oper.wp execOp
      simp only [ho, resolve, invoke, builtin, Sem.run_bind, Sem.run_pure, Result.andThen_ok, List.map_toArray, List.map_cons, List.map_nil, hs, hx, hr]
      refine hK _ _ (h _ _ (Lib.hid ⟨by rw [bytesV_zeros, List.length_append, hl]; simp, .inr ⟨w.heap.size, _, _, rfl, hbase, heap_alloc_new w.drew _, hge, hcm2, ?_, ?_⟩⟩) (Lib.hid (((Fr.refl _ w).drew).alloc _)))
      · simp only [Array.size_append, List.size_toArray, size_zeroCells, hzc, hl]
        simp
        omega
      · rw [bytesV_zeros]
        simp only [Array.toList_append, hzc, zeroCells_list, List.append_assoc]
        rw [← List.append_assoc]
        exact List.take_left' (by simp [hl])

end Go.Proofs.Ytpdljgjofebgpaa
