/-
  event: contracts of the reference's key and Back.
-/
import Derived.Test.YthfhlbnjahakaaaDoorEvT
import Derived.Test.YthfhlbnjahakaaaDoorEvIn
import Derived.BigRegion
import Derived.Deep.MidRow
namespace Go.Proofs.YthfhlbnjahakaaaDoor
open Go.RowKit

theorem setCells_rowU {b : Nat} {t : TypeId} : ∀ (vs : List Value) (o : Nat) (w : World) (cur : Array Value), w.heap[b]? = some (.cells cur t (0, 0)) →
    ∃ cur', (w.setCells b o vs).heap[b]? = some (.cells cur' t (0, 0)) ∧ cur'.size = cur.size ∧ (∀ j, j < vs.length → o + j < cur.size → cur'[o + j]? = vs[j]?) ∧ ∀ k, k < o ∨ o + vs.length ≤ k → cur'[k]? = cur[k]?
  | [], o, w, cur, h => ⟨cur, h, rfl, fun j hj => by simp at hj, fun _ _ => rfl⟩
  | v :: vs, o, w, cur, h => by
    obtain ⟨cur', h1, h2, h3, h4⟩ := setCells_rowU vs (o + 1) (w.setCell ⟨b, o, none⟩ v) _ (heap_setCell_same w b o cur t v h)
    refine ⟨cur', h1, by rw [h2]; simp, fun j hj hs => ?_, fun k hk => ?_⟩
    · cases j with
      | zero =>
        rw [h4 (o + 0) (.inl (by omega))]
        have : o < cur.size := by omega
        simp [this]
      | succ j =>
        have := h3 j (by simpa using hj) (by simp; omega)
        rw [show o + (j + 1) = o + 1 + j by omega, this]
        simp
    · rw [h4 k (by simp at hk ⊢; omega), Array.getElem?_setIfInBounds_ne (by simp at hk; omega)]

theorem Fr.setCellsU {S : Nat → Prop} {a : World} {b : Nat} (hb : b < a.heap.size → S b) : ∀ (vs : List Value) (o : Nat) {w : World}, Fr S a w → Fr S a (w.setCells b o vs)
  | [], _, _, h => h
  | v :: vs, o, _, h => Fr.setCellsU hb vs (o + 1) (h.setCell ⟨b, o, none⟩ hb v)

/-- A whole block written anew, as one step of a region that draws its order. -/
theorem step_store {P : Program} {ops : Array Oper} {o : Oper} {a : Act} {w : World} {K : Act → World → Prop} {Q : Exit → Act → World → Prop} {E : Prop} (hgd : o.guard = none) (ty : TypeId) (x y : Operand) (ho : o.op = .store ty x y)
    (b : Nat) (cells : Array Value) (hx : a.eval x = .pointer (some ⟨b, 0, none⟩)) (hy : a.eval y = .agg cells) (t0 : TypeId) (old : Array Value) (hr : w.heap[b]? = some (.cells old t0 (0, 0))) (hs : old.size = cells.size)
    (hi : (P.info? ty).map (·.size) = some cells.size) (h1 : cells.all (·.oneCell') = true)
    (h : ∀ w', Hid (w'.heap[b]? = some (.cells cells t0 (0, 0))) → Hid (Fr (One b) w w') → K (a.put o.dst undef) w') :
    if Region.wanted o (yielded ops a.tmps) = true then Oper.wp P o a w K Q else E := by
  have hw : Region.wanted o (yielded ops a.tmps) = true := by simp [Region.wanted, hgd]
  rw [if_pos hw]
  refine wp_store_mid ty x y ho b 0 cells hx hy (fun j hj => ⟨?_, frozen_of_row w b _ _ _ hr⟩) hi h1 (h _ ?_ ?_)
  · rw [cell_of_row w b _ _ _ (0, 0) hr, Nat.zero_add]
    simp [show j < old.size by omega]
  · obtain ⟨cur', k1, k2, k3, _⟩ := setCells_rowU cells.toList 0 w old hr
    have : cur' = cells := by
      apply Array.ext_getElem?
      intro i
      by_cases hi : i < cells.size
      · have := k3 i (by simpa using hi) (by omega)
        rw [Nat.zero_add] at this
        rw [this, Array.getElem?_toList]
      · rw [Array.getElem?_eq_none (by omega), Array.getElem?_eq_none (by omega)]
    rw [this] at k1
    exact Lib.hid k1
  · exact Lib.hid (Fr.setCellsU (S := One b) (fun _ => rfl) _ _ (Fr.refl _ _))

theorem command_info : (Tryd.prog.info? 28).map (·.size) = some 12 := by kernel_rfl
theorem cmd18_info : (Tryd.prog.info? 31).map (·.size) = some 12 := by kernel_rfl

theorem results_cell {fn : Func} {p : Tmp} {ty : TypeId} (h : fn.results = #[.cell p ty]) (tmps : Array Value) (P : Program) (w : World) :
    (results fn tmps).run P w = ((asAddr (tmps.getD p undef)).run P w).andThen fun a w₁ => (loadVar ty a).run P w₁ := by
  simp only [results, h]
  simp [Result.andThen]

set_option maxHeartbeats 4000000 in
set_option maxRecDepth 100000 in
theorem key17_eq {w : World} {l : List ByteArray} (a b k d : ByteArray) (v : Value) (n1 n2 n3 n4 : Int) (b1 b2 b3 b4 : Bool) (h : RdS w v l) (hk : k = keyOf l) :
    Calls Tryd.prog 27 #[.agg #[.string a, .string b, v, .string d, .int .u32 n1, .int .i64 n2, .int .u64 n3, .int .u64 n4, .bool b1, .bool b2, .bool b3, .bool b4]] w fun e w' => e = .returned (.string k) ∧ Fr Nob w w' := by
  obtain ⟨A, cap, rfl, hc0, h⟩ := h
  subst hk
  cases l with
  | nil =>
    have f1 : Fr Nob w (w.alloc (.cells #[.string a, .string b, .slice A 0 cap, .string d, .int .u32 n1, .int .i64 n2, .int .u64 n3, .int .u64 n4, .bool b1, .bool b2, .bool b3, .bool b4] 31)) := (Fr.refl Nob w).alloc _
    go_enter Tryd.func27, Tryd.ntmps27
    go_wp2_with fail
    go_ret
    exact ⟨rfl, f1⟩
  | cons x r =>
    obtain ⟨g, o, rfl, hc⟩ := h (by simp)
    have c0 := hc 0 x rfl
    rw [Nat.add_zero] at c0
    have f1 : Fr Nob w (w.alloc (.cells #[.string a, .string b, .slice (some ⟨g, o, none⟩) (r.length + 1) cap, .string d, .int .u32 n1, .int .i64 n2, .int .u64 n3, .int .u64 n4, .bool b1, .bool b2, .bool b3, .bool b4] 31)) := (Fr.refl Nob w).alloc _
    have c1 := f1.cell c0 fun h => h
    have F1 := Lib.hid f1
    have hlen : (x :: r).length = r.length + 1 := rfl
    rw [hlen]
    clear hc c0 f1 hlen h
    go_enter Tryd.func27, Tryd.ntmps27
    go_wp2_with fail
    go_ret
    exact ⟨rfl, F1.out⟩

-- BACK

set_option maxHeartbeats 8000000 in
set_option maxRecDepth 100000 in
theorem back_flush {w : World} {l : List ByteArray} (b d : ByteArray) (v : Value) (n1 n2 n3 n4 : Int) (b1 b2 b3 b4 : Bool) (h : RdS w v l) :
    Calls Tryd.prog 13 #[.agg #[.string ⟨#[102, 108, 117, 115, 104]⟩, .string b, v, .string d, .int .u32 n1, .int .i64 n2, .int .u64 n3, .int .u64 n4, .bool b1, .bool b2, .bool b3, .bool b4]] w fun e w' => e = .returned (.agg #[.string ⟨#[102, 108, 117, 115, 104]⟩, .string ⟨#[]⟩, .slice none 0 0, .string ⟨#[]⟩, .int .u32 0, .int .i64 0, .int .u64 0, .int .u64 0, .bool false, .bool false, .bool false, .bool b4]) ∧ Fr Nob w w' := by
  obtain ⟨A, cap, rfl, hc0, hq⟩ := h
  clear hc0 hq
  go_enter Tryd.func13, Tryd.ntmps13
  go_wp2_with fail
  refine bodyPost_ret ?_ rfl ⟨rfl, ?_⟩
  · rw [results_cell rfl]
    go_simp
  · exact ((Fr.refl Nob w).alloc _).alloc _

set_option maxHeartbeats 8000000 in
set_option maxRecDepth 100000 in
theorem back_bad {w : World} {l : List ByteArray} (b d : ByteArray) (v : Value) (n1 n2 n3 n4 : Int) (b1 b2 b3 b4 : Bool) (h : RdS w v l) :
    Calls Tryd.prog 13 #[.agg #[.string ⟨#[98, 97, 100]⟩, .string b, v, .string d, .int .u32 n1, .int .i64 n2, .int .u64 n3, .int .u64 n4, .bool b1, .bool b2, .bool b3, .bool b4]] w fun e w' => e = .returned (.agg #[.string ⟨#[98, 97, 100]⟩, .string b, .slice none 0 0, .string ⟨#[]⟩, .int .u32 0, .int .i64 0, .int .u64 0, .int .u64 0, .bool false, .bool false, .bool false, .bool false]) ∧ Fr Nob w w' := by
  obtain ⟨A, cap, rfl, hc0, hq⟩ := h
  clear hc0 hq
  go_enter Tryd.func13, Tryd.ntmps13
  go_wp2_with fail
  refine bodyPost_ret ?_ rfl ⟨rfl, ?_⟩
  · rw [results_cell rfl]
    go_simp
  · exact ((Fr.refl Nob w).alloc _).alloc _

set_option maxHeartbeats 8000000 in
set_option maxRecDepth 100000 in
theorem back_word {w : World} {l : List ByteArray} (b d : ByteArray) (v : Value) (n1 n2 n3 n4 : Int) (b1 b2 b3 b4 : Bool) (h : RdS w v l) :
    Calls Tryd.prog 13 #[.agg #[.string ⟨#[119, 111, 114, 100]⟩, .string b, v, .string d, .int .u32 n1, .int .i64 n2, .int .u64 n3, .int .u64 n4, .bool b1, .bool b2, .bool b3, .bool b4]] w fun e w' => e = .returned (.agg #[.string ⟨#[119, 111, 114, 100]⟩, .string b, .slice none 0 0, .string ⟨#[]⟩, .int .u32 0, .int .i64 0, .int .u64 0, .int .u64 0, .bool false, .bool false, .bool false, .bool false]) ∧ Fr Nob w w' := by
  obtain ⟨A, cap, rfl, hc0, hq⟩ := h
  clear hc0 hq
  go_enter Tryd.func13, Tryd.ntmps13
  go_wp2_with fail
  refine bodyPost_ret ?_ rfl ⟨rfl, ?_⟩
  · rw [results_cell rfl]
    go_simp
  · exact ((Fr.refl Nob w).alloc _).alloc _

set_option maxHeartbeats 8000000 in
set_option maxRecDepth 100000 in
theorem back_none {w : World} {l : List ByteArray} (a : ByteArray) (b d : ByteArray) (v : Value) (n1 n2 n3 n4 : Int) (b1 b2 b3 b4 : Bool) (h : RdS w v l) (h8 : noWord a) :
    Calls Tryd.prog 13 #[.agg #[.string a, .string b, v, .string d, .int .u32 n1, .int .i64 n2, .int .u64 n3, .int .u64 n4, .bool b1, .bool b2, .bool b3, .bool b4]] w fun e w' => e = .returned (.agg #[.string ⟨#[]⟩, .string ⟨#[]⟩, .slice none 0 0, .string ⟨#[]⟩, .int .u32 0, .int .i64 0, .int .u64 0, .int .u64 0, .bool false, .bool false, .bool false, .bool false]) ∧ Fr Nob w w' := by
  obtain ⟨A, cap, rfl, hc0, hq⟩ := h
  clear hc0 hq
  obtain ⟨h1, h2, h3, h4, h5, h6, h7, h8⟩ := h8
  have g1 := lit_ne h1
  have g2 := lit_ne h2
  have g3 := lit_ne h3
  have g4 := lit_ne h4
  have g5 := lit_ne h5
  have g6 := lit_ne h6
  have g7 := lit_ne h7
  have g8 := lit_ne h8
  clear h1 h2 h3 h4 h5 h6 h7 h8
  go_enter Tryd.func13, Tryd.ntmps13
  go_wp2_with fail
  refine bodyPost_ret ?_ rfl ⟨rfl, ?_⟩
  · rw [results_cell rfl]
    go_simp
  · exact ((Fr.refl Nob w).alloc _).alloc _

set_option maxHeartbeats 8000000 in
set_option maxRecDepth 100000 in
theorem back_get0 {w : World} (b d : ByteArray) (v : Value) (n1 n2 n3 n4 : Int) (b1 b2 b3 b4 : Bool) (h : RdS w v []) :
    Calls Tryd.prog 13 #[.agg #[.string ⟨#[103, 101, 116]⟩, .string b, v, .string d, .int .u32 n1, .int .i64 n2, .int .u64 n3, .int .u64 n4, .bool b1, .bool b2, .bool b3, .bool b4]] w fun e w' => ∃ v', e = .returned (.agg #[.string ⟨#[103, 101, 116]⟩, .string ⟨#[]⟩, v', .string ⟨#[]⟩, .int .u32 0, .int .i64 n2, .int .u64 0, .int .u64 0, .bool b1, .bool b2, .bool false, .bool false]) ∧ Hid (RdS w' v' []) ∧ Hid (Fr Nob w w') := by
  obtain ⟨A, cap, rfl, hc0, hq⟩ := id h
  clear hq
  clear hc0
  obtain ⟨B, hB⟩ : ∃ B, B = w.heap.size := ⟨_, rfl⟩
  obtain ⟨R, hR⟩ : ∃ R, R = B + 1 := ⟨_, rfl⟩
  obtain ⟨w2, hw2⟩ : ∃ w2, w2 = (w.alloc (.cells #[.string ⟨#[103, 101, 116]⟩, .string b, .slice A 0 cap, .string d, .int .u32 n1, .int .i64 n2, .int .u64 n3, .int .u64 n4, .bool b1, .bool b2, .bool b3, .bool b4] 31)).alloc (.cells #[.string ⟨#[]⟩, .string ⟨#[]⟩, .slice none 0 0, .string ⟨#[]⟩, .int .u32 0, .int .i64 0, .int .u64 0, .int .u64 0, .bool false, .bool false, .bool false, .bool false] 28) := ⟨_, rfl⟩
  have f2 : Fr Nob w w2 := by rw [hw2]; exact ((Fr.refl Nob w).alloc _).alloc _
  have h2 : w2.heap[B]? = some (.cells #[.string ⟨#[103, 101, 116]⟩, .string b, .slice A 0 cap, .string d, .int .u32 n1, .int .i64 n2, .int .u64 n3, .int .u64 n4, .bool b1, .bool b2, .bool b3, .bool b4] 31 (0, 0)) := by rw [hw2, hB]; exact (frB _).heap (heap_alloc_new w _) fun h => h
  have r2 : w2.heap[R]? = some (.cells #[.string ⟨#[]⟩, .string ⟨#[]⟩, .slice none 0 0, .string ⟨#[]⟩, .int .u32 0, .int .i64 0, .int .u64 0, .int .u64 0, .bool false, .bool false, .bool false, .bool false] 28 (0, 0)) := by rw [hw2, hR, hB]; exact heap_alloc_at _ _ _ (by simp)
  have F2 := Lib.hid f2
  have H2 := Lib.hid h2
  have R2 := Lib.hid r2
  have HW := Lib.hid hw2.symm
  have HB := Lib.hid hB.symm
  have HR := Lib.hid hR.symm
  clear f2 h2 r2 hw2 hB hR
  have LS : Hid (∀ W : World, W.heap[B]? = some (.cells #[.string ⟨#[103, 101, 116]⟩, .string b, .slice A 0 cap, .string d, .int .u32 n1, .int .i64 n2, .int .u64 n3, .int .u64 n4, .bool b1, .bool b2, .bool b3, .bool b4] 31 (0, 0)) → (W.cell? ⟨B, 0, none⟩ = some (.string ⟨#[103, 101, 116]⟩) ∧ W.cell? ⟨B, 1, none⟩ = some (.string b) ∧ W.cell? ⟨B, 2, none⟩ = some (.slice A 0 cap) ∧ W.cell? ⟨B, 3, none⟩ = some (.string d) ∧ W.cell? ⟨B, 4, none⟩ = some (.int .u32 n1) ∧ W.cell? ⟨B, 5, none⟩ = some (.int .i64 n2) ∧ W.cell? ⟨B, 6, none⟩ = some (.int .u64 n3) ∧ W.cell? ⟨B, 7, none⟩ = some (.int .u64 n4) ∧ W.cell? ⟨B, 8, none⟩ = some (.bool b1) ∧ W.cell? ⟨B, 9, none⟩ = some (.bool b2) ∧ W.cell? ⟨B, 10, none⟩ = some (.bool b3) ∧ W.cell? ⟨B, 11, none⟩ = some (.bool b4))) := Lib.hid fun W h => ⟨cell_of_row W B 0 _ _ (0, 0) h, cell_of_row W B 1 _ _ (0, 0) h, cell_of_row W B 2 _ _ (0, 0) h, cell_of_row W B 3 _ _ (0, 0) h, cell_of_row W B 4 _ _ (0, 0) h, cell_of_row W B 5 _ _ (0, 0) h, cell_of_row W B 6 _ _ (0, 0) h, cell_of_row W B 7 _ _ (0, 0) h, cell_of_row W B 8 _ _ (0, 0) h, cell_of_row W B 9 _ _ (0, 0) h, cell_of_row W B 10 _ _ (0, 0) h, cell_of_row W B 11 _ _ (0, 0) h⟩
  have NE : Hid (¬ One R B) := Lib.hid (by unfold One; have := HR.out; omega)
  have HD : Hid (w2.drew.heap[B]? = some (.cells #[.string ⟨#[103, 101, 116]⟩, .string b, .slice A 0 cap, .string d, .int .u32 n1, .int .i64 n2, .int .u64 n3, .int .u64 n4, .bool b1, .bool b2, .bool b3, .bool b4] 31 (0, 0))) := Lib.hid H2.out
  have HA : Hid ((w2.alloc (.cells #[] 9)).drew.heap[B]? = some (.cells #[.string ⟨#[103, 101, 116]⟩, .string b, .slice A 0 cap, .string d, .int .u32 n1, .int .i64 n2, .int .u64 n3, .int .u64 n4, .bool b1, .bool b2, .bool b3, .bool b4] 31 (0, 0))) := Lib.hid ((frB (w := w2) _).drew.heap H2.out fun h => h)
  have RA : Hid ((w2.alloc (.cells #[] 9)).drew.heap[R]? = some (.cells #[.string ⟨#[]⟩, .string ⟨#[]⟩, .slice none 0 0, .string ⟨#[]⟩, .int .u32 0, .int .i64 0, .int .u64 0, .int .u64 0, .bool false, .bool false, .bool false, .bool false] 28 (0, 0))) := Lib.hid ((frB (w := w2) _).drew.heap R2.out fun h => h)
  have FA : Hid (Fr Nob w (w2.alloc (.cells #[] 9)).drew) := Lib.hid (F2.out.alloc _).drew
  have RL : Hid (R < w2.heap.size) := Lib.hid (lt_of_block R2.out)
  have BL : Hid (B < w2.heap.size) := Lib.hid (lt_of_block H2.out)
  have own : Hid ((w2.alloc (.cells #[] 9)).drew.ownsRow w2.heap.size 9 1 (.slice (some ⟨w2.heap.size, 0, none⟩) 0 0) 0 []) := Lib.hid (World.ownsRow_made w2.drew #[] 0 (Nat.le_refl _) (Nat.zero_le _) rfl)
  have F5 : Hid (Fr Nob w (w2.alloc (.cells #[] 9))) := Lib.hid (F2.out.alloc _)
  have RV : Hid (RdS (w2.alloc (.cells #[] 9)).drew (.slice (some ⟨w2.heap.size, 0, none⟩) 0 0) []) := Lib.hid (own_rd own.out)
  have NR : Hid (∀ k, (Value.slice (some ⟨w2.heap.size, 0, none⟩) 0 0).ownBlock = some k → R < k) := Lib.hid fun k e => by simp [Value.ownBlock] at e; have := RL.out; omega
  have z0 : (w2.alloc (.cells #[] 9)).cell? ⟨R, 0, none⟩ = some (.string ⟨#[]⟩) := cell_of_row _ R 0 _ _ (0, 0) RA.out
  have z1 : (w2.alloc (.cells #[] 9)).cell? ⟨R, 1, none⟩ = some (.string ⟨#[]⟩) := cell_of_row _ R 1 _ _ (0, 0) RA.out
  have z2 : (w2.alloc (.cells #[] 9)).cell? ⟨R, 2, none⟩ = some (.slice none 0 0) := cell_of_row _ R 2 _ _ (0, 0) RA.out
  have z3 : (w2.alloc (.cells #[] 9)).cell? ⟨R, 3, none⟩ = some (.string ⟨#[]⟩) := cell_of_row _ R 3 _ _ (0, 0) RA.out
  have z4 : (w2.alloc (.cells #[] 9)).cell? ⟨R, 4, none⟩ = some (.int .u32 0) := cell_of_row _ R 4 _ _ (0, 0) RA.out
  have z5 : (w2.alloc (.cells #[] 9)).cell? ⟨R, 5, none⟩ = some (.int .i64 0) := cell_of_row _ R 5 _ _ (0, 0) RA.out
  have z6 : (w2.alloc (.cells #[] 9)).cell? ⟨R, 6, none⟩ = some (.int .u64 0) := cell_of_row _ R 6 _ _ (0, 0) RA.out
  have z7 : (w2.alloc (.cells #[] 9)).cell? ⟨R, 7, none⟩ = some (.int .u64 0) := cell_of_row _ R 7 _ _ (0, 0) RA.out
  have z8 : (w2.alloc (.cells #[] 9)).cell? ⟨R, 8, none⟩ = some (.bool false) := cell_of_row _ R 8 _ _ (0, 0) RA.out
  have z9 : (w2.alloc (.cells #[] 9)).cell? ⟨R, 9, none⟩ = some (.bool false) := cell_of_row _ R 9 _ _ (0, 0) RA.out
  have z10 : (w2.alloc (.cells #[] 9)).cell? ⟨R, 10, none⟩ = some (.bool false) := cell_of_row _ R 10 _ _ (0, 0) RA.out
  have z11 : (w2.alloc (.cells #[] 9)).cell? ⟨R, 11, none⟩ = some (.bool false) := cell_of_row _ R 11 _ _ (0, 0) RA.out
  have y0 : (w2.alloc (.cells #[] 9)).frozen? ⟨R, 0, none⟩ = false := frozen_of_row _ R 0 _ _ RA.out
  have y1 : (w2.alloc (.cells #[] 9)).frozen? ⟨R, 1, none⟩ = false := frozen_of_row _ R 1 _ _ RA.out
  have y2 : (w2.alloc (.cells #[] 9)).frozen? ⟨R, 2, none⟩ = false := frozen_of_row _ R 2 _ _ RA.out
  have y3 : (w2.alloc (.cells #[] 9)).frozen? ⟨R, 3, none⟩ = false := frozen_of_row _ R 3 _ _ RA.out
  have y4 : (w2.alloc (.cells #[] 9)).frozen? ⟨R, 4, none⟩ = false := frozen_of_row _ R 4 _ _ RA.out
  have y5 : (w2.alloc (.cells #[] 9)).frozen? ⟨R, 5, none⟩ = false := frozen_of_row _ R 5 _ _ RA.out
  have y6 : (w2.alloc (.cells #[] 9)).frozen? ⟨R, 6, none⟩ = false := frozen_of_row _ R 6 _ _ RA.out
  have y7 : (w2.alloc (.cells #[] 9)).frozen? ⟨R, 7, none⟩ = false := frozen_of_row _ R 7 _ _ RA.out
  have y8 : (w2.alloc (.cells #[] 9)).frozen? ⟨R, 8, none⟩ = false := frozen_of_row _ R 8 _ _ RA.out
  have y9 : (w2.alloc (.cells #[] 9)).frozen? ⟨R, 9, none⟩ = false := frozen_of_row _ R 9 _ _ RA.out
  have y10 : (w2.alloc (.cells #[] 9)).frozen? ⟨R, 10, none⟩ = false := frozen_of_row _ R 10 _ _ RA.out
  have y11 : (w2.alloc (.cells #[] 9)).frozen? ⟨R, 11, none⟩ = false := frozen_of_row _ R 11 _ _ RA.out
  clear h
  go_enter Tryd.func13, Tryd.ntmps13
  go_wp2_with fail
  rw [HW.out, HB.out, HR.out]
  go_region_held3 (fun w' => w'.cell? ⟨B, 0, none⟩ = some (.string ⟨#[103, 101, 116]⟩) ∧ w'.cell? ⟨B, 1, none⟩ = some (.string b) ∧ w'.cell? ⟨B, 2, none⟩ = some (.slice A 0 cap) ∧ w'.cell? ⟨B, 3, none⟩ = some (.string d) ∧ w'.cell? ⟨B, 4, none⟩ = some (.int .u32 n1) ∧ w'.cell? ⟨B, 5, none⟩ = some (.int .i64 n2) ∧ w'.cell? ⟨B, 6, none⟩ = some (.int .u64 n3) ∧ w'.cell? ⟨B, 7, none⟩ = some (.int .u64 n4) ∧ w'.cell? ⟨B, 8, none⟩ = some (.bool b1) ∧ w'.cell? ⟨B, 9, none⟩ = some (.bool b2) ∧ w'.cell? ⟨B, 10, none⟩ = some (.bool b3) ∧ w'.cell? ⟨B, 11, none⟩ = some (.bool b4))
    (first | with_reducible exact LS.out _ HD.out | with_reducible exact LS.out _ HA.out | (refine LS.out _ (Fr.heap (S := One R) (w := (w2.alloc (.cells #[] 9))) ?_ HA.out NE.out); (repeat (with_reducible first | refine Fr.drew ?_ | refine Fr.set1 ?_ _ | exact Fr.refl _ _))))
    (first
    | (refine step_app_none (o := ⟨some 10, _, _, _, _, _⟩) rfl (.tmp 7) (.tmp 9) 24 rfl 9 #[.string ⟨#[]⟩] 1 16 Tryd.underlying24 str_info (some ⟨w2.heap.size, 0, none⟩) 0 0 (Nat.le_refl _) rfl A cap rfl ?_))
  all_goals
    go_wp2_with fail
    refine bodyPost_ret (v := .agg #[.string ⟨#[103, 101, 116]⟩, .string ⟨#[]⟩, (.slice (some ⟨w2.heap.size, 0, none⟩) 0 0), .string ⟨#[]⟩, .int .u32 0, .int .i64 n2, .int .u64 0, .int .u64 0, .bool b1, .bool b2, .bool false, .bool false]) ?_ rfl ⟨(.slice (some ⟨w2.heap.size, 0, none⟩) 0 0), rfl, Lib.hid ?_, Lib.hid ?_⟩
    · rw [results_cell rfl]
      go_simp
    · refine RdS.keep (S := One R) (w := (w2.alloc (.cells #[] 9))) RV.out ?_ (fun i e h => ?_)
      · repeat (with_reducible first | refine Fr.drew ?_ | refine Fr.set1 ?_ _ | exact Fr.refl _ _)
      · have := NR.out i e
        unfold One at h
        omega
    · refine Fr.trans F5.out (S' := One R) (b := (w2.alloc (.cells #[] 9))) ?_ (fun i hi e => ?_)
      · repeat (with_reducible first | refine Fr.drew ?_ | refine Fr.set1 ?_ _ | exact Fr.refl _ _)
      · have := HR.out
        have := HB.out
        unfold One at e
        omega

set_option maxHeartbeats 8000000 in
set_option maxRecDepth 100000 in
theorem back_get1 {w : World} {l : List ByteArray} (b d : ByteArray) (v : Value) (n1 n2 n3 n4 : Int) (b1 b2 b3 b4 : Bool) (h : RdS w v l) (hn : l.length ≤ 1000000000) (hp : 0 < l.length):
    Calls Tryd.prog 13 #[.agg #[.string ⟨#[103, 101, 116]⟩, .string b, v, .string d, .int .u32 n1, .int .i64 n2, .int .u64 n3, .int .u64 n4, .bool b1, .bool b2, .bool b3, .bool b4]] w fun e w' => ∃ v', e = .returned (.agg #[.string ⟨#[103, 101, 116]⟩, .string ⟨#[]⟩, v', .string ⟨#[]⟩, .int .u32 0, .int .i64 n2, .int .u64 0, .int .u64 0, .bool b1, .bool b2, .bool false, .bool false]) ∧ Hid (RdS w' v' l) ∧ Hid (Fr Nob w w') := by
  obtain ⟨A, cap, rfl, hc0, hq⟩ := id h
  obtain ⟨g, o, rfl, hc⟩ := hq hp
  have HC := Lib.hid hc
  clear hq hc hp
  clear hc0
  obtain ⟨B, hB⟩ : ∃ B, B = w.heap.size := ⟨_, rfl⟩
  obtain ⟨R, hR⟩ : ∃ R, R = B + 1 := ⟨_, rfl⟩
  obtain ⟨w2, hw2⟩ : ∃ w2, w2 = (w.alloc (.cells #[.string ⟨#[103, 101, 116]⟩, .string b, .slice (some ⟨g, o, none⟩) l.length cap, .string d, .int .u32 n1, .int .i64 n2, .int .u64 n3, .int .u64 n4, .bool b1, .bool b2, .bool b3, .bool b4] 31)).alloc (.cells #[.string ⟨#[]⟩, .string ⟨#[]⟩, .slice none 0 0, .string ⟨#[]⟩, .int .u32 0, .int .i64 0, .int .u64 0, .int .u64 0, .bool false, .bool false, .bool false, .bool false] 28) := ⟨_, rfl⟩
  have f2 : Fr Nob w w2 := by rw [hw2]; exact ((Fr.refl Nob w).alloc _).alloc _
  have h2 : w2.heap[B]? = some (.cells #[.string ⟨#[103, 101, 116]⟩, .string b, .slice (some ⟨g, o, none⟩) l.length cap, .string d, .int .u32 n1, .int .i64 n2, .int .u64 n3, .int .u64 n4, .bool b1, .bool b2, .bool b3, .bool b4] 31 (0, 0)) := by rw [hw2, hB]; exact (frB _).heap (heap_alloc_new w _) fun h => h
  have r2 : w2.heap[R]? = some (.cells #[.string ⟨#[]⟩, .string ⟨#[]⟩, .slice none 0 0, .string ⟨#[]⟩, .int .u32 0, .int .i64 0, .int .u64 0, .int .u64 0, .bool false, .bool false, .bool false, .bool false] 28 (0, 0)) := by rw [hw2, hR, hB]; exact heap_alloc_at _ _ _ (by simp)
  have F2 := Lib.hid f2
  have H2 := Lib.hid h2
  have R2 := Lib.hid r2
  have HW := Lib.hid hw2.symm
  have HB := Lib.hid hB.symm
  have HR := Lib.hid hR.symm
  clear f2 h2 r2 hw2 hB hR
  have LS : Hid (∀ W : World, W.heap[B]? = some (.cells #[.string ⟨#[103, 101, 116]⟩, .string b, .slice (some ⟨g, o, none⟩) l.length cap, .string d, .int .u32 n1, .int .i64 n2, .int .u64 n3, .int .u64 n4, .bool b1, .bool b2, .bool b3, .bool b4] 31 (0, 0)) → (W.cell? ⟨B, 0, none⟩ = some (.string ⟨#[103, 101, 116]⟩) ∧ W.cell? ⟨B, 1, none⟩ = some (.string b) ∧ W.cell? ⟨B, 2, none⟩ = some (.slice (some ⟨g, o, none⟩) l.length cap) ∧ W.cell? ⟨B, 3, none⟩ = some (.string d) ∧ W.cell? ⟨B, 4, none⟩ = some (.int .u32 n1) ∧ W.cell? ⟨B, 5, none⟩ = some (.int .i64 n2) ∧ W.cell? ⟨B, 6, none⟩ = some (.int .u64 n3) ∧ W.cell? ⟨B, 7, none⟩ = some (.int .u64 n4) ∧ W.cell? ⟨B, 8, none⟩ = some (.bool b1) ∧ W.cell? ⟨B, 9, none⟩ = some (.bool b2) ∧ W.cell? ⟨B, 10, none⟩ = some (.bool b3) ∧ W.cell? ⟨B, 11, none⟩ = some (.bool b4))) := Lib.hid fun W h => ⟨cell_of_row W B 0 _ _ (0, 0) h, cell_of_row W B 1 _ _ (0, 0) h, cell_of_row W B 2 _ _ (0, 0) h, cell_of_row W B 3 _ _ (0, 0) h, cell_of_row W B 4 _ _ (0, 0) h, cell_of_row W B 5 _ _ (0, 0) h, cell_of_row W B 6 _ _ (0, 0) h, cell_of_row W B 7 _ _ (0, 0) h, cell_of_row W B 8 _ _ (0, 0) h, cell_of_row W B 9 _ _ (0, 0) h, cell_of_row W B 10 _ _ (0, 0) h, cell_of_row W B 11 _ _ (0, 0) h⟩
  have NE : Hid (¬ One R B) := Lib.hid (by unfold One; have := HR.out; omega)
  have HD : Hid (w2.drew.heap[B]? = some (.cells #[.string ⟨#[103, 101, 116]⟩, .string b, .slice (some ⟨g, o, none⟩) l.length cap, .string d, .int .u32 n1, .int .i64 n2, .int .u64 n3, .int .u64 n4, .bool b1, .bool b2, .bool b3, .bool b4] 31 (0, 0))) := Lib.hid H2.out
  have HA : Hid ((w2.alloc (.cells #[] 9)).drew.heap[B]? = some (.cells #[.string ⟨#[103, 101, 116]⟩, .string b, .slice (some ⟨g, o, none⟩) l.length cap, .string d, .int .u32 n1, .int .i64 n2, .int .u64 n3, .int .u64 n4, .bool b1, .bool b2, .bool b3, .bool b4] 31 (0, 0))) := Lib.hid ((frB (w := w2) _).drew.heap H2.out fun h => h)
  have RA : Hid ((w2.alloc (.cells #[] 9)).drew.heap[R]? = some (.cells #[.string ⟨#[]⟩, .string ⟨#[]⟩, .slice none 0 0, .string ⟨#[]⟩, .int .u32 0, .int .i64 0, .int .u64 0, .int .u64 0, .bool false, .bool false, .bool false, .bool false] 28 (0, 0))) := Lib.hid ((frB (w := w2) _).drew.heap R2.out fun h => h)
  have FA : Hid (Fr Nob w (w2.alloc (.cells #[] 9)).drew) := Lib.hid (F2.out.alloc _).drew
  have RL : Hid (R < w2.heap.size) := Lib.hid (lt_of_block R2.out)
  have BL : Hid (B < w2.heap.size) := Lib.hid (lt_of_block H2.out)
  have own : Hid ((w2.alloc (.cells #[] 9)).drew.ownsRow w2.heap.size 9 1 (.slice (some ⟨w2.heap.size, 0, none⟩) 0 0) 0 []) := Lib.hid (World.ownsRow_made w2.drew #[] 0 (Nat.le_refl _) (Nat.zero_le _) rfl)
  have NEWS : Hid (∀ j u, (strsV l)[j]? = some u → (w2.alloc (.cells #[] 9)).drew.cell? ((⟨g, o, none⟩ : Addr).add j) = some u) := Lib.hid fun j u hu => by
    unfold strsV at hu
    rw [List.getElem?_map] at hu
    obtain ⟨k, hk, rfl⟩ := Option.map_eq_some_iff.1 hu
    rw [Addr.add_lit]
    exact FA.out.cell (HC.out j k hk) fun h => h
  have HLN : Hid ((strsV l).length = l.length * 1) := Lib.hid (by unfold strsV; rw [List.length_map, Nat.mul_one])
  clear h HC
  go_enter Tryd.func13, Tryd.ntmps13
  go_wp2_with fail
  rw [HW.out, HB.out, HR.out]
  go_region_held3 (fun w' => w'.cell? ⟨B, 0, none⟩ = some (.string ⟨#[103, 101, 116]⟩) ∧ w'.cell? ⟨B, 1, none⟩ = some (.string b) ∧ w'.cell? ⟨B, 2, none⟩ = some (.slice (some ⟨g, o, none⟩) l.length cap) ∧ w'.cell? ⟨B, 3, none⟩ = some (.string d) ∧ w'.cell? ⟨B, 4, none⟩ = some (.int .u32 n1) ∧ w'.cell? ⟨B, 5, none⟩ = some (.int .i64 n2) ∧ w'.cell? ⟨B, 6, none⟩ = some (.int .u64 n3) ∧ w'.cell? ⟨B, 7, none⟩ = some (.int .u64 n4) ∧ w'.cell? ⟨B, 8, none⟩ = some (.bool b1) ∧ w'.cell? ⟨B, 9, none⟩ = some (.bool b2) ∧ w'.cell? ⟨B, 10, none⟩ = some (.bool b3) ∧ w'.cell? ⟨B, 11, none⟩ = some (.bool b4))
    (first | with_reducible exact LS.out _ HD.out | with_reducible exact LS.out _ HA.out | with_reducible exact LS.out _ H5.out | (refine LS.out _ (Fr.heap (S := One R) (w := w5) ?_ H5.out NE.out); (repeat (with_reducible first | refine Fr.set1 ?_ _ | exact Fr.refl _ _))))
    (first
    | (refine step_app (o := ⟨some 10, _, _, _, _, _⟩) rfl (.tmp 7) (.tmp 9) 24 rfl 9 #[.string ⟨#[]⟩] 1 16 Tryd.underlying24 str_info rfl (by omega) w2.heap.size (.slice (some ⟨w2.heap.size, 0, none⟩) 0 0) 0 [] rfl own.out ⟨g, o, none⟩ l.length cap (strsV l) rfl HLN.out NEWS.out (strsV_one _) (by omega) (by omega) (by simp) ?_
       intro v5 w5 o5 f5 h5
       clear h5
       rw [Nat.zero_add, List.nil_append] at o5
       obtain ⟨a5, c5, rfl⟩ := own_sl o5.out
       have NO : Hid (∀ k, k < w2.heap.size → ¬ (fun k => (Value.slice (some ⟨w2.heap.size, 0, none⟩) 0 0).ownBlock = some k) k) := Lib.hid fun k hk e => by simp [Value.ownBlock] at e; omega
       have H5 := Lib.hid (f5.out.heap HA.out (NO.out B BL.out)); have R5 := f5.out.heap RA.out (NO.out R RL.out)
       have z0 : w5.cell? ⟨R, 0, none⟩ = some (.string ⟨#[]⟩) := cell_of_row _ R 0 _ _ (0, 0) R5; have z1 : w5.cell? ⟨R, 1, none⟩ = some (.string ⟨#[]⟩) := cell_of_row _ R 1 _ _ (0, 0) R5; have z2 : w5.cell? ⟨R, 2, none⟩ = some (.slice none 0 0) := cell_of_row _ R 2 _ _ (0, 0) R5; have z3 : w5.cell? ⟨R, 3, none⟩ = some (.string ⟨#[]⟩) := cell_of_row _ R 3 _ _ (0, 0) R5; have z4 : w5.cell? ⟨R, 4, none⟩ = some (.int .u32 0) := cell_of_row _ R 4 _ _ (0, 0) R5; have z5 : w5.cell? ⟨R, 5, none⟩ = some (.int .i64 0) := cell_of_row _ R 5 _ _ (0, 0) R5; have z6 : w5.cell? ⟨R, 6, none⟩ = some (.int .u64 0) := cell_of_row _ R 6 _ _ (0, 0) R5; have z7 : w5.cell? ⟨R, 7, none⟩ = some (.int .u64 0) := cell_of_row _ R 7 _ _ (0, 0) R5; have z8 : w5.cell? ⟨R, 8, none⟩ = some (.bool false) := cell_of_row _ R 8 _ _ (0, 0) R5; have z9 : w5.cell? ⟨R, 9, none⟩ = some (.bool false) := cell_of_row _ R 9 _ _ (0, 0) R5; have z10 : w5.cell? ⟨R, 10, none⟩ = some (.bool false) := cell_of_row _ R 10 _ _ (0, 0) R5; have z11 : w5.cell? ⟨R, 11, none⟩ = some (.bool false) := cell_of_row _ R 11 _ _ (0, 0) R5; have y0 : w5.frozen? ⟨R, 0, none⟩ = false := frozen_of_row _ R 0 _ _ R5; have y1 : w5.frozen? ⟨R, 1, none⟩ = false := frozen_of_row _ R 1 _ _ R5; have y2 : w5.frozen? ⟨R, 2, none⟩ = false := frozen_of_row _ R 2 _ _ R5; have y3 : w5.frozen? ⟨R, 3, none⟩ = false := frozen_of_row _ R 3 _ _ R5; have y4 : w5.frozen? ⟨R, 4, none⟩ = false := frozen_of_row _ R 4 _ _ R5; have y5 : w5.frozen? ⟨R, 5, none⟩ = false := frozen_of_row _ R 5 _ _ R5; have y6 : w5.frozen? ⟨R, 6, none⟩ = false := frozen_of_row _ R 6 _ _ R5; have y7 : w5.frozen? ⟨R, 7, none⟩ = false := frozen_of_row _ R 7 _ _ R5; have y8 : w5.frozen? ⟨R, 8, none⟩ = false := frozen_of_row _ R 8 _ _ R5; have y9 : w5.frozen? ⟨R, 9, none⟩ = false := frozen_of_row _ R 9 _ _ R5; have y10 : w5.frozen? ⟨R, 10, none⟩ = false := frozen_of_row _ R 10 _ _ R5; have y11 : w5.frozen? ⟨R, 11, none⟩ = false := frozen_of_row _ R 11 _ _ R5; clear R5
       have F5 : Hid (Fr Nob w w5) := Lib.hid (FA.out.trans f5.out fun k hk e => NO.out k (by have := F2.out.size; omega) e)
       have RV := Lib.hid (own_rd o5.out); have NR : Hid (∀ k, (Value.slice a5 l.length c5).ownBlock = some k → R < k) := Lib.hid fun k e => by have := (o5.out.lt k (by simpa using e)).1; have := RL.out; omega
       clear f5 o5 NO))
  all_goals
    go_wp2_with fail
    refine bodyPost_ret (v := .agg #[.string ⟨#[103, 101, 116]⟩, .string ⟨#[]⟩, (.slice a5 l.length c5), .string ⟨#[]⟩, .int .u32 0, .int .i64 n2, .int .u64 0, .int .u64 0, .bool b1, .bool b2, .bool false, .bool false]) ?_ rfl ⟨(.slice a5 l.length c5), rfl, Lib.hid ?_, Lib.hid ?_⟩
    · rw [results_cell rfl]
      go_simp
    · refine RdS.keep (S := One R) (w := w5) RV.out ?_ (fun i e h => ?_)
      · repeat (with_reducible first | refine Fr.drew ?_ | refine Fr.set1 ?_ _ | exact Fr.refl _ _)
      · have := NR.out i e
        unfold One at h
        omega
    · refine Fr.trans F5.out (S' := One R) (b := w5) ?_ (fun i hi e => ?_)
      · repeat (with_reducible first | refine Fr.drew ?_ | refine Fr.set1 ?_ _ | exact Fr.refl _ _)
      · have := HR.out
        have := HB.out
        unfold One at e
        omega

set_option maxHeartbeats 8000000 in
set_option maxRecDepth 100000 in
theorem back_delete {w : World} {l : List ByteArray} (k : ByteArray) (b d : ByteArray) (v : Value) (n1 n2 n3 n4 : Int) (b1 b2 b3 b4 : Bool) (h : RdS w v l) (hk : k = keyOf l) :
    Calls Tryd.prog 13 #[.agg #[.string ⟨#[100, 101, 108, 101, 116, 101]⟩, .string b, v, .string d, .int .u32 n1, .int .i64 n2, .int .u64 n3, .int .u64 n4, .bool b1, .bool b2, .bool b3, .bool b4]] w fun e w' => ∃ g, e = .returned (.agg #[.string ⟨#[100, 101, 108, 101, 116, 101]⟩, .string ⟨#[]⟩, .slice (some ⟨g, 0, none⟩) 1 1, .string ⟨#[]⟩, .int .u32 0, .int .i64 0, .int .u64 0, .int .u64 0, .bool false, .bool false, .bool false, .bool b4]) ∧ Hid (w'.heap[g]? = some (.cells #[.string k] 9 (0, 0))) ∧ Hid (Fr Nob w w') := by
  obtain ⟨A, cap, rfl, hc0, hq⟩ := id h
  clear hq hc0
  obtain ⟨B, hB⟩ : ∃ B, B = w.heap.size := ⟨_, rfl⟩
  obtain ⟨R, hR⟩ : ∃ R, R = B + 1 := ⟨_, rfl⟩
  obtain ⟨w2, hw2⟩ : ∃ w2, w2 = (w.alloc (.cells #[.string ⟨#[100, 101, 108, 101, 116, 101]⟩, .string b, .slice A l.length cap, .string d, .int .u32 n1, .int .i64 n2, .int .u64 n3, .int .u64 n4, .bool b1, .bool b2, .bool b3, .bool b4] 31)).alloc (.cells #[.string ⟨#[]⟩, .string ⟨#[]⟩, .slice none 0 0, .string ⟨#[]⟩, .int .u32 0, .int .i64 0, .int .u64 0, .int .u64 0, .bool false, .bool false, .bool false, .bool false] 28) := ⟨_, rfl⟩
  have f2 : Fr Nob w w2 := by rw [hw2]; exact ((Fr.refl Nob w).alloc _).alloc _
  have h2 : w2.heap[B]? = some (.cells #[.string ⟨#[100, 101, 108, 101, 116, 101]⟩, .string b, .slice A l.length cap, .string d, .int .u32 n1, .int .i64 n2, .int .u64 n3, .int .u64 n4, .bool b1, .bool b2, .bool b3, .bool b4] 31 (0, 0)) := by rw [hw2, hB]; exact (frB _).heap (heap_alloc_new w _) fun h => h
  have r2 : w2.heap[R]? = some (.cells #[.string ⟨#[]⟩, .string ⟨#[]⟩, .slice none 0 0, .string ⟨#[]⟩, .int .u32 0, .int .i64 0, .int .u64 0, .int .u64 0, .bool false, .bool false, .bool false, .bool false] 28 (0, 0)) := by rw [hw2, hR, hB]; exact heap_alloc_at _ _ _ (by simp)
  have F2 := Lib.hid f2
  have H2 := Lib.hid h2
  have R2 := Lib.hid r2
  have HW := Lib.hid hw2.symm
  have HB := Lib.hid hB.symm
  have HR := Lib.hid hR.symm
  clear f2 h2 r2 hw2 hB hR
  have KY : Hid (∀ W, Fr Nob w W → Calls Tryd.prog 27 #[.agg #[.string ⟨#[100, 101, 108, 101, 116, 101]⟩, .string b, .slice A l.length cap, .string d, .int .u32 n1, .int .i64 n2, .int .u64 n3, .int .u64 n4, .bool b1, .bool b2, .bool b3, .bool b4]] W fun e w' => e = .returned (.string k) ∧ Fr Nob W w') := Lib.hid fun W f => key17_eq _ b k d _ n1 n2 n3 n4 b1 b2 b3 b4 (h.nob f) hk
  clear h hk
  have LS : Hid (∀ W : World, W.heap[B]? = some (.cells #[.string ⟨#[100, 101, 108, 101, 116, 101]⟩, .string b, .slice A l.length cap, .string d, .int .u32 n1, .int .i64 n2, .int .u64 n3, .int .u64 n4, .bool b1, .bool b2, .bool b3, .bool b4] 31 (0, 0)) → (W.cell? ⟨B, 0, none⟩ = some (.string ⟨#[100, 101, 108, 101, 116, 101]⟩) ∧ W.cell? ⟨B, 1, none⟩ = some (.string b) ∧ W.cell? ⟨B, 2, none⟩ = some (.slice A l.length cap) ∧ W.cell? ⟨B, 3, none⟩ = some (.string d) ∧ W.cell? ⟨B, 4, none⟩ = some (.int .u32 n1) ∧ W.cell? ⟨B, 5, none⟩ = some (.int .i64 n2) ∧ W.cell? ⟨B, 6, none⟩ = some (.int .u64 n3) ∧ W.cell? ⟨B, 7, none⟩ = some (.int .u64 n4) ∧ W.cell? ⟨B, 8, none⟩ = some (.bool b1) ∧ W.cell? ⟨B, 9, none⟩ = some (.bool b2) ∧ W.cell? ⟨B, 10, none⟩ = some (.bool b3) ∧ W.cell? ⟨B, 11, none⟩ = some (.bool b4))) := Lib.hid fun W h => ⟨cell_of_row W B 0 _ _ (0, 0) h, cell_of_row W B 1 _ _ (0, 0) h, cell_of_row W B 2 _ _ (0, 0) h, cell_of_row W B 3 _ _ (0, 0) h, cell_of_row W B 4 _ _ (0, 0) h, cell_of_row W B 5 _ _ (0, 0) h, cell_of_row W B 6 _ _ (0, 0) h, cell_of_row W B 7 _ _ (0, 0) h, cell_of_row W B 8 _ _ (0, 0) h, cell_of_row W B 9 _ _ (0, 0) h, cell_of_row W B 10 _ _ (0, 0) h, cell_of_row W B 11 _ _ (0, 0) h⟩
  have NE : Hid (¬ One R B) := Lib.hid (by unfold One; have := HR.out; omega)
  have HD : Hid (w2.drew.heap[B]? = some (.cells #[.string ⟨#[100, 101, 108, 101, 116, 101]⟩, .string b, .slice A l.length cap, .string d, .int .u32 n1, .int .i64 n2, .int .u64 n3, .int .u64 n4, .bool b1, .bool b2, .bool b3, .bool b4] 31 (0, 0))) := Lib.hid H2.out
  have RD : Hid (w2.drew.heap[R]? = some (.cells #[.string ⟨#[]⟩, .string ⟨#[]⟩, .slice none 0 0, .string ⟨#[]⟩, .int .u32 0, .int .i64 0, .int .u64 0, .int .u64 0, .bool false, .bool false, .bool false, .bool false] 28 (0, 0))) := Lib.hid R2.out
  go_enter Tryd.func13, Tryd.ntmps13
  go_wp2_with fail
  rw [HW.out, HB.out, HR.out]
  go_region_held3 (fun w' => w'.cell? ⟨B, 0, none⟩ = some (.string ⟨#[100, 101, 108, 101, 116, 101]⟩) ∧ w'.cell? ⟨B, 1, none⟩ = some (.string b) ∧ w'.cell? ⟨B, 2, none⟩ = some (.slice A l.length cap) ∧ w'.cell? ⟨B, 3, none⟩ = some (.string d) ∧ w'.cell? ⟨B, 4, none⟩ = some (.int .u32 n1) ∧ w'.cell? ⟨B, 5, none⟩ = some (.int .i64 n2) ∧ w'.cell? ⟨B, 6, none⟩ = some (.int .u64 n3) ∧ w'.cell? ⟨B, 7, none⟩ = some (.int .u64 n4) ∧ w'.cell? ⟨B, 8, none⟩ = some (.bool b1) ∧ w'.cell? ⟨B, 9, none⟩ = some (.bool b2) ∧ w'.cell? ⟨B, 10, none⟩ = some (.bool b3) ∧ w'.cell? ⟨B, 11, none⟩ = some (.bool b4))
    (first | with_reducible exact LS.out _ HD.out | with_reducible exact LS.out _ H6.out | with_reducible exact LS.out _ H7.out | (refine LS.out _ (Fr.heap (S := One R) (w := w6.alloc (.cells #[.string k] 9)) ?_ H7.out NE.out); (repeat (with_reducible first | refine Fr.set1 ?_ _ | exact Fr.refl _ _))))
    (first
    | (go_at_call 27; (with_reducible refine (KY.out _ F2.out.drew).mono ?_); rintro e w6 ⟨rfl, f6⟩; have F6 : Hid (Fr Nob w w6) := Lib.hid (F2.out.drew.trans' f6); have R6 := Lib.hid (f6.heap RD.out fun h => h); have H6 := Lib.hid (f6.heap HD.out fun h => h); clear f6; have R7 := (frB (w := w6) (.cells #[.string k] 9)).heap R6.out (fun h => h); have z0 : (w6.alloc (.cells #[.string k] 9)).cell? ⟨R, 0, none⟩ = some (.string ⟨#[]⟩) := cell_of_row _ R 0 _ _ (0, 0) R7; have z1 : (w6.alloc (.cells #[.string k] 9)).cell? ⟨R, 1, none⟩ = some (.string ⟨#[]⟩) := cell_of_row _ R 1 _ _ (0, 0) R7; have z2 : (w6.alloc (.cells #[.string k] 9)).cell? ⟨R, 2, none⟩ = some (.slice none 0 0) := cell_of_row _ R 2 _ _ (0, 0) R7; have z3 : (w6.alloc (.cells #[.string k] 9)).cell? ⟨R, 3, none⟩ = some (.string ⟨#[]⟩) := cell_of_row _ R 3 _ _ (0, 0) R7; have z4 : (w6.alloc (.cells #[.string k] 9)).cell? ⟨R, 4, none⟩ = some (.int .u32 0) := cell_of_row _ R 4 _ _ (0, 0) R7; have z5 : (w6.alloc (.cells #[.string k] 9)).cell? ⟨R, 5, none⟩ = some (.int .i64 0) := cell_of_row _ R 5 _ _ (0, 0) R7; have z6 : (w6.alloc (.cells #[.string k] 9)).cell? ⟨R, 6, none⟩ = some (.int .u64 0) := cell_of_row _ R 6 _ _ (0, 0) R7; have z7 : (w6.alloc (.cells #[.string k] 9)).cell? ⟨R, 7, none⟩ = some (.int .u64 0) := cell_of_row _ R 7 _ _ (0, 0) R7; have z8 : (w6.alloc (.cells #[.string k] 9)).cell? ⟨R, 8, none⟩ = some (.bool false) := cell_of_row _ R 8 _ _ (0, 0) R7; have z9 : (w6.alloc (.cells #[.string k] 9)).cell? ⟨R, 9, none⟩ = some (.bool false) := cell_of_row _ R 9 _ _ (0, 0) R7; have z10 : (w6.alloc (.cells #[.string k] 9)).cell? ⟨R, 10, none⟩ = some (.bool false) := cell_of_row _ R 10 _ _ (0, 0) R7; have z11 : (w6.alloc (.cells #[.string k] 9)).cell? ⟨R, 11, none⟩ = some (.bool false) := cell_of_row _ R 11 _ _ (0, 0) R7; have y0 : (w6.alloc (.cells #[.string k] 9)).frozen? ⟨R, 0, none⟩ = false := frozen_of_row _ R 0 _ _ R7; have y1 : (w6.alloc (.cells #[.string k] 9)).frozen? ⟨R, 1, none⟩ = false := frozen_of_row _ R 1 _ _ R7; have y2 : (w6.alloc (.cells #[.string k] 9)).frozen? ⟨R, 2, none⟩ = false := frozen_of_row _ R 2 _ _ R7; have y3 : (w6.alloc (.cells #[.string k] 9)).frozen? ⟨R, 3, none⟩ = false := frozen_of_row _ R 3 _ _ R7; have y4 : (w6.alloc (.cells #[.string k] 9)).frozen? ⟨R, 4, none⟩ = false := frozen_of_row _ R 4 _ _ R7; have y5 : (w6.alloc (.cells #[.string k] 9)).frozen? ⟨R, 5, none⟩ = false := frozen_of_row _ R 5 _ _ R7; have y6 : (w6.alloc (.cells #[.string k] 9)).frozen? ⟨R, 6, none⟩ = false := frozen_of_row _ R 6 _ _ R7; have y7 : (w6.alloc (.cells #[.string k] 9)).frozen? ⟨R, 7, none⟩ = false := frozen_of_row _ R 7 _ _ R7; have y8 : (w6.alloc (.cells #[.string k] 9)).frozen? ⟨R, 8, none⟩ = false := frozen_of_row _ R 8 _ _ R7; have y9 : (w6.alloc (.cells #[.string k] 9)).frozen? ⟨R, 9, none⟩ = false := frozen_of_row _ R 9 _ _ R7; have y10 : (w6.alloc (.cells #[.string k] 9)).frozen? ⟨R, 10, none⟩ = false := frozen_of_row _ R 10 _ _ R7; have y11 : (w6.alloc (.cells #[.string k] 9)).frozen? ⟨R, 11, none⟩ = false := frozen_of_row _ R 11 _ _ R7; have H7 := Lib.hid ((frB (w := w6) (.cells #[.string k] 9)).heap H6.out (fun h => h)); clear R7))
  all_goals
    go_wp2_with fail
    refine bodyPost_ret ?_ rfl ⟨w6.heap.size, rfl, Lib.hid ?_, Lib.hid ?_⟩
    · rw [results_cell rfl]
      go_simp
    · refine Fr.heap (S := One R) (w := w6.alloc (.cells #[.string k] 9)) ?_ (heap_alloc_new w6 _) (fun e => ?_)
      · repeat (with_reducible first | refine Fr.set1 ?_ _ | exact Fr.refl _ _)
      · have := lt_of_block R6.out
        unfold One at e
        omega
    · refine Fr.trans (F6.out.alloc (.cells #[.string k] 9)) (S' := One R) ?_ (fun i hi e => ?_)
      · repeat (with_reducible first | refine Fr.set1 ?_ _ | exact Fr.refl _ _)
      · have := HR.out
        have := HB.out
        unfold One at e
        omega

set_option maxHeartbeats 8000000 in
set_option maxRecDepth 100000 in
theorem back_touch {w : World} {l : List ByteArray} (k : ByteArray) (b d : ByteArray) (v : Value) (n1 n2 n3 n4 : Int) (b1 b2 b3 b4 : Bool) (h : RdS w v l) (hk : k = keyOf l) :
    Calls Tryd.prog 13 #[.agg #[.string ⟨#[116, 111, 117, 99, 104]⟩, .string b, v, .string d, .int .u32 n1, .int .i64 n2, .int .u64 n3, .int .u64 n4, .bool b1, .bool b2, .bool b3, .bool b4]] w fun e w' => ∃ g, e = .returned (.agg #[.string ⟨#[116, 111, 117, 99, 104]⟩, .string ⟨#[]⟩, .slice (some ⟨g, 0, none⟩) 1 1, .string ⟨#[]⟩, .int .u32 0, .int .i64 n2, .int .u64 0, .int .u64 0, .bool false, .bool false, .bool false, .bool b4]) ∧ Hid (w'.heap[g]? = some (.cells #[.string k] 9 (0, 0))) ∧ Hid (Fr Nob w w') := by
  obtain ⟨A, cap, rfl, hc0, hq⟩ := id h
  clear hq hc0
  obtain ⟨B, hB⟩ : ∃ B, B = w.heap.size := ⟨_, rfl⟩
  obtain ⟨R, hR⟩ : ∃ R, R = B + 1 := ⟨_, rfl⟩
  obtain ⟨w2, hw2⟩ : ∃ w2, w2 = (w.alloc (.cells #[.string ⟨#[116, 111, 117, 99, 104]⟩, .string b, .slice A l.length cap, .string d, .int .u32 n1, .int .i64 n2, .int .u64 n3, .int .u64 n4, .bool b1, .bool b2, .bool b3, .bool b4] 31)).alloc (.cells #[.string ⟨#[]⟩, .string ⟨#[]⟩, .slice none 0 0, .string ⟨#[]⟩, .int .u32 0, .int .i64 0, .int .u64 0, .int .u64 0, .bool false, .bool false, .bool false, .bool false] 28) := ⟨_, rfl⟩
  have f2 : Fr Nob w w2 := by rw [hw2]; exact ((Fr.refl Nob w).alloc _).alloc _
  have h2 : w2.heap[B]? = some (.cells #[.string ⟨#[116, 111, 117, 99, 104]⟩, .string b, .slice A l.length cap, .string d, .int .u32 n1, .int .i64 n2, .int .u64 n3, .int .u64 n4, .bool b1, .bool b2, .bool b3, .bool b4] 31 (0, 0)) := by rw [hw2, hB]; exact (frB _).heap (heap_alloc_new w _) fun h => h
  have r2 : w2.heap[R]? = some (.cells #[.string ⟨#[]⟩, .string ⟨#[]⟩, .slice none 0 0, .string ⟨#[]⟩, .int .u32 0, .int .i64 0, .int .u64 0, .int .u64 0, .bool false, .bool false, .bool false, .bool false] 28 (0, 0)) := by rw [hw2, hR, hB]; exact heap_alloc_at _ _ _ (by simp)
  have F2 := Lib.hid f2
  have H2 := Lib.hid h2
  have R2 := Lib.hid r2
  have HW := Lib.hid hw2.symm
  have HB := Lib.hid hB.symm
  have HR := Lib.hid hR.symm
  clear f2 h2 r2 hw2 hB hR
  have KY : Hid (∀ W, Fr Nob w W → Calls Tryd.prog 27 #[.agg #[.string ⟨#[116, 111, 117, 99, 104]⟩, .string b, .slice A l.length cap, .string d, .int .u32 n1, .int .i64 n2, .int .u64 n3, .int .u64 n4, .bool b1, .bool b2, .bool b3, .bool b4]] W fun e w' => e = .returned (.string k) ∧ Fr Nob W w') := Lib.hid fun W f => key17_eq _ b k d _ n1 n2 n3 n4 b1 b2 b3 b4 (h.nob f) hk
  clear h hk
  have LS : Hid (∀ W : World, W.heap[B]? = some (.cells #[.string ⟨#[116, 111, 117, 99, 104]⟩, .string b, .slice A l.length cap, .string d, .int .u32 n1, .int .i64 n2, .int .u64 n3, .int .u64 n4, .bool b1, .bool b2, .bool b3, .bool b4] 31 (0, 0)) → (W.cell? ⟨B, 0, none⟩ = some (.string ⟨#[116, 111, 117, 99, 104]⟩) ∧ W.cell? ⟨B, 1, none⟩ = some (.string b) ∧ W.cell? ⟨B, 2, none⟩ = some (.slice A l.length cap) ∧ W.cell? ⟨B, 3, none⟩ = some (.string d) ∧ W.cell? ⟨B, 4, none⟩ = some (.int .u32 n1) ∧ W.cell? ⟨B, 5, none⟩ = some (.int .i64 n2) ∧ W.cell? ⟨B, 6, none⟩ = some (.int .u64 n3) ∧ W.cell? ⟨B, 7, none⟩ = some (.int .u64 n4) ∧ W.cell? ⟨B, 8, none⟩ = some (.bool b1) ∧ W.cell? ⟨B, 9, none⟩ = some (.bool b2) ∧ W.cell? ⟨B, 10, none⟩ = some (.bool b3) ∧ W.cell? ⟨B, 11, none⟩ = some (.bool b4))) := Lib.hid fun W h => ⟨cell_of_row W B 0 _ _ (0, 0) h, cell_of_row W B 1 _ _ (0, 0) h, cell_of_row W B 2 _ _ (0, 0) h, cell_of_row W B 3 _ _ (0, 0) h, cell_of_row W B 4 _ _ (0, 0) h, cell_of_row W B 5 _ _ (0, 0) h, cell_of_row W B 6 _ _ (0, 0) h, cell_of_row W B 7 _ _ (0, 0) h, cell_of_row W B 8 _ _ (0, 0) h, cell_of_row W B 9 _ _ (0, 0) h, cell_of_row W B 10 _ _ (0, 0) h, cell_of_row W B 11 _ _ (0, 0) h⟩
  have NE : Hid (¬ One R B) := Lib.hid (by unfold One; have := HR.out; omega)
  have HD : Hid (w2.drew.heap[B]? = some (.cells #[.string ⟨#[116, 111, 117, 99, 104]⟩, .string b, .slice A l.length cap, .string d, .int .u32 n1, .int .i64 n2, .int .u64 n3, .int .u64 n4, .bool b1, .bool b2, .bool b3, .bool b4] 31 (0, 0))) := Lib.hid H2.out
  have RD : Hid (w2.drew.heap[R]? = some (.cells #[.string ⟨#[]⟩, .string ⟨#[]⟩, .slice none 0 0, .string ⟨#[]⟩, .int .u32 0, .int .i64 0, .int .u64 0, .int .u64 0, .bool false, .bool false, .bool false, .bool false] 28 (0, 0))) := Lib.hid R2.out
  go_enter Tryd.func13, Tryd.ntmps13
  go_wp2_with fail
  rw [HW.out, HB.out, HR.out]
  go_region_held3 (fun w' => w'.cell? ⟨B, 0, none⟩ = some (.string ⟨#[116, 111, 117, 99, 104]⟩) ∧ w'.cell? ⟨B, 1, none⟩ = some (.string b) ∧ w'.cell? ⟨B, 2, none⟩ = some (.slice A l.length cap) ∧ w'.cell? ⟨B, 3, none⟩ = some (.string d) ∧ w'.cell? ⟨B, 4, none⟩ = some (.int .u32 n1) ∧ w'.cell? ⟨B, 5, none⟩ = some (.int .i64 n2) ∧ w'.cell? ⟨B, 6, none⟩ = some (.int .u64 n3) ∧ w'.cell? ⟨B, 7, none⟩ = some (.int .u64 n4) ∧ w'.cell? ⟨B, 8, none⟩ = some (.bool b1) ∧ w'.cell? ⟨B, 9, none⟩ = some (.bool b2) ∧ w'.cell? ⟨B, 10, none⟩ = some (.bool b3) ∧ w'.cell? ⟨B, 11, none⟩ = some (.bool b4))
    (first | with_reducible exact LS.out _ HD.out | with_reducible exact LS.out _ H6.out | with_reducible exact LS.out _ H7.out | (refine LS.out _ (Fr.heap (S := One R) (w := w6.alloc (.cells #[.string k] 9)) ?_ H7.out NE.out); (repeat (with_reducible first | refine Fr.set1 ?_ _ | exact Fr.refl _ _))))
    (first
    | (go_at_call 27; (with_reducible refine (KY.out _ F2.out.drew).mono ?_); rintro e w6 ⟨rfl, f6⟩; have F6 : Hid (Fr Nob w w6) := Lib.hid (F2.out.drew.trans' f6); have R6 := Lib.hid (f6.heap RD.out fun h => h); have H6 := Lib.hid (f6.heap HD.out fun h => h); clear f6; have R7 := (frB (w := w6) (.cells #[.string k] 9)).heap R6.out (fun h => h); have z0 : (w6.alloc (.cells #[.string k] 9)).cell? ⟨R, 0, none⟩ = some (.string ⟨#[]⟩) := cell_of_row _ R 0 _ _ (0, 0) R7; have z1 : (w6.alloc (.cells #[.string k] 9)).cell? ⟨R, 1, none⟩ = some (.string ⟨#[]⟩) := cell_of_row _ R 1 _ _ (0, 0) R7; have z2 : (w6.alloc (.cells #[.string k] 9)).cell? ⟨R, 2, none⟩ = some (.slice none 0 0) := cell_of_row _ R 2 _ _ (0, 0) R7; have z3 : (w6.alloc (.cells #[.string k] 9)).cell? ⟨R, 3, none⟩ = some (.string ⟨#[]⟩) := cell_of_row _ R 3 _ _ (0, 0) R7; have z4 : (w6.alloc (.cells #[.string k] 9)).cell? ⟨R, 4, none⟩ = some (.int .u32 0) := cell_of_row _ R 4 _ _ (0, 0) R7; have z5 : (w6.alloc (.cells #[.string k] 9)).cell? ⟨R, 5, none⟩ = some (.int .i64 0) := cell_of_row _ R 5 _ _ (0, 0) R7; have z6 : (w6.alloc (.cells #[.string k] 9)).cell? ⟨R, 6, none⟩ = some (.int .u64 0) := cell_of_row _ R 6 _ _ (0, 0) R7; have z7 : (w6.alloc (.cells #[.string k] 9)).cell? ⟨R, 7, none⟩ = some (.int .u64 0) := cell_of_row _ R 7 _ _ (0, 0) R7; have z8 : (w6.alloc (.cells #[.string k] 9)).cell? ⟨R, 8, none⟩ = some (.bool false) := cell_of_row _ R 8 _ _ (0, 0) R7; have z9 : (w6.alloc (.cells #[.string k] 9)).cell? ⟨R, 9, none⟩ = some (.bool false) := cell_of_row _ R 9 _ _ (0, 0) R7; have z10 : (w6.alloc (.cells #[.string k] 9)).cell? ⟨R, 10, none⟩ = some (.bool false) := cell_of_row _ R 10 _ _ (0, 0) R7; have z11 : (w6.alloc (.cells #[.string k] 9)).cell? ⟨R, 11, none⟩ = some (.bool false) := cell_of_row _ R 11 _ _ (0, 0) R7; have y0 : (w6.alloc (.cells #[.string k] 9)).frozen? ⟨R, 0, none⟩ = false := frozen_of_row _ R 0 _ _ R7; have y1 : (w6.alloc (.cells #[.string k] 9)).frozen? ⟨R, 1, none⟩ = false := frozen_of_row _ R 1 _ _ R7; have y2 : (w6.alloc (.cells #[.string k] 9)).frozen? ⟨R, 2, none⟩ = false := frozen_of_row _ R 2 _ _ R7; have y3 : (w6.alloc (.cells #[.string k] 9)).frozen? ⟨R, 3, none⟩ = false := frozen_of_row _ R 3 _ _ R7; have y4 : (w6.alloc (.cells #[.string k] 9)).frozen? ⟨R, 4, none⟩ = false := frozen_of_row _ R 4 _ _ R7; have y5 : (w6.alloc (.cells #[.string k] 9)).frozen? ⟨R, 5, none⟩ = false := frozen_of_row _ R 5 _ _ R7; have y6 : (w6.alloc (.cells #[.string k] 9)).frozen? ⟨R, 6, none⟩ = false := frozen_of_row _ R 6 _ _ R7; have y7 : (w6.alloc (.cells #[.string k] 9)).frozen? ⟨R, 7, none⟩ = false := frozen_of_row _ R 7 _ _ R7; have y8 : (w6.alloc (.cells #[.string k] 9)).frozen? ⟨R, 8, none⟩ = false := frozen_of_row _ R 8 _ _ R7; have y9 : (w6.alloc (.cells #[.string k] 9)).frozen? ⟨R, 9, none⟩ = false := frozen_of_row _ R 9 _ _ R7; have y10 : (w6.alloc (.cells #[.string k] 9)).frozen? ⟨R, 10, none⟩ = false := frozen_of_row _ R 10 _ _ R7; have y11 : (w6.alloc (.cells #[.string k] 9)).frozen? ⟨R, 11, none⟩ = false := frozen_of_row _ R 11 _ _ R7; have H7 := Lib.hid ((frB (w := w6) (.cells #[.string k] 9)).heap H6.out (fun h => h)); clear R7))
  all_goals
    go_wp2_with fail
    refine bodyPost_ret ?_ rfl ⟨w6.heap.size, rfl, Lib.hid ?_, Lib.hid ?_⟩
    · rw [results_cell rfl]
      go_simp
    · refine Fr.heap (S := One R) (w := w6.alloc (.cells #[.string k] 9)) ?_ (heap_alloc_new w6 _) (fun e => ?_)
      · repeat (with_reducible first | refine Fr.set1 ?_ _ | exact Fr.refl _ _)
      · have := lt_of_block R6.out
        unfold One at e
        omega
    · refine Fr.trans (F6.out.alloc (.cells #[.string k] 9)) (S' := One R) ?_ (fun i hi e => ?_)
      · repeat (with_reducible first | refine Fr.set1 ?_ _ | exact Fr.refl _ _)
      · have := HR.out
        have := HB.out
        unfold One at e
        omega

set_option maxHeartbeats 8000000 in
set_option maxRecDepth 100000 in
theorem back_arith {w : World} {l : List ByteArray} (k : ByteArray) (b d : ByteArray) (v : Value) (n1 n2 n3 n4 : Int) (b1 b2 b3 b4 : Bool) (h : RdS w v l) (hk : k = keyOf l) :
    Calls Tryd.prog 13 #[.agg #[.string ⟨#[97, 114, 105, 116, 104]⟩, .string b, v, .string d, .int .u32 n1, .int .i64 n2, .int .u64 n3, .int .u64 n4, .bool b1, .bool b2, .bool b3, .bool b4]] w fun e w' => ∃ g, e = .returned (.agg #[.string ⟨#[97, 114, 105, 116, 104]⟩, .string ⟨#[]⟩, .slice (some ⟨g, 0, none⟩) 1 1, .string ⟨#[]⟩, .int .u32 0, .int .i64 0, .int .u64 0, .int .u64 n4, .bool false, .bool false, .bool b3, .bool b4]) ∧ Hid (w'.heap[g]? = some (.cells #[.string k] 9 (0, 0))) ∧ Hid (Fr Nob w w') := by
  obtain ⟨A, cap, rfl, hc0, hq⟩ := id h
  clear hq hc0
  obtain ⟨B, hB⟩ : ∃ B, B = w.heap.size := ⟨_, rfl⟩
  obtain ⟨R, hR⟩ : ∃ R, R = B + 1 := ⟨_, rfl⟩
  obtain ⟨w2, hw2⟩ : ∃ w2, w2 = (w.alloc (.cells #[.string ⟨#[97, 114, 105, 116, 104]⟩, .string b, .slice A l.length cap, .string d, .int .u32 n1, .int .i64 n2, .int .u64 n3, .int .u64 n4, .bool b1, .bool b2, .bool b3, .bool b4] 31)).alloc (.cells #[.string ⟨#[]⟩, .string ⟨#[]⟩, .slice none 0 0, .string ⟨#[]⟩, .int .u32 0, .int .i64 0, .int .u64 0, .int .u64 0, .bool false, .bool false, .bool false, .bool false] 28) := ⟨_, rfl⟩
  have f2 : Fr Nob w w2 := by rw [hw2]; exact ((Fr.refl Nob w).alloc _).alloc _
  have h2 : w2.heap[B]? = some (.cells #[.string ⟨#[97, 114, 105, 116, 104]⟩, .string b, .slice A l.length cap, .string d, .int .u32 n1, .int .i64 n2, .int .u64 n3, .int .u64 n4, .bool b1, .bool b2, .bool b3, .bool b4] 31 (0, 0)) := by rw [hw2, hB]; exact (frB _).heap (heap_alloc_new w _) fun h => h
  have r2 : w2.heap[R]? = some (.cells #[.string ⟨#[]⟩, .string ⟨#[]⟩, .slice none 0 0, .string ⟨#[]⟩, .int .u32 0, .int .i64 0, .int .u64 0, .int .u64 0, .bool false, .bool false, .bool false, .bool false] 28 (0, 0)) := by rw [hw2, hR, hB]; exact heap_alloc_at _ _ _ (by simp)
  have F2 := Lib.hid f2
  have H2 := Lib.hid h2
  have R2 := Lib.hid r2
  have HW := Lib.hid hw2.symm
  have HB := Lib.hid hB.symm
  have HR := Lib.hid hR.symm
  clear f2 h2 r2 hw2 hB hR
  have KY : Hid (∀ W, Fr Nob w W → Calls Tryd.prog 27 #[.agg #[.string ⟨#[97, 114, 105, 116, 104]⟩, .string b, .slice A l.length cap, .string d, .int .u32 n1, .int .i64 n2, .int .u64 n3, .int .u64 n4, .bool b1, .bool b2, .bool b3, .bool b4]] W fun e w' => e = .returned (.string k) ∧ Fr Nob W w') := Lib.hid fun W f => key17_eq _ b k d _ n1 n2 n3 n4 b1 b2 b3 b4 (h.nob f) hk
  clear h hk
  have LS : Hid (∀ W : World, W.heap[B]? = some (.cells #[.string ⟨#[97, 114, 105, 116, 104]⟩, .string b, .slice A l.length cap, .string d, .int .u32 n1, .int .i64 n2, .int .u64 n3, .int .u64 n4, .bool b1, .bool b2, .bool b3, .bool b4] 31 (0, 0)) → (W.cell? ⟨B, 0, none⟩ = some (.string ⟨#[97, 114, 105, 116, 104]⟩) ∧ W.cell? ⟨B, 1, none⟩ = some (.string b) ∧ W.cell? ⟨B, 2, none⟩ = some (.slice A l.length cap) ∧ W.cell? ⟨B, 3, none⟩ = some (.string d) ∧ W.cell? ⟨B, 4, none⟩ = some (.int .u32 n1) ∧ W.cell? ⟨B, 5, none⟩ = some (.int .i64 n2) ∧ W.cell? ⟨B, 6, none⟩ = some (.int .u64 n3) ∧ W.cell? ⟨B, 7, none⟩ = some (.int .u64 n4) ∧ W.cell? ⟨B, 8, none⟩ = some (.bool b1) ∧ W.cell? ⟨B, 9, none⟩ = some (.bool b2) ∧ W.cell? ⟨B, 10, none⟩ = some (.bool b3) ∧ W.cell? ⟨B, 11, none⟩ = some (.bool b4))) := Lib.hid fun W h => ⟨cell_of_row W B 0 _ _ (0, 0) h, cell_of_row W B 1 _ _ (0, 0) h, cell_of_row W B 2 _ _ (0, 0) h, cell_of_row W B 3 _ _ (0, 0) h, cell_of_row W B 4 _ _ (0, 0) h, cell_of_row W B 5 _ _ (0, 0) h, cell_of_row W B 6 _ _ (0, 0) h, cell_of_row W B 7 _ _ (0, 0) h, cell_of_row W B 8 _ _ (0, 0) h, cell_of_row W B 9 _ _ (0, 0) h, cell_of_row W B 10 _ _ (0, 0) h, cell_of_row W B 11 _ _ (0, 0) h⟩
  have NE : Hid (¬ One R B) := Lib.hid (by unfold One; have := HR.out; omega)
  have HD : Hid (w2.drew.heap[B]? = some (.cells #[.string ⟨#[97, 114, 105, 116, 104]⟩, .string b, .slice A l.length cap, .string d, .int .u32 n1, .int .i64 n2, .int .u64 n3, .int .u64 n4, .bool b1, .bool b2, .bool b3, .bool b4] 31 (0, 0))) := Lib.hid H2.out
  have RD : Hid (w2.drew.heap[R]? = some (.cells #[.string ⟨#[]⟩, .string ⟨#[]⟩, .slice none 0 0, .string ⟨#[]⟩, .int .u32 0, .int .i64 0, .int .u64 0, .int .u64 0, .bool false, .bool false, .bool false, .bool false] 28 (0, 0))) := Lib.hid R2.out
  go_enter Tryd.func13, Tryd.ntmps13
  go_wp2_with fail
  rw [HW.out, HB.out, HR.out]
  go_region_held3 (fun w' => w'.cell? ⟨B, 0, none⟩ = some (.string ⟨#[97, 114, 105, 116, 104]⟩) ∧ w'.cell? ⟨B, 1, none⟩ = some (.string b) ∧ w'.cell? ⟨B, 2, none⟩ = some (.slice A l.length cap) ∧ w'.cell? ⟨B, 3, none⟩ = some (.string d) ∧ w'.cell? ⟨B, 4, none⟩ = some (.int .u32 n1) ∧ w'.cell? ⟨B, 5, none⟩ = some (.int .i64 n2) ∧ w'.cell? ⟨B, 6, none⟩ = some (.int .u64 n3) ∧ w'.cell? ⟨B, 7, none⟩ = some (.int .u64 n4) ∧ w'.cell? ⟨B, 8, none⟩ = some (.bool b1) ∧ w'.cell? ⟨B, 9, none⟩ = some (.bool b2) ∧ w'.cell? ⟨B, 10, none⟩ = some (.bool b3) ∧ w'.cell? ⟨B, 11, none⟩ = some (.bool b4))
    (first | with_reducible exact LS.out _ HD.out | with_reducible exact LS.out _ H6.out | with_reducible exact LS.out _ H7.out | (refine LS.out _ (Fr.heap (S := One R) (w := w6.alloc (.cells #[.string k] 9)) ?_ H7.out NE.out); (repeat (with_reducible first | refine Fr.set1 ?_ _ | exact Fr.refl _ _))))
    (first
    | (go_at_call 27; (with_reducible refine (KY.out _ F2.out.drew).mono ?_); rintro e w6 ⟨rfl, f6⟩; have F6 : Hid (Fr Nob w w6) := Lib.hid (F2.out.drew.trans' f6); have R6 := Lib.hid (f6.heap RD.out fun h => h); have H6 := Lib.hid (f6.heap HD.out fun h => h); clear f6; have R7 := (frB (w := w6) (.cells #[.string k] 9)).heap R6.out (fun h => h); have z0 : (w6.alloc (.cells #[.string k] 9)).cell? ⟨R, 0, none⟩ = some (.string ⟨#[]⟩) := cell_of_row _ R 0 _ _ (0, 0) R7; have z1 : (w6.alloc (.cells #[.string k] 9)).cell? ⟨R, 1, none⟩ = some (.string ⟨#[]⟩) := cell_of_row _ R 1 _ _ (0, 0) R7; have z2 : (w6.alloc (.cells #[.string k] 9)).cell? ⟨R, 2, none⟩ = some (.slice none 0 0) := cell_of_row _ R 2 _ _ (0, 0) R7; have z3 : (w6.alloc (.cells #[.string k] 9)).cell? ⟨R, 3, none⟩ = some (.string ⟨#[]⟩) := cell_of_row _ R 3 _ _ (0, 0) R7; have z4 : (w6.alloc (.cells #[.string k] 9)).cell? ⟨R, 4, none⟩ = some (.int .u32 0) := cell_of_row _ R 4 _ _ (0, 0) R7; have z5 : (w6.alloc (.cells #[.string k] 9)).cell? ⟨R, 5, none⟩ = some (.int .i64 0) := cell_of_row _ R 5 _ _ (0, 0) R7; have z6 : (w6.alloc (.cells #[.string k] 9)).cell? ⟨R, 6, none⟩ = some (.int .u64 0) := cell_of_row _ R 6 _ _ (0, 0) R7; have z7 : (w6.alloc (.cells #[.string k] 9)).cell? ⟨R, 7, none⟩ = some (.int .u64 0) := cell_of_row _ R 7 _ _ (0, 0) R7; have z8 : (w6.alloc (.cells #[.string k] 9)).cell? ⟨R, 8, none⟩ = some (.bool false) := cell_of_row _ R 8 _ _ (0, 0) R7; have z9 : (w6.alloc (.cells #[.string k] 9)).cell? ⟨R, 9, none⟩ = some (.bool false) := cell_of_row _ R 9 _ _ (0, 0) R7; have z10 : (w6.alloc (.cells #[.string k] 9)).cell? ⟨R, 10, none⟩ = some (.bool false) := cell_of_row _ R 10 _ _ (0, 0) R7; have z11 : (w6.alloc (.cells #[.string k] 9)).cell? ⟨R, 11, none⟩ = some (.bool false) := cell_of_row _ R 11 _ _ (0, 0) R7; have y0 : (w6.alloc (.cells #[.string k] 9)).frozen? ⟨R, 0, none⟩ = false := frozen_of_row _ R 0 _ _ R7; have y1 : (w6.alloc (.cells #[.string k] 9)).frozen? ⟨R, 1, none⟩ = false := frozen_of_row _ R 1 _ _ R7; have y2 : (w6.alloc (.cells #[.string k] 9)).frozen? ⟨R, 2, none⟩ = false := frozen_of_row _ R 2 _ _ R7; have y3 : (w6.alloc (.cells #[.string k] 9)).frozen? ⟨R, 3, none⟩ = false := frozen_of_row _ R 3 _ _ R7; have y4 : (w6.alloc (.cells #[.string k] 9)).frozen? ⟨R, 4, none⟩ = false := frozen_of_row _ R 4 _ _ R7; have y5 : (w6.alloc (.cells #[.string k] 9)).frozen? ⟨R, 5, none⟩ = false := frozen_of_row _ R 5 _ _ R7; have y6 : (w6.alloc (.cells #[.string k] 9)).frozen? ⟨R, 6, none⟩ = false := frozen_of_row _ R 6 _ _ R7; have y7 : (w6.alloc (.cells #[.string k] 9)).frozen? ⟨R, 7, none⟩ = false := frozen_of_row _ R 7 _ _ R7; have y8 : (w6.alloc (.cells #[.string k] 9)).frozen? ⟨R, 8, none⟩ = false := frozen_of_row _ R 8 _ _ R7; have y9 : (w6.alloc (.cells #[.string k] 9)).frozen? ⟨R, 9, none⟩ = false := frozen_of_row _ R 9 _ _ R7; have y10 : (w6.alloc (.cells #[.string k] 9)).frozen? ⟨R, 10, none⟩ = false := frozen_of_row _ R 10 _ _ R7; have y11 : (w6.alloc (.cells #[.string k] 9)).frozen? ⟨R, 11, none⟩ = false := frozen_of_row _ R 11 _ _ R7; have H7 := Lib.hid ((frB (w := w6) (.cells #[.string k] 9)).heap H6.out (fun h => h)); clear R7))
  all_goals
    go_wp2_with fail
    refine bodyPost_ret ?_ rfl ⟨w6.heap.size, rfl, Lib.hid ?_, Lib.hid ?_⟩
    · rw [results_cell rfl]
      go_simp
    · refine Fr.heap (S := One R) (w := w6.alloc (.cells #[.string k] 9)) ?_ (heap_alloc_new w6 _) (fun e => ?_)
      · repeat (with_reducible first | refine Fr.set1 ?_ _ | exact Fr.refl _ _)
      · have := lt_of_block R6.out
        unfold One at e
        omega
    · refine Fr.trans (F6.out.alloc (.cells #[.string k] 9)) (S' := One R) ?_ (fun i hi e => ?_)
      · repeat (with_reducible first | refine Fr.set1 ?_ _ | exact Fr.refl _ _)
      · have := HR.out
        have := HB.out
        unfold One at e
        omega

set_option maxHeartbeats 8000000 in
set_option maxRecDepth 100000 in
theorem back_store {w : World} {l : List ByteArray} (k : ByteArray) (b d : ByteArray) (v : Value) (n1 n2 n3 n4 : Int) (b1 b2 b3 b4 : Bool) (h : RdS w v l) (hk : k = keyOf l) :
    Calls Tryd.prog 13 #[.agg #[.string ⟨#[115, 116, 111, 114, 101]⟩, .string b, v, .string d, .int .u32 n1, .int .i64 n2, .int .u64 n3, .int .u64 n4, .bool b1, .bool b2, .bool b3, .bool b4]] w fun e w' => ∃ g, e = .returned (.agg #[.string ⟨#[115, 116, 111, 114, 101]⟩, .string b, .slice (some ⟨g, 0, none⟩) 1 1, .string d, .int .u32 n1, .int .i64 n2, .int .u64 n3, .int .u64 0, .bool false, .bool false, .bool false, .bool b4]) ∧ Hid (w'.heap[g]? = some (.cells #[.string k] 9 (0, 0))) ∧ Hid (Fr Nob w w') := by
  obtain ⟨A, cap, rfl, hc0, hq⟩ := id h
  clear hq hc0
  obtain ⟨B, hB⟩ : ∃ B, B = w.heap.size := ⟨_, rfl⟩
  obtain ⟨R, hR⟩ : ∃ R, R = B + 1 := ⟨_, rfl⟩
  obtain ⟨w2, hw2⟩ : ∃ w2, w2 = (w.alloc (.cells #[.string ⟨#[115, 116, 111, 114, 101]⟩, .string b, .slice A l.length cap, .string d, .int .u32 n1, .int .i64 n2, .int .u64 n3, .int .u64 n4, .bool b1, .bool b2, .bool b3, .bool b4] 31)).alloc (.cells #[.string ⟨#[]⟩, .string ⟨#[]⟩, .slice none 0 0, .string ⟨#[]⟩, .int .u32 0, .int .i64 0, .int .u64 0, .int .u64 0, .bool false, .bool false, .bool false, .bool false] 28) := ⟨_, rfl⟩
  have f2 : Fr Nob w w2 := by rw [hw2]; exact ((Fr.refl Nob w).alloc _).alloc _
  have h2 : w2.heap[B]? = some (.cells #[.string ⟨#[115, 116, 111, 114, 101]⟩, .string b, .slice A l.length cap, .string d, .int .u32 n1, .int .i64 n2, .int .u64 n3, .int .u64 n4, .bool b1, .bool b2, .bool b3, .bool b4] 31 (0, 0)) := by rw [hw2, hB]; exact (frB _).heap (heap_alloc_new w _) fun h => h
  have r2 : w2.heap[R]? = some (.cells #[.string ⟨#[]⟩, .string ⟨#[]⟩, .slice none 0 0, .string ⟨#[]⟩, .int .u32 0, .int .i64 0, .int .u64 0, .int .u64 0, .bool false, .bool false, .bool false, .bool false] 28 (0, 0)) := by rw [hw2, hR, hB]; exact heap_alloc_at _ _ _ (by simp)
  have F2 := Lib.hid f2
  have H2 := Lib.hid h2
  have R2 := Lib.hid r2
  have HW := Lib.hid hw2.symm
  have HB := Lib.hid hB.symm
  have HR := Lib.hid hR.symm
  clear f2 h2 r2 hw2 hB hR
  have KY : Hid (∀ W, Fr Nob w W → Calls Tryd.prog 27 #[.agg #[.string ⟨#[115, 116, 111, 114, 101]⟩, .string b, .slice A l.length cap, .string d, .int .u32 n1, .int .i64 n2, .int .u64 n3, .int .u64 n4, .bool b1, .bool b2, .bool b3, .bool b4]] W fun e w' => e = .returned (.string k) ∧ Fr Nob W w') := Lib.hid fun W f => key17_eq _ b k d _ n1 n2 n3 n4 b1 b2 b3 b4 (h.nob f) hk
  clear h hk
  have LS : Hid (∀ W : World, W.heap[B]? = some (.cells #[.string ⟨#[115, 116, 111, 114, 101]⟩, .string b, .slice A l.length cap, .string d, .int .u32 n1, .int .i64 n2, .int .u64 n3, .int .u64 n4, .bool b1, .bool b2, .bool b3, .bool b4] 31 (0, 0)) → (W.cell? ⟨B, 0, none⟩ = some (.string ⟨#[115, 116, 111, 114, 101]⟩) ∧ W.cell? ⟨B, 1, none⟩ = some (.string b) ∧ W.cell? ⟨B, 2, none⟩ = some (.slice A l.length cap) ∧ W.cell? ⟨B, 3, none⟩ = some (.string d) ∧ W.cell? ⟨B, 4, none⟩ = some (.int .u32 n1) ∧ W.cell? ⟨B, 5, none⟩ = some (.int .i64 n2) ∧ W.cell? ⟨B, 6, none⟩ = some (.int .u64 n3) ∧ W.cell? ⟨B, 7, none⟩ = some (.int .u64 n4) ∧ W.cell? ⟨B, 8, none⟩ = some (.bool b1) ∧ W.cell? ⟨B, 9, none⟩ = some (.bool b2) ∧ W.cell? ⟨B, 10, none⟩ = some (.bool b3) ∧ W.cell? ⟨B, 11, none⟩ = some (.bool b4))) := Lib.hid fun W h => ⟨cell_of_row W B 0 _ _ (0, 0) h, cell_of_row W B 1 _ _ (0, 0) h, cell_of_row W B 2 _ _ (0, 0) h, cell_of_row W B 3 _ _ (0, 0) h, cell_of_row W B 4 _ _ (0, 0) h, cell_of_row W B 5 _ _ (0, 0) h, cell_of_row W B 6 _ _ (0, 0) h, cell_of_row W B 7 _ _ (0, 0) h, cell_of_row W B 8 _ _ (0, 0) h, cell_of_row W B 9 _ _ (0, 0) h, cell_of_row W B 10 _ _ (0, 0) h, cell_of_row W B 11 _ _ (0, 0) h⟩
  have NE : Hid (¬ One R B) := Lib.hid (by unfold One; have := HR.out; omega)
  have HD : Hid (w2.drew.heap[B]? = some (.cells #[.string ⟨#[115, 116, 111, 114, 101]⟩, .string b, .slice A l.length cap, .string d, .int .u32 n1, .int .i64 n2, .int .u64 n3, .int .u64 n4, .bool b1, .bool b2, .bool b3, .bool b4] 31 (0, 0))) := Lib.hid H2.out
  have RD : Hid (w2.drew.heap[R]? = some (.cells #[.string ⟨#[]⟩, .string ⟨#[]⟩, .slice none 0 0, .string ⟨#[]⟩, .int .u32 0, .int .i64 0, .int .u64 0, .int .u64 0, .bool false, .bool false, .bool false, .bool false] 28 (0, 0))) := Lib.hid R2.out
  go_enter Tryd.func13, Tryd.ntmps13
  go_wp2_with fail
  rw [HW.out, HB.out, HR.out]
  go_region_held3 (fun w' => w'.cell? ⟨B, 0, none⟩ = some (.string ⟨#[115, 116, 111, 114, 101]⟩) ∧ w'.cell? ⟨B, 1, none⟩ = some (.string b) ∧ w'.cell? ⟨B, 2, none⟩ = some (.slice A l.length cap) ∧ w'.cell? ⟨B, 3, none⟩ = some (.string d) ∧ w'.cell? ⟨B, 4, none⟩ = some (.int .u32 n1) ∧ w'.cell? ⟨B, 5, none⟩ = some (.int .i64 n2) ∧ w'.cell? ⟨B, 6, none⟩ = some (.int .u64 n3) ∧ w'.cell? ⟨B, 7, none⟩ = some (.int .u64 n4) ∧ w'.cell? ⟨B, 8, none⟩ = some (.bool b1) ∧ w'.cell? ⟨B, 9, none⟩ = some (.bool b2) ∧ w'.cell? ⟨B, 10, none⟩ = some (.bool b3) ∧ w'.cell? ⟨B, 11, none⟩ = some (.bool b4))
    (first | with_reducible exact LS.out _ HD.out | with_reducible exact LS.out _ H6.out | with_reducible exact LS.out _ H7.out | (refine LS.out _ (Fr.heap (S := One R) (w := w6.alloc (.cells #[.string k] 9)) ?_ H7.out NE.out); (repeat (with_reducible first | refine Fr.set1 ?_ _ | exact Fr.refl _ _))))
    (first
    | (go_at_call 27; (with_reducible refine (KY.out _ F2.out.drew).mono ?_); rintro e w6 ⟨rfl, f6⟩; have F6 : Hid (Fr Nob w w6) := Lib.hid (F2.out.drew.trans' f6); have R6 := Lib.hid (f6.heap RD.out fun h => h); have H6 := Lib.hid (f6.heap HD.out fun h => h); clear f6; have R7 := (frB (w := w6) (.cells #[.string k] 9)).heap R6.out (fun h => h); have z0 : (w6.alloc (.cells #[.string k] 9)).cell? ⟨R, 0, none⟩ = some (.string ⟨#[]⟩) := cell_of_row _ R 0 _ _ (0, 0) R7; have z1 : (w6.alloc (.cells #[.string k] 9)).cell? ⟨R, 1, none⟩ = some (.string ⟨#[]⟩) := cell_of_row _ R 1 _ _ (0, 0) R7; have z2 : (w6.alloc (.cells #[.string k] 9)).cell? ⟨R, 2, none⟩ = some (.slice none 0 0) := cell_of_row _ R 2 _ _ (0, 0) R7; have z3 : (w6.alloc (.cells #[.string k] 9)).cell? ⟨R, 3, none⟩ = some (.string ⟨#[]⟩) := cell_of_row _ R 3 _ _ (0, 0) R7; have z4 : (w6.alloc (.cells #[.string k] 9)).cell? ⟨R, 4, none⟩ = some (.int .u32 0) := cell_of_row _ R 4 _ _ (0, 0) R7; have z5 : (w6.alloc (.cells #[.string k] 9)).cell? ⟨R, 5, none⟩ = some (.int .i64 0) := cell_of_row _ R 5 _ _ (0, 0) R7; have z6 : (w6.alloc (.cells #[.string k] 9)).cell? ⟨R, 6, none⟩ = some (.int .u64 0) := cell_of_row _ R 6 _ _ (0, 0) R7; have z7 : (w6.alloc (.cells #[.string k] 9)).cell? ⟨R, 7, none⟩ = some (.int .u64 0) := cell_of_row _ R 7 _ _ (0, 0) R7; have z8 : (w6.alloc (.cells #[.string k] 9)).cell? ⟨R, 8, none⟩ = some (.bool false) := cell_of_row _ R 8 _ _ (0, 0) R7; have z9 : (w6.alloc (.cells #[.string k] 9)).cell? ⟨R, 9, none⟩ = some (.bool false) := cell_of_row _ R 9 _ _ (0, 0) R7; have z10 : (w6.alloc (.cells #[.string k] 9)).cell? ⟨R, 10, none⟩ = some (.bool false) := cell_of_row _ R 10 _ _ (0, 0) R7; have z11 : (w6.alloc (.cells #[.string k] 9)).cell? ⟨R, 11, none⟩ = some (.bool false) := cell_of_row _ R 11 _ _ (0, 0) R7; have y0 : (w6.alloc (.cells #[.string k] 9)).frozen? ⟨R, 0, none⟩ = false := frozen_of_row _ R 0 _ _ R7; have y1 : (w6.alloc (.cells #[.string k] 9)).frozen? ⟨R, 1, none⟩ = false := frozen_of_row _ R 1 _ _ R7; have y2 : (w6.alloc (.cells #[.string k] 9)).frozen? ⟨R, 2, none⟩ = false := frozen_of_row _ R 2 _ _ R7; have y3 : (w6.alloc (.cells #[.string k] 9)).frozen? ⟨R, 3, none⟩ = false := frozen_of_row _ R 3 _ _ R7; have y4 : (w6.alloc (.cells #[.string k] 9)).frozen? ⟨R, 4, none⟩ = false := frozen_of_row _ R 4 _ _ R7; have y5 : (w6.alloc (.cells #[.string k] 9)).frozen? ⟨R, 5, none⟩ = false := frozen_of_row _ R 5 _ _ R7; have y6 : (w6.alloc (.cells #[.string k] 9)).frozen? ⟨R, 6, none⟩ = false := frozen_of_row _ R 6 _ _ R7; have y7 : (w6.alloc (.cells #[.string k] 9)).frozen? ⟨R, 7, none⟩ = false := frozen_of_row _ R 7 _ _ R7; have y8 : (w6.alloc (.cells #[.string k] 9)).frozen? ⟨R, 8, none⟩ = false := frozen_of_row _ R 8 _ _ R7; have y9 : (w6.alloc (.cells #[.string k] 9)).frozen? ⟨R, 9, none⟩ = false := frozen_of_row _ R 9 _ _ R7; have y10 : (w6.alloc (.cells #[.string k] 9)).frozen? ⟨R, 10, none⟩ = false := frozen_of_row _ R 10 _ _ R7; have y11 : (w6.alloc (.cells #[.string k] 9)).frozen? ⟨R, 11, none⟩ = false := frozen_of_row _ R 11 _ _ R7; have H7 := Lib.hid ((frB (w := w6) (.cells #[.string k] 9)).heap H6.out (fun h => h)); clear R7))
  all_goals
    go_wp2_with fail
    refine bodyPost_ret ?_ rfl ⟨w6.heap.size, rfl, Lib.hid ?_, Lib.hid ?_⟩
    · rw [results_cell rfl]
      go_simp
    · refine Fr.heap (S := One R) (w := w6.alloc (.cells #[.string k] 9)) ?_ (heap_alloc_new w6 _) (fun e => ?_)
      · repeat (with_reducible first | refine Fr.set1 ?_ _ | exact Fr.refl _ _)
      · have := lt_of_block R6.out
        unfold One at e
        omega
    · refine Fr.trans (F6.out.alloc (.cells #[.string k] 9)) (S' := One R) ?_ (fun i hi e => ?_)
      · repeat (with_reducible first | refine Fr.set1 ?_ _ | exact Fr.refl _ _)
      · have := HR.out
        have := HB.out
        unfold One at e
        omega
end Go.Proofs.YthfhlbnjahakaaaDoor
