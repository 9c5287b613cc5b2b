/-
  event: contract of the reference's Cmd (written by gen/evv.py).
-/
import Derived.Test.YthfhlbnjahakaaaDoorEvU
import Derived.Deep.CutBlock
import Derived.Deep.DeepCutAuto
namespace Go.Proofs.YthfhlbnjahakaaaDoor
open Go.RowKit

theorem chain12 {w : World} {P : Nat} {t : TypeId} {x0 x1 x2 x3 x4 x5 x6 x7 x8 x9 x10 x11 v0 v1 v2 v3 v4 v5 v6 v7 v8 v9 v10 v11 : Value} (h : w.heap[P]? = some (.cells #[x0, x1, x2, x3, x4, x5, x6, x7, x8, x9, x10, x11] t (0, 0))) :
    ((((((((((((w.setCell ⟨P, 0, none⟩ v0).setCell ⟨P, 1, none⟩ v1).setCell ⟨P, 2, none⟩ v2).setCell ⟨P, 3, none⟩ v3).setCell ⟨P, 4, none⟩ v4).setCell ⟨P, 5, none⟩ v5).setCell ⟨P, 6, none⟩ v6).setCell ⟨P, 7, none⟩ v7).setCell ⟨P, 8, none⟩ v8).setCell ⟨P, 9, none⟩ v9).setCell ⟨P, 10, none⟩ v10).setCell ⟨P, 11, none⟩ v11).heap[P]? = some (.cells #[v0, v1, v2, v3, v4, v5, v6, v7, v8, v9, v10, v11] t (0, 0)) := by
  have h0 := heap_setCell_same w P 0 _ t v0 h
  have h1 := heap_setCell_same _ P 1 _ t v1 h0
  have h2 := heap_setCell_same _ P 2 _ t v2 h1
  have h3 := heap_setCell_same _ P 3 _ t v3 h2
  have h4 := heap_setCell_same _ P 4 _ t v4 h3
  have h5 := heap_setCell_same _ P 5 _ t v5 h4
  have h6 := heap_setCell_same _ P 6 _ t v6 h5
  have h7 := heap_setCell_same _ P 7 _ t v7 h6
  have h8 := heap_setCell_same _ P 8 _ t v8 h7
  have h9 := heap_setCell_same _ P 9 _ t v9 h8
  have h10 := heap_setCell_same _ P 10 _ t v10 h9
  have h11 := heap_setCell_same _ P 11 _ t v11 h10
  rw [h11]
  simp only [List.setIfInBounds_toArray, List.set_cons_zero, List.set_cons_succ]

set_option maxHeartbeats 8000000 in
set_option maxRecDepth 100000 in
theorem cmd17_0 {w : World} (a b d : ByteArray) (v : Value) (n1 n2 n3 n4 : Int) (b1 b2 b3 b4 : Bool) (h : RdS w v []) :
    Calls Tryd.prog 14 #[.agg #[.string a, .string b, v, .string d, .int .u32 n1, .int .i64 n2, .int .u64 n3, .int .u64 n4, .bool b1, .bool b2, .bool b3, .bool b4]] w fun e w' => ∃ v', e = .returned (.agg #[.string a, .string b, v', .string d, .int .u32 n1, .int .i64 n2, .int .u64 n3, .int .u64 n4, .bool b1, .bool b2, .bool b3, .bool b4]) ∧ Hid (RdS w' v' []) ∧ Hid (Fr Nob w w') := by
  obtain ⟨A, cap, rfl, hc0, hq⟩ := id h
  clear hq
  clear hc0
  obtain ⟨B, hB⟩ : ∃ B, B = w.heap.size := ⟨_, rfl⟩
  obtain ⟨R, hR⟩ : ∃ R, R = B + 1 := ⟨_, rfl⟩
  obtain ⟨w2, hw2⟩ : ∃ w2, w2 = (w.alloc (.cells #[.string a, .string b, .slice A 0 cap, .string d, .int .u32 n1, .int .i64 n2, .int .u64 n3, .int .u64 n4, .bool b1, .bool b2, .bool b3, .bool b4] 28)).alloc (.cells #[.string ⟨#[]⟩, .string ⟨#[]⟩, .slice none 0 0, .string ⟨#[]⟩, .int .u32 0, .int .i64 0, .int .u64 0, .int .u64 0, .bool false, .bool false, .bool false, .bool false] 31) := ⟨_, rfl⟩
  have f2 : Fr Nob w w2 := by rw [hw2]; exact ((Fr.refl Nob w).alloc _).alloc _
  have h2 : w2.heap[B]? = some (.cells #[.string a, .string b, .slice A 0 cap, .string d, .int .u32 n1, .int .i64 n2, .int .u64 n3, .int .u64 n4, .bool b1, .bool b2, .bool b3, .bool b4] 28 (0, 0)) := by rw [hw2, hB]; exact (frB _).heap (heap_alloc_new w _) fun h => h
  have r2 : w2.heap[R]? = some (.cells #[.string ⟨#[]⟩, .string ⟨#[]⟩, .slice none 0 0, .string ⟨#[]⟩, .int .u32 0, .int .i64 0, .int .u64 0, .int .u64 0, .bool false, .bool false, .bool false, .bool false] 31 (0, 0)) := by rw [hw2, hR, hB]; exact heap_alloc_at _ _ _ (by simp)
  have F2 := Lib.hid f2
  have H2 := Lib.hid h2
  have R2 := Lib.hid r2
  have HW := Lib.hid hw2.symm
  have HB := Lib.hid hB.symm
  have HR := Lib.hid hR.symm
  clear f2 h2 r2 hw2 hB hR
  have LS : Hid (∀ W : World, W.heap[B]? = some (.cells #[.string a, .string b, .slice A 0 cap, .string d, .int .u32 n1, .int .i64 n2, .int .u64 n3, .int .u64 n4, .bool b1, .bool b2, .bool b3, .bool b4] 28 (0, 0)) → (W.cell? ⟨B, 0, none⟩ = some (.string a) ∧ W.cell? ⟨B, 1, none⟩ = some (.string b) ∧ W.cell? ⟨B, 2, none⟩ = some (.slice A 0 cap) ∧ W.cell? ⟨B, 3, none⟩ = some (.string d) ∧ W.cell? ⟨B, 4, none⟩ = some (.int .u32 n1) ∧ W.cell? ⟨B, 5, none⟩ = some (.int .i64 n2) ∧ W.cell? ⟨B, 6, none⟩ = some (.int .u64 n3) ∧ W.cell? ⟨B, 7, none⟩ = some (.int .u64 n4) ∧ W.cell? ⟨B, 8, none⟩ = some (.bool b1) ∧ W.cell? ⟨B, 9, none⟩ = some (.bool b2) ∧ W.cell? ⟨B, 10, none⟩ = some (.bool b3) ∧ W.cell? ⟨B, 11, none⟩ = some (.bool b4))) := Lib.hid fun W h => ⟨cell_of_row W B 0 _ _ (0, 0) h, cell_of_row W B 1 _ _ (0, 0) h, cell_of_row W B 2 _ _ (0, 0) h, cell_of_row W B 3 _ _ (0, 0) h, cell_of_row W B 4 _ _ (0, 0) h, cell_of_row W B 5 _ _ (0, 0) h, cell_of_row W B 6 _ _ (0, 0) h, cell_of_row W B 7 _ _ (0, 0) h, cell_of_row W B 8 _ _ (0, 0) h, cell_of_row W B 9 _ _ (0, 0) h, cell_of_row W B 10 _ _ (0, 0) h, cell_of_row W B 11 _ _ (0, 0) h⟩
  have RL : Hid (R < w2.heap.size) := Lib.hid (lt_of_block R2.out)
  have BL : Hid (B < w2.heap.size) := Lib.hid (lt_of_block H2.out)
  have GA : Hid (Fr Nob w2 ((w2.alloc (.cells #[] 9)).drew)) := Lib.hid ((Fr.refl Nob w2).alloc _).drew
  have HA : Hid (((w2.alloc (.cells #[] 9)).drew).heap[B]? = some (.cells #[.string a, .string b, .slice A 0 cap, .string d, .int .u32 n1, .int .i64 n2, .int .u64 n3, .int .u64 n4, .bool b1, .bool b2, .bool b3, .bool b4] 28 (0, 0))) := Lib.hid (GA.out.heap H2.out fun h => h)
  have GAZ : Hid (Fr Nob w2 (((w2.alloc (.cells #[] 9)).alloc (.cells #[.string ⟨#[]⟩, .string ⟨#[]⟩, .slice none 0 0, .string ⟨#[]⟩, .int .u32 0, .int .i64 0, .int .u64 0, .int .u64 0, .bool false, .bool false, .bool false, .bool false] 31)).drew)) := Lib.hid (((Fr.refl Nob w2).alloc _).alloc _).drew
  have HAZ : Hid ((((w2.alloc (.cells #[] 9)).alloc (.cells #[.string ⟨#[]⟩, .string ⟨#[]⟩, .slice none 0 0, .string ⟨#[]⟩, .int .u32 0, .int .i64 0, .int .u64 0, .int .u64 0, .bool false, .bool false, .bool false, .bool false] 31)).drew).heap[B]? = some (.cells #[.string a, .string b, .slice A 0 cap, .string d, .int .u32 n1, .int .i64 n2, .int .u64 n3, .int .u64 n4, .bool b1, .bool b2, .bool b3, .bool b4] 28 (0, 0))) := Lib.hid (GAZ.out.heap H2.out fun h => h)
  have GZ : Hid (Fr Nob w2 ((w2.alloc (.cells #[.string ⟨#[]⟩, .string ⟨#[]⟩, .slice none 0 0, .string ⟨#[]⟩, .int .u32 0, .int .i64 0, .int .u64 0, .int .u64 0, .bool false, .bool false, .bool false, .bool false] 31)).drew)) := Lib.hid ((Fr.refl Nob w2).alloc _).drew
  have HZ : Hid (((w2.alloc (.cells #[.string ⟨#[]⟩, .string ⟨#[]⟩, .slice none 0 0, .string ⟨#[]⟩, .int .u32 0, .int .i64 0, .int .u64 0, .int .u64 0, .bool false, .bool false, .bool false, .bool false] 31)).drew).heap[B]? = some (.cells #[.string a, .string b, .slice A 0 cap, .string d, .int .u32 n1, .int .i64 n2, .int .u64 n3, .int .u64 n4, .bool b1, .bool b2, .bool b3, .bool b4] 28 (0, 0))) := Lib.hid (GZ.out.heap H2.out fun h => h)
  have GZA : Hid (Fr Nob w2 (((w2.alloc (.cells #[.string ⟨#[]⟩, .string ⟨#[]⟩, .slice none 0 0, .string ⟨#[]⟩, .int .u32 0, .int .i64 0, .int .u64 0, .int .u64 0, .bool false, .bool false, .bool false, .bool false] 31)).alloc (.cells #[] 9)).drew)) := Lib.hid (((Fr.refl Nob w2).alloc _).alloc _).drew
  have HZA : Hid ((((w2.alloc (.cells #[.string ⟨#[]⟩, .string ⟨#[]⟩, .slice none 0 0, .string ⟨#[]⟩, .int .u32 0, .int .i64 0, .int .u64 0, .int .u64 0, .bool false, .bool false, .bool false, .bool false] 31)).alloc (.cells #[] 9)).drew).heap[B]? = some (.cells #[.string a, .string b, .slice A 0 cap, .string d, .int .u32 n1, .int .i64 n2, .int .u64 n3, .int .u64 n4, .bool b1, .bool b2, .bool b3, .bool b4] 28 (0, 0))) := Lib.hid (GZA.out.heap H2.out fun h => h)
  have HD : Hid (w2.drew.heap[B]? = some (.cells #[.string a, .string b, .slice A 0 cap, .string d, .int .u32 n1, .int .i64 n2, .int .u64 n3, .int .u64 n4, .bool b1, .bool b2, .bool b3, .bool b4] 28 (0, 0))) := Lib.hid H2.out
  have ownA : Hid (((w2.alloc (.cells #[] 9)).drew).ownsRow (w2.heap.size) 9 1 (.slice (some ⟨w2.heap.size, 0, none⟩) 0 0) 0 []) := Lib.hid (World.ownsRow_made w2.drew #[] 0 (Nat.le_refl _) (Nat.zero_le _) rfl)
  have ownAZ : Hid ((((w2.alloc (.cells #[] 9)).alloc (.cells #[.string ⟨#[]⟩, .string ⟨#[]⟩, .slice none 0 0, .string ⟨#[]⟩, .int .u32 0, .int .i64 0, .int .u64 0, .int .u64 0, .bool false, .bool false, .bool false, .bool false] 31)).drew).ownsRow (w2.heap.size) 9 1 (.slice (some ⟨w2.heap.size, 0, none⟩) 0 0) 0 []) := Lib.hid ((frB (w := ((w2.alloc (.cells #[] 9)).drew)) (.cells #[.string ⟨#[]⟩, .string ⟨#[]⟩, .slice none 0 0, .string ⟨#[]⟩, .int .u32 0, .int .i64 0, .int .u64 0, .int .u64 0, .bool false, .bool false, .bool false, .bool false] 31)).drew.ownsRow ownA.out fun _ _ h => h)
  have ownZA : Hid ((((w2.alloc (.cells #[.string ⟨#[]⟩, .string ⟨#[]⟩, .slice none 0 0, .string ⟨#[]⟩, .int .u32 0, .int .i64 0, .int .u64 0, .int .u64 0, .bool false, .bool false, .bool false, .bool false] 31)).alloc (.cells #[] 9)).drew).ownsRow (w2.heap.size + 1) 9 1 (.slice (some ⟨w2.heap.size + 1, 0, none⟩) 0 0) 0 []) := Lib.hid (by
    have := World.ownsRow_made (w2.alloc (.cells #[.string ⟨#[]⟩, .string ⟨#[]⟩, .slice none 0 0, .string ⟨#[]⟩, .int .u32 0, .int .i64 0, .int .u64 0, .int .u64 0, .bool false, .bool false, .bool false, .bool false] 31)).drew #[] 0 (Nat.le_refl _) (Nat.zero_le _) rfl (e := 9) (size := 1)
    have e : (w2.alloc (.cells #[.string ⟨#[]⟩, .string ⟨#[]⟩, .slice none 0 0, .string ⟨#[]⟩, .int .u32 0, .int .i64 0, .int .u64 0, .int .u64 0, .bool false, .bool false, .bool false, .bool false] 31)).drew.heap.size = w2.heap.size + 1 := by simp
    rw [e] at this
    exact this)
  have ZAZ : Hid ((((w2.alloc (.cells #[] 9)).alloc (.cells #[.string ⟨#[]⟩, .string ⟨#[]⟩, .slice none 0 0, .string ⟨#[]⟩, .int .u32 0, .int .i64 0, .int .u64 0, .int .u64 0, .bool false, .bool false, .bool false, .bool false] 31)).drew).heap[w2.heap.size + 1]? = some (.cells #[.string ⟨#[]⟩, .string ⟨#[]⟩, .slice none 0 0, .string ⟨#[]⟩, .int .u32 0, .int .i64 0, .int .u64 0, .int .u64 0, .bool false, .bool false, .bool false, .bool false] 31 (0, 0))) := Lib.hid (heap_alloc_at _ _ _ (by simp))
  have ZZA : Hid ((((w2.alloc (.cells #[.string ⟨#[]⟩, .string ⟨#[]⟩, .slice none 0 0, .string ⟨#[]⟩, .int .u32 0, .int .i64 0, .int .u64 0, .int .u64 0, .bool false, .bool false, .bool false, .bool false] 31)).alloc (.cells #[] 9)).drew).heap[w2.heap.size]? = some (.cells #[.string ⟨#[]⟩, .string ⟨#[]⟩, .slice none 0 0, .string ⟨#[]⟩, .int .u32 0, .int .i64 0, .int .u64 0, .int .u64 0, .bool false, .bool false, .bool false, .bool false] 31 (0, 0))) := Lib.hid ((frB (w := w2.alloc (.cells #[.string ⟨#[]⟩, .string ⟨#[]⟩, .slice none 0 0, .string ⟨#[]⟩, .int .u32 0, .int .i64 0, .int .u64 0, .int .u64 0, .bool false, .bool false, .bool false, .bool false] 31)) (.cells #[] 9)).heap (heap_alloc_new w2 _) fun h => h)
  clear h
  go_enter Tryd.func14, Tryd.ntmps14
  go_upto_region 1 with fail
  rw [HW.out, HB.out, HR.out]
  go_cut [3] (fun t W => ∃ P v', t = .pointer (some ⟨P, 0, none⟩) ∧ Hid (W.heap[P]? = some (.cells #[.string a, .string b, v', .string d, .int .u32 n1, .int .i64 n2, .int .u64 n3, .int .u64 n4, .bool b1, .bool b2, .bool b3, .bool b4] 31 (0, 0))) ∧ Hid (W.heap[R]? = some (.cells #[.string ⟨#[]⟩, .string ⟨#[]⟩, .slice none 0 0, .string ⟨#[]⟩, .int .u32 0, .int .i64 0, .int .u64 0, .int .u64 0, .bool false, .bool false, .bool false, .bool false] 31 (0, 0))) ∧ Hid (RdS W v' []) ∧ Hid (∀ k, v'.ownBlock = some k → R < k ∧ P ≠ k) ∧ Hid (Fr Nob w W) ∧ Hid (R < P))
  case first =>
    go_region_held3 (fun w' => w'.cell? ⟨B, 0, none⟩ = some (.string a) ∧ w'.cell? ⟨B, 1, none⟩ = some (.string b) ∧ w'.cell? ⟨B, 2, none⟩ = some (.slice A 0 cap) ∧ w'.cell? ⟨B, 3, none⟩ = some (.string d) ∧ w'.cell? ⟨B, 4, none⟩ = some (.int .u32 n1) ∧ w'.cell? ⟨B, 5, none⟩ = some (.int .i64 n2) ∧ w'.cell? ⟨B, 6, none⟩ = some (.int .u64 n3) ∧ w'.cell? ⟨B, 7, none⟩ = some (.int .u64 n4) ∧ w'.cell? ⟨B, 8, none⟩ = some (.bool b1) ∧ w'.cell? ⟨B, 9, none⟩ = some (.bool b2) ∧ w'.cell? ⟨B, 10, none⟩ = some (.bool b3) ∧ w'.cell? ⟨B, 11, none⟩ = some (.bool b4))
     (first | with_reducible exact LS.out _ HD.out | with_reducible exact LS.out _ HA.out | with_reducible exact LS.out _ HAZ.out | with_reducible exact LS.out _ HZ.out | with_reducible exact LS.out _ HZA.out | (refine LS.out _ (Fr.heap (S := fun k => B < k) (w := w2) ?_ H2.out (Nat.lt_irrefl B)); (repeat (with_reducible first | refine Fr.drew ?_ | refine Fr.alloc ?_ _ | refine Fr.setCell ?_ _ (fun _ => BL.out) _ | refine Fr.setCell ?_ _ (fun _ => Nat.lt_succ_of_lt BL.out) _ | exact Fr.refl _ _))))
     (first
    | (refine step_app_none (o := ⟨some 11, _, _, _, _, _⟩) rfl (.tmp 8) (.tmp 10) 24 rfl 9 #[.string ⟨#[]⟩] 1 16 Tryd.underlying24 str_info (some ⟨w2.heap.size, 0, none⟩) 0 0 (Nat.le_refl _) rfl A cap rfl ?_) | (refine step_app_none (o := ⟨some 11, _, _, _, _, _⟩) rfl (.tmp 8) (.tmp 10) 24 rfl 9 #[.string ⟨#[]⟩] 1 16 Tryd.underlying24 str_info (some ⟨w2.heap.size + 1, 0, none⟩) 0 0 (Nat.le_refl _) rfl A cap rfl ?_))
    all_goals
      go_wp2_with fail
      go_meet
      have hb5 := HB.out
      have hbr := HR.out
      have hf2 := F2.out.size
      have hrl := RL.out
    · refine ⟨w2.heap.size + 1, (.slice (some ⟨w2.heap.size, 0, none⟩) 0 0), rfl, Lib.hid (heap_alloc_at _ _ _ (by simp)), Lib.hid (Fr.heap (S := Nob) (w := w2) ((Fr.refl Nob w2).alloc _ |>.alloc _) R2.out fun h => h), Lib.hid ⟨_, 0, rfl, Nat.le_refl _, fun h => absurd h (Nat.lt_irrefl _)⟩, Lib.hid fun k e => ?_, Lib.hid ((F2.out.alloc _).alloc _).drew, Lib.hid (by omega)⟩
      simp [Value.ownBlock] at e
      omega
    · refine ⟨w2.heap.size + 1, (.slice (some ⟨w2.heap.size, 0, none⟩) 0 0), rfl, Lib.hid (heap_alloc_at _ _ _ (by simp)), Lib.hid (Fr.heap (S := Nob) (w := w2) ((Fr.refl Nob w2).alloc _ |>.alloc _) R2.out fun h => h), Lib.hid ⟨_, 0, rfl, Nat.le_refl _, fun h => absurd h (Nat.lt_irrefl _)⟩, Lib.hid fun k e => ?_, Lib.hid ((F2.out.alloc _).alloc _).drew, Lib.hid (by omega)⟩
      simp [Value.ownBlock] at e
      omega
    · refine ⟨w2.heap.size, (.slice (some ⟨w2.heap.size + 1, 0, none⟩) 0 0), rfl, Lib.hid ((frB (w := World.alloc w2 _) _).heap (heap_alloc_new w2 _) fun h => h), Lib.hid (Fr.heap (S := Nob) (w := w2) ((Fr.refl Nob w2).alloc _ |>.alloc _) R2.out fun h => h), Lib.hid ⟨_, 0, rfl, Nat.le_refl _, fun h => absurd h (Nat.lt_irrefl _)⟩, Lib.hid fun k e => ?_, Lib.hid ((F2.out.alloc _).alloc _).drew, Lib.hid (by omega)⟩
      simp [Value.ownBlock] at e
      omega
  case rest =>
    obtain ⟨P, v', rfl, hp, hr, rv, nv, f6, hrp⟩ := hcut
    generalize wc = w6 at *
    obtain ⟨a6, c6, rfl⟩ : ∃ a6 c6, v' = .slice a6 0 c6 := by
      obtain ⟨a6, c6, h, _⟩ := rv.out
      exact ⟨a6, c6, h⟩
    clear HAZ HA HZ HZA GAZ GA GZ GZA ownA ownAZ ownZA ZAZ ZZA LS HD HW H2 R2
    have x0 : w6.cell? ⟨P, 0, none⟩ = some (.string a) := cell_of_row _ P 0 _ _ (0, 0) hp.out
    have x1 : w6.cell? ⟨P, 1, none⟩ = some (.string b) := cell_of_row _ P 1 _ _ (0, 0) hp.out
    have x2 : w6.cell? ⟨P, 2, none⟩ = some (.slice a6 0 c6) := cell_of_row _ P 2 _ _ (0, 0) hp.out
    have x3 : w6.cell? ⟨P, 3, none⟩ = some (.string d) := cell_of_row _ P 3 _ _ (0, 0) hp.out
    have x4 : w6.cell? ⟨P, 4, none⟩ = some (.int .u32 n1) := cell_of_row _ P 4 _ _ (0, 0) hp.out
    have x5 : w6.cell? ⟨P, 5, none⟩ = some (.int .i64 n2) := cell_of_row _ P 5 _ _ (0, 0) hp.out
    have x6 : w6.cell? ⟨P, 6, none⟩ = some (.int .u64 n3) := cell_of_row _ P 6 _ _ (0, 0) hp.out
    have x7 : w6.cell? ⟨P, 7, none⟩ = some (.int .u64 n4) := cell_of_row _ P 7 _ _ (0, 0) hp.out
    have x8 : w6.cell? ⟨P, 8, none⟩ = some (.bool b1) := cell_of_row _ P 8 _ _ (0, 0) hp.out
    have x9 : w6.cell? ⟨P, 9, none⟩ = some (.bool b2) := cell_of_row _ P 9 _ _ (0, 0) hp.out
    have x10 : w6.cell? ⟨P, 10, none⟩ = some (.bool b3) := cell_of_row _ P 10 _ _ (0, 0) hp.out
    have x11 : w6.cell? ⟨P, 11, none⟩ = some (.bool b4) := cell_of_row _ P 11 _ _ (0, 0) hp.out
    have xf := frozen_of_row w6 P 2 _ _ hp.out
    have z0 : w6.cell? ⟨R, 0, none⟩ = some (.string ⟨#[]⟩) := cell_of_row _ R 0 _ _ (0, 0) hr.out
    have z1 : w6.cell? ⟨R, 1, none⟩ = some (.string ⟨#[]⟩) := cell_of_row _ R 1 _ _ (0, 0) hr.out
    have z2 : w6.cell? ⟨R, 2, none⟩ = some (.slice none 0 0) := cell_of_row _ R 2 _ _ (0, 0) hr.out
    have z3 : w6.cell? ⟨R, 3, none⟩ = some (.string ⟨#[]⟩) := cell_of_row _ R 3 _ _ (0, 0) hr.out
    have z4 : w6.cell? ⟨R, 4, none⟩ = some (.int .u32 0) := cell_of_row _ R 4 _ _ (0, 0) hr.out
    have z5 : w6.cell? ⟨R, 5, none⟩ = some (.int .i64 0) := cell_of_row _ R 5 _ _ (0, 0) hr.out
    have z6 : w6.cell? ⟨R, 6, none⟩ = some (.int .u64 0) := cell_of_row _ R 6 _ _ (0, 0) hr.out
    have z7 : w6.cell? ⟨R, 7, none⟩ = some (.int .u64 0) := cell_of_row _ R 7 _ _ (0, 0) hr.out
    have z8 : w6.cell? ⟨R, 8, none⟩ = some (.bool false) := cell_of_row _ R 8 _ _ (0, 0) hr.out
    have z9 : w6.cell? ⟨R, 9, none⟩ = some (.bool false) := cell_of_row _ R 9 _ _ (0, 0) hr.out
    have z10 : w6.cell? ⟨R, 10, none⟩ = some (.bool false) := cell_of_row _ R 10 _ _ (0, 0) hr.out
    have z11 : w6.cell? ⟨R, 11, none⟩ = some (.bool false) := cell_of_row _ R 11 _ _ (0, 0) hr.out
    have y0 := frozen_of_row w6 R 0 _ _ hr.out
    have y1 := frozen_of_row w6 R 1 _ _ hr.out
    have y2 := frozen_of_row w6 R 2 _ _ hr.out
    have y3 := frozen_of_row w6 R 3 _ _ hr.out
    have y4 := frozen_of_row w6 R 4 _ _ hr.out
    have y5 := frozen_of_row w6 R 5 _ _ hr.out
    have y6 := frozen_of_row w6 R 6 _ _ hr.out
    have y7 := frozen_of_row w6 R 7 _ _ hr.out
    have y8 := frozen_of_row w6 R 8 _ _ hr.out
    have y9 := frozen_of_row w6 R 9 _ _ hr.out
    have y10 := frozen_of_row w6 R 10 _ _ hr.out
    have y11 := frozen_of_row w6 R 11 _ _ hr.out
    have hne : ¬ P = R := by have := hrp.out; omega
    have hne2 : ¬ R = P := by have := hrp.out; omega
    go_wp2_with fail
    refine bodyPost_ret (v := .agg #[.string a, .string b, .slice none 0 0, .string d, .int .u32 n1, .int .i64 n2, .int .u64 n3, .int .u64 n4, .bool b1, .bool b2, .bool b3, .bool b4]) ?_ rfl ⟨.slice none 0 0, rfl, Lib.hid ?_, Lib.hid ?_⟩
    · rw [results_cell rfl]
      go_simp
    · exact RdS.nil _
    · refine Fr.trans f6.out (S' := fun k => k = P ∨ k = R) ?_ (fun i hi e => ?_)
      · repeat (with_reducible first | refine Fr.setCell ?_ _ (fun _ => .inr rfl) _ | refine Fr.setCell ?_ _ (fun _ => .inl rfl) _ | exact Fr.refl _ _)
      · have := HB.out
        have := HR.out
        have := hrp.out
        rcases e with e | e <;> omega

set_option maxHeartbeats 8000000 in
set_option maxRecDepth 100000 in
theorem cmd17_1 {w : World} {l : List ByteArray} (a b d : ByteArray) (v : Value) (n1 n2 n3 n4 : Int) (b1 b2 b3 b4 : Bool) (h : RdS w v l) (hn : l.length ≤ 1000000000) (hp : 0 < l.length):
    Calls Tryd.prog 14 #[.agg #[.string a, .string b, v, .string d, .int .u32 n1, .int .i64 n2, .int .u64 n3, .int .u64 n4, .bool b1, .bool b2, .bool b3, .bool b4]] w fun e w' => ∃ v', e = .returned (.agg #[.string a, .string b, v', .string d, .int .u32 n1, .int .i64 n2, .int .u64 n3, .int .u64 n4, .bool b1, .bool b2, .bool b3, .bool b4]) ∧ Hid (RdS w' v' l) ∧ Hid (Fr Nob w w') := by
  obtain ⟨A, cap, rfl, hc0, hq⟩ := id h
  obtain ⟨g, o, rfl, hc⟩ := hq hp
  have HC := Lib.hid hc
  have hnz : ¬ l.length = 0 := by omega
  clear hq hc hp
  clear hc0
  obtain ⟨B, hB⟩ : ∃ B, B = w.heap.size := ⟨_, rfl⟩
  obtain ⟨R, hR⟩ : ∃ R, R = B + 1 := ⟨_, rfl⟩
  obtain ⟨w2, hw2⟩ : ∃ w2, w2 = (w.alloc (.cells #[.string a, .string b, .slice (some ⟨g, o, none⟩) l.length cap, .string d, .int .u32 n1, .int .i64 n2, .int .u64 n3, .int .u64 n4, .bool b1, .bool b2, .bool b3, .bool b4] 28)).alloc (.cells #[.string ⟨#[]⟩, .string ⟨#[]⟩, .slice none 0 0, .string ⟨#[]⟩, .int .u32 0, .int .i64 0, .int .u64 0, .int .u64 0, .bool false, .bool false, .bool false, .bool false] 31) := ⟨_, rfl⟩
  have f2 : Fr Nob w w2 := by rw [hw2]; exact ((Fr.refl Nob w).alloc _).alloc _
  have h2 : w2.heap[B]? = some (.cells #[.string a, .string b, .slice (some ⟨g, o, none⟩) l.length cap, .string d, .int .u32 n1, .int .i64 n2, .int .u64 n3, .int .u64 n4, .bool b1, .bool b2, .bool b3, .bool b4] 28 (0, 0)) := by rw [hw2, hB]; exact (frB _).heap (heap_alloc_new w _) fun h => h
  have r2 : w2.heap[R]? = some (.cells #[.string ⟨#[]⟩, .string ⟨#[]⟩, .slice none 0 0, .string ⟨#[]⟩, .int .u32 0, .int .i64 0, .int .u64 0, .int .u64 0, .bool false, .bool false, .bool false, .bool false] 31 (0, 0)) := by rw [hw2, hR, hB]; exact heap_alloc_at _ _ _ (by simp)
  have F2 := Lib.hid f2
  have H2 := Lib.hid h2
  have R2 := Lib.hid r2
  have HW := Lib.hid hw2.symm
  have HB := Lib.hid hB.symm
  have HR := Lib.hid hR.symm
  clear f2 h2 r2 hw2 hB hR
  have LS : Hid (∀ W : World, W.heap[B]? = some (.cells #[.string a, .string b, .slice (some ⟨g, o, none⟩) l.length cap, .string d, .int .u32 n1, .int .i64 n2, .int .u64 n3, .int .u64 n4, .bool b1, .bool b2, .bool b3, .bool b4] 28 (0, 0)) → (W.cell? ⟨B, 0, none⟩ = some (.string a) ∧ W.cell? ⟨B, 1, none⟩ = some (.string b) ∧ W.cell? ⟨B, 2, none⟩ = some (.slice (some ⟨g, o, none⟩) l.length cap) ∧ W.cell? ⟨B, 3, none⟩ = some (.string d) ∧ W.cell? ⟨B, 4, none⟩ = some (.int .u32 n1) ∧ W.cell? ⟨B, 5, none⟩ = some (.int .i64 n2) ∧ W.cell? ⟨B, 6, none⟩ = some (.int .u64 n3) ∧ W.cell? ⟨B, 7, none⟩ = some (.int .u64 n4) ∧ W.cell? ⟨B, 8, none⟩ = some (.bool b1) ∧ W.cell? ⟨B, 9, none⟩ = some (.bool b2) ∧ W.cell? ⟨B, 10, none⟩ = some (.bool b3) ∧ W.cell? ⟨B, 11, none⟩ = some (.bool b4))) := Lib.hid fun W h => ⟨cell_of_row W B 0 _ _ (0, 0) h, cell_of_row W B 1 _ _ (0, 0) h, cell_of_row W B 2 _ _ (0, 0) h, cell_of_row W B 3 _ _ (0, 0) h, cell_of_row W B 4 _ _ (0, 0) h, cell_of_row W B 5 _ _ (0, 0) h, cell_of_row W B 6 _ _ (0, 0) h, cell_of_row W B 7 _ _ (0, 0) h, cell_of_row W B 8 _ _ (0, 0) h, cell_of_row W B 9 _ _ (0, 0) h, cell_of_row W B 10 _ _ (0, 0) h, cell_of_row W B 11 _ _ (0, 0) h⟩
  have RL : Hid (R < w2.heap.size) := Lib.hid (lt_of_block R2.out)
  have BL : Hid (B < w2.heap.size) := Lib.hid (lt_of_block H2.out)
  have GA : Hid (Fr Nob w2 ((w2.alloc (.cells #[] 9)).drew)) := Lib.hid ((Fr.refl Nob w2).alloc _).drew
  have HA : Hid (((w2.alloc (.cells #[] 9)).drew).heap[B]? = some (.cells #[.string a, .string b, .slice (some ⟨g, o, none⟩) l.length cap, .string d, .int .u32 n1, .int .i64 n2, .int .u64 n3, .int .u64 n4, .bool b1, .bool b2, .bool b3, .bool b4] 28 (0, 0))) := Lib.hid (GA.out.heap H2.out fun h => h)
  have GAZ : Hid (Fr Nob w2 (((w2.alloc (.cells #[] 9)).alloc (.cells #[.string ⟨#[]⟩, .string ⟨#[]⟩, .slice none 0 0, .string ⟨#[]⟩, .int .u32 0, .int .i64 0, .int .u64 0, .int .u64 0, .bool false, .bool false, .bool false, .bool false] 31)).drew)) := Lib.hid (((Fr.refl Nob w2).alloc _).alloc _).drew
  have HAZ : Hid ((((w2.alloc (.cells #[] 9)).alloc (.cells #[.string ⟨#[]⟩, .string ⟨#[]⟩, .slice none 0 0, .string ⟨#[]⟩, .int .u32 0, .int .i64 0, .int .u64 0, .int .u64 0, .bool false, .bool false, .bool false, .bool false] 31)).drew).heap[B]? = some (.cells #[.string a, .string b, .slice (some ⟨g, o, none⟩) l.length cap, .string d, .int .u32 n1, .int .i64 n2, .int .u64 n3, .int .u64 n4, .bool b1, .bool b2, .bool b3, .bool b4] 28 (0, 0))) := Lib.hid (GAZ.out.heap H2.out fun h => h)
  have GZ : Hid (Fr Nob w2 ((w2.alloc (.cells #[.string ⟨#[]⟩, .string ⟨#[]⟩, .slice none 0 0, .string ⟨#[]⟩, .int .u32 0, .int .i64 0, .int .u64 0, .int .u64 0, .bool false, .bool false, .bool false, .bool false] 31)).drew)) := Lib.hid ((Fr.refl Nob w2).alloc _).drew
  have HZ : Hid (((w2.alloc (.cells #[.string ⟨#[]⟩, .string ⟨#[]⟩, .slice none 0 0, .string ⟨#[]⟩, .int .u32 0, .int .i64 0, .int .u64 0, .int .u64 0, .bool false, .bool false, .bool false, .bool false] 31)).drew).heap[B]? = some (.cells #[.string a, .string b, .slice (some ⟨g, o, none⟩) l.length cap, .string d, .int .u32 n1, .int .i64 n2, .int .u64 n3, .int .u64 n4, .bool b1, .bool b2, .bool b3, .bool b4] 28 (0, 0))) := Lib.hid (GZ.out.heap H2.out fun h => h)
  have GZA : Hid (Fr Nob w2 (((w2.alloc (.cells #[.string ⟨#[]⟩, .string ⟨#[]⟩, .slice none 0 0, .string ⟨#[]⟩, .int .u32 0, .int .i64 0, .int .u64 0, .int .u64 0, .bool false, .bool false, .bool false, .bool false] 31)).alloc (.cells #[] 9)).drew)) := Lib.hid (((Fr.refl Nob w2).alloc _).alloc _).drew
  have HZA : Hid ((((w2.alloc (.cells #[.string ⟨#[]⟩, .string ⟨#[]⟩, .slice none 0 0, .string ⟨#[]⟩, .int .u32 0, .int .i64 0, .int .u64 0, .int .u64 0, .bool false, .bool false, .bool false, .bool false] 31)).alloc (.cells #[] 9)).drew).heap[B]? = some (.cells #[.string a, .string b, .slice (some ⟨g, o, none⟩) l.length cap, .string d, .int .u32 n1, .int .i64 n2, .int .u64 n3, .int .u64 n4, .bool b1, .bool b2, .bool b3, .bool b4] 28 (0, 0))) := Lib.hid (GZA.out.heap H2.out fun h => h)
  have HD : Hid (w2.drew.heap[B]? = some (.cells #[.string a, .string b, .slice (some ⟨g, o, none⟩) l.length cap, .string d, .int .u32 n1, .int .i64 n2, .int .u64 n3, .int .u64 n4, .bool b1, .bool b2, .bool b3, .bool b4] 28 (0, 0))) := Lib.hid H2.out
  have ownA : Hid (((w2.alloc (.cells #[] 9)).drew).ownsRow (w2.heap.size) 9 1 (.slice (some ⟨w2.heap.size, 0, none⟩) 0 0) 0 []) := Lib.hid (World.ownsRow_made w2.drew #[] 0 (Nat.le_refl _) (Nat.zero_le _) rfl)
  have ownAZ : Hid ((((w2.alloc (.cells #[] 9)).alloc (.cells #[.string ⟨#[]⟩, .string ⟨#[]⟩, .slice none 0 0, .string ⟨#[]⟩, .int .u32 0, .int .i64 0, .int .u64 0, .int .u64 0, .bool false, .bool false, .bool false, .bool false] 31)).drew).ownsRow (w2.heap.size) 9 1 (.slice (some ⟨w2.heap.size, 0, none⟩) 0 0) 0 []) := Lib.hid ((frB (w := ((w2.alloc (.cells #[] 9)).drew)) (.cells #[.string ⟨#[]⟩, .string ⟨#[]⟩, .slice none 0 0, .string ⟨#[]⟩, .int .u32 0, .int .i64 0, .int .u64 0, .int .u64 0, .bool false, .bool false, .bool false, .bool false] 31)).drew.ownsRow ownA.out fun _ _ h => h)
  have ownZA : Hid ((((w2.alloc (.cells #[.string ⟨#[]⟩, .string ⟨#[]⟩, .slice none 0 0, .string ⟨#[]⟩, .int .u32 0, .int .i64 0, .int .u64 0, .int .u64 0, .bool false, .bool false, .bool false, .bool false] 31)).alloc (.cells #[] 9)).drew).ownsRow (w2.heap.size + 1) 9 1 (.slice (some ⟨w2.heap.size + 1, 0, none⟩) 0 0) 0 []) := Lib.hid (by
    have := World.ownsRow_made (w2.alloc (.cells #[.string ⟨#[]⟩, .string ⟨#[]⟩, .slice none 0 0, .string ⟨#[]⟩, .int .u32 0, .int .i64 0, .int .u64 0, .int .u64 0, .bool false, .bool false, .bool false, .bool false] 31)).drew #[] 0 (Nat.le_refl _) (Nat.zero_le _) rfl (e := 9) (size := 1)
    have e : (w2.alloc (.cells #[.string ⟨#[]⟩, .string ⟨#[]⟩, .slice none 0 0, .string ⟨#[]⟩, .int .u32 0, .int .i64 0, .int .u64 0, .int .u64 0, .bool false, .bool false, .bool false, .bool false] 31)).drew.heap.size = w2.heap.size + 1 := by simp
    rw [e] at this
    exact this)
  have ZAZ : Hid ((((w2.alloc (.cells #[] 9)).alloc (.cells #[.string ⟨#[]⟩, .string ⟨#[]⟩, .slice none 0 0, .string ⟨#[]⟩, .int .u32 0, .int .i64 0, .int .u64 0, .int .u64 0, .bool false, .bool false, .bool false, .bool false] 31)).drew).heap[w2.heap.size + 1]? = some (.cells #[.string ⟨#[]⟩, .string ⟨#[]⟩, .slice none 0 0, .string ⟨#[]⟩, .int .u32 0, .int .i64 0, .int .u64 0, .int .u64 0, .bool false, .bool false, .bool false, .bool false] 31 (0, 0))) := Lib.hid (heap_alloc_at _ _ _ (by simp))
  have ZZA : Hid ((((w2.alloc (.cells #[.string ⟨#[]⟩, .string ⟨#[]⟩, .slice none 0 0, .string ⟨#[]⟩, .int .u32 0, .int .i64 0, .int .u64 0, .int .u64 0, .bool false, .bool false, .bool false, .bool false] 31)).alloc (.cells #[] 9)).drew).heap[w2.heap.size]? = some (.cells #[.string ⟨#[]⟩, .string ⟨#[]⟩, .slice none 0 0, .string ⟨#[]⟩, .int .u32 0, .int .i64 0, .int .u64 0, .int .u64 0, .bool false, .bool false, .bool false, .bool false] 31 (0, 0))) := Lib.hid ((frB (w := w2.alloc (.cells #[.string ⟨#[]⟩, .string ⟨#[]⟩, .slice none 0 0, .string ⟨#[]⟩, .int .u32 0, .int .i64 0, .int .u64 0, .int .u64 0, .bool false, .bool false, .bool false, .bool false] 31)) (.cells #[] 9)).heap (heap_alloc_new w2 _) fun h => h)
  have NA : Hid (∀ j u, (strsV l)[j]? = some u → ((w2.alloc (.cells #[] 9)).drew).cell? ((⟨g, o, none⟩ : Addr).add j) = some u) := Lib.hid fun j u hu => by
    unfold strsV at hu
    rw [List.getElem?_map] at hu
    obtain ⟨k, hk, rfl⟩ := Option.map_eq_some_iff.1 hu
    rw [Addr.add_lit]
    exact (F2.out.trans' GA.out).cell (HC.out j k hk) fun h => h
  have NAZ : Hid (∀ j u, (strsV l)[j]? = some u → (((w2.alloc (.cells #[] 9)).alloc (.cells #[.string ⟨#[]⟩, .string ⟨#[]⟩, .slice none 0 0, .string ⟨#[]⟩, .int .u32 0, .int .i64 0, .int .u64 0, .int .u64 0, .bool false, .bool false, .bool false, .bool false] 31)).drew).cell? ((⟨g, o, none⟩ : Addr).add j) = some u) := Lib.hid fun j u hu => by
    unfold strsV at hu
    rw [List.getElem?_map] at hu
    obtain ⟨k, hk, rfl⟩ := Option.map_eq_some_iff.1 hu
    rw [Addr.add_lit]
    exact (F2.out.trans' GAZ.out).cell (HC.out j k hk) fun h => h
  have NZA : Hid (∀ j u, (strsV l)[j]? = some u → (((w2.alloc (.cells #[.string ⟨#[]⟩, .string ⟨#[]⟩, .slice none 0 0, .string ⟨#[]⟩, .int .u32 0, .int .i64 0, .int .u64 0, .int .u64 0, .bool false, .bool false, .bool false, .bool false] 31)).alloc (.cells #[] 9)).drew).cell? ((⟨g, o, none⟩ : Addr).add j) = some u) := Lib.hid fun j u hu => by
    unfold strsV at hu
    rw [List.getElem?_map] at hu
    obtain ⟨k, hk, rfl⟩ := Option.map_eq_some_iff.1 hu
    rw [Addr.add_lit]
    exact (F2.out.trans' GZA.out).cell (HC.out j k hk) fun h => h
  have HLN : Hid ((strsV l).length = l.length * 1) := Lib.hid (by unfold strsV; rw [List.length_map, Nat.mul_one])
  clear h HC
  go_enter Tryd.func14, Tryd.ntmps14
  go_upto_region 1 with fail
  rw [HW.out, HB.out, HR.out]
  go_cut [3] (fun t W => ∃ P v', t = .pointer (some ⟨P, 0, none⟩) ∧ Hid (W.heap[P]? = some (.cells #[.string a, .string b, v', .string d, .int .u32 n1, .int .i64 n2, .int .u64 n3, .int .u64 n4, .bool b1, .bool b2, .bool b3, .bool b4] 31 (0, 0))) ∧ Hid (W.heap[R]? = some (.cells #[.string ⟨#[]⟩, .string ⟨#[]⟩, .slice none 0 0, .string ⟨#[]⟩, .int .u32 0, .int .i64 0, .int .u64 0, .int .u64 0, .bool false, .bool false, .bool false, .bool false] 31 (0, 0))) ∧ Hid (RdS W v' l) ∧ Hid (∀ k, v'.ownBlock = some k → R < k ∧ P ≠ k) ∧ Hid (Fr Nob w W) ∧ Hid (R < P))
  case first =>
    go_region_held3 (fun w' => w'.cell? ⟨B, 0, none⟩ = some (.string a) ∧ w'.cell? ⟨B, 1, none⟩ = some (.string b) ∧ w'.cell? ⟨B, 2, none⟩ = some (.slice (some ⟨g, o, none⟩) l.length cap) ∧ w'.cell? ⟨B, 3, none⟩ = some (.string d) ∧ w'.cell? ⟨B, 4, none⟩ = some (.int .u32 n1) ∧ w'.cell? ⟨B, 5, none⟩ = some (.int .i64 n2) ∧ w'.cell? ⟨B, 6, none⟩ = some (.int .u64 n3) ∧ w'.cell? ⟨B, 7, none⟩ = some (.int .u64 n4) ∧ w'.cell? ⟨B, 8, none⟩ = some (.bool b1) ∧ w'.cell? ⟨B, 9, none⟩ = some (.bool b2) ∧ w'.cell? ⟨B, 10, none⟩ = some (.bool b3) ∧ w'.cell? ⟨B, 11, none⟩ = some (.bool b4))
     (first | with_reducible exact LS.out _ HD.out | with_reducible exact LS.out _ HA.out | with_reducible exact LS.out _ HAZ.out | with_reducible exact LS.out _ HZ.out | with_reducible exact LS.out _ HZA.out | with_reducible exact LS.out _ H5.out | (refine LS.out _ (Fr.heap (S := fun k => B < k) (w := w5) ?_ H5.out (Nat.lt_irrefl B)); (repeat (with_reducible first | refine Fr.drew ?_ | refine Fr.alloc ?_ _ | refine Fr.setCell ?_ _ (fun _ => BL.out) _ | refine Fr.setCell ?_ _ (fun _ => Nat.lt_succ_of_lt BL.out) _ | exact Fr.refl _ _))))
     (first
    | (refine step_app (o := ⟨some 11, _, _, _, _, _⟩) rfl (.tmp 8) (.tmp 10) 24 rfl 9 #[.string ⟨#[]⟩] 1 16 Tryd.underlying24 str_info rfl (by omega) (w2.heap.size) (.slice (some ⟨w2.heap.size, 0, none⟩) 0 0) 0 [] rfl ownA.out ⟨g, o, none⟩ l.length cap (strsV l) rfl HLN.out NA.out (strsV_one _) (by omega) (by omega) (by first | (simp; done) | (simp; omega)) ?_
       intro v5 w5 o5 f5 h5
       clear h5
       rw [Nat.zero_add, List.nil_append] at o5
       obtain ⟨a5, c5, rfl⟩ := own_sl o5.out
       have NO : Hid (∀ k, k < w2.heap.size → ¬ (fun k => (Value.slice (some ⟨w2.heap.size, 0, none⟩) 0 0).ownBlock = some k) k) := Lib.hid fun k hk e => by simp [Value.ownBlock] at e; omega
       have H5 := Lib.hid (f5.out.heap HA.out (NO.out B BL.out)); have R5 := Lib.hid (f5.out.heap (GA.out.heap R2.out fun h => h) (NO.out R RL.out))
       have F5 : Hid (Fr Nob w w5) := Lib.hid ((F2.out.trans' GA.out).trans f5.out fun k hk e => NO.out k (by have := F2.out.size; omega) e)
       have RV := Lib.hid (own_rd o5.out); have NR : Hid (∀ k, (Value.slice a5 l.length c5).ownBlock = some k → R < k ∧ k < w5.heap.size) := Lib.hid fun k e => by have := o5.out.lt k e; have := RL.out; omega
       clear f5 o5 NO)
    | (refine step_app (o := ⟨some 11, _, _, _, _, _⟩) rfl (.tmp 8) (.tmp 10) 24 rfl 9 #[.string ⟨#[]⟩] 1 16 Tryd.underlying24 str_info rfl (by omega) (w2.heap.size) (.slice (some ⟨w2.heap.size, 0, none⟩) 0 0) 0 [] rfl ownAZ.out ⟨g, o, none⟩ l.length cap (strsV l) rfl HLN.out NAZ.out (strsV_one _) (by omega) (by omega) (by first | (simp; done) | (simp; omega)) ?_
       intro v5 w5 o5 f5 h5
       clear h5
       rw [Nat.zero_add, List.nil_append] at o5
       obtain ⟨a5, c5, rfl⟩ := own_sl o5.out
       have NO : Hid (∀ k, k < w2.heap.size → ¬ (fun k => (Value.slice (some ⟨w2.heap.size, 0, none⟩) 0 0).ownBlock = some k) k) := Lib.hid fun k hk e => by simp [Value.ownBlock] at e; omega
       have H5 := Lib.hid (f5.out.heap HAZ.out (NO.out B BL.out)); have R5 := Lib.hid (f5.out.heap (GAZ.out.heap R2.out fun h => h) (NO.out R RL.out))
       have F5 : Hid (Fr Nob w w5) := Lib.hid ((F2.out.trans' GAZ.out).trans f5.out fun k hk e => NO.out k (by have := F2.out.size; omega) e)
       have RV := Lib.hid (own_rd o5.out); have NR : Hid (∀ k, (Value.slice a5 l.length c5).ownBlock = some k → R < k ∧ k < w5.heap.size) := Lib.hid fun k e => by have := o5.out.lt k e; have := RL.out; omega
       have Z5 := f5.out.heap ZAZ.out (fun e => by simp [Value.ownBlock] at e)
       have NP : Hid (∀ k, (Value.slice a5 l.length c5).ownBlock = some k → w2.heap.size + 1 ≠ k) := Lib.hid fun k e h => by subst h; exact ownsRow_ne o5.out Z5 (by decide) e
       have z0 : w5.cell? ⟨w2.heap.size + 1, 0, none⟩ = some (.string ⟨#[]⟩) := cell_of_row _ (w2.heap.size + 1) 0 _ _ (0, 0) Z5; have z1 : w5.cell? ⟨w2.heap.size + 1, 1, none⟩ = some (.string ⟨#[]⟩) := cell_of_row _ (w2.heap.size + 1) 1 _ _ (0, 0) Z5; have z2 : w5.cell? ⟨w2.heap.size + 1, 2, none⟩ = some (.slice none 0 0) := cell_of_row _ (w2.heap.size + 1) 2 _ _ (0, 0) Z5; have z3 : w5.cell? ⟨w2.heap.size + 1, 3, none⟩ = some (.string ⟨#[]⟩) := cell_of_row _ (w2.heap.size + 1) 3 _ _ (0, 0) Z5; have z4 : w5.cell? ⟨w2.heap.size + 1, 4, none⟩ = some (.int .u32 0) := cell_of_row _ (w2.heap.size + 1) 4 _ _ (0, 0) Z5; have z5 : w5.cell? ⟨w2.heap.size + 1, 5, none⟩ = some (.int .i64 0) := cell_of_row _ (w2.heap.size + 1) 5 _ _ (0, 0) Z5; have z6 : w5.cell? ⟨w2.heap.size + 1, 6, none⟩ = some (.int .u64 0) := cell_of_row _ (w2.heap.size + 1) 6 _ _ (0, 0) Z5; have z7 : w5.cell? ⟨w2.heap.size + 1, 7, none⟩ = some (.int .u64 0) := cell_of_row _ (w2.heap.size + 1) 7 _ _ (0, 0) Z5; have z8 : w5.cell? ⟨w2.heap.size + 1, 8, none⟩ = some (.bool false) := cell_of_row _ (w2.heap.size + 1) 8 _ _ (0, 0) Z5; have z9 : w5.cell? ⟨w2.heap.size + 1, 9, none⟩ = some (.bool false) := cell_of_row _ (w2.heap.size + 1) 9 _ _ (0, 0) Z5; have z10 : w5.cell? ⟨w2.heap.size + 1, 10, none⟩ = some (.bool false) := cell_of_row _ (w2.heap.size + 1) 10 _ _ (0, 0) Z5; have z11 : w5.cell? ⟨w2.heap.size + 1, 11, none⟩ = some (.bool false) := cell_of_row _ (w2.heap.size + 1) 11 _ _ (0, 0) Z5; have y0 : w5.frozen? ⟨w2.heap.size + 1, 0, none⟩ = false := frozen_of_row _ (w2.heap.size + 1) 0 _ _ Z5; have y1 : w5.frozen? ⟨w2.heap.size + 1, 1, none⟩ = false := frozen_of_row _ (w2.heap.size + 1) 1 _ _ Z5; have y2 : w5.frozen? ⟨w2.heap.size + 1, 2, none⟩ = false := frozen_of_row _ (w2.heap.size + 1) 2 _ _ Z5; have y3 : w5.frozen? ⟨w2.heap.size + 1, 3, none⟩ = false := frozen_of_row _ (w2.heap.size + 1) 3 _ _ Z5; have y4 : w5.frozen? ⟨w2.heap.size + 1, 4, none⟩ = false := frozen_of_row _ (w2.heap.size + 1) 4 _ _ Z5; have y5 : w5.frozen? ⟨w2.heap.size + 1, 5, none⟩ = false := frozen_of_row _ (w2.heap.size + 1) 5 _ _ Z5; have y6 : w5.frozen? ⟨w2.heap.size + 1, 6, none⟩ = false := frozen_of_row _ (w2.heap.size + 1) 6 _ _ Z5; have y7 : w5.frozen? ⟨w2.heap.size + 1, 7, none⟩ = false := frozen_of_row _ (w2.heap.size + 1) 7 _ _ Z5; have y8 : w5.frozen? ⟨w2.heap.size + 1, 8, none⟩ = false := frozen_of_row _ (w2.heap.size + 1) 8 _ _ Z5; have y9 : w5.frozen? ⟨w2.heap.size + 1, 9, none⟩ = false := frozen_of_row _ (w2.heap.size + 1) 9 _ _ Z5; have y10 : w5.frozen? ⟨w2.heap.size + 1, 10, none⟩ = false := frozen_of_row _ (w2.heap.size + 1) 10 _ _ Z5; have y11 : w5.frozen? ⟨w2.heap.size + 1, 11, none⟩ = false := frozen_of_row _ (w2.heap.size + 1) 11 _ _ Z5; have Z5 := Lib.hid Z5
       clear f5 o5 NO)
    | (refine step_app (o := ⟨some 11, _, _, _, _, _⟩) rfl (.tmp 8) (.tmp 10) 24 rfl 9 #[.string ⟨#[]⟩] 1 16 Tryd.underlying24 str_info rfl (by omega) (w2.heap.size + 1) (.slice (some ⟨w2.heap.size + 1, 0, none⟩) 0 0) 0 [] rfl ownZA.out ⟨g, o, none⟩ l.length cap (strsV l) rfl HLN.out NZA.out (strsV_one _) (by omega) (by omega) (by first | (simp; done) | (simp; omega)) ?_
       intro v5 w5 o5 f5 h5
       clear h5
       rw [Nat.zero_add, List.nil_append] at o5
       obtain ⟨a5, c5, rfl⟩ := own_sl o5.out
       have NO : Hid (∀ k, k < w2.heap.size → ¬ (fun k => (Value.slice (some ⟨w2.heap.size + 1, 0, none⟩) 0 0).ownBlock = some k) k) := Lib.hid fun k hk e => by simp [Value.ownBlock] at e; omega
       have H5 := Lib.hid (f5.out.heap HZA.out (NO.out B BL.out)); have R5 := Lib.hid (f5.out.heap (GZA.out.heap R2.out fun h => h) (NO.out R RL.out))
       have F5 : Hid (Fr Nob w w5) := Lib.hid ((F2.out.trans' GZA.out).trans f5.out fun k hk e => NO.out k (by have := F2.out.size; omega) e)
       have RV := Lib.hid (own_rd o5.out); have NR : Hid (∀ k, (Value.slice a5 l.length c5).ownBlock = some k → R < k ∧ k < w5.heap.size) := Lib.hid fun k e => by have := o5.out.lt k e; have := RL.out; omega
       have Z5 := f5.out.heap ZZA.out (fun e => by simp [Value.ownBlock] at e)
       have NP : Hid (∀ k, (Value.slice a5 l.length c5).ownBlock = some k → w2.heap.size ≠ k) := Lib.hid fun k e h => by subst h; exact ownsRow_ne o5.out Z5 (by decide) e
       have z0 : w5.cell? ⟨w2.heap.size, 0, none⟩ = some (.string ⟨#[]⟩) := cell_of_row _ (w2.heap.size) 0 _ _ (0, 0) Z5; have z1 : w5.cell? ⟨w2.heap.size, 1, none⟩ = some (.string ⟨#[]⟩) := cell_of_row _ (w2.heap.size) 1 _ _ (0, 0) Z5; have z2 : w5.cell? ⟨w2.heap.size, 2, none⟩ = some (.slice none 0 0) := cell_of_row _ (w2.heap.size) 2 _ _ (0, 0) Z5; have z3 : w5.cell? ⟨w2.heap.size, 3, none⟩ = some (.string ⟨#[]⟩) := cell_of_row _ (w2.heap.size) 3 _ _ (0, 0) Z5; have z4 : w5.cell? ⟨w2.heap.size, 4, none⟩ = some (.int .u32 0) := cell_of_row _ (w2.heap.size) 4 _ _ (0, 0) Z5; have z5 : w5.cell? ⟨w2.heap.size, 5, none⟩ = some (.int .i64 0) := cell_of_row _ (w2.heap.size) 5 _ _ (0, 0) Z5; have z6 : w5.cell? ⟨w2.heap.size, 6, none⟩ = some (.int .u64 0) := cell_of_row _ (w2.heap.size) 6 _ _ (0, 0) Z5; have z7 : w5.cell? ⟨w2.heap.size, 7, none⟩ = some (.int .u64 0) := cell_of_row _ (w2.heap.size) 7 _ _ (0, 0) Z5; have z8 : w5.cell? ⟨w2.heap.size, 8, none⟩ = some (.bool false) := cell_of_row _ (w2.heap.size) 8 _ _ (0, 0) Z5; have z9 : w5.cell? ⟨w2.heap.size, 9, none⟩ = some (.bool false) := cell_of_row _ (w2.heap.size) 9 _ _ (0, 0) Z5; have z10 : w5.cell? ⟨w2.heap.size, 10, none⟩ = some (.bool false) := cell_of_row _ (w2.heap.size) 10 _ _ (0, 0) Z5; have z11 : w5.cell? ⟨w2.heap.size, 11, none⟩ = some (.bool false) := cell_of_row _ (w2.heap.size) 11 _ _ (0, 0) Z5; have y0 : w5.frozen? ⟨w2.heap.size, 0, none⟩ = false := frozen_of_row _ (w2.heap.size) 0 _ _ Z5; have y1 : w5.frozen? ⟨w2.heap.size, 1, none⟩ = false := frozen_of_row _ (w2.heap.size) 1 _ _ Z5; have y2 : w5.frozen? ⟨w2.heap.size, 2, none⟩ = false := frozen_of_row _ (w2.heap.size) 2 _ _ Z5; have y3 : w5.frozen? ⟨w2.heap.size, 3, none⟩ = false := frozen_of_row _ (w2.heap.size) 3 _ _ Z5; have y4 : w5.frozen? ⟨w2.heap.size, 4, none⟩ = false := frozen_of_row _ (w2.heap.size) 4 _ _ Z5; have y5 : w5.frozen? ⟨w2.heap.size, 5, none⟩ = false := frozen_of_row _ (w2.heap.size) 5 _ _ Z5; have y6 : w5.frozen? ⟨w2.heap.size, 6, none⟩ = false := frozen_of_row _ (w2.heap.size) 6 _ _ Z5; have y7 : w5.frozen? ⟨w2.heap.size, 7, none⟩ = false := frozen_of_row _ (w2.heap.size) 7 _ _ Z5; have y8 : w5.frozen? ⟨w2.heap.size, 8, none⟩ = false := frozen_of_row _ (w2.heap.size) 8 _ _ Z5; have y9 : w5.frozen? ⟨w2.heap.size, 9, none⟩ = false := frozen_of_row _ (w2.heap.size) 9 _ _ Z5; have y10 : w5.frozen? ⟨w2.heap.size, 10, none⟩ = false := frozen_of_row _ (w2.heap.size) 10 _ _ Z5; have y11 : w5.frozen? ⟨w2.heap.size, 11, none⟩ = false := frozen_of_row _ (w2.heap.size) 11 _ _ Z5; have Z5 := Lib.hid Z5
       clear f5 o5 NO))
    all_goals
      go_wp2_with fail
      go_meet
      have hs5 := F5.out.size
      have hr5 := lt_of_block R5.out
      have hb5 := HB.out
      have hbr := HR.out
      have hf2 := F2.out.size
      have hrl := RL.out
    · refine ⟨w5.heap.size, (.slice a5 l.length c5), rfl, Lib.hid (heap_alloc_new w5 _), Lib.hid ((frB (w := w5) _).heap R5.out fun h => h), Lib.hid (RV.out.nob (frB _)), Lib.hid fun k e => ?_, Lib.hid (F5.out.alloc _), Lib.hid hr5⟩
      have := NR.out k e
      exact ⟨this.1, by omega⟩
    · have fc : ∀ (W : World), Fr (One (w2.heap.size + 1)) w5 W → Fr Nob w W := fun W f => F5.out.trans f fun i hi e => by unfold One at e; omega
      have hch : Fr (One (w2.heap.size + 1)) w5 (World.setCell (World.setCell (World.setCell (World.setCell (World.setCell (World.setCell (World.setCell (World.setCell (World.setCell (World.setCell (World.setCell (World.setCell w5 ⟨w2.heap.size + 1, 0, none⟩ (.string a)) ⟨w2.heap.size + 1, 1, none⟩ (.string b)) ⟨w2.heap.size + 1, 2, none⟩ ((.slice a5 l.length c5))) ⟨w2.heap.size + 1, 3, none⟩ (.string d)) ⟨w2.heap.size + 1, 4, none⟩ (.int .u32 n1)) ⟨w2.heap.size + 1, 5, none⟩ (.int .i64 n2)) ⟨w2.heap.size + 1, 6, none⟩ (.int .u64 n3)) ⟨w2.heap.size + 1, 7, none⟩ (.int .u64 n4)) ⟨w2.heap.size + 1, 8, none⟩ (.bool b1)) ⟨w2.heap.size + 1, 9, none⟩ (.bool b2)) ⟨w2.heap.size + 1, 10, none⟩ (.bool b3)) ⟨w2.heap.size + 1, 11, none⟩ (.bool b4)) := by repeat (with_reducible first | refine Fr.set1 ?_ _ | exact Fr.refl _ _)
      refine ⟨w2.heap.size + 1, (.slice a5 l.length c5), rfl, Lib.hid (chain12 Z5.out), Lib.hid (hch.heap R5.out fun h => ?_), Lib.hid (RV.out.keep hch fun k e h => ?_), Lib.hid fun k e => ⟨(NR.out k e).1, NP.out k e⟩, Lib.hid (fc _ hch), Lib.hid (by omega)⟩
      · unfold One at h
        omega
      · exact NP.out k e h.symm
    · have fc : ∀ (W : World), Fr (One (w2.heap.size)) w5 W → Fr Nob w W := fun W f => F5.out.trans f fun i hi e => by unfold One at e; omega
      have hch : Fr (One (w2.heap.size)) w5 (World.setCell (World.setCell (World.setCell (World.setCell (World.setCell (World.setCell (World.setCell (World.setCell (World.setCell (World.setCell (World.setCell (World.setCell w5 ⟨w2.heap.size, 0, none⟩ (.string a)) ⟨w2.heap.size, 1, none⟩ (.string b)) ⟨w2.heap.size, 2, none⟩ ((.slice a5 l.length c5))) ⟨w2.heap.size, 3, none⟩ (.string d)) ⟨w2.heap.size, 4, none⟩ (.int .u32 n1)) ⟨w2.heap.size, 5, none⟩ (.int .i64 n2)) ⟨w2.heap.size, 6, none⟩ (.int .u64 n3)) ⟨w2.heap.size, 7, none⟩ (.int .u64 n4)) ⟨w2.heap.size, 8, none⟩ (.bool b1)) ⟨w2.heap.size, 9, none⟩ (.bool b2)) ⟨w2.heap.size, 10, none⟩ (.bool b3)) ⟨w2.heap.size, 11, none⟩ (.bool b4)) := by repeat (with_reducible first | refine Fr.set1 ?_ _ | exact Fr.refl _ _)
      refine ⟨w2.heap.size, (.slice a5 l.length c5), rfl, Lib.hid (chain12 Z5.out), Lib.hid (hch.heap R5.out fun h => ?_), Lib.hid (RV.out.keep hch fun k e h => ?_), Lib.hid fun k e => ⟨(NR.out k e).1, NP.out k e⟩, Lib.hid (fc _ hch), Lib.hid (by omega)⟩
      · unfold One at h
        omega
      · exact NP.out k e h.symm
  case rest =>
    obtain ⟨P, v', rfl, hp, hr, rv, nv, f6, hrp⟩ := hcut
    generalize wc = w6 at *
    obtain ⟨a6, c6, rfl⟩ : ∃ a6 c6, v' = .slice a6 l.length c6 := by
      obtain ⟨a6, c6, h, _⟩ := rv.out
      exact ⟨a6, c6, h⟩
    clear HAZ HA HZ HZA GAZ GA GZ GZA ownA ownAZ ownZA ZAZ ZZA LS HD HW H2 R2 NA NAZ NZA HLN
    have x0 : w6.cell? ⟨P, 0, none⟩ = some (.string a) := cell_of_row _ P 0 _ _ (0, 0) hp.out
    have x1 : w6.cell? ⟨P, 1, none⟩ = some (.string b) := cell_of_row _ P 1 _ _ (0, 0) hp.out
    have x2 : w6.cell? ⟨P, 2, none⟩ = some (.slice a6 l.length c6) := cell_of_row _ P 2 _ _ (0, 0) hp.out
    have x3 : w6.cell? ⟨P, 3, none⟩ = some (.string d) := cell_of_row _ P 3 _ _ (0, 0) hp.out
    have x4 : w6.cell? ⟨P, 4, none⟩ = some (.int .u32 n1) := cell_of_row _ P 4 _ _ (0, 0) hp.out
    have x5 : w6.cell? ⟨P, 5, none⟩ = some (.int .i64 n2) := cell_of_row _ P 5 _ _ (0, 0) hp.out
    have x6 : w6.cell? ⟨P, 6, none⟩ = some (.int .u64 n3) := cell_of_row _ P 6 _ _ (0, 0) hp.out
    have x7 : w6.cell? ⟨P, 7, none⟩ = some (.int .u64 n4) := cell_of_row _ P 7 _ _ (0, 0) hp.out
    have x8 : w6.cell? ⟨P, 8, none⟩ = some (.bool b1) := cell_of_row _ P 8 _ _ (0, 0) hp.out
    have x9 : w6.cell? ⟨P, 9, none⟩ = some (.bool b2) := cell_of_row _ P 9 _ _ (0, 0) hp.out
    have x10 : w6.cell? ⟨P, 10, none⟩ = some (.bool b3) := cell_of_row _ P 10 _ _ (0, 0) hp.out
    have x11 : w6.cell? ⟨P, 11, none⟩ = some (.bool b4) := cell_of_row _ P 11 _ _ (0, 0) hp.out
    have z0 : w6.cell? ⟨R, 0, none⟩ = some (.string ⟨#[]⟩) := cell_of_row _ R 0 _ _ (0, 0) hr.out
    have z1 : w6.cell? ⟨R, 1, none⟩ = some (.string ⟨#[]⟩) := cell_of_row _ R 1 _ _ (0, 0) hr.out
    have z2 : w6.cell? ⟨R, 2, none⟩ = some (.slice none 0 0) := cell_of_row _ R 2 _ _ (0, 0) hr.out
    have z3 : w6.cell? ⟨R, 3, none⟩ = some (.string ⟨#[]⟩) := cell_of_row _ R 3 _ _ (0, 0) hr.out
    have z4 : w6.cell? ⟨R, 4, none⟩ = some (.int .u32 0) := cell_of_row _ R 4 _ _ (0, 0) hr.out
    have z5 : w6.cell? ⟨R, 5, none⟩ = some (.int .i64 0) := cell_of_row _ R 5 _ _ (0, 0) hr.out
    have z6 : w6.cell? ⟨R, 6, none⟩ = some (.int .u64 0) := cell_of_row _ R 6 _ _ (0, 0) hr.out
    have z7 : w6.cell? ⟨R, 7, none⟩ = some (.int .u64 0) := cell_of_row _ R 7 _ _ (0, 0) hr.out
    have z8 : w6.cell? ⟨R, 8, none⟩ = some (.bool false) := cell_of_row _ R 8 _ _ (0, 0) hr.out
    have z9 : w6.cell? ⟨R, 9, none⟩ = some (.bool false) := cell_of_row _ R 9 _ _ (0, 0) hr.out
    have z10 : w6.cell? ⟨R, 10, none⟩ = some (.bool false) := cell_of_row _ R 10 _ _ (0, 0) hr.out
    have z11 : w6.cell? ⟨R, 11, none⟩ = some (.bool false) := cell_of_row _ R 11 _ _ (0, 0) hr.out
    have y0 := frozen_of_row w6 R 0 _ _ hr.out
    have y1 := frozen_of_row w6 R 1 _ _ hr.out
    have y2 := frozen_of_row w6 R 2 _ _ hr.out
    have y3 := frozen_of_row w6 R 3 _ _ hr.out
    have y4 := frozen_of_row w6 R 4 _ _ hr.out
    have y5 := frozen_of_row w6 R 5 _ _ hr.out
    have y6 := frozen_of_row w6 R 6 _ _ hr.out
    have y7 := frozen_of_row w6 R 7 _ _ hr.out
    have y8 := frozen_of_row w6 R 8 _ _ hr.out
    have y9 := frozen_of_row w6 R 9 _ _ hr.out
    have y10 := frozen_of_row w6 R 10 _ _ hr.out
    have y11 := frozen_of_row w6 R 11 _ _ hr.out
    have hne : ¬ P = R := by have := hrp.out; omega
    have hne2 : ¬ R = P := by have := hrp.out; omega
    go_wp2_with fail
    refine bodyPost_ret (v := .agg #[.string a, .string b, .slice a6 l.length c6, .string d, .int .u32 n1, .int .i64 n2, .int .u64 n3, .int .u64 n4, .bool b1, .bool b2, .bool b3, .bool b4]) ?_ rfl ⟨.slice a6 l.length c6, rfl, Lib.hid ?_, Lib.hid ?_⟩
    · rw [results_cell rfl]
      go_simp
    · refine RdS.keep (S := One R) (w := w6) rv.out ?_ (fun i e h => ?_)
      · repeat (with_reducible first | refine Fr.set1 ?_ _ | exact Fr.refl _ _)
      · have := (nv.out i e).1
        unfold One at h
        omega
    · refine Fr.trans f6.out (S' := fun k => k = P ∨ k = R) ?_ (fun i hi e => ?_)
      · repeat (with_reducible first | refine Fr.setCell ?_ _ (fun _ => .inr rfl) _ | refine Fr.setCell ?_ _ (fun _ => .inl rfl) _ | exact Fr.refl _ _)
      · have := HB.out
        have := HR.out
        have := hrp.out
        rcases e with e | e <;> omega
end Go.Proofs.YthfhlbnjahakaaaDoor
