/-
  event: contract of Of (written by gen/evof.py).
-/
import Derived.Test.YthfhlbnjahakaaaDoorEvA
namespace Go.Proofs.YthfhlbnjahakaaaDoor
open Go.RowKit

theorem own_base {w : World} {b1 b2 n size : Nat} {t : TypeId} {v : Value} {xs : List Value} (h : w.ownsRow b2 t size v n xs) (hb : b1 ≤ b2) : w.ownsRow b1 t size v n xs := by
  refine ⟨h.1, ?_⟩
  rcases h.2 with h | ⟨g, cap, cur, h1, h2, h3⟩
  · exact .inl h
  · exact .inr ⟨g, cap, cur, h1, Nat.le_trans hb h2, h3⟩

set_option maxHeartbeats 8000000 in
set_option maxRecDepth 100000 in
theorem of_get {w : World} {l : List ByteArray} (b d : ByteArray) (v : Value) (n1 n2 n3 n4 : Int) (b1 b2 b3 b4 : Bool) (h : RdS w v l) (hn : l.length ≤ 1000000000) :
    Calls Tryd.prog 18 #[.agg #[.string ⟨#[103, 101, 116]⟩, .string b, v, .string d, .int .u32 n1, .int .i64 n2, .int .u64 n3, .int .u64 n4, .bool b1, .bool b2, .bool b3, .bool b4]] w fun e w' =>
      ∃ v', e = .returned (.iface 43 (.agg #[v', .bool b1, .bool b2, .int .i64 n2])) ∧ Hid (w'.ownsRow w.heap.size 9 1 v' l.length (strsV l)) ∧ Hid (Fr Nob w w') := by
  obtain ⟨B, hB⟩ : ∃ B, B = w.heap.size := ⟨_, rfl⟩
  obtain ⟨w1, hw1⟩ : ∃ w1, w1 = w.alloc (.cells #[.string ⟨#[103, 101, 116]⟩, .string b, v, .string d, .int .u32 n1, .int .i64 n2, .int .u64 n3, .int .u64 n4, .bool b1, .bool b2, .bool b3, .bool b4] 28) := ⟨_, rfl⟩
  have f1 : Fr Nob w w1 := by rw [hw1]; exact (Fr.refl Nob w).alloc _
  have h1 : w1.heap[B]? = some (.cells #[.string ⟨#[103, 101, 116]⟩, .string b, v, .string d, .int .u32 n1, .int .i64 n2, .int .u64 n3, .int .u64 n4, .bool b1, .bool b2, .bool b3, .bool b4] 28 (0, 0)) := by rw [hw1, hB]; exact heap_alloc_new w _
  have CL := Lib.hid (clone_eq (w := w1.drew) ((h.nob f1).nob (Fr.refl Nob w1).drew) hn)
  have F1 := Lib.hid f1
  have c2 : w1.cell? ⟨B, 2, none⟩ = some (v) := cell_of_row w1 B 2 _ _ (0, 0) h1
  have c5 : w1.cell? ⟨B, 5, none⟩ = some (.int .i64 n2) := cell_of_row w1 B 5 _ _ (0, 0) h1
  have c8 : w1.cell? ⟨B, 8, none⟩ = some (.bool b1) := cell_of_row w1 B 8 _ _ (0, 0) h1
  have c9 : w1.cell? ⟨B, 9, none⟩ = some (.bool b2) := cell_of_row w1 B 9 _ _ (0, 0) h1
  have H1 := Lib.hid h1
  have HW := Lib.hid hw1.symm
  have HB := Lib.hid hB.symm
  have hsz : Hid (w.heap.size ≤ w1.heap.size) := Lib.hid f1.size
  clear h1 f1 hw1 hB
  go_enter Tryd.func18, Tryd.ntmps18
  go_wp2_with fail
  rw [HW.out, HB.out]
  go_region_held3 (fun w' => w'.cell? ⟨B, 2, none⟩ = some (v) ∧ w'.cell? ⟨B, 5, none⟩ = some (.int .i64 n2) ∧ w'.cell? ⟨B, 8, none⟩ = some (.bool b1) ∧ w'.cell? ⟨B, 9, none⟩ = some (.bool b2))
    (first | assumption | go_keep | exact ⟨by first | assumption | exact H1.out | go_keep, by first | assumption | exact H1.out | go_keep, by first | assumption | exact H1.out | go_keep, by first | assumption | exact H1.out | go_keep⟩)
    (first
    | (go_at_call 26; refine CL.out.mono ?_; rintro e w3 ⟨v3, rfl, o3, f3⟩; obtain ⟨a3, k3, rfl⟩ := own_sl o3.out; have d2 : w3.cell? ⟨B, 2, none⟩ = some (v) := f3.out.cell (show w1.drew.cell? ⟨B, 2, none⟩ = _ from c2) (fun h => h); have d5 : w3.cell? ⟨B, 5, none⟩ = some (.int .i64 n2) := f3.out.cell (show w1.drew.cell? ⟨B, 5, none⟩ = _ from c5) (fun h => h); have d8 : w3.cell? ⟨B, 8, none⟩ = some (.bool b1) := f3.out.cell (show w1.drew.cell? ⟨B, 8, none⟩ = _ from c8) (fun h => h); have d9 : w3.cell? ⟨B, 9, none⟩ = some (.bool b2) := f3.out.cell (show w1.drew.cell? ⟨B, 9, none⟩ = _ from c9) (fun h => h)))
  go_wp2_with fail
  go_ret
  exact ⟨_, rfl, Lib.hid (own_base o3.out hsz.out), Lib.hid ((F1.out.trans' (Fr.refl Nob w1).drew).trans' f3.out)⟩

set_option maxHeartbeats 8000000 in
set_option maxRecDepth 100000 in
theorem of_store {w : World} {l : List ByteArray} (b d : ByteArray) (v : Value) (n1 n2 n3 n4 : Int) (b1 b2 b3 b4 : Bool) (k : ByteArray) (h : RdS w v l) (hk : k = keyOf l) :
    Calls Tryd.prog 18 #[.agg #[.string ⟨#[115, 116, 111, 114, 101]⟩, .string b, v, .string d, .int .u32 n1, .int .i64 n2, .int .u64 n3, .int .u64 n4, .bool b1, .bool b2, .bool b3, .bool b4]] w fun e w' =>
      e = .returned (.iface 47 (.agg #[.string b, .string k, .string d, .int .u32 n1, .int .i64 n2, .int .u64 n3, .bool b4])) ∧ Fr Nob w w' := by
  obtain ⟨B, hB⟩ : ∃ B, B = w.heap.size := ⟨_, rfl⟩
  obtain ⟨w1, hw1⟩ : ∃ w1, w1 = w.alloc (.cells #[.string ⟨#[115, 116, 111, 114, 101]⟩, .string b, v, .string d, .int .u32 n1, .int .i64 n2, .int .u64 n3, .int .u64 n4, .bool b1, .bool b2, .bool b3, .bool b4] 28) := ⟨_, rfl⟩
  have f1 : Fr Nob w w1 := by rw [hw1]; exact (Fr.refl Nob w).alloc _
  have h1 : w1.heap[B]? = some (.cells #[.string ⟨#[115, 116, 111, 114, 101]⟩, .string b, v, .string d, .int .u32 n1, .int .i64 n2, .int .u64 n3, .int .u64 n4, .bool b1, .bool b2, .bool b3, .bool b4] 28 (0, 0)) := by rw [hw1, hB]; exact heap_alloc_new w _
  have CL := Lib.hid (key_eq (w := w1.drew) ⟨#[115, 116, 111, 114, 101]⟩ b k d v n1 n2 n3 n4 b1 b2 b3 b4 ((h.nob f1).nob (Fr.refl Nob w1).drew) hk)
  have F1 := Lib.hid f1
  have c0 : w1.cell? ⟨B, 0, none⟩ = some (.string ⟨#[115, 116, 111, 114, 101]⟩) := cell_of_row w1 B 0 _ _ (0, 0) h1
  have c1 : w1.cell? ⟨B, 1, none⟩ = some (.string b) := cell_of_row w1 B 1 _ _ (0, 0) h1
  have c2 : w1.cell? ⟨B, 2, none⟩ = some (v) := cell_of_row w1 B 2 _ _ (0, 0) h1
  have c3 : w1.cell? ⟨B, 3, none⟩ = some (.string d) := cell_of_row w1 B 3 _ _ (0, 0) h1
  have c4 : w1.cell? ⟨B, 4, none⟩ = some (.int .u32 n1) := cell_of_row w1 B 4 _ _ (0, 0) h1
  have c5 : w1.cell? ⟨B, 5, none⟩ = some (.int .i64 n2) := cell_of_row w1 B 5 _ _ (0, 0) h1
  have c6 : w1.cell? ⟨B, 6, none⟩ = some (.int .u64 n3) := cell_of_row w1 B 6 _ _ (0, 0) h1
  have c7 : w1.cell? ⟨B, 7, none⟩ = some (.int .u64 n4) := cell_of_row w1 B 7 _ _ (0, 0) h1
  have c8 : w1.cell? ⟨B, 8, none⟩ = some (.bool b1) := cell_of_row w1 B 8 _ _ (0, 0) h1
  have c9 : w1.cell? ⟨B, 9, none⟩ = some (.bool b2) := cell_of_row w1 B 9 _ _ (0, 0) h1
  have c10 : w1.cell? ⟨B, 10, none⟩ = some (.bool b3) := cell_of_row w1 B 10 _ _ (0, 0) h1
  have c11 : w1.cell? ⟨B, 11, none⟩ = some (.bool b4) := cell_of_row w1 B 11 _ _ (0, 0) h1
  have H1 := Lib.hid h1
  have HW := Lib.hid hw1.symm
  have HB := Lib.hid hB.symm
  have hsz : Hid (w.heap.size ≤ w1.heap.size) := Lib.hid f1.size
  clear h1 f1 hw1 hB hk
  go_enter Tryd.func18, Tryd.ntmps18
  go_wp2_with fail
  rw [HW.out, HB.out]
  have S0 : w1.drew.cell? ⟨B, 0, none⟩ = some (.string ⟨#[115, 116, 111, 114, 101]⟩) ∧ w1.drew.cell? ⟨B, 1, none⟩ = some (.string b) ∧ w1.drew.cell? ⟨B, 2, none⟩ = some (v) ∧ w1.drew.cell? ⟨B, 3, none⟩ = some (.string d) ∧ w1.drew.cell? ⟨B, 4, none⟩ = some (.int .u32 n1) ∧ w1.drew.cell? ⟨B, 5, none⟩ = some (.int .i64 n2) ∧ w1.drew.cell? ⟨B, 6, none⟩ = some (.int .u64 n3) ∧ w1.drew.cell? ⟨B, 7, none⟩ = some (.int .u64 n4) ∧ w1.drew.cell? ⟨B, 8, none⟩ = some (.bool b1) ∧ w1.drew.cell? ⟨B, 9, none⟩ = some (.bool b2) ∧ w1.drew.cell? ⟨B, 10, none⟩ = some (.bool b3) ∧ w1.drew.cell? ⟨B, 11, none⟩ = some (.bool b4) := ⟨c0, c1, c2, c3, c4, c5, c6, c7, c8, c9, c10, c11⟩
  go_region_held3 (fun w' => w'.cell? ⟨B, 0, none⟩ = some (.string ⟨#[115, 116, 111, 114, 101]⟩) ∧ w'.cell? ⟨B, 1, none⟩ = some (.string b) ∧ w'.cell? ⟨B, 2, none⟩ = some (v) ∧ w'.cell? ⟨B, 3, none⟩ = some (.string d) ∧ w'.cell? ⟨B, 4, none⟩ = some (.int .u32 n1) ∧ w'.cell? ⟨B, 5, none⟩ = some (.int .i64 n2) ∧ w'.cell? ⟨B, 6, none⟩ = some (.int .u64 n3) ∧ w'.cell? ⟨B, 7, none⟩ = some (.int .u64 n4) ∧ w'.cell? ⟨B, 8, none⟩ = some (.bool b1) ∧ w'.cell? ⟨B, 9, none⟩ = some (.bool b2) ∧ w'.cell? ⟨B, 10, none⟩ = some (.bool b3) ∧ w'.cell? ⟨B, 11, none⟩ = some (.bool b4))
    (first | assumption | go_keep | exact ⟨by first | assumption | exact H1.out | go_keep, by first | assumption | exact H1.out | go_keep, by first | assumption | exact H1.out | go_keep, by first | assumption | exact H1.out | go_keep, by first | assumption | exact H1.out | go_keep, by first | assumption | exact H1.out | go_keep, by first | assumption | exact H1.out | go_keep, by first | assumption | exact H1.out | go_keep, by first | assumption | exact H1.out | go_keep, by first | assumption | exact H1.out | go_keep, by first | assumption | exact H1.out | go_keep, by first | assumption | exact H1.out | go_keep⟩)
    (first
    | (go_at_call 30; refine CL.out.mono ?_; rintro e w3 ⟨rfl, f3⟩; have d0 : w3.cell? ⟨B, 0, none⟩ = some (.string ⟨#[115, 116, 111, 114, 101]⟩) := f3.cell (show w1.drew.cell? ⟨B, 0, none⟩ = _ from c0) (fun h => h); have d1 : w3.cell? ⟨B, 1, none⟩ = some (.string b) := f3.cell (show w1.drew.cell? ⟨B, 1, none⟩ = _ from c1) (fun h => h); have d2 : w3.cell? ⟨B, 2, none⟩ = some (v) := f3.cell (show w1.drew.cell? ⟨B, 2, none⟩ = _ from c2) (fun h => h); have d3 : w3.cell? ⟨B, 3, none⟩ = some (.string d) := f3.cell (show w1.drew.cell? ⟨B, 3, none⟩ = _ from c3) (fun h => h); have d4 : w3.cell? ⟨B, 4, none⟩ = some (.int .u32 n1) := f3.cell (show w1.drew.cell? ⟨B, 4, none⟩ = _ from c4) (fun h => h); have d5 : w3.cell? ⟨B, 5, none⟩ = some (.int .i64 n2) := f3.cell (show w1.drew.cell? ⟨B, 5, none⟩ = _ from c5) (fun h => h); have d6 : w3.cell? ⟨B, 6, none⟩ = some (.int .u64 n3) := f3.cell (show w1.drew.cell? ⟨B, 6, none⟩ = _ from c6) (fun h => h); have d7 : w3.cell? ⟨B, 7, none⟩ = some (.int .u64 n4) := f3.cell (show w1.drew.cell? ⟨B, 7, none⟩ = _ from c7) (fun h => h); have d8 : w3.cell? ⟨B, 8, none⟩ = some (.bool b1) := f3.cell (show w1.drew.cell? ⟨B, 8, none⟩ = _ from c8) (fun h => h); have d9 : w3.cell? ⟨B, 9, none⟩ = some (.bool b2) := f3.cell (show w1.drew.cell? ⟨B, 9, none⟩ = _ from c9) (fun h => h); have d10 : w3.cell? ⟨B, 10, none⟩ = some (.bool b3) := f3.cell (show w1.drew.cell? ⟨B, 10, none⟩ = _ from c10) (fun h => h); have d11 : w3.cell? ⟨B, 11, none⟩ = some (.bool b4) := f3.cell (show w1.drew.cell? ⟨B, 11, none⟩ = _ from c11) (fun h => h); have S3 : w3.cell? ⟨B, 0, none⟩ = some (.string ⟨#[115, 116, 111, 114, 101]⟩) ∧ w3.cell? ⟨B, 1, none⟩ = some (.string b) ∧ w3.cell? ⟨B, 2, none⟩ = some (v) ∧ w3.cell? ⟨B, 3, none⟩ = some (.string d) ∧ w3.cell? ⟨B, 4, none⟩ = some (.int .u32 n1) ∧ w3.cell? ⟨B, 5, none⟩ = some (.int .i64 n2) ∧ w3.cell? ⟨B, 6, none⟩ = some (.int .u64 n3) ∧ w3.cell? ⟨B, 7, none⟩ = some (.int .u64 n4) ∧ w3.cell? ⟨B, 8, none⟩ = some (.bool b1) ∧ w3.cell? ⟨B, 9, none⟩ = some (.bool b2) ∧ w3.cell? ⟨B, 10, none⟩ = some (.bool b3) ∧ w3.cell? ⟨B, 11, none⟩ = some (.bool b4) := ⟨d0, d1, d2, d3, d4, d5, d6, d7, d8, d9, d10, d11⟩))
  go_wp2_with fail
  go_ret
  exact ⟨rfl, (F1.out.trans' (Fr.refl Nob w1).drew).trans' f3⟩

set_option maxHeartbeats 8000000 in
set_option maxRecDepth 100000 in
theorem of_arith {w : World} {l : List ByteArray} (b d : ByteArray) (v : Value) (n1 n2 n3 n4 : Int) (b1 b2 b3 b4 : Bool) (k : ByteArray) (h : RdS w v l) (hk : k = keyOf l) :
    Calls Tryd.prog 18 #[.agg #[.string ⟨#[97, 114, 105, 116, 104]⟩, .string b, v, .string d, .int .u32 n1, .int .i64 n2, .int .u64 n3, .int .u64 n4, .bool b1, .bool b2, .bool b3, .bool b4]] w fun e w' =>
      e = .returned (.iface 50 (.agg #[.string k, .int .u64 n4, .bool b3, .bool b4])) ∧ Fr Nob w w' := by
  obtain ⟨B, hB⟩ : ∃ B, B = w.heap.size := ⟨_, rfl⟩
  obtain ⟨w1, hw1⟩ : ∃ w1, w1 = w.alloc (.cells #[.string ⟨#[97, 114, 105, 116, 104]⟩, .string b, v, .string d, .int .u32 n1, .int .i64 n2, .int .u64 n3, .int .u64 n4, .bool b1, .bool b2, .bool b3, .bool b4] 28) := ⟨_, rfl⟩
  have f1 : Fr Nob w w1 := by rw [hw1]; exact (Fr.refl Nob w).alloc _
  have h1 : w1.heap[B]? = some (.cells #[.string ⟨#[97, 114, 105, 116, 104]⟩, .string b, v, .string d, .int .u32 n1, .int .i64 n2, .int .u64 n3, .int .u64 n4, .bool b1, .bool b2, .bool b3, .bool b4] 28 (0, 0)) := by rw [hw1, hB]; exact heap_alloc_new w _
  have CL := Lib.hid (key_eq (w := w1.drew) ⟨#[97, 114, 105, 116, 104]⟩ b k d v n1 n2 n3 n4 b1 b2 b3 b4 ((h.nob f1).nob (Fr.refl Nob w1).drew) hk)
  have F1 := Lib.hid f1
  have c0 : w1.cell? ⟨B, 0, none⟩ = some (.string ⟨#[97, 114, 105, 116, 104]⟩) := cell_of_row w1 B 0 _ _ (0, 0) h1
  have c1 : w1.cell? ⟨B, 1, none⟩ = some (.string b) := cell_of_row w1 B 1 _ _ (0, 0) h1
  have c2 : w1.cell? ⟨B, 2, none⟩ = some (v) := cell_of_row w1 B 2 _ _ (0, 0) h1
  have c3 : w1.cell? ⟨B, 3, none⟩ = some (.string d) := cell_of_row w1 B 3 _ _ (0, 0) h1
  have c4 : w1.cell? ⟨B, 4, none⟩ = some (.int .u32 n1) := cell_of_row w1 B 4 _ _ (0, 0) h1
  have c5 : w1.cell? ⟨B, 5, none⟩ = some (.int .i64 n2) := cell_of_row w1 B 5 _ _ (0, 0) h1
  have c6 : w1.cell? ⟨B, 6, none⟩ = some (.int .u64 n3) := cell_of_row w1 B 6 _ _ (0, 0) h1
  have c7 : w1.cell? ⟨B, 7, none⟩ = some (.int .u64 n4) := cell_of_row w1 B 7 _ _ (0, 0) h1
  have c8 : w1.cell? ⟨B, 8, none⟩ = some (.bool b1) := cell_of_row w1 B 8 _ _ (0, 0) h1
  have c9 : w1.cell? ⟨B, 9, none⟩ = some (.bool b2) := cell_of_row w1 B 9 _ _ (0, 0) h1
  have c10 : w1.cell? ⟨B, 10, none⟩ = some (.bool b3) := cell_of_row w1 B 10 _ _ (0, 0) h1
  have c11 : w1.cell? ⟨B, 11, none⟩ = some (.bool b4) := cell_of_row w1 B 11 _ _ (0, 0) h1
  have H1 := Lib.hid h1
  have HW := Lib.hid hw1.symm
  have HB := Lib.hid hB.symm
  have hsz : Hid (w.heap.size ≤ w1.heap.size) := Lib.hid f1.size
  clear h1 f1 hw1 hB hk
  go_enter Tryd.func18, Tryd.ntmps18
  go_wp2_with fail
  rw [HW.out, HB.out]
  have S0 : w1.drew.cell? ⟨B, 0, none⟩ = some (.string ⟨#[97, 114, 105, 116, 104]⟩) ∧ w1.drew.cell? ⟨B, 1, none⟩ = some (.string b) ∧ w1.drew.cell? ⟨B, 2, none⟩ = some (v) ∧ w1.drew.cell? ⟨B, 3, none⟩ = some (.string d) ∧ w1.drew.cell? ⟨B, 4, none⟩ = some (.int .u32 n1) ∧ w1.drew.cell? ⟨B, 5, none⟩ = some (.int .i64 n2) ∧ w1.drew.cell? ⟨B, 6, none⟩ = some (.int .u64 n3) ∧ w1.drew.cell? ⟨B, 7, none⟩ = some (.int .u64 n4) ∧ w1.drew.cell? ⟨B, 8, none⟩ = some (.bool b1) ∧ w1.drew.cell? ⟨B, 9, none⟩ = some (.bool b2) ∧ w1.drew.cell? ⟨B, 10, none⟩ = some (.bool b3) ∧ w1.drew.cell? ⟨B, 11, none⟩ = some (.bool b4) := ⟨c0, c1, c2, c3, c4, c5, c6, c7, c8, c9, c10, c11⟩
  go_region_held3 (fun w' => w'.cell? ⟨B, 0, none⟩ = some (.string ⟨#[97, 114, 105, 116, 104]⟩) ∧ w'.cell? ⟨B, 1, none⟩ = some (.string b) ∧ w'.cell? ⟨B, 2, none⟩ = some (v) ∧ w'.cell? ⟨B, 3, none⟩ = some (.string d) ∧ w'.cell? ⟨B, 4, none⟩ = some (.int .u32 n1) ∧ w'.cell? ⟨B, 5, none⟩ = some (.int .i64 n2) ∧ w'.cell? ⟨B, 6, none⟩ = some (.int .u64 n3) ∧ w'.cell? ⟨B, 7, none⟩ = some (.int .u64 n4) ∧ w'.cell? ⟨B, 8, none⟩ = some (.bool b1) ∧ w'.cell? ⟨B, 9, none⟩ = some (.bool b2) ∧ w'.cell? ⟨B, 10, none⟩ = some (.bool b3) ∧ w'.cell? ⟨B, 11, none⟩ = some (.bool b4))
    (first | assumption | go_keep | exact ⟨by first | assumption | exact H1.out | go_keep, by first | assumption | exact H1.out | go_keep, by first | assumption | exact H1.out | go_keep, by first | assumption | exact H1.out | go_keep, by first | assumption | exact H1.out | go_keep, by first | assumption | exact H1.out | go_keep, by first | assumption | exact H1.out | go_keep, by first | assumption | exact H1.out | go_keep, by first | assumption | exact H1.out | go_keep, by first | assumption | exact H1.out | go_keep, by first | assumption | exact H1.out | go_keep, by first | assumption | exact H1.out | go_keep⟩)
    (first
    | (go_at_call 30; refine CL.out.mono ?_; rintro e w3 ⟨rfl, f3⟩; have d0 : w3.cell? ⟨B, 0, none⟩ = some (.string ⟨#[97, 114, 105, 116, 104]⟩) := f3.cell (show w1.drew.cell? ⟨B, 0, none⟩ = _ from c0) (fun h => h); have d1 : w3.cell? ⟨B, 1, none⟩ = some (.string b) := f3.cell (show w1.drew.cell? ⟨B, 1, none⟩ = _ from c1) (fun h => h); have d2 : w3.cell? ⟨B, 2, none⟩ = some (v) := f3.cell (show w1.drew.cell? ⟨B, 2, none⟩ = _ from c2) (fun h => h); have d3 : w3.cell? ⟨B, 3, none⟩ = some (.string d) := f3.cell (show w1.drew.cell? ⟨B, 3, none⟩ = _ from c3) (fun h => h); have d4 : w3.cell? ⟨B, 4, none⟩ = some (.int .u32 n1) := f3.cell (show w1.drew.cell? ⟨B, 4, none⟩ = _ from c4) (fun h => h); have d5 : w3.cell? ⟨B, 5, none⟩ = some (.int .i64 n2) := f3.cell (show w1.drew.cell? ⟨B, 5, none⟩ = _ from c5) (fun h => h); have d6 : w3.cell? ⟨B, 6, none⟩ = some (.int .u64 n3) := f3.cell (show w1.drew.cell? ⟨B, 6, none⟩ = _ from c6) (fun h => h); have d7 : w3.cell? ⟨B, 7, none⟩ = some (.int .u64 n4) := f3.cell (show w1.drew.cell? ⟨B, 7, none⟩ = _ from c7) (fun h => h); have d8 : w3.cell? ⟨B, 8, none⟩ = some (.bool b1) := f3.cell (show w1.drew.cell? ⟨B, 8, none⟩ = _ from c8) (fun h => h); have d9 : w3.cell? ⟨B, 9, none⟩ = some (.bool b2) := f3.cell (show w1.drew.cell? ⟨B, 9, none⟩ = _ from c9) (fun h => h); have d10 : w3.cell? ⟨B, 10, none⟩ = some (.bool b3) := f3.cell (show w1.drew.cell? ⟨B, 10, none⟩ = _ from c10) (fun h => h); have d11 : w3.cell? ⟨B, 11, none⟩ = some (.bool b4) := f3.cell (show w1.drew.cell? ⟨B, 11, none⟩ = _ from c11) (fun h => h); have S3 : w3.cell? ⟨B, 0, none⟩ = some (.string ⟨#[97, 114, 105, 116, 104]⟩) ∧ w3.cell? ⟨B, 1, none⟩ = some (.string b) ∧ w3.cell? ⟨B, 2, none⟩ = some (v) ∧ w3.cell? ⟨B, 3, none⟩ = some (.string d) ∧ w3.cell? ⟨B, 4, none⟩ = some (.int .u32 n1) ∧ w3.cell? ⟨B, 5, none⟩ = some (.int .i64 n2) ∧ w3.cell? ⟨B, 6, none⟩ = some (.int .u64 n3) ∧ w3.cell? ⟨B, 7, none⟩ = some (.int .u64 n4) ∧ w3.cell? ⟨B, 8, none⟩ = some (.bool b1) ∧ w3.cell? ⟨B, 9, none⟩ = some (.bool b2) ∧ w3.cell? ⟨B, 10, none⟩ = some (.bool b3) ∧ w3.cell? ⟨B, 11, none⟩ = some (.bool b4) := ⟨d0, d1, d2, d3, d4, d5, d6, d7, d8, d9, d10, d11⟩))
  go_wp2_with fail
  go_ret
  exact ⟨rfl, (F1.out.trans' (Fr.refl Nob w1).drew).trans' f3⟩

set_option maxHeartbeats 8000000 in
set_option maxRecDepth 100000 in
theorem of_touch {w : World} {l : List ByteArray} (b d : ByteArray) (v : Value) (n1 n2 n3 n4 : Int) (b1 b2 b3 b4 : Bool) (k : ByteArray) (h : RdS w v l) (hk : k = keyOf l) :
    Calls Tryd.prog 18 #[.agg #[.string ⟨#[116, 111, 117, 99, 104]⟩, .string b, v, .string d, .int .u32 n1, .int .i64 n2, .int .u64 n3, .int .u64 n4, .bool b1, .bool b2, .bool b3, .bool b4]] w fun e w' =>
      e = .returned (.iface 64 (.agg #[.string k, .int .i64 n2, .bool b4])) ∧ Fr Nob w w' := by
  obtain ⟨B, hB⟩ : ∃ B, B = w.heap.size := ⟨_, rfl⟩
  obtain ⟨w1, hw1⟩ : ∃ w1, w1 = w.alloc (.cells #[.string ⟨#[116, 111, 117, 99, 104]⟩, .string b, v, .string d, .int .u32 n1, .int .i64 n2, .int .u64 n3, .int .u64 n4, .bool b1, .bool b2, .bool b3, .bool b4] 28) := ⟨_, rfl⟩
  have f1 : Fr Nob w w1 := by rw [hw1]; exact (Fr.refl Nob w).alloc _
  have h1 : w1.heap[B]? = some (.cells #[.string ⟨#[116, 111, 117, 99, 104]⟩, .string b, v, .string d, .int .u32 n1, .int .i64 n2, .int .u64 n3, .int .u64 n4, .bool b1, .bool b2, .bool b3, .bool b4] 28 (0, 0)) := by rw [hw1, hB]; exact heap_alloc_new w _
  have CL := Lib.hid (key_eq (w := w1.drew) ⟨#[116, 111, 117, 99, 104]⟩ b k d v n1 n2 n3 n4 b1 b2 b3 b4 ((h.nob f1).nob (Fr.refl Nob w1).drew) hk)
  have F1 := Lib.hid f1
  have c0 : w1.cell? ⟨B, 0, none⟩ = some (.string ⟨#[116, 111, 117, 99, 104]⟩) := cell_of_row w1 B 0 _ _ (0, 0) h1
  have c1 : w1.cell? ⟨B, 1, none⟩ = some (.string b) := cell_of_row w1 B 1 _ _ (0, 0) h1
  have c2 : w1.cell? ⟨B, 2, none⟩ = some (v) := cell_of_row w1 B 2 _ _ (0, 0) h1
  have c3 : w1.cell? ⟨B, 3, none⟩ = some (.string d) := cell_of_row w1 B 3 _ _ (0, 0) h1
  have c4 : w1.cell? ⟨B, 4, none⟩ = some (.int .u32 n1) := cell_of_row w1 B 4 _ _ (0, 0) h1
  have c5 : w1.cell? ⟨B, 5, none⟩ = some (.int .i64 n2) := cell_of_row w1 B 5 _ _ (0, 0) h1
  have c6 : w1.cell? ⟨B, 6, none⟩ = some (.int .u64 n3) := cell_of_row w1 B 6 _ _ (0, 0) h1
  have c7 : w1.cell? ⟨B, 7, none⟩ = some (.int .u64 n4) := cell_of_row w1 B 7 _ _ (0, 0) h1
  have c8 : w1.cell? ⟨B, 8, none⟩ = some (.bool b1) := cell_of_row w1 B 8 _ _ (0, 0) h1
  have c9 : w1.cell? ⟨B, 9, none⟩ = some (.bool b2) := cell_of_row w1 B 9 _ _ (0, 0) h1
  have c10 : w1.cell? ⟨B, 10, none⟩ = some (.bool b3) := cell_of_row w1 B 10 _ _ (0, 0) h1
  have c11 : w1.cell? ⟨B, 11, none⟩ = some (.bool b4) := cell_of_row w1 B 11 _ _ (0, 0) h1
  have H1 := Lib.hid h1
  have HW := Lib.hid hw1.symm
  have HB := Lib.hid hB.symm
  have hsz : Hid (w.heap.size ≤ w1.heap.size) := Lib.hid f1.size
  clear h1 f1 hw1 hB hk
  go_enter Tryd.func18, Tryd.ntmps18
  go_wp2_with fail
  rw [HW.out, HB.out]
  have S0 : w1.drew.cell? ⟨B, 0, none⟩ = some (.string ⟨#[116, 111, 117, 99, 104]⟩) ∧ w1.drew.cell? ⟨B, 1, none⟩ = some (.string b) ∧ w1.drew.cell? ⟨B, 2, none⟩ = some (v) ∧ w1.drew.cell? ⟨B, 3, none⟩ = some (.string d) ∧ w1.drew.cell? ⟨B, 4, none⟩ = some (.int .u32 n1) ∧ w1.drew.cell? ⟨B, 5, none⟩ = some (.int .i64 n2) ∧ w1.drew.cell? ⟨B, 6, none⟩ = some (.int .u64 n3) ∧ w1.drew.cell? ⟨B, 7, none⟩ = some (.int .u64 n4) ∧ w1.drew.cell? ⟨B, 8, none⟩ = some (.bool b1) ∧ w1.drew.cell? ⟨B, 9, none⟩ = some (.bool b2) ∧ w1.drew.cell? ⟨B, 10, none⟩ = some (.bool b3) ∧ w1.drew.cell? ⟨B, 11, none⟩ = some (.bool b4) := ⟨c0, c1, c2, c3, c4, c5, c6, c7, c8, c9, c10, c11⟩
  go_region_held3 (fun w' => w'.cell? ⟨B, 0, none⟩ = some (.string ⟨#[116, 111, 117, 99, 104]⟩) ∧ w'.cell? ⟨B, 1, none⟩ = some (.string b) ∧ w'.cell? ⟨B, 2, none⟩ = some (v) ∧ w'.cell? ⟨B, 3, none⟩ = some (.string d) ∧ w'.cell? ⟨B, 4, none⟩ = some (.int .u32 n1) ∧ w'.cell? ⟨B, 5, none⟩ = some (.int .i64 n2) ∧ w'.cell? ⟨B, 6, none⟩ = some (.int .u64 n3) ∧ w'.cell? ⟨B, 7, none⟩ = some (.int .u64 n4) ∧ w'.cell? ⟨B, 8, none⟩ = some (.bool b1) ∧ w'.cell? ⟨B, 9, none⟩ = some (.bool b2) ∧ w'.cell? ⟨B, 10, none⟩ = some (.bool b3) ∧ w'.cell? ⟨B, 11, none⟩ = some (.bool b4))
    (first | assumption | go_keep | exact ⟨by first | assumption | exact H1.out | go_keep, by first | assumption | exact H1.out | go_keep, by first | assumption | exact H1.out | go_keep, by first | assumption | exact H1.out | go_keep, by first | assumption | exact H1.out | go_keep, by first | assumption | exact H1.out | go_keep, by first | assumption | exact H1.out | go_keep, by first | assumption | exact H1.out | go_keep, by first | assumption | exact H1.out | go_keep, by first | assumption | exact H1.out | go_keep, by first | assumption | exact H1.out | go_keep, by first | assumption | exact H1.out | go_keep⟩)
    (first
    | (go_at_call 30; refine CL.out.mono ?_; rintro e w3 ⟨rfl, f3⟩; have d0 : w3.cell? ⟨B, 0, none⟩ = some (.string ⟨#[116, 111, 117, 99, 104]⟩) := f3.cell (show w1.drew.cell? ⟨B, 0, none⟩ = _ from c0) (fun h => h); have d1 : w3.cell? ⟨B, 1, none⟩ = some (.string b) := f3.cell (show w1.drew.cell? ⟨B, 1, none⟩ = _ from c1) (fun h => h); have d2 : w3.cell? ⟨B, 2, none⟩ = some (v) := f3.cell (show w1.drew.cell? ⟨B, 2, none⟩ = _ from c2) (fun h => h); have d3 : w3.cell? ⟨B, 3, none⟩ = some (.string d) := f3.cell (show w1.drew.cell? ⟨B, 3, none⟩ = _ from c3) (fun h => h); have d4 : w3.cell? ⟨B, 4, none⟩ = some (.int .u32 n1) := f3.cell (show w1.drew.cell? ⟨B, 4, none⟩ = _ from c4) (fun h => h); have d5 : w3.cell? ⟨B, 5, none⟩ = some (.int .i64 n2) := f3.cell (show w1.drew.cell? ⟨B, 5, none⟩ = _ from c5) (fun h => h); have d6 : w3.cell? ⟨B, 6, none⟩ = some (.int .u64 n3) := f3.cell (show w1.drew.cell? ⟨B, 6, none⟩ = _ from c6) (fun h => h); have d7 : w3.cell? ⟨B, 7, none⟩ = some (.int .u64 n4) := f3.cell (show w1.drew.cell? ⟨B, 7, none⟩ = _ from c7) (fun h => h); have d8 : w3.cell? ⟨B, 8, none⟩ = some (.bool b1) := f3.cell (show w1.drew.cell? ⟨B, 8, none⟩ = _ from c8) (fun h => h); have d9 : w3.cell? ⟨B, 9, none⟩ = some (.bool b2) := f3.cell (show w1.drew.cell? ⟨B, 9, none⟩ = _ from c9) (fun h => h); have d10 : w3.cell? ⟨B, 10, none⟩ = some (.bool b3) := f3.cell (show w1.drew.cell? ⟨B, 10, none⟩ = _ from c10) (fun h => h); have d11 : w3.cell? ⟨B, 11, none⟩ = some (.bool b4) := f3.cell (show w1.drew.cell? ⟨B, 11, none⟩ = _ from c11) (fun h => h); have S3 : w3.cell? ⟨B, 0, none⟩ = some (.string ⟨#[116, 111, 117, 99, 104]⟩) ∧ w3.cell? ⟨B, 1, none⟩ = some (.string b) ∧ w3.cell? ⟨B, 2, none⟩ = some (v) ∧ w3.cell? ⟨B, 3, none⟩ = some (.string d) ∧ w3.cell? ⟨B, 4, none⟩ = some (.int .u32 n1) ∧ w3.cell? ⟨B, 5, none⟩ = some (.int .i64 n2) ∧ w3.cell? ⟨B, 6, none⟩ = some (.int .u64 n3) ∧ w3.cell? ⟨B, 7, none⟩ = some (.int .u64 n4) ∧ w3.cell? ⟨B, 8, none⟩ = some (.bool b1) ∧ w3.cell? ⟨B, 9, none⟩ = some (.bool b2) ∧ w3.cell? ⟨B, 10, none⟩ = some (.bool b3) ∧ w3.cell? ⟨B, 11, none⟩ = some (.bool b4) := ⟨d0, d1, d2, d3, d4, d5, d6, d7, d8, d9, d10, d11⟩))
  go_wp2_with fail
  go_ret
  exact ⟨rfl, (F1.out.trans' (Fr.refl Nob w1).drew).trans' f3⟩

set_option maxHeartbeats 8000000 in
set_option maxRecDepth 100000 in
theorem of_delete {w : World} {l : List ByteArray} (b d : ByteArray) (v : Value) (n1 n2 n3 n4 : Int) (b1 b2 b3 b4 : Bool) (k : ByteArray) (h : RdS w v l) (hk : k = keyOf l) :
    Calls Tryd.prog 18 #[.agg #[.string ⟨#[100, 101, 108, 101, 116, 101]⟩, .string b, v, .string d, .int .u32 n1, .int .i64 n2, .int .u64 n3, .int .u64 n4, .bool b1, .bool b2, .bool b3, .bool b4]] w fun e w' =>
      e = .returned (.iface 67 (.agg #[.string k, .bool b4])) ∧ Fr Nob w w' := by
  obtain ⟨B, hB⟩ : ∃ B, B = w.heap.size := ⟨_, rfl⟩
  obtain ⟨w1, hw1⟩ : ∃ w1, w1 = w.alloc (.cells #[.string ⟨#[100, 101, 108, 101, 116, 101]⟩, .string b, v, .string d, .int .u32 n1, .int .i64 n2, .int .u64 n3, .int .u64 n4, .bool b1, .bool b2, .bool b3, .bool b4] 28) := ⟨_, rfl⟩
  have f1 : Fr Nob w w1 := by rw [hw1]; exact (Fr.refl Nob w).alloc _
  have h1 : w1.heap[B]? = some (.cells #[.string ⟨#[100, 101, 108, 101, 116, 101]⟩, .string b, v, .string d, .int .u32 n1, .int .i64 n2, .int .u64 n3, .int .u64 n4, .bool b1, .bool b2, .bool b3, .bool b4] 28 (0, 0)) := by rw [hw1, hB]; exact heap_alloc_new w _
  have CL := Lib.hid (key_eq (w := w1.drew) ⟨#[100, 101, 108, 101, 116, 101]⟩ b k d v n1 n2 n3 n4 b1 b2 b3 b4 ((h.nob f1).nob (Fr.refl Nob w1).drew) hk)
  have F1 := Lib.hid f1
  have c0 : w1.cell? ⟨B, 0, none⟩ = some (.string ⟨#[100, 101, 108, 101, 116, 101]⟩) := cell_of_row w1 B 0 _ _ (0, 0) h1
  have c1 : w1.cell? ⟨B, 1, none⟩ = some (.string b) := cell_of_row w1 B 1 _ _ (0, 0) h1
  have c2 : w1.cell? ⟨B, 2, none⟩ = some (v) := cell_of_row w1 B 2 _ _ (0, 0) h1
  have c3 : w1.cell? ⟨B, 3, none⟩ = some (.string d) := cell_of_row w1 B 3 _ _ (0, 0) h1
  have c4 : w1.cell? ⟨B, 4, none⟩ = some (.int .u32 n1) := cell_of_row w1 B 4 _ _ (0, 0) h1
  have c5 : w1.cell? ⟨B, 5, none⟩ = some (.int .i64 n2) := cell_of_row w1 B 5 _ _ (0, 0) h1
  have c6 : w1.cell? ⟨B, 6, none⟩ = some (.int .u64 n3) := cell_of_row w1 B 6 _ _ (0, 0) h1
  have c7 : w1.cell? ⟨B, 7, none⟩ = some (.int .u64 n4) := cell_of_row w1 B 7 _ _ (0, 0) h1
  have c8 : w1.cell? ⟨B, 8, none⟩ = some (.bool b1) := cell_of_row w1 B 8 _ _ (0, 0) h1
  have c9 : w1.cell? ⟨B, 9, none⟩ = some (.bool b2) := cell_of_row w1 B 9 _ _ (0, 0) h1
  have c10 : w1.cell? ⟨B, 10, none⟩ = some (.bool b3) := cell_of_row w1 B 10 _ _ (0, 0) h1
  have c11 : w1.cell? ⟨B, 11, none⟩ = some (.bool b4) := cell_of_row w1 B 11 _ _ (0, 0) h1
  have H1 := Lib.hid h1
  have HW := Lib.hid hw1.symm
  have HB := Lib.hid hB.symm
  have hsz : Hid (w.heap.size ≤ w1.heap.size) := Lib.hid f1.size
  clear h1 f1 hw1 hB hk
  go_enter Tryd.func18, Tryd.ntmps18
  go_wp2_with fail
  rw [HW.out, HB.out]
  have S0 : w1.drew.cell? ⟨B, 0, none⟩ = some (.string ⟨#[100, 101, 108, 101, 116, 101]⟩) ∧ w1.drew.cell? ⟨B, 1, none⟩ = some (.string b) ∧ w1.drew.cell? ⟨B, 2, none⟩ = some (v) ∧ w1.drew.cell? ⟨B, 3, none⟩ = some (.string d) ∧ w1.drew.cell? ⟨B, 4, none⟩ = some (.int .u32 n1) ∧ w1.drew.cell? ⟨B, 5, none⟩ = some (.int .i64 n2) ∧ w1.drew.cell? ⟨B, 6, none⟩ = some (.int .u64 n3) ∧ w1.drew.cell? ⟨B, 7, none⟩ = some (.int .u64 n4) ∧ w1.drew.cell? ⟨B, 8, none⟩ = some (.bool b1) ∧ w1.drew.cell? ⟨B, 9, none⟩ = some (.bool b2) ∧ w1.drew.cell? ⟨B, 10, none⟩ = some (.bool b3) ∧ w1.drew.cell? ⟨B, 11, none⟩ = some (.bool b4) := ⟨c0, c1, c2, c3, c4, c5, c6, c7, c8, c9, c10, c11⟩
  go_region_held3 (fun w' => w'.cell? ⟨B, 0, none⟩ = some (.string ⟨#[100, 101, 108, 101, 116, 101]⟩) ∧ w'.cell? ⟨B, 1, none⟩ = some (.string b) ∧ w'.cell? ⟨B, 2, none⟩ = some (v) ∧ w'.cell? ⟨B, 3, none⟩ = some (.string d) ∧ w'.cell? ⟨B, 4, none⟩ = some (.int .u32 n1) ∧ w'.cell? ⟨B, 5, none⟩ = some (.int .i64 n2) ∧ w'.cell? ⟨B, 6, none⟩ = some (.int .u64 n3) ∧ w'.cell? ⟨B, 7, none⟩ = some (.int .u64 n4) ∧ w'.cell? ⟨B, 8, none⟩ = some (.bool b1) ∧ w'.cell? ⟨B, 9, none⟩ = some (.bool b2) ∧ w'.cell? ⟨B, 10, none⟩ = some (.bool b3) ∧ w'.cell? ⟨B, 11, none⟩ = some (.bool b4))
    (first | assumption | go_keep | exact ⟨by first | assumption | exact H1.out | go_keep, by first | assumption | exact H1.out | go_keep, by first | assumption | exact H1.out | go_keep, by first | assumption | exact H1.out | go_keep, by first | assumption | exact H1.out | go_keep, by first | assumption | exact H1.out | go_keep, by first | assumption | exact H1.out | go_keep, by first | assumption | exact H1.out | go_keep, by first | assumption | exact H1.out | go_keep, by first | assumption | exact H1.out | go_keep, by first | assumption | exact H1.out | go_keep, by first | assumption | exact H1.out | go_keep⟩)
    (first
    | (go_at_call 30; refine CL.out.mono ?_; rintro e w3 ⟨rfl, f3⟩; have d0 : w3.cell? ⟨B, 0, none⟩ = some (.string ⟨#[100, 101, 108, 101, 116, 101]⟩) := f3.cell (show w1.drew.cell? ⟨B, 0, none⟩ = _ from c0) (fun h => h); have d1 : w3.cell? ⟨B, 1, none⟩ = some (.string b) := f3.cell (show w1.drew.cell? ⟨B, 1, none⟩ = _ from c1) (fun h => h); have d2 : w3.cell? ⟨B, 2, none⟩ = some (v) := f3.cell (show w1.drew.cell? ⟨B, 2, none⟩ = _ from c2) (fun h => h); have d3 : w3.cell? ⟨B, 3, none⟩ = some (.string d) := f3.cell (show w1.drew.cell? ⟨B, 3, none⟩ = _ from c3) (fun h => h); have d4 : w3.cell? ⟨B, 4, none⟩ = some (.int .u32 n1) := f3.cell (show w1.drew.cell? ⟨B, 4, none⟩ = _ from c4) (fun h => h); have d5 : w3.cell? ⟨B, 5, none⟩ = some (.int .i64 n2) := f3.cell (show w1.drew.cell? ⟨B, 5, none⟩ = _ from c5) (fun h => h); have d6 : w3.cell? ⟨B, 6, none⟩ = some (.int .u64 n3) := f3.cell (show w1.drew.cell? ⟨B, 6, none⟩ = _ from c6) (fun h => h); have d7 : w3.cell? ⟨B, 7, none⟩ = some (.int .u64 n4) := f3.cell (show w1.drew.cell? ⟨B, 7, none⟩ = _ from c7) (fun h => h); have d8 : w3.cell? ⟨B, 8, none⟩ = some (.bool b1) := f3.cell (show w1.drew.cell? ⟨B, 8, none⟩ = _ from c8) (fun h => h); have d9 : w3.cell? ⟨B, 9, none⟩ = some (.bool b2) := f3.cell (show w1.drew.cell? ⟨B, 9, none⟩ = _ from c9) (fun h => h); have d10 : w3.cell? ⟨B, 10, none⟩ = some (.bool b3) := f3.cell (show w1.drew.cell? ⟨B, 10, none⟩ = _ from c10) (fun h => h); have d11 : w3.cell? ⟨B, 11, none⟩ = some (.bool b4) := f3.cell (show w1.drew.cell? ⟨B, 11, none⟩ = _ from c11) (fun h => h); have S3 : w3.cell? ⟨B, 0, none⟩ = some (.string ⟨#[100, 101, 108, 101, 116, 101]⟩) ∧ w3.cell? ⟨B, 1, none⟩ = some (.string b) ∧ w3.cell? ⟨B, 2, none⟩ = some (v) ∧ w3.cell? ⟨B, 3, none⟩ = some (.string d) ∧ w3.cell? ⟨B, 4, none⟩ = some (.int .u32 n1) ∧ w3.cell? ⟨B, 5, none⟩ = some (.int .i64 n2) ∧ w3.cell? ⟨B, 6, none⟩ = some (.int .u64 n3) ∧ w3.cell? ⟨B, 7, none⟩ = some (.int .u64 n4) ∧ w3.cell? ⟨B, 8, none⟩ = some (.bool b1) ∧ w3.cell? ⟨B, 9, none⟩ = some (.bool b2) ∧ w3.cell? ⟨B, 10, none⟩ = some (.bool b3) ∧ w3.cell? ⟨B, 11, none⟩ = some (.bool b4) := ⟨d0, d1, d2, d3, d4, d5, d6, d7, d8, d9, d10, d11⟩))
  go_wp2_with fail
  go_ret
  exact ⟨rfl, (F1.out.trans' (Fr.refl Nob w1).drew).trans' f3⟩

set_option maxHeartbeats 8000000 in
set_option maxRecDepth 100000 in
theorem of_flush {w : World} (b d : ByteArray) (v : Value) (n1 n2 n3 n4 : Int) (b1 b2 b3 b4 : Bool) :
    Calls Tryd.prog 18 #[.agg #[.string ⟨#[102, 108, 117, 115, 104]⟩, .string b, v, .string d, .int .u32 n1, .int .i64 n2, .int .u64 n3, .int .u64 n4, .bool b1, .bool b2, .bool b3, .bool b4]] w fun e w' =>
      e = .returned (.iface 57 (.agg #[.bool b4])) ∧ Fr Nob w w' := by
  obtain ⟨B, hB⟩ : ∃ B, B = w.heap.size := ⟨_, rfl⟩
  obtain ⟨w1, hw1⟩ : ∃ w1, w1 = w.alloc (.cells #[.string ⟨#[102, 108, 117, 115, 104]⟩, .string b, v, .string d, .int .u32 n1, .int .i64 n2, .int .u64 n3, .int .u64 n4, .bool b1, .bool b2, .bool b3, .bool b4] 28) := ⟨_, rfl⟩
  have f1 : Fr Nob w w1 := by rw [hw1]; exact (Fr.refl Nob w).alloc _
  have h1 : w1.heap[B]? = some (.cells #[.string ⟨#[102, 108, 117, 115, 104]⟩, .string b, v, .string d, .int .u32 n1, .int .i64 n2, .int .u64 n3, .int .u64 n4, .bool b1, .bool b2, .bool b3, .bool b4] 28 (0, 0)) := by rw [hw1, hB]; exact heap_alloc_new w _
  have F1 := Lib.hid f1
  have H1 := Lib.hid h1
  have HW := Lib.hid hw1.symm
  have HB := Lib.hid hB.symm
  have hsz : Hid (w.heap.size ≤ w1.heap.size) := Lib.hid f1.size
  clear h1 f1 hw1 hB
  go_enter Tryd.func18, Tryd.ntmps18
  go_wp2_with fail
  go_ret
  rw [HW.out]
  exact ⟨rfl, F1.out⟩

set_option maxHeartbeats 8000000 in
set_option maxRecDepth 100000 in
theorem of_bad {w : World} (b d : ByteArray) (v : Value) (n1 n2 n3 n4 : Int) (b1 b2 b3 b4 : Bool) :
    Calls Tryd.prog 18 #[.agg #[.string ⟨#[98, 97, 100]⟩, .string b, v, .string d, .int .u32 n1, .int .i64 n2, .int .u64 n3, .int .u64 n4, .bool b1, .bool b2, .bool b3, .bool b4]] w fun e w' =>
      e = .returned (.iface 72 (.agg #[.string b])) ∧ Fr Nob w w' := by
  obtain ⟨B, hB⟩ : ∃ B, B = w.heap.size := ⟨_, rfl⟩
  obtain ⟨w1, hw1⟩ : ∃ w1, w1 = w.alloc (.cells #[.string ⟨#[98, 97, 100]⟩, .string b, v, .string d, .int .u32 n1, .int .i64 n2, .int .u64 n3, .int .u64 n4, .bool b1, .bool b2, .bool b3, .bool b4] 28) := ⟨_, rfl⟩
  have f1 : Fr Nob w w1 := by rw [hw1]; exact (Fr.refl Nob w).alloc _
  have h1 : w1.heap[B]? = some (.cells #[.string ⟨#[98, 97, 100]⟩, .string b, v, .string d, .int .u32 n1, .int .i64 n2, .int .u64 n3, .int .u64 n4, .bool b1, .bool b2, .bool b3, .bool b4] 28 (0, 0)) := by rw [hw1, hB]; exact heap_alloc_new w _
  have F1 := Lib.hid f1
  have H1 := Lib.hid h1
  have HW := Lib.hid hw1.symm
  have HB := Lib.hid hB.symm
  have hsz : Hid (w.heap.size ≤ w1.heap.size) := Lib.hid f1.size
  clear h1 f1 hw1 hB
  go_enter Tryd.func18, Tryd.ntmps18
  go_wp2_with fail
  go_ret
  rw [HW.out]
  exact ⟨rfl, F1.out⟩

set_option maxHeartbeats 8000000 in
set_option maxRecDepth 100000 in
theorem of_word {w : World} (b d : ByteArray) (v : Value) (n1 n2 n3 n4 : Int) (b1 b2 b3 b4 : Bool) :
    Calls Tryd.prog 18 #[.agg #[.string ⟨#[119, 111, 114, 100]⟩, .string b, v, .string d, .int .u32 n1, .int .i64 n2, .int .u64 n3, .int .u64 n4, .bool b1, .bool b2, .bool b3, .bool b4]] w fun e w' =>
      e = .returned (.iface 53 (.agg #[.string b])) ∧ Fr Nob w w' := by
  obtain ⟨B, hB⟩ : ∃ B, B = w.heap.size := ⟨_, rfl⟩
  obtain ⟨w1, hw1⟩ : ∃ w1, w1 = w.alloc (.cells #[.string ⟨#[119, 111, 114, 100]⟩, .string b, v, .string d, .int .u32 n1, .int .i64 n2, .int .u64 n3, .int .u64 n4, .bool b1, .bool b2, .bool b3, .bool b4] 28) := ⟨_, rfl⟩
  have f1 : Fr Nob w w1 := by rw [hw1]; exact (Fr.refl Nob w).alloc _
  have h1 : w1.heap[B]? = some (.cells #[.string ⟨#[119, 111, 114, 100]⟩, .string b, v, .string d, .int .u32 n1, .int .i64 n2, .int .u64 n3, .int .u64 n4, .bool b1, .bool b2, .bool b3, .bool b4] 28 (0, 0)) := by rw [hw1, hB]; exact heap_alloc_new w _
  have F1 := Lib.hid f1
  have H1 := Lib.hid h1
  have HW := Lib.hid hw1.symm
  have HB := Lib.hid hB.symm
  have hsz : Hid (w.heap.size ≤ w1.heap.size) := Lib.hid f1.size
  clear h1 f1 hw1 hB
  go_enter Tryd.func18, Tryd.ntmps18
  go_wp2_with fail
  go_ret
  rw [HW.out]
  exact ⟨rfl, F1.out⟩
end Go.Proofs.YthfhlbnjahakaaaDoor
