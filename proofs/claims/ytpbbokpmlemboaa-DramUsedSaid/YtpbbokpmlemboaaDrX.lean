/-
  dram: items held against each other; the law's great items.
-/
import Derived.Test.YtpbbokpmlemboaaDrW
import Derived.Test.YtpbbokpmlemboaaBytes
import Derived.Laws.StructEq
namespace Go.Proofs.Ytpbbokpmlemboaa
open Go.RowKit Sl

deriving instance DecidableEq for It
theorem str_iff (a b : ByteArray) : a.toList = b.toList ↔ a = b := ⟨Tb.str_inj, fun h => by rw [h]⟩
set_option maxHeartbeats 1000000 in
theorem item_eql (a b : It) (w : World) : (binOp .eql 33 (itV a) (itV b)).run Try.prog w = .ok (.bool (decide (a = b))) w := by
  have hS : Try.prog.underlying 33 = some (.struct (Try.prog.fieldsOf 33)) := by kernel_rfl
  have hp : Try.prog.stoodInHeld 33 = false := by kernel_rfl
  have u9 := Try.underlying9
  have a9 := Try.isAgg9
  have z9 := Try.sizeOf9
  have u1 := Try.underlying30
  have a1 := Try.isAgg30
  have z1 := Try.sizeOf30
  have u2 := Try.underlying2
  have a2 := Try.isAgg2
  have z2 := Try.sizeOf2
  have u3 := Try.underlying31
  have a3 := Try.isAgg31
  have z3 := Try.sizeOf31
  obtain ⟨x0, x1, x2, x3, x4⟩ := a
  obtain ⟨y0, y1, y2, y3, y4⟩ := b
  rw [run_eql_struct, show (10000 : Nat) = 9999 + 1 from rfl, run_equalIn_agg w 9999 33 _ _ hS hp]
  simp only [Program.fieldsOf, Try.underlying33]
  go_simp
  by_cases h0 : x0 = y0 <;> by_cases h1 : x1 = y1 <;> by_cases h2 : x2 = y2 <;> by_cases h3 : x3 = y3 <;> by_cases h4 : x4 = y4 <;> simp [str_iff, h0, h1, h2, h3, h4]

def bigV : ByteArray := ⟨(List.replicate 1024 (0 : UInt8)).toArray⟩
theorem bigV_size : bigV.size = 1024 := by
  show (List.replicate 1024 (0 : UInt8)).toArray.size = 1024
  rw [List.size_toArray, List.length_replicate]
def bigI (k : ByteArray) : It := ⟨k, bigV, 0, 0, 1⟩
theorem u8_info' : (Try.prog.info? 5).map (fun i => (i.zero.map Value.cells, i.size, i.bytes)) = some (some #[.int .u8 0], 1, 1) := by kernel_rfl
theorem bigI_good {k : ByteArray} (h1 : 1 ≤ k.size) (h2 : k.size ≤ 250) : goodI (bigI k) = true := by
  unfold goodI bigI
  simp only [Bool.and_eq_true, decide_eq_true_eq]
  exact ⟨⟨⟨h1, h2⟩, by rw [bigV_size]; omega⟩, by omega⟩
theorem bigI_cls {k : ByteArray} (h1 : 1 ≤ k.size) (h2 : k.size ≤ 250) : classOf (sizeI (bigI k)) = 5 := by
  have e : (sizeI (bigI k) : Int) = 1056 + k.size := by
    unfold sizeI bigI
    simp only [bigV_size]
    omega
  rw [e]
  unfold classOf
  rw [if_pos (by omega), if_neg (by omega), if_neg (by omega), if_neg (by omega), if_neg (by omega), if_neg (by omega), if_pos (by omega)]

set_option maxHeartbeats 1000000 in
set_option maxRecDepth 100000 in
theorem big_eq {w : World} (k : ByteArray) : Calls Try.prog 20 #[.string k] w fun e w' => e = .returned (.agg #[.string k, .string bigV, .int .u32 0, .int .i64 0, .int .u64 1]) ∧ Fr Nob w w' := by
  have f1 : Fr Nob w (w.alloc (.cells zeroJ 33)) := (Fr.refl Nob w).alloc _
  have a1 := heap_alloc_new w (.cells zeroJ 33)
  have F1 := Lib.hid f1
  clear f1
  go_enter Try.func20, Try.ntmps20
  go_upto_region 1 with fail
  generalize w.alloc (.cells zeroJ 33) = w1 at *
  go_wp2_with (with_reducible refine wpList_make_all rfl _ _ 52 rfl 5 #[.int .u8 0] 1 1 Try.underlying52 u8_info' .i64 .i64 1024 rfl rfl (by omega) (by omega) ?_)
  intro cs hcs
  have hcs2 := hcs.out.trans (made_bytes 1024)
  have hb := heap_alloc_new w1 (.cells cs 5)
  have f2 : Fr Nob w1 (w1.alloc (.cells cs 5)) := (Fr.refl Nob w1).alloc _
  have CV : (convert 52 9 (.slice (some ⟨w1.heap.size, 0, none⟩) 1024 1024)).run Try.prog (w1.alloc (.cells cs 5)) = .ok (.string bigV) (w1.alloc (.cells cs 5)) := by
    have h1 : RdB (w1.alloc (.cells cs 5)) (.slice (some ⟨w1.heap.size, 0, none⟩) (List.replicate 1024 (0 : UInt8)).length 1024) (List.replicate 1024 0) := RdB.of_block (by rw [← hcs2]; exact hb)
    rw [List.length_replicate] at h1
    exact h1.text _ _ _ Try.underlying52 Try.underlying5 Try.underlying9
  replace a1 := f2.heap a1 fun h => h
  have F2 := Lib.hid (F1.out.trans' f2)
  clear hcs hcs2 hb f2 F1
  generalize w1.alloc (.cells cs 5) = w2 at *
  obtain ⟨p0, p1, p2, p3, p4, pz⟩ := box5 a1
  go_wp2_with fail
  have FB : Hid (Fr (One w.heap.size) w2 _) := Lib.hid (((((((Fr.refl (One w.heap.size) w2).set1 (o := 0) (.string k)).set1 (o := 1) (.string bigV)).set1 (o := 2) (.int .u32 0)).set1 (o := 3) (.int .i64 0)).set1 (o := 4) (.int .u64 1)))
  refine bodyPost_ret ?_ rfl ⟨rfl, F2.out.trans FB.out fun k hk e => by have : k = w.heap.size := e; omega⟩
  rw [results_cell rfl]
  go_simp
end Go.Proofs.Ytpbbokpmlemboaa
