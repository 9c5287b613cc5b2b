/-
  event: contracts of plain, name, Name, Quiet, Keys; Good where no key is looked at (written by gen/evd.py).
-/
import Derived.Test.YthfhlbnjahakaaaDoorEvC
namespace Go.Proofs.YthfhlbnjahakaaaDoor
open Go.RowKit

theorem heap_alloc_at (w : World) (o : Obj) (n : Nat) (h : n = w.heap.size) : (w.alloc o).heap[n]? = some o := by subst h; exact heap_alloc_new w o
theorem frB {w : World} (o : Obj) : Fr Nob w (w.alloc o) := (Fr.refl Nob w).alloc o

set_option maxHeartbeats 8000000 in
set_option maxRecDepth 100000 in
theorem plain_touch {w : World} (k : ByteArray) (n2 : Int) (b4 : Bool) : Calls Tryd.prog 20 #[.iface 64 (.agg #[.string k, .int .i64 n2, .bool b4])] w fun e w' => e = .returned (.string ⟨#[116, 111, 117, 99, 104]⟩) ∧ Fr Nob w w' := by
  have ATouch := taTouch
  have ADelete := taDelete
  have AFlush := taFlush
  have ABad := taBad
  go_enter Tryd.func20, Tryd.ntmps20
  go_wp2_with fail
  go_ret
  exact ⟨rfl, (by repeat first | exact Fr.refl _ _ | refine Fr.alloc ?_ _)⟩

set_option maxHeartbeats 8000000 in
set_option maxRecDepth 100000 in
theorem plain_delete {w : World} (k : ByteArray) (b4 : Bool) : Calls Tryd.prog 20 #[.iface 67 (.agg #[.string k, .bool b4])] w fun e w' => e = .returned (.string ⟨#[100, 101, 108, 101, 116, 101]⟩) ∧ Fr Nob w w' := by
  have ATouch := taTouch
  have ADelete := taDelete
  have AFlush := taFlush
  have ABad := taBad
  go_enter Tryd.func20, Tryd.ntmps20
  go_wp2_with fail
  go_ret
  exact ⟨rfl, (by repeat first | exact Fr.refl _ _ | refine Fr.alloc ?_ _)⟩

set_option maxHeartbeats 8000000 in
set_option maxRecDepth 100000 in
theorem plain_flush {w : World} (b4 : Bool) : Calls Tryd.prog 20 #[.iface 57 (.agg #[.bool b4])] w fun e w' => e = .returned (.string ⟨#[102, 108, 117, 115, 104, 95, 97, 108, 108]⟩) ∧ Fr Nob w w' := by
  have ATouch := taTouch
  have ADelete := taDelete
  have AFlush := taFlush
  have ABad := taBad
  go_enter Tryd.func20, Tryd.ntmps20
  go_wp2_with fail
  go_ret
  exact ⟨rfl, (by repeat first | exact Fr.refl _ _ | refine Fr.alloc ?_ _)⟩

set_option maxHeartbeats 8000000 in
set_option maxRecDepth 100000 in
theorem plain_bad {w : World} (b : ByteArray) : Calls Tryd.prog 20 #[.iface 72 (.agg #[.string b])] w fun e w' => e = .returned (.string ⟨#[98, 97, 100]⟩) ∧ Fr Nob w w' := by
  have ATouch := taTouch
  have ADelete := taDelete
  have AFlush := taFlush
  have ABad := taBad
  go_enter Tryd.func20, Tryd.ntmps20
  go_wp2_with fail
  go_ret
  exact ⟨rfl, (by repeat first | exact Fr.refl _ _ | refine Fr.alloc ?_ _)⟩

set_option maxHeartbeats 8000000 in
set_option maxRecDepth 100000 in
theorem plain_none {w : World} : Calls Tryd.prog 20 #[.nilIface] w fun e w' => e = .returned (.string ⟨#[]⟩) ∧ Fr Nob w w' := by
  have ATouch := tnTouch
  have ADelete := tnDelete
  have AFlush := tnFlush
  have ABad := tnBad
  go_enter Tryd.func20, Tryd.ntmps20
  go_wp2_with fail
  go_ret
  exact ⟨rfl, (by repeat first | exact Fr.refl _ _ | refine Fr.alloc ?_ _)⟩

def nameG (wt wc : Bool) : ByteArray := match wt, wc with
  | true, true => ⟨#[103, 97, 116, 115]⟩
  | true, false => ⟨#[103, 97, 116]⟩
  | false, true => ⟨#[103, 101, 116, 115]⟩
  | false, false => ⟨#[103, 101, 116]⟩

set_option maxHeartbeats 8000000 in
set_option maxRecDepth 100000 in
theorem name_get {w : World} (v' : Value) (n2 : Int) (b1 b2 : Bool) (hv : ∃ a n c, v' = .slice a n c) : Calls Tryd.prog 19 #[.agg #[v', .bool b1, .bool b2, .int .i64 n2]] w fun e w' => e = .returned (.string (nameG b2 b1)) ∧ Fr Nob w w' := by
  obtain ⟨a, n, c, rfl⟩ := hv
  cases b1 <;> cases b2
  all_goals
    go_enter Tryd.func19, Tryd.ntmps19
    go_wp2_with fail
    go_ret
    exact ⟨rfl, (by repeat first | exact Fr.refl _ _ | refine Fr.alloc ?_ _)⟩

/-- What is no command's word. -/
def noWord (a : ByteArray) : Prop := a ≠ ⟨#[103, 101, 116]⟩ ∧ a ≠ ⟨#[115, 116, 111, 114, 101]⟩ ∧ a ≠ ⟨#[97, 114, 105, 116, 104]⟩ ∧ a ≠ ⟨#[116, 111, 117, 99, 104]⟩ ∧ a ≠ ⟨#[100, 101, 108, 101, 116, 101]⟩ ∧ a ≠ ⟨#[102, 108, 117, 115, 104]⟩ ∧ a ≠ ⟨#[98, 97, 100]⟩ ∧ a ≠ ⟨#[119, 111, 114, 100]⟩
theorem str_inj {a b : ByteArray} (h : a.toList = b.toList) : a = b := by
  rw [ByteArray.toList_eq, ByteArray.toList_eq] at h
  obtain ⟨⟨a⟩⟩ := a
  obtain ⟨⟨b⟩⟩ := b
  exact congrArg (fun l => ByteArray.mk ⟨l⟩) h
theorem lit_ne {a : ByteArray} {l : List UInt8} (h : a ≠ ⟨⟨l⟩⟩) : (a.toList == l) = false := beq_eq_false_iff_ne.2 fun e => h (str_inj (by rw [e, ByteArray.toList_eq]))

set_option maxHeartbeats 8000000 in
set_option maxRecDepth 100000 in
theorem of_none {w : World} (a b d : ByteArray) (v : Value) (n1 n2 n3 n4 : Int) (b1 b2 b3 b4 : Bool) (h : noWord a) : Calls Tryd.prog 18 #[.agg #[.string a, .string b, v, .string d, .int .u32 n1, .int .i64 n2, .int .u64 n3, .int .u64 n4, .bool b1, .bool b2, .bool b3, .bool b4]] w fun e w' => e = .returned .nilIface ∧ Fr Nob w w' := by
  obtain ⟨h1, h2, h3, h4, h5, h6, h7, h8⟩ := h
  have g1 := lit_ne h1
  have g2 := lit_ne h2
  have g3 := lit_ne h3
  have g4 := lit_ne h4
  have g5 := lit_ne h5
  have g6 := lit_ne h6
  have g7 := lit_ne h7
  have g8 := lit_ne h8
  clear h1 h2 h3 h4 h5 h6 h7 h8
  go_enter Tryd.func18, Tryd.ntmps18
  go_wp2_with fail
  go_ret
  exact ⟨rfl, (by repeat first | exact Fr.refl _ _ | refine Fr.alloc ?_ _)⟩

set_option maxHeartbeats 8000000 in
set_option maxRecDepth 100000 in
theorem nameF_get {w : World} (b d : ByteArray) (v : Value) (n1 n2 n3 n4 : Int) (b1 b2 b3 b4 : Bool) {l : List ByteArray} (h : RdS w v l) (hn : l.length ≤ 1000000000) : Calls Tryd.prog 9 #[.agg #[.string ⟨#[103, 101, 116]⟩, .string b, v, .string d, .int .u32 n1, .int .i64 n2, .int .u64 n3, .int .u64 n4, .bool b1, .bool b2, .bool b3, .bool b4]] w fun e w' =>
    e = .returned (.string (nameG b2 b1)) ∧ Fr Nob w w' := by
  have hb1 : Fr Nob w (w.alloc (.cells #[.string ⟨#[103, 101, 116]⟩, .string b, v, .string d, .int .u32 n1, .int .i64 n2, .int .u64 n3, .int .u64 n4, .bool b1, .bool b2, .bool b3, .bool b4] 28)) := frB _
  obtain ⟨w1, hw1⟩ : ∃ w1, w1 = w.alloc (.cells #[.string ⟨#[103, 101, 116]⟩, .string b, v, .string d, .int .u32 n1, .int .i64 n2, .int .u64 n3, .int .u64 n4, .bool b1, .bool b2, .bool b3, .bool b4] 28) := ⟨_, rfl⟩
  have f1 : Fr Nob w w1 := by rw [hw1]; exact hb1
  have OF := Lib.hid (of_get (w := w1) b d v n1 n2 n3 n4 b1 b2 b3 b4 (h.nob f1) hn)
  have F0 := Lib.hid f1
  have HW := Lib.hid hw1.symm
  clear hb1 f1 hw1 h
  have AGet := taGet
  have AStore := taStore
  have AArith := taArith
  have ATouch := taTouch
  have ADelete := taDelete
  have AFlush := taFlush
  have ABad := taBad
  have AWord := taWord
  go_enter Tryd.func9, Tryd.ntmps9
  go_wp2_with fail
  rw [HW.out]
  refine OF.out.mono ?_
  rintro e w2 ⟨v2, rfl, o2, f2⟩
  have F1 : Fr Nob w w2 := F0.out.trans' f2.out
  obtain ⟨a2, c2, rfl⟩ := own_sl o2.out
  have R2 := Lib.hid (own_rd o2.out)
  go_wp2_with fail
  refine (name_get _ n2 b1 b2 ⟨_, _, _, rfl⟩).mono ?_
  rintro e w3 ⟨rfl, f3⟩
  have F3 : Fr Nob w w3 := Fr.trans' (by repeat first | exact F1 | refine Fr.alloc ?_ _) f3
  go_wp2_with fail
  go_ret
  exact ⟨rfl, F3⟩

set_option maxHeartbeats 8000000 in
set_option maxRecDepth 100000 in
theorem nameF_store {w : World} (b d : ByteArray) (v : Value) (n1 n2 n3 n4 : Int) (b1 b2 b3 b4 : Bool) {l : List ByteArray} (k : ByteArray) (h : RdS w v l) (hk : k = keyOf l) : Calls Tryd.prog 9 #[.agg #[.string ⟨#[115, 116, 111, 114, 101]⟩, .string b, v, .string d, .int .u32 n1, .int .i64 n2, .int .u64 n3, .int .u64 n4, .bool b1, .bool b2, .bool b3, .bool b4]] w fun e w' =>
    e = .returned (.string b) ∧ Fr Nob w w' := by
  have hb1 : Fr Nob w (w.alloc (.cells #[.string ⟨#[115, 116, 111, 114, 101]⟩, .string b, v, .string d, .int .u32 n1, .int .i64 n2, .int .u64 n3, .int .u64 n4, .bool b1, .bool b2, .bool b3, .bool b4] 28)) := frB _
  obtain ⟨w1, hw1⟩ : ∃ w1, w1 = w.alloc (.cells #[.string ⟨#[115, 116, 111, 114, 101]⟩, .string b, v, .string d, .int .u32 n1, .int .i64 n2, .int .u64 n3, .int .u64 n4, .bool b1, .bool b2, .bool b3, .bool b4] 28) := ⟨_, rfl⟩
  have f1 : Fr Nob w w1 := by rw [hw1]; exact hb1
  have OF := Lib.hid (of_store (w := w1) b d v n1 n2 n3 n4 b1 b2 b3 b4 k (h.nob f1) hk)
  have F0 := Lib.hid f1
  have HW := Lib.hid hw1.symm
  clear hk
  clear hb1 f1 hw1 h
  have AGet := taGet
  have AStore := taStore
  have AArith := taArith
  have ATouch := taTouch
  have ADelete := taDelete
  have AFlush := taFlush
  have ABad := taBad
  have AWord := taWord
  go_enter Tryd.func9, Tryd.ntmps9
  go_wp2_with fail
  rw [HW.out]
  refine OF.out.mono ?_
  rintro e w2 ⟨rfl, f2⟩
  have F1 : Fr Nob w w2 := F0.out.trans' f2
  go_wp2_with fail
  go_ret
  exact ⟨rfl, (by repeat first | exact F1 | exact Fr.refl _ _ | refine Fr.alloc ?_ _)⟩

set_option maxHeartbeats 8000000 in
set_option maxRecDepth 100000 in
theorem nameF_arith {w : World} (b d : ByteArray) (v : Value) (n1 n2 n3 n4 : Int) (b1 b2 b3 b4 : Bool) {l : List ByteArray} (k : ByteArray) (h : RdS w v l) (hk : k = keyOf l) : Calls Tryd.prog 9 #[.agg #[.string ⟨#[97, 114, 105, 116, 104]⟩, .string b, v, .string d, .int .u32 n1, .int .i64 n2, .int .u64 n3, .int .u64 n4, .bool b1, .bool b2, .bool b3, .bool b4]] w fun e w' =>
    e = .returned (.string (if b3 then ⟨#[100, 101, 99, 114]⟩ else ⟨#[105, 110, 99, 114]⟩)) ∧ Fr Nob w w' := by
  have hb1 : Fr Nob w (w.alloc (.cells #[.string ⟨#[97, 114, 105, 116, 104]⟩, .string b, v, .string d, .int .u32 n1, .int .i64 n2, .int .u64 n3, .int .u64 n4, .bool b1, .bool b2, .bool b3, .bool b4] 28)) := frB _
  obtain ⟨w1, hw1⟩ : ∃ w1, w1 = w.alloc (.cells #[.string ⟨#[97, 114, 105, 116, 104]⟩, .string b, v, .string d, .int .u32 n1, .int .i64 n2, .int .u64 n3, .int .u64 n4, .bool b1, .bool b2, .bool b3, .bool b4] 28) := ⟨_, rfl⟩
  have f1 : Fr Nob w w1 := by rw [hw1]; exact hb1
  have OF := Lib.hid (of_arith (w := w1) b d v n1 n2 n3 n4 b1 b2 b3 b4 k (h.nob f1) hk)
  have F0 := Lib.hid f1
  have HW := Lib.hid hw1.symm
  clear hk
  clear hb1 f1 hw1 h
  have AGet := taGet
  have AStore := taStore
  have AArith := taArith
  have ATouch := taTouch
  have ADelete := taDelete
  have AFlush := taFlush
  have ABad := taBad
  have AWord := taWord
  go_enter Tryd.func9, Tryd.ntmps9
  go_wp2_with fail
  rw [HW.out]
  refine OF.out.mono ?_
  rintro e w2 ⟨rfl, f2⟩
  have F1 : Fr Nob w w2 := F0.out.trans' f2
  cases b3
  all_goals
    go_wp2_with fail
    go_ret
    exact ⟨rfl, (by repeat first | exact F1 | exact Fr.refl _ _ | refine Fr.alloc ?_ _)⟩

set_option maxHeartbeats 8000000 in
set_option maxRecDepth 100000 in
theorem nameF_touch {w : World} (b d : ByteArray) (v : Value) (n1 n2 n3 n4 : Int) (b1 b2 b3 b4 : Bool) {l : List ByteArray} (k : ByteArray) (h : RdS w v l) (hk : k = keyOf l) : Calls Tryd.prog 9 #[.agg #[.string ⟨#[116, 111, 117, 99, 104]⟩, .string b, v, .string d, .int .u32 n1, .int .i64 n2, .int .u64 n3, .int .u64 n4, .bool b1, .bool b2, .bool b3, .bool b4]] w fun e w' =>
    e = .returned (.string ⟨#[116, 111, 117, 99, 104]⟩) ∧ Fr Nob w w' := by
  have hb1 : Fr Nob w (w.alloc (.cells #[.string ⟨#[116, 111, 117, 99, 104]⟩, .string b, v, .string d, .int .u32 n1, .int .i64 n2, .int .u64 n3, .int .u64 n4, .bool b1, .bool b2, .bool b3, .bool b4] 28)) := frB _
  obtain ⟨w1, hw1⟩ : ∃ w1, w1 = w.alloc (.cells #[.string ⟨#[116, 111, 117, 99, 104]⟩, .string b, v, .string d, .int .u32 n1, .int .i64 n2, .int .u64 n3, .int .u64 n4, .bool b1, .bool b2, .bool b3, .bool b4] 28) := ⟨_, rfl⟩
  have f1 : Fr Nob w w1 := by rw [hw1]; exact hb1
  have OF := Lib.hid (of_touch (w := w1) b d v n1 n2 n3 n4 b1 b2 b3 b4 k (h.nob f1) hk)
  have F0 := Lib.hid f1
  have HW := Lib.hid hw1.symm
  clear hk
  clear hb1 f1 hw1 h
  have AGet := taGet
  have AStore := taStore
  have AArith := taArith
  have ATouch := taTouch
  have ADelete := taDelete
  have AFlush := taFlush
  have ABad := taBad
  have AWord := taWord
  go_enter Tryd.func9, Tryd.ntmps9
  go_wp2_with fail
  rw [HW.out]
  refine OF.out.mono ?_
  rintro e w2 ⟨rfl, f2⟩
  have F1 : Fr Nob w w2 := F0.out.trans' f2
  go_wp2_with fail
  refine (plain_touch k n2 b4).mono ?_
  rintro e w3 ⟨rfl, f3⟩
  have F3 : Fr Nob w w3 := Fr.trans' (by repeat first | exact F1 | refine Fr.alloc ?_ _) f3
  go_wp2_with fail
  go_ret
  exact ⟨rfl, F3⟩

set_option maxHeartbeats 8000000 in
set_option maxRecDepth 100000 in
theorem nameF_delete {w : World} (b d : ByteArray) (v : Value) (n1 n2 n3 n4 : Int) (b1 b2 b3 b4 : Bool) {l : List ByteArray} (k : ByteArray) (h : RdS w v l) (hk : k = keyOf l) : Calls Tryd.prog 9 #[.agg #[.string ⟨#[100, 101, 108, 101, 116, 101]⟩, .string b, v, .string d, .int .u32 n1, .int .i64 n2, .int .u64 n3, .int .u64 n4, .bool b1, .bool b2, .bool b3, .bool b4]] w fun e w' =>
    e = .returned (.string ⟨#[100, 101, 108, 101, 116, 101]⟩) ∧ Fr Nob w w' := by
  have hb1 : Fr Nob w (w.alloc (.cells #[.string ⟨#[100, 101, 108, 101, 116, 101]⟩, .string b, v, .string d, .int .u32 n1, .int .i64 n2, .int .u64 n3, .int .u64 n4, .bool b1, .bool b2, .bool b3, .bool b4] 28)) := frB _
  obtain ⟨w1, hw1⟩ : ∃ w1, w1 = w.alloc (.cells #[.string ⟨#[100, 101, 108, 101, 116, 101]⟩, .string b, v, .string d, .int .u32 n1, .int .i64 n2, .int .u64 n3, .int .u64 n4, .bool b1, .bool b2, .bool b3, .bool b4] 28) := ⟨_, rfl⟩
  have f1 : Fr Nob w w1 := by rw [hw1]; exact hb1
  have OF := Lib.hid (of_delete (w := w1) b d v n1 n2 n3 n4 b1 b2 b3 b4 k (h.nob f1) hk)
  have F0 := Lib.hid f1
  have HW := Lib.hid hw1.symm
  clear hk
  clear hb1 f1 hw1 h
  have AGet := taGet
  have AStore := taStore
  have AArith := taArith
  have ATouch := taTouch
  have ADelete := taDelete
  have AFlush := taFlush
  have ABad := taBad
  have AWord := taWord
  go_enter Tryd.func9, Tryd.ntmps9
  go_wp2_with fail
  rw [HW.out]
  refine OF.out.mono ?_
  rintro e w2 ⟨rfl, f2⟩
  have F1 : Fr Nob w w2 := F0.out.trans' f2
  go_wp2_with fail
  refine (plain_delete k b4).mono ?_
  rintro e w3 ⟨rfl, f3⟩
  have F3 : Fr Nob w w3 := Fr.trans' (by repeat first | exact F1 | refine Fr.alloc ?_ _) f3
  go_wp2_with fail
  go_ret
  exact ⟨rfl, F3⟩

set_option maxHeartbeats 8000000 in
set_option maxRecDepth 100000 in
theorem nameF_flush {w : World} (b d : ByteArray) (v : Value) (n1 n2 n3 n4 : Int) (b1 b2 b3 b4 : Bool) : Calls Tryd.prog 9 #[.agg #[.string ⟨#[102, 108, 117, 115, 104]⟩, .string b, v, .string d, .int .u32 n1, .int .i64 n2, .int .u64 n3, .int .u64 n4, .bool b1, .bool b2, .bool b3, .bool b4]] w fun e w' =>
    e = .returned (.string ⟨#[102, 108, 117, 115, 104, 95, 97, 108, 108]⟩) ∧ Fr Nob w w' := by
  have hb1 : Fr Nob w (w.alloc (.cells #[.string ⟨#[102, 108, 117, 115, 104]⟩, .string b, v, .string d, .int .u32 n1, .int .i64 n2, .int .u64 n3, .int .u64 n4, .bool b1, .bool b2, .bool b3, .bool b4] 28)) := frB _
  obtain ⟨w1, hw1⟩ : ∃ w1, w1 = w.alloc (.cells #[.string ⟨#[102, 108, 117, 115, 104]⟩, .string b, v, .string d, .int .u32 n1, .int .i64 n2, .int .u64 n3, .int .u64 n4, .bool b1, .bool b2, .bool b3, .bool b4] 28) := ⟨_, rfl⟩
  have f1 : Fr Nob w w1 := by rw [hw1]; exact hb1
  have OF := Lib.hid (of_flush (w := w1) b d v n1 n2 n3 n4 b1 b2 b3 b4)
  have F0 := Lib.hid f1
  have HW := Lib.hid hw1.symm
  clear hb1 f1 hw1
  have AGet := taGet
  have AStore := taStore
  have AArith := taArith
  have ATouch := taTouch
  have ADelete := taDelete
  have AFlush := taFlush
  have ABad := taBad
  have AWord := taWord
  go_enter Tryd.func9, Tryd.ntmps9
  go_wp2_with fail
  rw [HW.out]
  refine OF.out.mono ?_
  rintro e w2 ⟨rfl, f2⟩
  have F1 : Fr Nob w w2 := F0.out.trans' f2
  go_wp2_with fail
  refine (plain_flush b4).mono ?_
  rintro e w3 ⟨rfl, f3⟩
  have F3 : Fr Nob w w3 := Fr.trans' (by repeat first | exact F1 | refine Fr.alloc ?_ _) f3
  go_wp2_with fail
  go_ret
  exact ⟨rfl, F3⟩

set_option maxHeartbeats 8000000 in
set_option maxRecDepth 100000 in
theorem nameF_bad {w : World} (b d : ByteArray) (v : Value) (n1 n2 n3 n4 : Int) (b1 b2 b3 b4 : Bool) : Calls Tryd.prog 9 #[.agg #[.string ⟨#[98, 97, 100]⟩, .string b, v, .string d, .int .u32 n1, .int .i64 n2, .int .u64 n3, .int .u64 n4, .bool b1, .bool b2, .bool b3, .bool b4]] w fun e w' =>
    e = .returned (.string ⟨#[98, 97, 100]⟩) ∧ Fr Nob w w' := by
  have hb1 : Fr Nob w (w.alloc (.cells #[.string ⟨#[98, 97, 100]⟩, .string b, v, .string d, .int .u32 n1, .int .i64 n2, .int .u64 n3, .int .u64 n4, .bool b1, .bool b2, .bool b3, .bool b4] 28)) := frB _
  obtain ⟨w1, hw1⟩ : ∃ w1, w1 = w.alloc (.cells #[.string ⟨#[98, 97, 100]⟩, .string b, v, .string d, .int .u32 n1, .int .i64 n2, .int .u64 n3, .int .u64 n4, .bool b1, .bool b2, .bool b3, .bool b4] 28) := ⟨_, rfl⟩
  have f1 : Fr Nob w w1 := by rw [hw1]; exact hb1
  have OF := Lib.hid (of_bad (w := w1) b d v n1 n2 n3 n4 b1 b2 b3 b4)
  have F0 := Lib.hid f1
  have HW := Lib.hid hw1.symm
  clear hb1 f1 hw1
  have AGet := taGet
  have AStore := taStore
  have AArith := taArith
  have ATouch := taTouch
  have ADelete := taDelete
  have AFlush := taFlush
  have ABad := taBad
  have AWord := taWord
  go_enter Tryd.func9, Tryd.ntmps9
  go_wp2_with fail
  rw [HW.out]
  refine OF.out.mono ?_
  rintro e w2 ⟨rfl, f2⟩
  have F1 : Fr Nob w w2 := F0.out.trans' f2
  go_wp2_with fail
  refine (plain_bad b).mono ?_
  rintro e w3 ⟨rfl, f3⟩
  have F3 : Fr Nob w w3 := Fr.trans' (by repeat first | exact F1 | refine Fr.alloc ?_ _) f3
  go_wp2_with fail
  go_ret
  exact ⟨rfl, F3⟩

set_option maxHeartbeats 8000000 in
set_option maxRecDepth 100000 in
theorem nameF_word {w : World} (b d : ByteArray) (v : Value) (n1 n2 n3 n4 : Int) (b1 b2 b3 b4 : Bool) : Calls Tryd.prog 9 #[.agg #[.string ⟨#[119, 111, 114, 100]⟩, .string b, v, .string d, .int .u32 n1, .int .i64 n2, .int .u64 n3, .int .u64 n4, .bool b1, .bool b2, .bool b3, .bool b4]] w fun e w' =>
    e = .returned (.string b) ∧ Fr Nob w w' := by
  have hb1 : Fr Nob w (w.alloc (.cells #[.string ⟨#[119, 111, 114, 100]⟩, .string b, v, .string d, .int .u32 n1, .int .i64 n2, .int .u64 n3, .int .u64 n4, .bool b1, .bool b2, .bool b3, .bool b4] 28)) := frB _
  obtain ⟨w1, hw1⟩ : ∃ w1, w1 = w.alloc (.cells #[.string ⟨#[119, 111, 114, 100]⟩, .string b, v, .string d, .int .u32 n1, .int .i64 n2, .int .u64 n3, .int .u64 n4, .bool b1, .bool b2, .bool b3, .bool b4] 28) := ⟨_, rfl⟩
  have f1 : Fr Nob w w1 := by rw [hw1]; exact hb1
  have OF := Lib.hid (of_word (w := w1) b d v n1 n2 n3 n4 b1 b2 b3 b4)
  have F0 := Lib.hid f1
  have HW := Lib.hid hw1.symm
  clear hb1 f1 hw1
  have AGet := taGet
  have AStore := taStore
  have AArith := taArith
  have ATouch := taTouch
  have ADelete := taDelete
  have AFlush := taFlush
  have ABad := taBad
  have AWord := taWord
  go_enter Tryd.func9, Tryd.ntmps9
  go_wp2_with fail
  rw [HW.out]
  refine OF.out.mono ?_
  rintro e w2 ⟨rfl, f2⟩
  have F1 : Fr Nob w w2 := F0.out.trans' f2
  go_wp2_with fail
  go_ret
  exact ⟨rfl, (by repeat first | exact F1 | exact Fr.refl _ _ | refine Fr.alloc ?_ _)⟩

set_option maxHeartbeats 8000000 in
set_option maxRecDepth 100000 in
theorem nameF_none {w : World} (a b d : ByteArray) (v : Value) (n1 n2 n3 n4 : Int) (b1 b2 b3 b4 : Bool) (h : noWord a) : Calls Tryd.prog 9 #[.agg #[.string a, .string b, v, .string d, .int .u32 n1, .int .i64 n2, .int .u64 n3, .int .u64 n4, .bool b1, .bool b2, .bool b3, .bool b4]] w fun e w' =>
    e = .returned (.string ⟨#[]⟩) ∧ Fr Nob w w' := by
  have hb1 : Fr Nob w (w.alloc (.cells #[.string a, .string b, v, .string d, .int .u32 n1, .int .i64 n2, .int .u64 n3, .int .u64 n4, .bool b1, .bool b2, .bool b3, .bool b4] 28)) := frB _
  obtain ⟨w1, hw1⟩ : ∃ w1, w1 = w.alloc (.cells #[.string a, .string b, v, .string d, .int .u32 n1, .int .i64 n2, .int .u64 n3, .int .u64 n4, .bool b1, .bool b2, .bool b3, .bool b4] 28) := ⟨_, rfl⟩
  have f1 : Fr Nob w w1 := by rw [hw1]; exact hb1
  have OF := Lib.hid (of_none (w := w1) a b d v n1 n2 n3 n4 b1 b2 b3 b4 h)
  have F0 := Lib.hid f1
  have HW := Lib.hid hw1.symm
  clear hb1 f1 hw1
  have AGet := tnGet
  have AStore := tnStore
  have AArith := tnArith
  have ATouch := tnTouch
  have ADelete := tnDelete
  have AFlush := tnFlush
  have ABad := tnBad
  have AWord := tnWord
  go_enter Tryd.func9, Tryd.ntmps9
  go_wp2_with fail
  rw [HW.out]
  refine OF.out.mono ?_
  rintro e w2 ⟨rfl, f2⟩
  have F1 : Fr Nob w w2 := F0.out.trans' f2
  go_wp2_with fail
  refine (plain_none).mono ?_
  rintro e w3 ⟨rfl, f3⟩
  have F3 : Fr Nob w w3 := Fr.trans' (by repeat first | exact F1 | refine Fr.alloc ?_ _) f3
  go_wp2_with fail
  go_ret
  exact ⟨rfl, F3⟩

set_option maxHeartbeats 8000000 in
set_option maxRecDepth 100000 in
theorem quietF_get {w : World} (b d : ByteArray) (v : Value) (n1 n2 n3 n4 : Int) (b1 b2 b3 b4 : Bool) {l : List ByteArray} (h : RdS w v l) (hn : l.length ≤ 1000000000) : Calls Tryd.prog 12 #[.agg #[.string ⟨#[103, 101, 116]⟩, .string b, v, .string d, .int .u32 n1, .int .i64 n2, .int .u64 n3, .int .u64 n4, .bool b1, .bool b2, .bool b3, .bool b4]] w fun e w' =>
    e = .returned (.bool false) ∧ Fr Nob w w' := by
  have hb1 : Fr Nob w (w.alloc (.cells #[.string ⟨#[103, 101, 116]⟩, .string b, v, .string d, .int .u32 n1, .int .i64 n2, .int .u64 n3, .int .u64 n4, .bool b1, .bool b2, .bool b3, .bool b4] 28)) := frB _
  obtain ⟨w1, hw1⟩ : ∃ w1, w1 = w.alloc (.cells #[.string ⟨#[103, 101, 116]⟩, .string b, v, .string d, .int .u32 n1, .int .i64 n2, .int .u64 n3, .int .u64 n4, .bool b1, .bool b2, .bool b3, .bool b4] 28) := ⟨_, rfl⟩
  have f1 : Fr Nob w w1 := by rw [hw1]; exact hb1
  have OF := Lib.hid (of_get (w := w1) b d v n1 n2 n3 n4 b1 b2 b3 b4 (h.nob f1) hn)
  have F0 := Lib.hid f1
  have HW := Lib.hid hw1.symm
  clear hb1 f1 hw1 h
  have AGet := taGet
  have AStore := taStore
  have AArith := taArith
  have ATouch := taTouch
  have ADelete := taDelete
  have AFlush := taFlush
  have ABad := taBad
  have AWord := taWord
  go_enter Tryd.func12, Tryd.ntmps12
  go_wp2_with fail
  rw [HW.out]
  refine OF.out.mono ?_
  rintro e w2 ⟨v2, rfl, o2, f2⟩
  have F1 : Fr Nob w w2 := F0.out.trans' f2.out
  obtain ⟨a2, c2, rfl⟩ := own_sl o2.out
  have R2 := Lib.hid (own_rd o2.out)
  go_wp2_with fail
  go_ret
  exact ⟨rfl, (by repeat first | exact F1 | exact Fr.refl _ _ | refine Fr.alloc ?_ _)⟩

set_option maxHeartbeats 8000000 in
set_option maxRecDepth 100000 in
theorem quietF_store {w : World} (b d : ByteArray) (v : Value) (n1 n2 n3 n4 : Int) (b1 b2 b3 b4 : Bool) {l : List ByteArray} (k : ByteArray) (h : RdS w v l) (hk : k = keyOf l) : Calls Tryd.prog 12 #[.agg #[.string ⟨#[115, 116, 111, 114, 101]⟩, .string b, v, .string d, .int .u32 n1, .int .i64 n2, .int .u64 n3, .int .u64 n4, .bool b1, .bool b2, .bool b3, .bool b4]] w fun e w' =>
    e = .returned (.bool b4) ∧ Fr Nob w w' := by
  have hb1 : Fr Nob w (w.alloc (.cells #[.string ⟨#[115, 116, 111, 114, 101]⟩, .string b, v, .string d, .int .u32 n1, .int .i64 n2, .int .u64 n3, .int .u64 n4, .bool b1, .bool b2, .bool b3, .bool b4] 28)) := frB _
  obtain ⟨w1, hw1⟩ : ∃ w1, w1 = w.alloc (.cells #[.string ⟨#[115, 116, 111, 114, 101]⟩, .string b, v, .string d, .int .u32 n1, .int .i64 n2, .int .u64 n3, .int .u64 n4, .bool b1, .bool b2, .bool b3, .bool b4] 28) := ⟨_, rfl⟩
  have f1 : Fr Nob w w1 := by rw [hw1]; exact hb1
  have OF := Lib.hid (of_store (w := w1) b d v n1 n2 n3 n4 b1 b2 b3 b4 k (h.nob f1) hk)
  have F0 := Lib.hid f1
  have HW := Lib.hid hw1.symm
  clear hk
  clear hb1 f1 hw1 h
  have AGet := taGet
  have AStore := taStore
  have AArith := taArith
  have ATouch := taTouch
  have ADelete := taDelete
  have AFlush := taFlush
  have ABad := taBad
  have AWord := taWord
  go_enter Tryd.func12, Tryd.ntmps12
  go_wp2_with fail
  rw [HW.out]
  refine OF.out.mono ?_
  rintro e w2 ⟨rfl, f2⟩
  have F1 : Fr Nob w w2 := F0.out.trans' f2
  go_wp2_with fail
  go_ret
  exact ⟨rfl, (by repeat first | exact F1 | exact Fr.refl _ _ | refine Fr.alloc ?_ _)⟩

set_option maxHeartbeats 8000000 in
set_option maxRecDepth 100000 in
theorem quietF_arith {w : World} (b d : ByteArray) (v : Value) (n1 n2 n3 n4 : Int) (b1 b2 b3 b4 : Bool) {l : List ByteArray} (k : ByteArray) (h : RdS w v l) (hk : k = keyOf l) : Calls Tryd.prog 12 #[.agg #[.string ⟨#[97, 114, 105, 116, 104]⟩, .string b, v, .string d, .int .u32 n1, .int .i64 n2, .int .u64 n3, .int .u64 n4, .bool b1, .bool b2, .bool b3, .bool b4]] w fun e w' =>
    e = .returned (.bool b4) ∧ Fr Nob w w' := by
  have hb1 : Fr Nob w (w.alloc (.cells #[.string ⟨#[97, 114, 105, 116, 104]⟩, .string b, v, .string d, .int .u32 n1, .int .i64 n2, .int .u64 n3, .int .u64 n4, .bool b1, .bool b2, .bool b3, .bool b4] 28)) := frB _
  obtain ⟨w1, hw1⟩ : ∃ w1, w1 = w.alloc (.cells #[.string ⟨#[97, 114, 105, 116, 104]⟩, .string b, v, .string d, .int .u32 n1, .int .i64 n2, .int .u64 n3, .int .u64 n4, .bool b1, .bool b2, .bool b3, .bool b4] 28) := ⟨_, rfl⟩
  have f1 : Fr Nob w w1 := by rw [hw1]; exact hb1
  have OF := Lib.hid (of_arith (w := w1) b d v n1 n2 n3 n4 b1 b2 b3 b4 k (h.nob f1) hk)
  have F0 := Lib.hid f1
  have HW := Lib.hid hw1.symm
  clear hk
  clear hb1 f1 hw1 h
  have AGet := taGet
  have AStore := taStore
  have AArith := taArith
  have ATouch := taTouch
  have ADelete := taDelete
  have AFlush := taFlush
  have ABad := taBad
  have AWord := taWord
  go_enter Tryd.func12, Tryd.ntmps12
  go_wp2_with fail
  rw [HW.out]
  refine OF.out.mono ?_
  rintro e w2 ⟨rfl, f2⟩
  have F1 : Fr Nob w w2 := F0.out.trans' f2
  go_wp2_with fail
  go_ret
  exact ⟨rfl, (by repeat first | exact F1 | exact Fr.refl _ _ | refine Fr.alloc ?_ _)⟩

set_option maxHeartbeats 8000000 in
set_option maxRecDepth 100000 in
theorem quietF_touch {w : World} (b d : ByteArray) (v : Value) (n1 n2 n3 n4 : Int) (b1 b2 b3 b4 : Bool) {l : List ByteArray} (k : ByteArray) (h : RdS w v l) (hk : k = keyOf l) : Calls Tryd.prog 12 #[.agg #[.string ⟨#[116, 111, 117, 99, 104]⟩, .string b, v, .string d, .int .u32 n1, .int .i64 n2, .int .u64 n3, .int .u64 n4, .bool b1, .bool b2, .bool b3, .bool b4]] w fun e w' =>
    e = .returned (.bool b4) ∧ Fr Nob w w' := by
  have hb1 : Fr Nob w (w.alloc (.cells #[.string ⟨#[116, 111, 117, 99, 104]⟩, .string b, v, .string d, .int .u32 n1, .int .i64 n2, .int .u64 n3, .int .u64 n4, .bool b1, .bool b2, .bool b3, .bool b4] 28)) := frB _
  obtain ⟨w1, hw1⟩ : ∃ w1, w1 = w.alloc (.cells #[.string ⟨#[116, 111, 117, 99, 104]⟩, .string b, v, .string d, .int .u32 n1, .int .i64 n2, .int .u64 n3, .int .u64 n4, .bool b1, .bool b2, .bool b3, .bool b4] 28) := ⟨_, rfl⟩
  have f1 : Fr Nob w w1 := by rw [hw1]; exact hb1
  have OF := Lib.hid (of_touch (w := w1) b d v n1 n2 n3 n4 b1 b2 b3 b4 k (h.nob f1) hk)
  have F0 := Lib.hid f1
  have HW := Lib.hid hw1.symm
  clear hk
  clear hb1 f1 hw1 h
  have AGet := taGet
  have AStore := taStore
  have AArith := taArith
  have ATouch := taTouch
  have ADelete := taDelete
  have AFlush := taFlush
  have ABad := taBad
  have AWord := taWord
  go_enter Tryd.func12, Tryd.ntmps12
  go_wp2_with fail
  rw [HW.out]
  refine OF.out.mono ?_
  rintro e w2 ⟨rfl, f2⟩
  have F1 : Fr Nob w w2 := F0.out.trans' f2
  go_wp2_with fail
  go_ret
  exact ⟨rfl, (by repeat first | exact F1 | exact Fr.refl _ _ | refine Fr.alloc ?_ _)⟩

set_option maxHeartbeats 8000000 in
set_option maxRecDepth 100000 in
theorem quietF_delete {w : World} (b d : ByteArray) (v : Value) (n1 n2 n3 n4 : Int) (b1 b2 b3 b4 : Bool) {l : List ByteArray} (k : ByteArray) (h : RdS w v l) (hk : k = keyOf l) : Calls Tryd.prog 12 #[.agg #[.string ⟨#[100, 101, 108, 101, 116, 101]⟩, .string b, v, .string d, .int .u32 n1, .int .i64 n2, .int .u64 n3, .int .u64 n4, .bool b1, .bool b2, .bool b3, .bool b4]] w fun e w' =>
    e = .returned (.bool b4) ∧ Fr Nob w w' := by
  have hb1 : Fr Nob w (w.alloc (.cells #[.string ⟨#[100, 101, 108, 101, 116, 101]⟩, .string b, v, .string d, .int .u32 n1, .int .i64 n2, .int .u64 n3, .int .u64 n4, .bool b1, .bool b2, .bool b3, .bool b4] 28)) := frB _
  obtain ⟨w1, hw1⟩ : ∃ w1, w1 = w.alloc (.cells #[.string ⟨#[100, 101, 108, 101, 116, 101]⟩, .string b, v, .string d, .int .u32 n1, .int .i64 n2, .int .u64 n3, .int .u64 n4, .bool b1, .bool b2, .bool b3, .bool b4] 28) := ⟨_, rfl⟩
  have f1 : Fr Nob w w1 := by rw [hw1]; exact hb1
  have OF := Lib.hid (of_delete (w := w1) b d v n1 n2 n3 n4 b1 b2 b3 b4 k (h.nob f1) hk)
  have F0 := Lib.hid f1
  have HW := Lib.hid hw1.symm
  clear hk
  clear hb1 f1 hw1 h
  have AGet := taGet
  have AStore := taStore
  have AArith := taArith
  have ATouch := taTouch
  have ADelete := taDelete
  have AFlush := taFlush
  have ABad := taBad
  have AWord := taWord
  go_enter Tryd.func12, Tryd.ntmps12
  go_wp2_with fail
  rw [HW.out]
  refine OF.out.mono ?_
  rintro e w2 ⟨rfl, f2⟩
  have F1 : Fr Nob w w2 := F0.out.trans' f2
  go_wp2_with fail
  go_ret
  exact ⟨rfl, (by repeat first | exact F1 | exact Fr.refl _ _ | refine Fr.alloc ?_ _)⟩

set_option maxHeartbeats 8000000 in
set_option maxRecDepth 100000 in
theorem quietF_flush {w : World} (b d : ByteArray) (v : Value) (n1 n2 n3 n4 : Int) (b1 b2 b3 b4 : Bool) : Calls Tryd.prog 12 #[.agg #[.string ⟨#[102, 108, 117, 115, 104]⟩, .string b, v, .string d, .int .u32 n1, .int .i64 n2, .int .u64 n3, .int .u64 n4, .bool b1, .bool b2, .bool b3, .bool b4]] w fun e w' =>
    e = .returned (.bool b4) ∧ Fr Nob w w' := by
  have hb1 : Fr Nob w (w.alloc (.cells #[.string ⟨#[102, 108, 117, 115, 104]⟩, .string b, v, .string d, .int .u32 n1, .int .i64 n2, .int .u64 n3, .int .u64 n4, .bool b1, .bool b2, .bool b3, .bool b4] 28)) := frB _
  obtain ⟨w1, hw1⟩ : ∃ w1, w1 = w.alloc (.cells #[.string ⟨#[102, 108, 117, 115, 104]⟩, .string b, v, .string d, .int .u32 n1, .int .i64 n2, .int .u64 n3, .int .u64 n4, .bool b1, .bool b2, .bool b3, .bool b4] 28) := ⟨_, rfl⟩
  have f1 : Fr Nob w w1 := by rw [hw1]; exact hb1
  have OF := Lib.hid (of_flush (w := w1) b d v n1 n2 n3 n4 b1 b2 b3 b4)
  have F0 := Lib.hid f1
  have HW := Lib.hid hw1.symm
  clear hb1 f1 hw1
  have AGet := taGet
  have AStore := taStore
  have AArith := taArith
  have ATouch := taTouch
  have ADelete := taDelete
  have AFlush := taFlush
  have ABad := taBad
  have AWord := taWord
  go_enter Tryd.func12, Tryd.ntmps12
  go_wp2_with fail
  rw [HW.out]
  refine OF.out.mono ?_
  rintro e w2 ⟨rfl, f2⟩
  have F1 : Fr Nob w w2 := F0.out.trans' f2
  cases b4
  all_goals
    go_wp2_with fail
    go_ret
    exact ⟨rfl, (by repeat first | exact F1 | exact Fr.refl _ _ | refine Fr.alloc ?_ _)⟩

set_option maxHeartbeats 8000000 in
set_option maxRecDepth 100000 in
theorem quietF_bad {w : World} (b d : ByteArray) (v : Value) (n1 n2 n3 n4 : Int) (b1 b2 b3 b4 : Bool) : Calls Tryd.prog 12 #[.agg #[.string ⟨#[98, 97, 100]⟩, .string b, v, .string d, .int .u32 n1, .int .i64 n2, .int .u64 n3, .int .u64 n4, .bool b1, .bool b2, .bool b3, .bool b4]] w fun e w' =>
    e = .returned (.bool false) ∧ Fr Nob w w' := by
  have hb1 : Fr Nob w (w.alloc (.cells #[.string ⟨#[98, 97, 100]⟩, .string b, v, .string d, .int .u32 n1, .int .i64 n2, .int .u64 n3, .int .u64 n4, .bool b1, .bool b2, .bool b3, .bool b4] 28)) := frB _
  obtain ⟨w1, hw1⟩ : ∃ w1, w1 = w.alloc (.cells #[.string ⟨#[98, 97, 100]⟩, .string b, v, .string d, .int .u32 n1, .int .i64 n2, .int .u64 n3, .int .u64 n4, .bool b1, .bool b2, .bool b3, .bool b4] 28) := ⟨_, rfl⟩
  have f1 : Fr Nob w w1 := by rw [hw1]; exact hb1
  have OF := Lib.hid (of_bad (w := w1) b d v n1 n2 n3 n4 b1 b2 b3 b4)
  have F0 := Lib.hid f1
  have HW := Lib.hid hw1.symm
  clear hb1 f1 hw1
  have AGet := taGet
  have AStore := taStore
  have AArith := taArith
  have ATouch := taTouch
  have ADelete := taDelete
  have AFlush := taFlush
  have ABad := taBad
  have AWord := taWord
  go_enter Tryd.func12, Tryd.ntmps12
  go_wp2_with fail
  rw [HW.out]
  refine OF.out.mono ?_
  rintro e w2 ⟨rfl, f2⟩
  have F1 : Fr Nob w w2 := F0.out.trans' f2
  go_wp2_with fail
  go_ret
  exact ⟨rfl, (by repeat first | exact F1 | exact Fr.refl _ _ | refine Fr.alloc ?_ _)⟩

set_option maxHeartbeats 8000000 in
set_option maxRecDepth 100000 in
theorem quietF_word {w : World} (b d : ByteArray) (v : Value) (n1 n2 n3 n4 : Int) (b1 b2 b3 b4 : Bool) : Calls Tryd.prog 12 #[.agg #[.string ⟨#[119, 111, 114, 100]⟩, .string b, v, .string d, .int .u32 n1, .int .i64 n2, .int .u64 n3, .int .u64 n4, .bool b1, .bool b2, .bool b3, .bool b4]] w fun e w' =>
    e = .returned (.bool false) ∧ Fr Nob w w' := by
  have hb1 : Fr Nob w (w.alloc (.cells #[.string ⟨#[119, 111, 114, 100]⟩, .string b, v, .string d, .int .u32 n1, .int .i64 n2, .int .u64 n3, .int .u64 n4, .bool b1, .bool b2, .bool b3, .bool b4] 28)) := frB _
  obtain ⟨w1, hw1⟩ : ∃ w1, w1 = w.alloc (.cells #[.string ⟨#[119, 111, 114, 100]⟩, .string b, v, .string d, .int .u32 n1, .int .i64 n2, .int .u64 n3, .int .u64 n4, .bool b1, .bool b2, .bool b3, .bool b4] 28) := ⟨_, rfl⟩
  have f1 : Fr Nob w w1 := by rw [hw1]; exact hb1
  have OF := Lib.hid (of_word (w := w1) b d v n1 n2 n3 n4 b1 b2 b3 b4)
  have F0 := Lib.hid f1
  have HW := Lib.hid hw1.symm
  clear hb1 f1 hw1
  have AGet := taGet
  have AStore := taStore
  have AArith := taArith
  have ATouch := taTouch
  have ADelete := taDelete
  have AFlush := taFlush
  have ABad := taBad
  have AWord := taWord
  go_enter Tryd.func12, Tryd.ntmps12
  go_wp2_with fail
  rw [HW.out]
  refine OF.out.mono ?_
  rintro e w2 ⟨rfl, f2⟩
  have F1 : Fr Nob w w2 := F0.out.trans' f2
  go_wp2_with fail
  go_ret
  exact ⟨rfl, (by repeat first | exact F1 | exact Fr.refl _ _ | refine Fr.alloc ?_ _)⟩

set_option maxHeartbeats 8000000 in
set_option maxRecDepth 100000 in
theorem quietF_none {w : World} (a b d : ByteArray) (v : Value) (n1 n2 n3 n4 : Int) (b1 b2 b3 b4 : Bool) (h : noWord a) : Calls Tryd.prog 12 #[.agg #[.string a, .string b, v, .string d, .int .u32 n1, .int .i64 n2, .int .u64 n3, .int .u64 n4, .bool b1, .bool b2, .bool b3, .bool b4]] w fun e w' =>
    e = .returned (.bool false) ∧ Fr Nob w w' := by
  have hb1 : Fr Nob w (w.alloc (.cells #[.string a, .string b, v, .string d, .int .u32 n1, .int .i64 n2, .int .u64 n3, .int .u64 n4, .bool b1, .bool b2, .bool b3, .bool b4] 28)) := frB _
  obtain ⟨w1, hw1⟩ : ∃ w1, w1 = w.alloc (.cells #[.string a, .string b, v, .string d, .int .u32 n1, .int .i64 n2, .int .u64 n3, .int .u64 n4, .bool b1, .bool b2, .bool b3, .bool b4] 28) := ⟨_, rfl⟩
  have f1 : Fr Nob w w1 := by rw [hw1]; exact hb1
  have OF := Lib.hid (of_none (w := w1) a b d v n1 n2 n3 n4 b1 b2 b3 b4 h)
  have F0 := Lib.hid f1
  have HW := Lib.hid hw1.symm
  clear hb1 f1 hw1
  have AGet := tnGet
  have AStore := tnStore
  have AArith := tnArith
  have ATouch := tnTouch
  have ADelete := tnDelete
  have AFlush := tnFlush
  have ABad := tnBad
  have AWord := tnWord
  go_enter Tryd.func12, Tryd.ntmps12
  go_wp2_with fail
  rw [HW.out]
  refine OF.out.mono ?_
  rintro e w2 ⟨rfl, f2⟩
  have F1 : Fr Nob w w2 := F0.out.trans' f2
  go_wp2_with fail
  go_ret
  exact ⟨rfl, (by repeat first | exact F1 | exact Fr.refl _ _ | refine Fr.alloc ?_ _)⟩

set_option maxHeartbeats 8000000 in
set_option maxRecDepth 100000 in
theorem keysF_get {w : World} (b d : ByteArray) (v : Value) (n1 n2 n3 n4 : Int) (b1 b2 b3 b4 : Bool) {l : List ByteArray} (h : RdS w v l) (hn : l.length ≤ 1000000000) : Calls Tryd.prog 11 #[.agg #[.string ⟨#[103, 101, 116]⟩, .string b, v, .string d, .int .u32 n1, .int .i64 n2, .int .u64 n3, .int .u64 n4, .bool b1, .bool b2, .bool b3, .bool b4]] w fun e w' =>
    ∃ v', e = .returned v' ∧ Hid (w'.ownsRow w.heap.size 9 1 v' l.length (strsV l)) ∧ Hid (Fr Nob w w') := by
  have hb1 : Fr Nob w (w.alloc (.cells #[.string ⟨#[103, 101, 116]⟩, .string b, v, .string d, .int .u32 n1, .int .i64 n2, .int .u64 n3, .int .u64 n4, .bool b1, .bool b2, .bool b3, .bool b4] 28)) := frB _
  obtain ⟨w1, hw1⟩ : ∃ w1, w1 = w.alloc (.cells #[.string ⟨#[103, 101, 116]⟩, .string b, v, .string d, .int .u32 n1, .int .i64 n2, .int .u64 n3, .int .u64 n4, .bool b1, .bool b2, .bool b3, .bool b4] 28) := ⟨_, rfl⟩
  have f1 : Fr Nob w w1 := by rw [hw1]; exact hb1
  have OF := Lib.hid (of_get (w := w1) b d v n1 n2 n3 n4 b1 b2 b3 b4 (h.nob f1) hn)
  have F0 := Lib.hid f1
  have HW := Lib.hid hw1.symm
  clear hb1 f1 hw1 h
  have AGet := taGet
  have AStore := taStore
  have AArith := taArith
  have ATouch := taTouch
  have ADelete := taDelete
  have AFlush := taFlush
  have ABad := taBad
  have AWord := taWord
  go_enter Tryd.func11, Tryd.ntmps11
  go_wp2_with fail
  rw [HW.out]
  refine OF.out.mono ?_
  rintro e w2 ⟨v2, rfl, o2, f2⟩
  have F1 : Fr Nob w w2 := F0.out.trans' f2.out
  obtain ⟨a2, c2, rfl⟩ := own_sl o2.out
  have R2 := Lib.hid (own_rd o2.out)
  go_wp2_with fail
  have hal : ∀ o : Obj, Fr Nob w2 (w2.alloc o) := fun o => frB o
  have HAL := Lib.hid hal
  clear hal
  refine (clone_eq (R2.out.nob (HAL.out _)) hn).mono ?_
  rintro e w3 ⟨v3, rfl, o3, f3⟩
  have F3 : Fr Nob w w3 := (F1.trans' (HAL.out _)).trans' f3.out
  obtain ⟨a3, c3, rfl⟩ := own_sl o3.out
  have hsz := (F1.trans' (HAL.out (.cells #[.slice a2 l.length c2, .bool b1, .bool b2, .int .i64 n2] 43))).size
  have O3 := Lib.hid (own_base o3.out hsz)
  clear o3 f3 hsz
  go_wp2_with fail
  go_ret
  exact ⟨_, rfl, O3, Lib.hid F3⟩

set_option maxHeartbeats 8000000 in
set_option maxRecDepth 100000 in
theorem keysF_store {w : World} (b d : ByteArray) (v : Value) (n1 n2 n3 n4 : Int) (b1 b2 b3 b4 : Bool) {l : List ByteArray} (k : ByteArray) (h : RdS w v l) (hk : k = keyOf l) : Calls Tryd.prog 11 #[.agg #[.string ⟨#[115, 116, 111, 114, 101]⟩, .string b, v, .string d, .int .u32 n1, .int .i64 n2, .int .u64 n3, .int .u64 n4, .bool b1, .bool b2, .bool b3, .bool b4]] w fun e w' =>
    ∃ g, e = .returned (.slice (some ⟨g, 0, none⟩) 1 1) ∧ Hid (w'.heap[g]? = some (.cells #[.string k] 9 (0, 0))) ∧ Hid (Fr Nob w w') ∧ Hid (w.heap.size ≤ g) := by
  have hb1 : Fr Nob w (w.alloc (.cells #[.string ⟨#[115, 116, 111, 114, 101]⟩, .string b, v, .string d, .int .u32 n1, .int .i64 n2, .int .u64 n3, .int .u64 n4, .bool b1, .bool b2, .bool b3, .bool b4] 28)) := frB _
  obtain ⟨w1, hw1⟩ : ∃ w1, w1 = w.alloc (.cells #[.string ⟨#[115, 116, 111, 114, 101]⟩, .string b, v, .string d, .int .u32 n1, .int .i64 n2, .int .u64 n3, .int .u64 n4, .bool b1, .bool b2, .bool b3, .bool b4] 28) := ⟨_, rfl⟩
  have f1 : Fr Nob w w1 := by rw [hw1]; exact hb1
  have OF := Lib.hid (of_store (w := w1) b d v n1 n2 n3 n4 b1 b2 b3 b4 k (h.nob f1) hk)
  have F0 := Lib.hid f1
  have HW := Lib.hid hw1.symm
  clear hk
  clear hb1 f1 hw1 h
  have AGet := taGet
  have AStore := taStore
  have AArith := taArith
  have ATouch := taTouch
  have ADelete := taDelete
  have AFlush := taFlush
  have ABad := taBad
  have AWord := taWord
  go_enter Tryd.func11, Tryd.ntmps11
  go_wp2_with fail
  rw [HW.out]
  refine OF.out.mono ?_
  rintro e w2 ⟨rfl, f2⟩
  have F1 : Fr Nob w w2 := F0.out.trans' f2
  go_wp2_with fail
  go_ret
  have hs := F1.size
  exact ⟨_, rfl, Lib.hid (heap_alloc_at _ _ _ (by simp)), Lib.hid (by repeat first | exact F1 | refine Fr.alloc ?_ _), Lib.hid (by omega)⟩

set_option maxHeartbeats 8000000 in
set_option maxRecDepth 100000 in
theorem keysF_arith {w : World} (b d : ByteArray) (v : Value) (n1 n2 n3 n4 : Int) (b1 b2 b3 b4 : Bool) {l : List ByteArray} (k : ByteArray) (h : RdS w v l) (hk : k = keyOf l) : Calls Tryd.prog 11 #[.agg #[.string ⟨#[97, 114, 105, 116, 104]⟩, .string b, v, .string d, .int .u32 n1, .int .i64 n2, .int .u64 n3, .int .u64 n4, .bool b1, .bool b2, .bool b3, .bool b4]] w fun e w' =>
    ∃ g, e = .returned (.slice (some ⟨g, 0, none⟩) 1 1) ∧ Hid (w'.heap[g]? = some (.cells #[.string k] 9 (0, 0))) ∧ Hid (Fr Nob w w') ∧ Hid (w.heap.size ≤ g) := by
  have hb1 : Fr Nob w (w.alloc (.cells #[.string ⟨#[97, 114, 105, 116, 104]⟩, .string b, v, .string d, .int .u32 n1, .int .i64 n2, .int .u64 n3, .int .u64 n4, .bool b1, .bool b2, .bool b3, .bool b4] 28)) := frB _
  obtain ⟨w1, hw1⟩ : ∃ w1, w1 = w.alloc (.cells #[.string ⟨#[97, 114, 105, 116, 104]⟩, .string b, v, .string d, .int .u32 n1, .int .i64 n2, .int .u64 n3, .int .u64 n4, .bool b1, .bool b2, .bool b3, .bool b4] 28) := ⟨_, rfl⟩
  have f1 : Fr Nob w w1 := by rw [hw1]; exact hb1
  have OF := Lib.hid (of_arith (w := w1) b d v n1 n2 n3 n4 b1 b2 b3 b4 k (h.nob f1) hk)
  have F0 := Lib.hid f1
  have HW := Lib.hid hw1.symm
  clear hk
  clear hb1 f1 hw1 h
  have AGet := taGet
  have AStore := taStore
  have AArith := taArith
  have ATouch := taTouch
  have ADelete := taDelete
  have AFlush := taFlush
  have ABad := taBad
  have AWord := taWord
  go_enter Tryd.func11, Tryd.ntmps11
  go_wp2_with fail
  rw [HW.out]
  refine OF.out.mono ?_
  rintro e w2 ⟨rfl, f2⟩
  have F1 : Fr Nob w w2 := F0.out.trans' f2
  go_wp2_with fail
  go_ret
  have hs := F1.size
  exact ⟨_, rfl, Lib.hid (heap_alloc_at _ _ _ (by simp)), Lib.hid (by repeat first | exact F1 | refine Fr.alloc ?_ _), Lib.hid (by omega)⟩

set_option maxHeartbeats 8000000 in
set_option maxRecDepth 100000 in
theorem keysF_touch {w : World} (b d : ByteArray) (v : Value) (n1 n2 n3 n4 : Int) (b1 b2 b3 b4 : Bool) {l : List ByteArray} (k : ByteArray) (h : RdS w v l) (hk : k = keyOf l) : Calls Tryd.prog 11 #[.agg #[.string ⟨#[116, 111, 117, 99, 104]⟩, .string b, v, .string d, .int .u32 n1, .int .i64 n2, .int .u64 n3, .int .u64 n4, .bool b1, .bool b2, .bool b3, .bool b4]] w fun e w' =>
    ∃ g, e = .returned (.slice (some ⟨g, 0, none⟩) 1 1) ∧ Hid (w'.heap[g]? = some (.cells #[.string k] 9 (0, 0))) ∧ Hid (Fr Nob w w') ∧ Hid (w.heap.size ≤ g) := by
  have hb1 : Fr Nob w (w.alloc (.cells #[.string ⟨#[116, 111, 117, 99, 104]⟩, .string b, v, .string d, .int .u32 n1, .int .i64 n2, .int .u64 n3, .int .u64 n4, .bool b1, .bool b2, .bool b3, .bool b4] 28)) := frB _
  obtain ⟨w1, hw1⟩ : ∃ w1, w1 = w.alloc (.cells #[.string ⟨#[116, 111, 117, 99, 104]⟩, .string b, v, .string d, .int .u32 n1, .int .i64 n2, .int .u64 n3, .int .u64 n4, .bool b1, .bool b2, .bool b3, .bool b4] 28) := ⟨_, rfl⟩
  have f1 : Fr Nob w w1 := by rw [hw1]; exact hb1
  have OF := Lib.hid (of_touch (w := w1) b d v n1 n2 n3 n4 b1 b2 b3 b4 k (h.nob f1) hk)
  have F0 := Lib.hid f1
  have HW := Lib.hid hw1.symm
  clear hk
  clear hb1 f1 hw1 h
  have AGet := taGet
  have AStore := taStore
  have AArith := taArith
  have ATouch := taTouch
  have ADelete := taDelete
  have AFlush := taFlush
  have ABad := taBad
  have AWord := taWord
  go_enter Tryd.func11, Tryd.ntmps11
  go_wp2_with fail
  rw [HW.out]
  refine OF.out.mono ?_
  rintro e w2 ⟨rfl, f2⟩
  have F1 : Fr Nob w w2 := F0.out.trans' f2
  go_wp2_with fail
  go_ret
  have hs := F1.size
  exact ⟨_, rfl, Lib.hid (heap_alloc_at _ _ _ (by simp)), Lib.hid (by repeat first | exact F1 | refine Fr.alloc ?_ _), Lib.hid (by omega)⟩

set_option maxHeartbeats 8000000 in
set_option maxRecDepth 100000 in
theorem keysF_delete {w : World} (b d : ByteArray) (v : Value) (n1 n2 n3 n4 : Int) (b1 b2 b3 b4 : Bool) {l : List ByteArray} (k : ByteArray) (h : RdS w v l) (hk : k = keyOf l) : Calls Tryd.prog 11 #[.agg #[.string ⟨#[100, 101, 108, 101, 116, 101]⟩, .string b, v, .string d, .int .u32 n1, .int .i64 n2, .int .u64 n3, .int .u64 n4, .bool b1, .bool b2, .bool b3, .bool b4]] w fun e w' =>
    ∃ g, e = .returned (.slice (some ⟨g, 0, none⟩) 1 1) ∧ Hid (w'.heap[g]? = some (.cells #[.string k] 9 (0, 0))) ∧ Hid (Fr Nob w w') ∧ Hid (w.heap.size ≤ g) := by
  have hb1 : Fr Nob w (w.alloc (.cells #[.string ⟨#[100, 101, 108, 101, 116, 101]⟩, .string b, v, .string d, .int .u32 n1, .int .i64 n2, .int .u64 n3, .int .u64 n4, .bool b1, .bool b2, .bool b3, .bool b4] 28)) := frB _
  obtain ⟨w1, hw1⟩ : ∃ w1, w1 = w.alloc (.cells #[.string ⟨#[100, 101, 108, 101, 116, 101]⟩, .string b, v, .string d, .int .u32 n1, .int .i64 n2, .int .u64 n3, .int .u64 n4, .bool b1, .bool b2, .bool b3, .bool b4] 28) := ⟨_, rfl⟩
  have f1 : Fr Nob w w1 := by rw [hw1]; exact hb1
  have OF := Lib.hid (of_delete (w := w1) b d v n1 n2 n3 n4 b1 b2 b3 b4 k (h.nob f1) hk)
  have F0 := Lib.hid f1
  have HW := Lib.hid hw1.symm
  clear hk
  clear hb1 f1 hw1 h
  have AGet := taGet
  have AStore := taStore
  have AArith := taArith
  have ATouch := taTouch
  have ADelete := taDelete
  have AFlush := taFlush
  have ABad := taBad
  have AWord := taWord
  go_enter Tryd.func11, Tryd.ntmps11
  go_wp2_with fail
  rw [HW.out]
  refine OF.out.mono ?_
  rintro e w2 ⟨rfl, f2⟩
  have F1 : Fr Nob w w2 := F0.out.trans' f2
  go_wp2_with fail
  go_ret
  have hs := F1.size
  exact ⟨_, rfl, Lib.hid (heap_alloc_at _ _ _ (by simp)), Lib.hid (by repeat first | exact F1 | refine Fr.alloc ?_ _), Lib.hid (by omega)⟩

set_option maxHeartbeats 8000000 in
set_option maxRecDepth 100000 in
theorem keysF_flush {w : World} (b d : ByteArray) (v : Value) (n1 n2 n3 n4 : Int) (b1 b2 b3 b4 : Bool) : Calls Tryd.prog 11 #[.agg #[.string ⟨#[102, 108, 117, 115, 104]⟩, .string b, v, .string d, .int .u32 n1, .int .i64 n2, .int .u64 n3, .int .u64 n4, .bool b1, .bool b2, .bool b3, .bool b4]] w fun e w' =>
    e = .returned (.slice none 0 0) ∧ Fr Nob w w' := by
  have hb1 : Fr Nob w (w.alloc (.cells #[.string ⟨#[102, 108, 117, 115, 104]⟩, .string b, v, .string d, .int .u32 n1, .int .i64 n2, .int .u64 n3, .int .u64 n4, .bool b1, .bool b2, .bool b3, .bool b4] 28)) := frB _
  obtain ⟨w1, hw1⟩ : ∃ w1, w1 = w.alloc (.cells #[.string ⟨#[102, 108, 117, 115, 104]⟩, .string b, v, .string d, .int .u32 n1, .int .i64 n2, .int .u64 n3, .int .u64 n4, .bool b1, .bool b2, .bool b3, .bool b4] 28) := ⟨_, rfl⟩
  have f1 : Fr Nob w w1 := by rw [hw1]; exact hb1
  have OF := Lib.hid (of_flush (w := w1) b d v n1 n2 n3 n4 b1 b2 b3 b4)
  have F0 := Lib.hid f1
  have HW := Lib.hid hw1.symm
  clear hb1 f1 hw1
  have AGet := taGet
  have AStore := taStore
  have AArith := taArith
  have ATouch := taTouch
  have ADelete := taDelete
  have AFlush := taFlush
  have ABad := taBad
  have AWord := taWord
  go_enter Tryd.func11, Tryd.ntmps11
  go_wp2_with fail
  rw [HW.out]
  refine OF.out.mono ?_
  rintro e w2 ⟨rfl, f2⟩
  have F1 : Fr Nob w w2 := F0.out.trans' f2
  go_wp2_with fail
  go_ret
  exact ⟨rfl, (by repeat first | exact F1 | exact Fr.refl _ _ | refine Fr.alloc ?_ _)⟩

set_option maxHeartbeats 8000000 in
set_option maxRecDepth 100000 in
theorem keysF_bad {w : World} (b d : ByteArray) (v : Value) (n1 n2 n3 n4 : Int) (b1 b2 b3 b4 : Bool) : Calls Tryd.prog 11 #[.agg #[.string ⟨#[98, 97, 100]⟩, .string b, v, .string d, .int .u32 n1, .int .i64 n2, .int .u64 n3, .int .u64 n4, .bool b1, .bool b2, .bool b3, .bool b4]] w fun e w' =>
    e = .returned (.slice none 0 0) ∧ Fr Nob w w' := by
  have hb1 : Fr Nob w (w.alloc (.cells #[.string ⟨#[98, 97, 100]⟩, .string b, v, .string d, .int .u32 n1, .int .i64 n2, .int .u64 n3, .int .u64 n4, .bool b1, .bool b2, .bool b3, .bool b4] 28)) := frB _
  obtain ⟨w1, hw1⟩ : ∃ w1, w1 = w.alloc (.cells #[.string ⟨#[98, 97, 100]⟩, .string b, v, .string d, .int .u32 n1, .int .i64 n2, .int .u64 n3, .int .u64 n4, .bool b1, .bool b2, .bool b3, .bool b4] 28) := ⟨_, rfl⟩
  have f1 : Fr Nob w w1 := by rw [hw1]; exact hb1
  have OF := Lib.hid (of_bad (w := w1) b d v n1 n2 n3 n4 b1 b2 b3 b4)
  have F0 := Lib.hid f1
  have HW := Lib.hid hw1.symm
  clear hb1 f1 hw1
  have AGet := taGet
  have AStore := taStore
  have AArith := taArith
  have ATouch := taTouch
  have ADelete := taDelete
  have AFlush := taFlush
  have ABad := taBad
  have AWord := taWord
  go_enter Tryd.func11, Tryd.ntmps11
  go_wp2_with fail
  rw [HW.out]
  refine OF.out.mono ?_
  rintro e w2 ⟨rfl, f2⟩
  have F1 : Fr Nob w w2 := F0.out.trans' f2
  go_wp2_with fail
  go_ret
  exact ⟨rfl, (by repeat first | exact F1 | exact Fr.refl _ _ | refine Fr.alloc ?_ _)⟩

set_option maxHeartbeats 8000000 in
set_option maxRecDepth 100000 in
theorem keysF_word {w : World} (b d : ByteArray) (v : Value) (n1 n2 n3 n4 : Int) (b1 b2 b3 b4 : Bool) : Calls Tryd.prog 11 #[.agg #[.string ⟨#[119, 111, 114, 100]⟩, .string b, v, .string d, .int .u32 n1, .int .i64 n2, .int .u64 n3, .int .u64 n4, .bool b1, .bool b2, .bool b3, .bool b4]] w fun e w' =>
    e = .returned (.slice none 0 0) ∧ Fr Nob w w' := by
  have hb1 : Fr Nob w (w.alloc (.cells #[.string ⟨#[119, 111, 114, 100]⟩, .string b, v, .string d, .int .u32 n1, .int .i64 n2, .int .u64 n3, .int .u64 n4, .bool b1, .bool b2, .bool b3, .bool b4] 28)) := frB _
  obtain ⟨w1, hw1⟩ : ∃ w1, w1 = w.alloc (.cells #[.string ⟨#[119, 111, 114, 100]⟩, .string b, v, .string d, .int .u32 n1, .int .i64 n2, .int .u64 n3, .int .u64 n4, .bool b1, .bool b2, .bool b3, .bool b4] 28) := ⟨_, rfl⟩
  have f1 : Fr Nob w w1 := by rw [hw1]; exact hb1
  have OF := Lib.hid (of_word (w := w1) b d v n1 n2 n3 n4 b1 b2 b3 b4)
  have F0 := Lib.hid f1
  have HW := Lib.hid hw1.symm
  clear hb1 f1 hw1
  have AGet := taGet
  have AStore := taStore
  have AArith := taArith
  have ATouch := taTouch
  have ADelete := taDelete
  have AFlush := taFlush
  have ABad := taBad
  have AWord := taWord
  go_enter Tryd.func11, Tryd.ntmps11
  go_wp2_with fail
  rw [HW.out]
  refine OF.out.mono ?_
  rintro e w2 ⟨rfl, f2⟩
  have F1 : Fr Nob w w2 := F0.out.trans' f2
  go_wp2_with fail
  go_ret
  exact ⟨rfl, (by repeat first | exact F1 | exact Fr.refl _ _ | refine Fr.alloc ?_ _)⟩

set_option maxHeartbeats 8000000 in
set_option maxRecDepth 100000 in
theorem keysF_none {w : World} (a b d : ByteArray) (v : Value) (n1 n2 n3 n4 : Int) (b1 b2 b3 b4 : Bool) (h : noWord a) : Calls Tryd.prog 11 #[.agg #[.string a, .string b, v, .string d, .int .u32 n1, .int .i64 n2, .int .u64 n3, .int .u64 n4, .bool b1, .bool b2, .bool b3, .bool b4]] w fun e w' =>
    e = .returned (.slice none 0 0) ∧ Fr Nob w w' := by
  have hb1 : Fr Nob w (w.alloc (.cells #[.string a, .string b, v, .string d, .int .u32 n1, .int .i64 n2, .int .u64 n3, .int .u64 n4, .bool b1, .bool b2, .bool b3, .bool b4] 28)) := frB _
  obtain ⟨w1, hw1⟩ : ∃ w1, w1 = w.alloc (.cells #[.string a, .string b, v, .string d, .int .u32 n1, .int .i64 n2, .int .u64 n3, .int .u64 n4, .bool b1, .bool b2, .bool b3, .bool b4] 28) := ⟨_, rfl⟩
  have f1 : Fr Nob w w1 := by rw [hw1]; exact hb1
  have OF := Lib.hid (of_none (w := w1) a b d v n1 n2 n3 n4 b1 b2 b3 b4 h)
  have F0 := Lib.hid f1
  have HW := Lib.hid hw1.symm
  clear hb1 f1 hw1
  have AGet := tnGet
  have AStore := tnStore
  have AArith := tnArith
  have ATouch := tnTouch
  have ADelete := tnDelete
  have AFlush := tnFlush
  have ABad := tnBad
  have AWord := tnWord
  go_enter Tryd.func11, Tryd.ntmps11
  go_wp2_with fail
  rw [HW.out]
  refine OF.out.mono ?_
  rintro e w2 ⟨rfl, f2⟩
  have F1 : Fr Nob w w2 := F0.out.trans' f2
  go_wp2_with fail
  go_ret
  exact ⟨rfl, (by repeat first | exact F1 | exact Fr.refl _ _ | refine Fr.alloc ?_ _)⟩
end Go.Proofs.YthfhlbnjahakaaaDoor
