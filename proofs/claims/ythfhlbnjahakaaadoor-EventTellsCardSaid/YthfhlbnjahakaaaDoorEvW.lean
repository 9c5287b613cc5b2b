/-
  event: contracts of the reference's verb, Name and Good (written by gen/evw.py).
-/
import Derived.Test.YthfhlbnjahakaaaDoorEvV
import Derived.Test.YthfhlbnjahakaaaDoorEvKG
import Derived.Test.YthfhlbnjahakaaaDoorEvKD
namespace Go.Proofs.YthfhlbnjahakaaaDoor
open Go.RowKit

theorem memB_verbs {b : ByteArray} (hh : ¬ b = ⟨#[115, 101, 116]⟩ ∧ ¬ b = ⟨#[97, 100, 100]⟩ ∧ ¬ b = ⟨#[114, 101, 112, 108, 97, 99, 101]⟩ ∧ ¬ b = ⟨#[97, 112, 112, 101, 110, 100]⟩ ∧ ¬ b = ⟨#[112, 114, 101, 112, 101, 110, 100]⟩ ∧ ¬ b = ⟨#[99, 97, 115]⟩) : memB b verbsL = false := by
  obtain ⟨e0, e1, e2, e3, e4, e5⟩ := hh
  simp only [memB, verbsL, List.any_cons, List.any_nil, txt_ne e0, txt_ne e1, txt_ne e2, txt_ne e3, txt_ne e4, txt_ne e5, Bool.or_false]

set_option maxHeartbeats 8000000 in
set_option maxRecDepth 100000 in
theorem verb18_eq {w : World} (b : ByteArray) : Calls Tryd.prog 28 #[.string b] w fun e w' => e = .returned (.bool (memB b verbsL)) ∧ Hid (w' = w) := by
  obtain ⟨M, hM⟩ : ∃ M, memB b verbsL = M := ⟨_, rfl⟩
  rw [hM]
  by_cases e0 : b = ⟨#[115, 101, 116]⟩
  · subst e0
    obtain rfl : M = true := by rw [← hM]; decide +kernel
    clear hM
    go_enter Tryd.func28, Tryd.ntmps28
    go_wp2_with fail
    go_ret
    exact ⟨rfl, Lib.hid rfl⟩
  have x0 := lit_ne e0
  by_cases e1 : b = ⟨#[97, 100, 100]⟩
  · subst e1
    obtain rfl : M = true := by rw [← hM]; decide +kernel
    clear hM
    go_enter Tryd.func28, Tryd.ntmps28
    go_wp2_with fail
    go_ret
    exact ⟨rfl, Lib.hid rfl⟩
  have x1 := lit_ne e1
  by_cases e2 : b = ⟨#[114, 101, 112, 108, 97, 99, 101]⟩
  · subst e2
    obtain rfl : M = true := by rw [← hM]; decide +kernel
    clear hM
    go_enter Tryd.func28, Tryd.ntmps28
    go_wp2_with fail
    go_ret
    exact ⟨rfl, Lib.hid rfl⟩
  have x2 := lit_ne e2
  by_cases e3 : b = ⟨#[97, 112, 112, 101, 110, 100]⟩
  · subst e3
    obtain rfl : M = true := by rw [← hM]; decide +kernel
    clear hM
    go_enter Tryd.func28, Tryd.ntmps28
    go_wp2_with fail
    go_ret
    exact ⟨rfl, Lib.hid rfl⟩
  have x3 := lit_ne e3
  by_cases e4 : b = ⟨#[112, 114, 101, 112, 101, 110, 100]⟩
  · subst e4
    obtain rfl : M = true := by rw [← hM]; decide +kernel
    clear hM
    go_enter Tryd.func28, Tryd.ntmps28
    go_wp2_with fail
    go_ret
    exact ⟨rfl, Lib.hid rfl⟩
  have x4 := lit_ne e4
  by_cases e5 : b = ⟨#[99, 97, 115]⟩
  · subst e5
    obtain rfl : M = true := by rw [← hM]; decide +kernel
    clear hM
    go_enter Tryd.func28, Tryd.ntmps28
    go_wp2_with fail
    go_ret
    exact ⟨rfl, Lib.hid rfl⟩
  have x5 := lit_ne e5
  obtain rfl : M = false := by rw [← hM]; exact memB_verbs ⟨e0, e1, e2, e3, e4, e5⟩
  clear hM e0 e1 e2 e3 e4 e5
  go_enter Tryd.func28, Tryd.ntmps28
  go_wp2_with fail
  go_ret
  exact ⟨rfl, Lib.hid rfl⟩

set_option maxHeartbeats 8000000 in
set_option maxRecDepth 100000 in
theorem name18_get {w : World} (b d : ByteArray) (v : Value) (n1 n2 n3 n4 : Int) (b1 b2 b3 b4 : Bool) (hv : ∃ A n c, v = .slice A n c) : Calls Tryd.prog 16 #[.agg #[.string ⟨#[103, 101, 116]⟩, .string b, v, .string d, .int .u32 n1, .int .i64 n2, .int .u64 n3, .int .u64 n4, .bool b1, .bool b2, .bool b3, .bool b4]] w fun e w' => e = .returned (.string (nameG b2 b1)) ∧ Fr Nob w w' := by
  obtain ⟨A, n, c, rfl⟩ := hv
  cases b1 <;> cases b2
  all_goals
    go_enter Tryd.func16, Tryd.ntmps16
    go_wp2_with fail
    go_ret
    exact ⟨rfl, frB _⟩

set_option maxHeartbeats 8000000 in
set_option maxRecDepth 100000 in
theorem name18_store {w : World} (b d : ByteArray) (v : Value) (n1 n2 n3 n4 : Int) (b1 b2 b3 b4 : Bool) (hv : ∃ A n c, v = .slice A n c) : Calls Tryd.prog 16 #[.agg #[.string ⟨#[115, 116, 111, 114, 101]⟩, .string b, v, .string d, .int .u32 n1, .int .i64 n2, .int .u64 n3, .int .u64 n4, .bool b1, .bool b2, .bool b3, .bool b4]] w fun e w' => e = .returned (.string (b)) ∧ Fr Nob w w' := by
  obtain ⟨A, n, c, rfl⟩ := hv
  go_enter Tryd.func16, Tryd.ntmps16
  go_wp2_with fail
  go_ret
  exact ⟨rfl, frB _⟩

set_option maxHeartbeats 8000000 in
set_option maxRecDepth 100000 in
theorem name18_arith {w : World} (b d : ByteArray) (v : Value) (n1 n2 n3 n4 : Int) (b1 b2 b3 b4 : Bool) (hv : ∃ A n c, v = .slice A n c) : Calls Tryd.prog 16 #[.agg #[.string ⟨#[97, 114, 105, 116, 104]⟩, .string b, v, .string d, .int .u32 n1, .int .i64 n2, .int .u64 n3, .int .u64 n4, .bool b1, .bool b2, .bool b3, .bool b4]] w fun e w' => e = .returned (.string (if b3 then ⟨#[100, 101, 99, 114]⟩ else ⟨#[105, 110, 99, 114]⟩)) ∧ Fr Nob w w' := by
  obtain ⟨A, n, c, rfl⟩ := hv
  cases b3
  all_goals
    go_enter Tryd.func16, Tryd.ntmps16
    go_wp2_with fail
    go_ret
    exact ⟨rfl, frB _⟩

set_option maxHeartbeats 8000000 in
set_option maxRecDepth 100000 in
theorem name18_touch {w : World} (b d : ByteArray) (v : Value) (n1 n2 n3 n4 : Int) (b1 b2 b3 b4 : Bool) (hv : ∃ A n c, v = .slice A n c) : Calls Tryd.prog 16 #[.agg #[.string ⟨#[116, 111, 117, 99, 104]⟩, .string b, v, .string d, .int .u32 n1, .int .i64 n2, .int .u64 n3, .int .u64 n4, .bool b1, .bool b2, .bool b3, .bool b4]] w fun e w' => e = .returned (.string (⟨#[116, 111, 117, 99, 104]⟩)) ∧ Fr Nob w w' := by
  obtain ⟨A, n, c, rfl⟩ := hv
  go_enter Tryd.func16, Tryd.ntmps16
  go_wp2_with fail
  go_ret
  exact ⟨rfl, frB _⟩

set_option maxHeartbeats 8000000 in
set_option maxRecDepth 100000 in
theorem name18_delete {w : World} (b d : ByteArray) (v : Value) (n1 n2 n3 n4 : Int) (b1 b2 b3 b4 : Bool) (hv : ∃ A n c, v = .slice A n c) : Calls Tryd.prog 16 #[.agg #[.string ⟨#[100, 101, 108, 101, 116, 101]⟩, .string b, v, .string d, .int .u32 n1, .int .i64 n2, .int .u64 n3, .int .u64 n4, .bool b1, .bool b2, .bool b3, .bool b4]] w fun e w' => e = .returned (.string (⟨#[100, 101, 108, 101, 116, 101]⟩)) ∧ Fr Nob w w' := by
  obtain ⟨A, n, c, rfl⟩ := hv
  go_enter Tryd.func16, Tryd.ntmps16
  go_wp2_with fail
  go_ret
  exact ⟨rfl, frB _⟩

set_option maxHeartbeats 8000000 in
set_option maxRecDepth 100000 in
theorem name18_flush {w : World} (b d : ByteArray) (v : Value) (n1 n2 n3 n4 : Int) (b1 b2 b3 b4 : Bool) (hv : ∃ A n c, v = .slice A n c) : Calls Tryd.prog 16 #[.agg #[.string ⟨#[102, 108, 117, 115, 104]⟩, .string b, v, .string d, .int .u32 n1, .int .i64 n2, .int .u64 n3, .int .u64 n4, .bool b1, .bool b2, .bool b3, .bool b4]] w fun e w' => e = .returned (.string (⟨#[102, 108, 117, 115, 104, 95, 97, 108, 108]⟩)) ∧ Fr Nob w w' := by
  obtain ⟨A, n, c, rfl⟩ := hv
  go_enter Tryd.func16, Tryd.ntmps16
  go_wp2_with fail
  go_ret
  exact ⟨rfl, frB _⟩

set_option maxHeartbeats 8000000 in
set_option maxRecDepth 100000 in
theorem name18_bad {w : World} (b d : ByteArray) (v : Value) (n1 n2 n3 n4 : Int) (b1 b2 b3 b4 : Bool) (hv : ∃ A n c, v = .slice A n c) : Calls Tryd.prog 16 #[.agg #[.string ⟨#[98, 97, 100]⟩, .string b, v, .string d, .int .u32 n1, .int .i64 n2, .int .u64 n3, .int .u64 n4, .bool b1, .bool b2, .bool b3, .bool b4]] w fun e w' => e = .returned (.string (⟨#[98, 97, 100]⟩)) ∧ Fr Nob w w' := by
  obtain ⟨A, n, c, rfl⟩ := hv
  go_enter Tryd.func16, Tryd.ntmps16
  go_wp2_with fail
  go_ret
  exact ⟨rfl, frB _⟩

set_option maxHeartbeats 8000000 in
set_option maxRecDepth 100000 in
theorem name18_word {w : World} (b d : ByteArray) (v : Value) (n1 n2 n3 n4 : Int) (b1 b2 b3 b4 : Bool) (hv : ∃ A n c, v = .slice A n c) : Calls Tryd.prog 16 #[.agg #[.string ⟨#[119, 111, 114, 100]⟩, .string b, v, .string d, .int .u32 n1, .int .i64 n2, .int .u64 n3, .int .u64 n4, .bool b1, .bool b2, .bool b3, .bool b4]] w fun e w' => e = .returned (.string (b)) ∧ Fr Nob w w' := by
  obtain ⟨A, n, c, rfl⟩ := hv
  go_enter Tryd.func16, Tryd.ntmps16
  go_wp2_with fail
  go_ret
  exact ⟨rfl, frB _⟩

set_option maxHeartbeats 8000000 in
set_option maxRecDepth 100000 in
theorem name18_none {w : World} (v : Value) (hv : ∃ A n c, v = .slice A n c) : Calls Tryd.prog 16 #[.agg #[.string ⟨#[]⟩, .string ⟨#[]⟩, v, .string ⟨#[]⟩, .int .u32 0, .int .i64 0, .int .u64 0, .int .u64 0, .bool false, .bool false, .bool false, .bool false]] w fun e w' => e = .returned (.string (⟨#[]⟩)) ∧ Fr Nob w w' := by
  obtain ⟨A, n, c, rfl⟩ := hv
  go_enter Tryd.func16, Tryd.ntmps16
  go_wp2_with fail
  go_ret
  exact ⟨rfl, frB _⟩

theorem badKey_at {l : List ByteArray} {j : Nat} {k : ByteArray} (h : l[j]? = some k) (hk : keyB k = false) : badKey l = true := List.any_eq_true.2 ⟨k, List.mem_of_getElem? h, by rw [hk]; rfl⟩
theorem badKey_no {l : List ByteArray} (h : ∀ j k, j < l.length → l[j]? = some k → keyB k = true) : badKey l = false := by
  cases hb : badKey l with
  | false => rfl
  | true =>
    obtain ⟨k, hk, hx⟩ := List.any_eq_true.1 hb
    obtain ⟨j, hj, e⟩ := List.getElem_of_mem hk
    have := h j k hj (by rw [List.getElem?_eq_getElem hj, e])
    rw [this] at hx
    cases hx

set_option linter.unusedSimpArgs false in
set_option maxHeartbeats 8000000 in
set_option maxRecDepth 100000 in
theorem good18_get {w : World} {l : List ByteArray} (b d : ByteArray) (v : Value) (n1 n2 n3 n4 : Int) (b1 b2 b3 b4 : Bool) (h : RdS w v l) (hn : l.length ≤ 1000000000) (hs : ∀ k ∈ l, k.size ≤ 9223372036854775807) : Calls Tryd.prog 15 #[.agg #[.string ⟨#[103, 101, 116]⟩, .string b, v, .string d, .int .u32 n1, .int .i64 n2, .int .u64 n3, .int .u64 n4, .bool b1, .bool b2, .bool b3, .bool b4]] w fun e w' => e = .returned (.bool (!badKey l && (decide (1 ≤ l.length) && decide (l.length ≤ 64)))) ∧ Fr Nob w w' := by
  have R0 := h
  obtain ⟨A, cap, rfl, hc0, h⟩ := h
  have H := Lib.hid h
  have HN := Lib.hid hn
  have HS := Lib.hid hs
  obtain ⟨w1, hw1⟩ : ∃ w1, w1 = w.alloc (.cells #[.string ⟨#[103, 101, 116]⟩, .string b, .slice A l.length cap, .string d, .int .u32 n1, .int .i64 n2, .int .u64 n3, .int .u64 n4, .bool b1, .bool b2, .bool b3, .bool b4] 31) := ⟨_, rfl⟩
  obtain ⟨B, hB⟩ : ∃ B, B = w.heap.size := ⟨_, rfl⟩
  have f1 : Fr Nob w w1 := by rw [hw1]; exact frB _
  have h1 : w1.heap[B]? = some (.cells #[.string ⟨#[103, 101, 116]⟩, .string b, .slice A l.length cap, .string d, .int .u32 n1, .int .i64 n2, .int .u64 n3, .int .u64 n4, .bool b1, .bool b2, .bool b3, .bool b4] 31 (0, 0)) := by rw [hw1, hB]; exact heap_alloc_new w _
  have c0 : w1.cell? ⟨B, 0, none⟩ = some (.string ⟨#[103, 101, 116]⟩) := cell_of_row _ B 0 _ _ (0, 0) h1
  have c2 : w1.cell? ⟨B, 2, none⟩ = some (.slice A l.length cap) := cell_of_row _ B 2 _ _ (0, 0) h1
  have F1 := Lib.hid f1
  have HW := Lib.hid hw1.symm
  have HB := Lib.hid hB.symm
  clear h hc0 hn hs R0 hw1 hB f1 h1
  go_enter Tryd.func15, Tryd.ntmps15
  go_wp2_with fail
  rw [HW.out, HB.out]
  go_loopw [3] (fun i wr => ∃ j : Nat, j ≤ l.length ∧ i = .int .i64 j ∧ Hid (∀ q k, q < j → l[q]? = some k → keyB k = true) ∧ wr = w1) (fun i _ => l.length - (intOf i).toNat)
  case atStart => exact ⟨0, Nat.zero_le _, rfl, Lib.hid fun q _ hq => absurd hq (by omega), rfl⟩
  case round =>
    obtain ⟨j, hj, rfl, hok, rfl⟩ := hrel
    by_cases hlt : j < l.length
    · obtain ⟨k, hk⟩ : ∃ k, l[j]? = some k := ⟨_, List.getElem?_eq_getElem hlt⟩
      obtain ⟨g, o, hA, hc⟩ := H.out (by omega)
      subst hA
      have c9 := F1.out.cell (hc j k hk) fun h => h
      have hlt1 : (j : Int) < (l.length : Int) := by omega
      have hn := HN.out
      have HK := Lib.hid hk
      have KS : Hid (k.size ≤ 9223372036854775807) := Lib.hid (HS.out k (List.mem_of_getElem? hk))
      have HLT := Lib.hid hlt
      clear hc hk hlt
      cases hb : keyB k with
      | false =>
        have RK := Lib.hid (rkey_eq (w := wr) k KS.out)
        rw [hb] at RK
        have HZ := Lib.hid (badKey_at HK.out hb)
        clear hb hok H
        go_wp2_with fail
        refine RK.out.mono ?_
        rintro e w6 ⟨rfl, h6⟩
        obtain rfl := h6.out
        go_wp2_with fail
        go_ret
        exact ⟨ret_bool (by first | rfl | (rw [HZ.out]; rfl) | (simp [HZ.out]; done) | (simp [HZ.out]; omega)), F1.out⟩
      | true =>
        have RK := Lib.hid (rkey_eq (w := wr) k KS.out)
        rw [hb] at RK
        have HBK := Lib.hid hb
        clear hb
        go_wp2_with fail
        refine RK.out.mono ?_
        rintro e w6 ⟨rfl, h6⟩
        obtain rfl := h6.out
        go_wp2_with fail
        go_roundw
        case rel => exact ⟨j + 1, by have := HLT.out; omega, by go_num, Lib.hid fun q y hq hy => by
          by_cases hqj : q = j
          · subst hqj
            rw [HK.out] at hy
            cases hy
            exact HBK.out
          · exact hok.out q y (by omega) hy, by first | trivial | rfl⟩
        case measure => have := HLT.out; simp [intOf]; omega
    · have hj2 : j = l.length := by omega
      subst hj2
      have HZ := Lib.hid (badKey_no (l := l) fun q y hq hy => hok.out q y hq hy)
      clear hok H hlt
      have hn := HN.out
      clear HS
      by_cases p1 : 1 ≤ l.length
      · by_cases p2 : l.length ≤ 64
        · have q1 : (1 : Int) ≤ (l.length : Int) := by omega
          have q2 : (l.length : Int) ≤ 64 := by omega
          go_wp2_with fail
          go_ret
          exact ⟨ret_bool (by first | rfl | (rw [HZ.out, decide_eq_true p1, decide_eq_true p2]; rfl) | (simp [HZ.out, decide_eq_true p1, decide_eq_true p2]; done) | (simp [HZ.out, decide_eq_true p1, decide_eq_true p2]; omega)), F1.out⟩
        · have q1 : (1 : Int) ≤ (l.length : Int) := by omega
          have q2 : ¬ (l.length : Int) ≤ 64 := by omega
          go_wp2_with fail
          go_ret
          exact ⟨ret_bool (by first | rfl | (rw [HZ.out, decide_eq_true p1, decide_eq_false p2]; rfl) | (simp [HZ.out, decide_eq_true p1, decide_eq_false p2]; done) | (simp [HZ.out, decide_eq_true p1, decide_eq_false p2]; omega)), F1.out⟩
      · have q1 : ¬ (1 : Int) ≤ (l.length : Int) := by omega
        go_wp2_with fail
        go_ret
        exact ⟨ret_bool (by first | rfl | (rw [HZ.out, decide_eq_false p1]; rfl) | (simp [HZ.out, decide_eq_false p1]; done) | (simp [HZ.out, decide_eq_false p1]; omega)), F1.out⟩

set_option linter.unusedSimpArgs false in
set_option maxHeartbeats 8000000 in
set_option maxRecDepth 100000 in
theorem good18_store {w : World} {l : List ByteArray} (b d : ByteArray) (v : Value) (n1 n2 n3 n4 : Int) (b1 b2 b3 b4 : Bool) (h : RdS w v l) (hn : l.length ≤ 1000000000) (hs : ∀ k ∈ l, k.size ≤ 9223372036854775807) : Calls Tryd.prog 15 #[.agg #[.string ⟨#[115, 116, 111, 114, 101]⟩, .string b, v, .string d, .int .u32 n1, .int .i64 n2, .int .u64 n3, .int .u64 n4, .bool b1, .bool b2, .bool b3, .bool b4]] w fun e w' => e = .returned (.bool (!badKey l && (memB b verbsL && decide (d.size ≤ 1024)))) ∧ Fr Nob w w' := by
  have R0 := h
  obtain ⟨A, cap, rfl, hc0, h⟩ := h
  have H := Lib.hid h
  have HN := Lib.hid hn
  have HS := Lib.hid hs
  obtain ⟨w1, hw1⟩ : ∃ w1, w1 = w.alloc (.cells #[.string ⟨#[115, 116, 111, 114, 101]⟩, .string b, .slice A l.length cap, .string d, .int .u32 n1, .int .i64 n2, .int .u64 n3, .int .u64 n4, .bool b1, .bool b2, .bool b3, .bool b4] 31) := ⟨_, rfl⟩
  obtain ⟨B, hB⟩ : ∃ B, B = w.heap.size := ⟨_, rfl⟩
  have f1 : Fr Nob w w1 := by rw [hw1]; exact frB _
  have h1 : w1.heap[B]? = some (.cells #[.string ⟨#[115, 116, 111, 114, 101]⟩, .string b, .slice A l.length cap, .string d, .int .u32 n1, .int .i64 n2, .int .u64 n3, .int .u64 n4, .bool b1, .bool b2, .bool b3, .bool b4] 31 (0, 0)) := by rw [hw1, hB]; exact heap_alloc_new w _
  have c0 : w1.cell? ⟨B, 0, none⟩ = some (.string ⟨#[115, 116, 111, 114, 101]⟩) := cell_of_row _ B 0 _ _ (0, 0) h1
  have c1 : w1.cell? ⟨B, 1, none⟩ = some (.string b) := cell_of_row _ B 1 _ _ (0, 0) h1
  have c2 : w1.cell? ⟨B, 2, none⟩ = some (.slice A l.length cap) := cell_of_row _ B 2 _ _ (0, 0) h1
  have c3 : w1.cell? ⟨B, 3, none⟩ = some (.string d) := cell_of_row _ B 3 _ _ (0, 0) h1
  have F1 := Lib.hid f1
  have HW := Lib.hid hw1.symm
  have HB := Lib.hid hB.symm
  clear h hc0 hn hs R0 hw1 hB f1 h1
  go_enter Tryd.func15, Tryd.ntmps15
  go_wp2_with fail
  rw [HW.out, HB.out]
  go_loopw [3] (fun i wr => ∃ j : Nat, j ≤ l.length ∧ i = .int .i64 j ∧ Hid (∀ q k, q < j → l[q]? = some k → keyB k = true) ∧ wr = w1) (fun i _ => l.length - (intOf i).toNat)
  case atStart => exact ⟨0, Nat.zero_le _, rfl, Lib.hid fun q _ hq => absurd hq (by omega), rfl⟩
  case round =>
    obtain ⟨j, hj, rfl, hok, rfl⟩ := hrel
    by_cases hlt : j < l.length
    · obtain ⟨k, hk⟩ : ∃ k, l[j]? = some k := ⟨_, List.getElem?_eq_getElem hlt⟩
      obtain ⟨g, o, hA, hc⟩ := H.out (by omega)
      subst hA
      have c9 := F1.out.cell (hc j k hk) fun h => h
      have hlt1 : (j : Int) < (l.length : Int) := by omega
      have hn := HN.out
      have HK := Lib.hid hk
      have KS : Hid (k.size ≤ 9223372036854775807) := Lib.hid (HS.out k (List.mem_of_getElem? hk))
      have HLT := Lib.hid hlt
      clear hc hk hlt
      cases hb : keyB k with
      | false =>
        have RK := Lib.hid (rkey_eq (w := wr) k KS.out)
        rw [hb] at RK
        have HZ := Lib.hid (badKey_at HK.out hb)
        clear hb hok H
        go_wp2_with fail
        refine RK.out.mono ?_
        rintro e w6 ⟨rfl, h6⟩
        obtain rfl := h6.out
        go_wp2_with fail
        go_ret
        exact ⟨ret_bool (by first | rfl | (rw [HZ.out]; rfl) | (simp [HZ.out]; done) | (simp [HZ.out]; omega)), F1.out⟩
      | true =>
        have RK := Lib.hid (rkey_eq (w := wr) k KS.out)
        rw [hb] at RK
        have HBK := Lib.hid hb
        clear hb
        go_wp2_with fail
        refine RK.out.mono ?_
        rintro e w6 ⟨rfl, h6⟩
        obtain rfl := h6.out
        go_wp2_with fail
        go_roundw
        case rel => exact ⟨j + 1, by have := HLT.out; omega, by go_num, Lib.hid fun q y hq hy => by
          by_cases hqj : q = j
          · subst hqj
            rw [HK.out] at hy
            cases hy
            exact HBK.out
          · exact hok.out q y (by omega) hy, by first | trivial | rfl⟩
        case measure => have := HLT.out; simp [intOf]; omega
    · have hj2 : j = l.length := by omega
      subst hj2
      have HZ := Lib.hid (badKey_no (l := l) fun q y hq hy => hok.out q y hq hy)
      clear hok H hlt
      have VB := Lib.hid (verb18_eq (w := wr) b)
      obtain ⟨M, hM⟩ : ∃ M, memB b verbsL = M := ⟨_, rfl⟩
      rw [hM] at VB
      have HM := Lib.hid hM
      clear hM
      cases M with
      | false =>
        go_wp2_with fail
        refine VB.out.mono ?_
        rintro e w6 ⟨rfl, h6⟩
        obtain rfl := h6.out
        go_wp2_with fail
        go_ret
        exact ⟨ret_bool (by first | rfl | (rw [HZ.out, HM.out]; rfl) | (simp [HZ.out, HM.out]; done) | (simp [HZ.out, HM.out]; omega)), F1.out⟩
      | true =>
        by_cases p1 : d.size ≤ 1024
        · have q1 : (d.size : Int) ≤ 1024 := by omega
          go_wp2_with fail
          refine VB.out.mono ?_
          rintro e w6 ⟨rfl, h6⟩
          obtain rfl := h6.out
          go_wp2_with fail
          go_ret
          exact ⟨ret_bool (by first | rfl | (rw [HZ.out, HM.out, decide_eq_true p1]; rfl) | (simp [HZ.out, HM.out, decide_eq_true p1]; done) | (simp [HZ.out, HM.out, decide_eq_true p1]; omega)), F1.out⟩
        · have q1 : ¬ (d.size : Int) ≤ 1024 := by omega
          go_wp2_with fail
          refine VB.out.mono ?_
          rintro e w6 ⟨rfl, h6⟩
          obtain rfl := h6.out
          go_wp2_with fail
          go_ret
          exact ⟨ret_bool (by first | rfl | (rw [HZ.out, HM.out, decide_eq_false p1]; rfl) | (simp [HZ.out, HM.out, decide_eq_false p1]; done) | (simp [HZ.out, HM.out, decide_eq_false p1]; omega)), F1.out⟩

set_option linter.unusedSimpArgs false in
set_option maxHeartbeats 8000000 in
set_option maxRecDepth 100000 in
theorem good18_arith {w : World} {l : List ByteArray} (b d : ByteArray) (v : Value) (n1 n2 n3 n4 : Int) (b1 b2 b3 b4 : Bool) (h : RdS w v l) (hn : l.length ≤ 1000000000) (hs : ∀ k ∈ l, k.size ≤ 9223372036854775807) : Calls Tryd.prog 15 #[.agg #[.string ⟨#[97, 114, 105, 116, 104]⟩, .string b, v, .string d, .int .u32 n1, .int .i64 n2, .int .u64 n3, .int .u64 n4, .bool b1, .bool b2, .bool b3, .bool b4]] w fun e w' => e = .returned (.bool (!badKey l && (true))) ∧ Fr Nob w w' := by
  have R0 := h
  obtain ⟨A, cap, rfl, hc0, h⟩ := h
  have H := Lib.hid h
  have HN := Lib.hid hn
  have HS := Lib.hid hs
  obtain ⟨w1, hw1⟩ : ∃ w1, w1 = w.alloc (.cells #[.string ⟨#[97, 114, 105, 116, 104]⟩, .string b, .slice A l.length cap, .string d, .int .u32 n1, .int .i64 n2, .int .u64 n3, .int .u64 n4, .bool b1, .bool b2, .bool b3, .bool b4] 31) := ⟨_, rfl⟩
  obtain ⟨B, hB⟩ : ∃ B, B = w.heap.size := ⟨_, rfl⟩
  have f1 : Fr Nob w w1 := by rw [hw1]; exact frB _
  have h1 : w1.heap[B]? = some (.cells #[.string ⟨#[97, 114, 105, 116, 104]⟩, .string b, .slice A l.length cap, .string d, .int .u32 n1, .int .i64 n2, .int .u64 n3, .int .u64 n4, .bool b1, .bool b2, .bool b3, .bool b4] 31 (0, 0)) := by rw [hw1, hB]; exact heap_alloc_new w _
  have c0 : w1.cell? ⟨B, 0, none⟩ = some (.string ⟨#[97, 114, 105, 116, 104]⟩) := cell_of_row _ B 0 _ _ (0, 0) h1
  have c2 : w1.cell? ⟨B, 2, none⟩ = some (.slice A l.length cap) := cell_of_row _ B 2 _ _ (0, 0) h1
  have F1 := Lib.hid f1
  have HW := Lib.hid hw1.symm
  have HB := Lib.hid hB.symm
  clear h hc0 hn hs R0 hw1 hB f1 h1
  go_enter Tryd.func15, Tryd.ntmps15
  go_wp2_with fail
  rw [HW.out, HB.out]
  go_loopw [3] (fun i wr => ∃ j : Nat, j ≤ l.length ∧ i = .int .i64 j ∧ Hid (∀ q k, q < j → l[q]? = some k → keyB k = true) ∧ wr = w1) (fun i _ => l.length - (intOf i).toNat)
  case atStart => exact ⟨0, Nat.zero_le _, rfl, Lib.hid fun q _ hq => absurd hq (by omega), rfl⟩
  case round =>
    obtain ⟨j, hj, rfl, hok, rfl⟩ := hrel
    by_cases hlt : j < l.length
    · obtain ⟨k, hk⟩ : ∃ k, l[j]? = some k := ⟨_, List.getElem?_eq_getElem hlt⟩
      obtain ⟨g, o, hA, hc⟩ := H.out (by omega)
      subst hA
      have c9 := F1.out.cell (hc j k hk) fun h => h
      have hlt1 : (j : Int) < (l.length : Int) := by omega
      have hn := HN.out
      have HK := Lib.hid hk
      have KS : Hid (k.size ≤ 9223372036854775807) := Lib.hid (HS.out k (List.mem_of_getElem? hk))
      have HLT := Lib.hid hlt
      clear hc hk hlt
      cases hb : keyB k with
      | false =>
        have RK := Lib.hid (rkey_eq (w := wr) k KS.out)
        rw [hb] at RK
        have HZ := Lib.hid (badKey_at HK.out hb)
        clear hb hok H
        go_wp2_with fail
        refine RK.out.mono ?_
        rintro e w6 ⟨rfl, h6⟩
        obtain rfl := h6.out
        go_wp2_with fail
        go_ret
        exact ⟨ret_bool (by first | rfl | (rw [HZ.out]; rfl) | (simp [HZ.out]; done) | (simp [HZ.out]; omega)), F1.out⟩
      | true =>
        have RK := Lib.hid (rkey_eq (w := wr) k KS.out)
        rw [hb] at RK
        have HBK := Lib.hid hb
        clear hb
        go_wp2_with fail
        refine RK.out.mono ?_
        rintro e w6 ⟨rfl, h6⟩
        obtain rfl := h6.out
        go_wp2_with fail
        go_roundw
        case rel => exact ⟨j + 1, by have := HLT.out; omega, by go_num, Lib.hid fun q y hq hy => by
          by_cases hqj : q = j
          · subst hqj
            rw [HK.out] at hy
            cases hy
            exact HBK.out
          · exact hok.out q y (by omega) hy, by first | trivial | rfl⟩
        case measure => have := HLT.out; simp [intOf]; omega
    · have hj2 : j = l.length := by omega
      subst hj2
      have HZ := Lib.hid (badKey_no (l := l) fun q y hq hy => hok.out q y hq hy)
      clear hok H hlt
      go_wp2_with fail
      go_ret
      exact ⟨ret_bool (by first | rfl | (rw [HZ.out]; rfl) | (simp [HZ.out]; done) | (simp [HZ.out]; omega)), F1.out⟩

set_option linter.unusedSimpArgs false in
set_option maxHeartbeats 8000000 in
set_option maxRecDepth 100000 in
theorem good18_touch {w : World} {l : List ByteArray} (b d : ByteArray) (v : Value) (n1 n2 n3 n4 : Int) (b1 b2 b3 b4 : Bool) (h : RdS w v l) (hn : l.length ≤ 1000000000) (hs : ∀ k ∈ l, k.size ≤ 9223372036854775807) : Calls Tryd.prog 15 #[.agg #[.string ⟨#[116, 111, 117, 99, 104]⟩, .string b, v, .string d, .int .u32 n1, .int .i64 n2, .int .u64 n3, .int .u64 n4, .bool b1, .bool b2, .bool b3, .bool b4]] w fun e w' => e = .returned (.bool (!badKey l && (true))) ∧ Fr Nob w w' := by
  have R0 := h
  obtain ⟨A, cap, rfl, hc0, h⟩ := h
  have H := Lib.hid h
  have HN := Lib.hid hn
  have HS := Lib.hid hs
  obtain ⟨w1, hw1⟩ : ∃ w1, w1 = w.alloc (.cells #[.string ⟨#[116, 111, 117, 99, 104]⟩, .string b, .slice A l.length cap, .string d, .int .u32 n1, .int .i64 n2, .int .u64 n3, .int .u64 n4, .bool b1, .bool b2, .bool b3, .bool b4] 31) := ⟨_, rfl⟩
  obtain ⟨B, hB⟩ : ∃ B, B = w.heap.size := ⟨_, rfl⟩
  have f1 : Fr Nob w w1 := by rw [hw1]; exact frB _
  have h1 : w1.heap[B]? = some (.cells #[.string ⟨#[116, 111, 117, 99, 104]⟩, .string b, .slice A l.length cap, .string d, .int .u32 n1, .int .i64 n2, .int .u64 n3, .int .u64 n4, .bool b1, .bool b2, .bool b3, .bool b4] 31 (0, 0)) := by rw [hw1, hB]; exact heap_alloc_new w _
  have c0 : w1.cell? ⟨B, 0, none⟩ = some (.string ⟨#[116, 111, 117, 99, 104]⟩) := cell_of_row _ B 0 _ _ (0, 0) h1
  have c2 : w1.cell? ⟨B, 2, none⟩ = some (.slice A l.length cap) := cell_of_row _ B 2 _ _ (0, 0) h1
  have F1 := Lib.hid f1
  have HW := Lib.hid hw1.symm
  have HB := Lib.hid hB.symm
  clear h hc0 hn hs R0 hw1 hB f1 h1
  go_enter Tryd.func15, Tryd.ntmps15
  go_wp2_with fail
  rw [HW.out, HB.out]
  go_loopw [3] (fun i wr => ∃ j : Nat, j ≤ l.length ∧ i = .int .i64 j ∧ Hid (∀ q k, q < j → l[q]? = some k → keyB k = true) ∧ wr = w1) (fun i _ => l.length - (intOf i).toNat)
  case atStart => exact ⟨0, Nat.zero_le _, rfl, Lib.hid fun q _ hq => absurd hq (by omega), rfl⟩
  case round =>
    obtain ⟨j, hj, rfl, hok, rfl⟩ := hrel
    by_cases hlt : j < l.length
    · obtain ⟨k, hk⟩ : ∃ k, l[j]? = some k := ⟨_, List.getElem?_eq_getElem hlt⟩
      obtain ⟨g, o, hA, hc⟩ := H.out (by omega)
      subst hA
      have c9 := F1.out.cell (hc j k hk) fun h => h
      have hlt1 : (j : Int) < (l.length : Int) := by omega
      have hn := HN.out
      have HK := Lib.hid hk
      have KS : Hid (k.size ≤ 9223372036854775807) := Lib.hid (HS.out k (List.mem_of_getElem? hk))
      have HLT := Lib.hid hlt
      clear hc hk hlt
      cases hb : keyB k with
      | false =>
        have RK := Lib.hid (rkey_eq (w := wr) k KS.out)
        rw [hb] at RK
        have HZ := Lib.hid (badKey_at HK.out hb)
        clear hb hok H
        go_wp2_with fail
        refine RK.out.mono ?_
        rintro e w6 ⟨rfl, h6⟩
        obtain rfl := h6.out
        go_wp2_with fail
        go_ret
        exact ⟨ret_bool (by first | rfl | (rw [HZ.out]; rfl) | (simp [HZ.out]; done) | (simp [HZ.out]; omega)), F1.out⟩
      | true =>
        have RK := Lib.hid (rkey_eq (w := wr) k KS.out)
        rw [hb] at RK
        have HBK := Lib.hid hb
        clear hb
        go_wp2_with fail
        refine RK.out.mono ?_
        rintro e w6 ⟨rfl, h6⟩
        obtain rfl := h6.out
        go_wp2_with fail
        go_roundw
        case rel => exact ⟨j + 1, by have := HLT.out; omega, by go_num, Lib.hid fun q y hq hy => by
          by_cases hqj : q = j
          · subst hqj
            rw [HK.out] at hy
            cases hy
            exact HBK.out
          · exact hok.out q y (by omega) hy, by first | trivial | rfl⟩
        case measure => have := HLT.out; simp [intOf]; omega
    · have hj2 : j = l.length := by omega
      subst hj2
      have HZ := Lib.hid (badKey_no (l := l) fun q y hq hy => hok.out q y hq hy)
      clear hok H hlt
      go_wp2_with fail
      go_ret
      exact ⟨ret_bool (by first | rfl | (rw [HZ.out]; rfl) | (simp [HZ.out]; done) | (simp [HZ.out]; omega)), F1.out⟩

set_option linter.unusedSimpArgs false in
set_option maxHeartbeats 8000000 in
set_option maxRecDepth 100000 in
theorem good18_delete {w : World} {l : List ByteArray} (b d : ByteArray) (v : Value) (n1 n2 n3 n4 : Int) (b1 b2 b3 b4 : Bool) (h : RdS w v l) (hn : l.length ≤ 1000000000) (hs : ∀ k ∈ l, k.size ≤ 9223372036854775807) : Calls Tryd.prog 15 #[.agg #[.string ⟨#[100, 101, 108, 101, 116, 101]⟩, .string b, v, .string d, .int .u32 n1, .int .i64 n2, .int .u64 n3, .int .u64 n4, .bool b1, .bool b2, .bool b3, .bool b4]] w fun e w' => e = .returned (.bool (!badKey l && (true))) ∧ Fr Nob w w' := by
  have R0 := h
  obtain ⟨A, cap, rfl, hc0, h⟩ := h
  have H := Lib.hid h
  have HN := Lib.hid hn
  have HS := Lib.hid hs
  obtain ⟨w1, hw1⟩ : ∃ w1, w1 = w.alloc (.cells #[.string ⟨#[100, 101, 108, 101, 116, 101]⟩, .string b, .slice A l.length cap, .string d, .int .u32 n1, .int .i64 n2, .int .u64 n3, .int .u64 n4, .bool b1, .bool b2, .bool b3, .bool b4] 31) := ⟨_, rfl⟩
  obtain ⟨B, hB⟩ : ∃ B, B = w.heap.size := ⟨_, rfl⟩
  have f1 : Fr Nob w w1 := by rw [hw1]; exact frB _
  have h1 : w1.heap[B]? = some (.cells #[.string ⟨#[100, 101, 108, 101, 116, 101]⟩, .string b, .slice A l.length cap, .string d, .int .u32 n1, .int .i64 n2, .int .u64 n3, .int .u64 n4, .bool b1, .bool b2, .bool b3, .bool b4] 31 (0, 0)) := by rw [hw1, hB]; exact heap_alloc_new w _
  have c0 : w1.cell? ⟨B, 0, none⟩ = some (.string ⟨#[100, 101, 108, 101, 116, 101]⟩) := cell_of_row _ B 0 _ _ (0, 0) h1
  have c2 : w1.cell? ⟨B, 2, none⟩ = some (.slice A l.length cap) := cell_of_row _ B 2 _ _ (0, 0) h1
  have F1 := Lib.hid f1
  have HW := Lib.hid hw1.symm
  have HB := Lib.hid hB.symm
  clear h hc0 hn hs R0 hw1 hB f1 h1
  go_enter Tryd.func15, Tryd.ntmps15
  go_wp2_with fail
  rw [HW.out, HB.out]
  go_loopw [3] (fun i wr => ∃ j : Nat, j ≤ l.length ∧ i = .int .i64 j ∧ Hid (∀ q k, q < j → l[q]? = some k → keyB k = true) ∧ wr = w1) (fun i _ => l.length - (intOf i).toNat)
  case atStart => exact ⟨0, Nat.zero_le _, rfl, Lib.hid fun q _ hq => absurd hq (by omega), rfl⟩
  case round =>
    obtain ⟨j, hj, rfl, hok, rfl⟩ := hrel
    by_cases hlt : j < l.length
    · obtain ⟨k, hk⟩ : ∃ k, l[j]? = some k := ⟨_, List.getElem?_eq_getElem hlt⟩
      obtain ⟨g, o, hA, hc⟩ := H.out (by omega)
      subst hA
      have c9 := F1.out.cell (hc j k hk) fun h => h
      have hlt1 : (j : Int) < (l.length : Int) := by omega
      have hn := HN.out
      have HK := Lib.hid hk
      have KS : Hid (k.size ≤ 9223372036854775807) := Lib.hid (HS.out k (List.mem_of_getElem? hk))
      have HLT := Lib.hid hlt
      clear hc hk hlt
      cases hb : keyB k with
      | false =>
        have RK := Lib.hid (rkey_eq (w := wr) k KS.out)
        rw [hb] at RK
        have HZ := Lib.hid (badKey_at HK.out hb)
        clear hb hok H
        go_wp2_with fail
        refine RK.out.mono ?_
        rintro e w6 ⟨rfl, h6⟩
        obtain rfl := h6.out
        go_wp2_with fail
        go_ret
        exact ⟨ret_bool (by first | rfl | (rw [HZ.out]; rfl) | (simp [HZ.out]; done) | (simp [HZ.out]; omega)), F1.out⟩
      | true =>
        have RK := Lib.hid (rkey_eq (w := wr) k KS.out)
        rw [hb] at RK
        have HBK := Lib.hid hb
        clear hb
        go_wp2_with fail
        refine RK.out.mono ?_
        rintro e w6 ⟨rfl, h6⟩
        obtain rfl := h6.out
        go_wp2_with fail
        go_roundw
        case rel => exact ⟨j + 1, by have := HLT.out; omega, by go_num, Lib.hid fun q y hq hy => by
          by_cases hqj : q = j
          · subst hqj
            rw [HK.out] at hy
            cases hy
            exact HBK.out
          · exact hok.out q y (by omega) hy, by first | trivial | rfl⟩
        case measure => have := HLT.out; simp [intOf]; omega
    · have hj2 : j = l.length := by omega
      subst hj2
      have HZ := Lib.hid (badKey_no (l := l) fun q y hq hy => hok.out q y hq hy)
      clear hok H hlt
      go_wp2_with fail
      go_ret
      exact ⟨ret_bool (by first | rfl | (rw [HZ.out]; rfl) | (simp [HZ.out]; done) | (simp [HZ.out]; omega)), F1.out⟩

set_option linter.unusedSimpArgs false in
set_option maxHeartbeats 8000000 in
set_option maxRecDepth 100000 in
theorem good18_flush {w : World} {l : List ByteArray} (b d : ByteArray) (v : Value) (n1 n2 n3 n4 : Int) (b1 b2 b3 b4 : Bool) (h : RdS w v l) (hn : l.length ≤ 1000000000) (hs : ∀ k ∈ l, k.size ≤ 9223372036854775807) : Calls Tryd.prog 15 #[.agg #[.string ⟨#[102, 108, 117, 115, 104]⟩, .string b, v, .string d, .int .u32 n1, .int .i64 n2, .int .u64 n3, .int .u64 n4, .bool b1, .bool b2, .bool b3, .bool b4]] w fun e w' => e = .returned (.bool (!badKey l && (true))) ∧ Fr Nob w w' := by
  have R0 := h
  obtain ⟨A, cap, rfl, hc0, h⟩ := h
  have H := Lib.hid h
  have HN := Lib.hid hn
  have HS := Lib.hid hs
  obtain ⟨w1, hw1⟩ : ∃ w1, w1 = w.alloc (.cells #[.string ⟨#[102, 108, 117, 115, 104]⟩, .string b, .slice A l.length cap, .string d, .int .u32 n1, .int .i64 n2, .int .u64 n3, .int .u64 n4, .bool b1, .bool b2, .bool b3, .bool b4] 31) := ⟨_, rfl⟩
  obtain ⟨B, hB⟩ : ∃ B, B = w.heap.size := ⟨_, rfl⟩
  have f1 : Fr Nob w w1 := by rw [hw1]; exact frB _
  have h1 : w1.heap[B]? = some (.cells #[.string ⟨#[102, 108, 117, 115, 104]⟩, .string b, .slice A l.length cap, .string d, .int .u32 n1, .int .i64 n2, .int .u64 n3, .int .u64 n4, .bool b1, .bool b2, .bool b3, .bool b4] 31 (0, 0)) := by rw [hw1, hB]; exact heap_alloc_new w _
  have c0 : w1.cell? ⟨B, 0, none⟩ = some (.string ⟨#[102, 108, 117, 115, 104]⟩) := cell_of_row _ B 0 _ _ (0, 0) h1
  have c2 : w1.cell? ⟨B, 2, none⟩ = some (.slice A l.length cap) := cell_of_row _ B 2 _ _ (0, 0) h1
  have F1 := Lib.hid f1
  have HW := Lib.hid hw1.symm
  have HB := Lib.hid hB.symm
  clear h hc0 hn hs R0 hw1 hB f1 h1
  go_enter Tryd.func15, Tryd.ntmps15
  go_wp2_with fail
  rw [HW.out, HB.out]
  go_loopw [3] (fun i wr => ∃ j : Nat, j ≤ l.length ∧ i = .int .i64 j ∧ Hid (∀ q k, q < j → l[q]? = some k → keyB k = true) ∧ wr = w1) (fun i _ => l.length - (intOf i).toNat)
  case atStart => exact ⟨0, Nat.zero_le _, rfl, Lib.hid fun q _ hq => absurd hq (by omega), rfl⟩
  case round =>
    obtain ⟨j, hj, rfl, hok, rfl⟩ := hrel
    by_cases hlt : j < l.length
    · obtain ⟨k, hk⟩ : ∃ k, l[j]? = some k := ⟨_, List.getElem?_eq_getElem hlt⟩
      obtain ⟨g, o, hA, hc⟩ := H.out (by omega)
      subst hA
      have c9 := F1.out.cell (hc j k hk) fun h => h
      have hlt1 : (j : Int) < (l.length : Int) := by omega
      have hn := HN.out
      have HK := Lib.hid hk
      have KS : Hid (k.size ≤ 9223372036854775807) := Lib.hid (HS.out k (List.mem_of_getElem? hk))
      have HLT := Lib.hid hlt
      clear hc hk hlt
      cases hb : keyB k with
      | false =>
        have RK := Lib.hid (rkey_eq (w := wr) k KS.out)
        rw [hb] at RK
        have HZ := Lib.hid (badKey_at HK.out hb)
        clear hb hok H
        go_wp2_with fail
        refine RK.out.mono ?_
        rintro e w6 ⟨rfl, h6⟩
        obtain rfl := h6.out
        go_wp2_with fail
        go_ret
        exact ⟨ret_bool (by first | rfl | (rw [HZ.out]; rfl) | (simp [HZ.out]; done) | (simp [HZ.out]; omega)), F1.out⟩
      | true =>
        have RK := Lib.hid (rkey_eq (w := wr) k KS.out)
        rw [hb] at RK
        have HBK := Lib.hid hb
        clear hb
        go_wp2_with fail
        refine RK.out.mono ?_
        rintro e w6 ⟨rfl, h6⟩
        obtain rfl := h6.out
        go_wp2_with fail
        go_roundw
        case rel => exact ⟨j + 1, by have := HLT.out; omega, by go_num, Lib.hid fun q y hq hy => by
          by_cases hqj : q = j
          · subst hqj
            rw [HK.out] at hy
            cases hy
            exact HBK.out
          · exact hok.out q y (by omega) hy, by first | trivial | rfl⟩
        case measure => have := HLT.out; simp [intOf]; omega
    · have hj2 : j = l.length := by omega
      subst hj2
      have HZ := Lib.hid (badKey_no (l := l) fun q y hq hy => hok.out q y hq hy)
      clear hok H hlt
      go_wp2_with fail
      go_ret
      exact ⟨ret_bool (by first | rfl | (rw [HZ.out]; rfl) | (simp [HZ.out]; done) | (simp [HZ.out]; omega)), F1.out⟩

set_option linter.unusedSimpArgs false in
set_option maxHeartbeats 8000000 in
set_option maxRecDepth 100000 in
theorem good18_bad {w : World} {l : List ByteArray} (b d : ByteArray) (v : Value) (n1 n2 n3 n4 : Int) (b1 b2 b3 b4 : Bool) (h : RdS w v l) (hn : l.length ≤ 1000000000) (hs : ∀ k ∈ l, k.size ≤ 9223372036854775807) : Calls Tryd.prog 15 #[.agg #[.string ⟨#[98, 97, 100]⟩, .string b, v, .string d, .int .u32 n1, .int .i64 n2, .int .u64 n3, .int .u64 n4, .bool b1, .bool b2, .bool b3, .bool b4]] w fun e w' => e = .returned (.bool (!badKey l && (false))) ∧ Fr Nob w w' := by
  have R0 := h
  obtain ⟨A, cap, rfl, hc0, h⟩ := h
  have H := Lib.hid h
  have HN := Lib.hid hn
  have HS := Lib.hid hs
  obtain ⟨w1, hw1⟩ : ∃ w1, w1 = w.alloc (.cells #[.string ⟨#[98, 97, 100]⟩, .string b, .slice A l.length cap, .string d, .int .u32 n1, .int .i64 n2, .int .u64 n3, .int .u64 n4, .bool b1, .bool b2, .bool b3, .bool b4] 31) := ⟨_, rfl⟩
  obtain ⟨B, hB⟩ : ∃ B, B = w.heap.size := ⟨_, rfl⟩
  have f1 : Fr Nob w w1 := by rw [hw1]; exact frB _
  have h1 : w1.heap[B]? = some (.cells #[.string ⟨#[98, 97, 100]⟩, .string b, .slice A l.length cap, .string d, .int .u32 n1, .int .i64 n2, .int .u64 n3, .int .u64 n4, .bool b1, .bool b2, .bool b3, .bool b4] 31 (0, 0)) := by rw [hw1, hB]; exact heap_alloc_new w _
  have c0 : w1.cell? ⟨B, 0, none⟩ = some (.string ⟨#[98, 97, 100]⟩) := cell_of_row _ B 0 _ _ (0, 0) h1
  have c2 : w1.cell? ⟨B, 2, none⟩ = some (.slice A l.length cap) := cell_of_row _ B 2 _ _ (0, 0) h1
  have F1 := Lib.hid f1
  have HW := Lib.hid hw1.symm
  have HB := Lib.hid hB.symm
  clear h hc0 hn hs R0 hw1 hB f1 h1
  go_enter Tryd.func15, Tryd.ntmps15
  go_wp2_with fail
  rw [HW.out, HB.out]
  go_loopw [3] (fun i wr => ∃ j : Nat, j ≤ l.length ∧ i = .int .i64 j ∧ Hid (∀ q k, q < j → l[q]? = some k → keyB k = true) ∧ wr = w1) (fun i _ => l.length - (intOf i).toNat)
  case atStart => exact ⟨0, Nat.zero_le _, rfl, Lib.hid fun q _ hq => absurd hq (by omega), rfl⟩
  case round =>
    obtain ⟨j, hj, rfl, hok, rfl⟩ := hrel
    by_cases hlt : j < l.length
    · obtain ⟨k, hk⟩ : ∃ k, l[j]? = some k := ⟨_, List.getElem?_eq_getElem hlt⟩
      obtain ⟨g, o, hA, hc⟩ := H.out (by omega)
      subst hA
      have c9 := F1.out.cell (hc j k hk) fun h => h
      have hlt1 : (j : Int) < (l.length : Int) := by omega
      have hn := HN.out
      have HK := Lib.hid hk
      have KS : Hid (k.size ≤ 9223372036854775807) := Lib.hid (HS.out k (List.mem_of_getElem? hk))
      have HLT := Lib.hid hlt
      clear hc hk hlt
      cases hb : keyB k with
      | false =>
        have RK := Lib.hid (rkey_eq (w := wr) k KS.out)
        rw [hb] at RK
        have HZ := Lib.hid (badKey_at HK.out hb)
        clear hb hok H
        go_wp2_with fail
        refine RK.out.mono ?_
        rintro e w6 ⟨rfl, h6⟩
        obtain rfl := h6.out
        go_wp2_with fail
        go_ret
        exact ⟨ret_bool (by first | rfl | (rw [HZ.out]; rfl) | (simp [HZ.out]; done) | (simp [HZ.out]; omega)), F1.out⟩
      | true =>
        have RK := Lib.hid (rkey_eq (w := wr) k KS.out)
        rw [hb] at RK
        have HBK := Lib.hid hb
        clear hb
        go_wp2_with fail
        refine RK.out.mono ?_
        rintro e w6 ⟨rfl, h6⟩
        obtain rfl := h6.out
        go_wp2_with fail
        go_roundw
        case rel => exact ⟨j + 1, by have := HLT.out; omega, by go_num, Lib.hid fun q y hq hy => by
          by_cases hqj : q = j
          · subst hqj
            rw [HK.out] at hy
            cases hy
            exact HBK.out
          · exact hok.out q y (by omega) hy, by first | trivial | rfl⟩
        case measure => have := HLT.out; simp [intOf]; omega
    · have hj2 : j = l.length := by omega
      subst hj2
      have HZ := Lib.hid (badKey_no (l := l) fun q y hq hy => hok.out q y hq hy)
      clear hok H hlt
      go_wp2_with fail
      go_ret
      exact ⟨ret_bool (by first | rfl | (rw [HZ.out]; rfl) | (simp [HZ.out]; done) | (simp [HZ.out]; omega)), F1.out⟩

set_option linter.unusedSimpArgs false in
set_option maxHeartbeats 8000000 in
set_option maxRecDepth 100000 in
theorem good18_word {w : World} {l : List ByteArray} (b d : ByteArray) (v : Value) (n1 n2 n3 n4 : Int) (b1 b2 b3 b4 : Bool) (h : RdS w v l) (hn : l.length ≤ 1000000000) (hs : ∀ k ∈ l, k.size ≤ 9223372036854775807) : Calls Tryd.prog 15 #[.agg #[.string ⟨#[119, 111, 114, 100]⟩, .string b, v, .string d, .int .u32 n1, .int .i64 n2, .int .u64 n3, .int .u64 n4, .bool b1, .bool b2, .bool b3, .bool b4]] w fun e w' => e = .returned (.bool (!badKey l && (decide (b = ⟨#[118, 101, 114, 115, 105, 111, 110]⟩) || decide (b = ⟨#[113, 117, 105, 116]⟩)))) ∧ Fr Nob w w' := by
  have R0 := h
  obtain ⟨A, cap, rfl, hc0, h⟩ := h
  have H := Lib.hid h
  have HN := Lib.hid hn
  have HS := Lib.hid hs
  obtain ⟨w1, hw1⟩ : ∃ w1, w1 = w.alloc (.cells #[.string ⟨#[119, 111, 114, 100]⟩, .string b, .slice A l.length cap, .string d, .int .u32 n1, .int .i64 n2, .int .u64 n3, .int .u64 n4, .bool b1, .bool b2, .bool b3, .bool b4] 31) := ⟨_, rfl⟩
  obtain ⟨B, hB⟩ : ∃ B, B = w.heap.size := ⟨_, rfl⟩
  have f1 : Fr Nob w w1 := by rw [hw1]; exact frB _
  have h1 : w1.heap[B]? = some (.cells #[.string ⟨#[119, 111, 114, 100]⟩, .string b, .slice A l.length cap, .string d, .int .u32 n1, .int .i64 n2, .int .u64 n3, .int .u64 n4, .bool b1, .bool b2, .bool b3, .bool b4] 31 (0, 0)) := by rw [hw1, hB]; exact heap_alloc_new w _
  have c0 : w1.cell? ⟨B, 0, none⟩ = some (.string ⟨#[119, 111, 114, 100]⟩) := cell_of_row _ B 0 _ _ (0, 0) h1
  have c1 : w1.cell? ⟨B, 1, none⟩ = some (.string b) := cell_of_row _ B 1 _ _ (0, 0) h1
  have c2 : w1.cell? ⟨B, 2, none⟩ = some (.slice A l.length cap) := cell_of_row _ B 2 _ _ (0, 0) h1
  have F1 := Lib.hid f1
  have HW := Lib.hid hw1.symm
  have HB := Lib.hid hB.symm
  clear h hc0 hn hs R0 hw1 hB f1 h1
  go_enter Tryd.func15, Tryd.ntmps15
  go_wp2_with fail
  rw [HW.out, HB.out]
  go_loopw [3] (fun i wr => ∃ j : Nat, j ≤ l.length ∧ i = .int .i64 j ∧ Hid (∀ q k, q < j → l[q]? = some k → keyB k = true) ∧ wr = w1) (fun i _ => l.length - (intOf i).toNat)
  case atStart => exact ⟨0, Nat.zero_le _, rfl, Lib.hid fun q _ hq => absurd hq (by omega), rfl⟩
  case round =>
    obtain ⟨j, hj, rfl, hok, rfl⟩ := hrel
    by_cases hlt : j < l.length
    · obtain ⟨k, hk⟩ : ∃ k, l[j]? = some k := ⟨_, List.getElem?_eq_getElem hlt⟩
      obtain ⟨g, o, hA, hc⟩ := H.out (by omega)
      subst hA
      have c9 := F1.out.cell (hc j k hk) fun h => h
      have hlt1 : (j : Int) < (l.length : Int) := by omega
      have hn := HN.out
      have HK := Lib.hid hk
      have KS : Hid (k.size ≤ 9223372036854775807) := Lib.hid (HS.out k (List.mem_of_getElem? hk))
      have HLT := Lib.hid hlt
      clear hc hk hlt
      cases hb : keyB k with
      | false =>
        have RK := Lib.hid (rkey_eq (w := wr) k KS.out)
        rw [hb] at RK
        have HZ := Lib.hid (badKey_at HK.out hb)
        clear hb hok H
        go_wp2_with fail
        refine RK.out.mono ?_
        rintro e w6 ⟨rfl, h6⟩
        obtain rfl := h6.out
        go_wp2_with fail
        go_ret
        exact ⟨ret_bool (by first | rfl | (rw [HZ.out]; rfl) | (simp [HZ.out]; done) | (simp [HZ.out]; omega)), F1.out⟩
      | true =>
        have RK := Lib.hid (rkey_eq (w := wr) k KS.out)
        rw [hb] at RK
        have HBK := Lib.hid hb
        clear hb
        go_wp2_with fail
        refine RK.out.mono ?_
        rintro e w6 ⟨rfl, h6⟩
        obtain rfl := h6.out
        go_wp2_with fail
        go_roundw
        case rel => exact ⟨j + 1, by have := HLT.out; omega, by go_num, Lib.hid fun q y hq hy => by
          by_cases hqj : q = j
          · subst hqj
            rw [HK.out] at hy
            cases hy
            exact HBK.out
          · exact hok.out q y (by omega) hy, by first | trivial | rfl⟩
        case measure => have := HLT.out; simp [intOf]; omega
    · have hj2 : j = l.length := by omega
      subst hj2
      have HZ := Lib.hid (badKey_no (l := l) fun q y hq hy => hok.out q y hq hy)
      clear hok H hlt
      by_cases e1 : b = ⟨#[118, 101, 114, 115, 105, 111, 110]⟩
      · subst e1
        go_wp2_with fail
        go_ret
        exact ⟨ret_bool (by first | rfl | (rw [HZ.out, decide_eq_true rfl]; rfl) | (simp [HZ.out, decide_eq_true rfl]; done) | (simp [HZ.out, decide_eq_true rfl]; omega)), F1.out⟩
      · have x1 := lit_ne e1
        have E1 := Lib.hid e1
        by_cases e2 : b = ⟨#[113, 117, 105, 116]⟩
        · subst e2
          go_wp2_with fail
          go_ret
          exact ⟨ret_bool (by first | rfl | (rw [HZ.out, decide_eq_false E1.out, decide_eq_true rfl]; rfl) | (simp [HZ.out, decide_eq_false E1.out, decide_eq_true rfl]; done) | (simp [HZ.out, decide_eq_false E1.out, decide_eq_true rfl]; omega)), F1.out⟩
        · have x2 := lit_ne e2
          have E2 := Lib.hid e2
          clear e1 e2
          go_wp2_with fail
          go_ret
          exact ⟨ret_bool (by first | rfl | (rw [HZ.out, decide_eq_false E1.out, decide_eq_false E2.out]; rfl) | (simp [HZ.out, decide_eq_false E1.out, decide_eq_false E2.out]; done) | (simp [HZ.out, decide_eq_false E1.out, decide_eq_false E2.out]; omega)), F1.out⟩

set_option maxHeartbeats 8000000 in
set_option maxRecDepth 100000 in
theorem good18_none {w : World} (v : Value) (hv : ∃ A c, v = .slice A 0 c) : Calls Tryd.prog 15 #[.agg #[.string ⟨#[]⟩, .string ⟨#[]⟩, v, .string ⟨#[]⟩, .int .u32 0, .int .i64 0, .int .u64 0, .int .u64 0, .bool false, .bool false, .bool false, .bool false]] w fun e w' => e = .returned (.bool false) ∧ Fr Nob w w' := by
  obtain ⟨A, c, rfl⟩ := hv
  have f1 : Hid (Fr Nob w (w.alloc (.cells #[.string ⟨#[]⟩, .string ⟨#[]⟩, .slice A 0 c, .string ⟨#[]⟩, .int .u32 0, .int .i64 0, .int .u64 0, .int .u64 0, .bool false, .bool false, .bool false, .bool false] 31))) := Lib.hid (frB _)
  go_enter Tryd.func15, Tryd.ntmps15
  go_wp2_with fail
  go_loop [3] (fun i => i = .int .i64 0) (fun _ => 0)
  case atStart => rfl
  case round =>
    subst hrel
    go_wp2_with fail
    go_ret
    exact ⟨rfl, f1.out⟩
end Go.Proofs.YthfhlbnjahakaaaDoor
