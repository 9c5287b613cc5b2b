/-
  Law 5: awake.
-/
import Derived.Test.YtpdljgjofebgpaaSupF
import Derived.Laws.StructEq
namespace Go.Proofs.Ytpdljgjofebgpaa
open Go.RowKit

deriving instance DecidableEq for Blk
theorem blk_eql (a b : Blk) (w : World) : (binOp .eql 29 (.agg (blkV a)) (.agg (blkV b))).run Try.prog w = .ok (.bool (decide (a = b))) w := by
  have hS : Try.prog.underlying 29 = some (.struct (Try.prog.fieldsOf 29)) := by kernel_rfl
  have hp : Try.prog.stoodInHeld 29 = false := by kernel_rfl
  have u27 := Try.underlying27
  have u3 := Try.underlying3
  have u4 := Try.underlying4
  have a27 := Try.isAgg27
  have a3 := Try.isAgg3
  have a4 := Try.isAgg4
  have z27 := Try.sizeOf27
  have z3 := Try.sizeOf3
  have z4 := Try.sizeOf4
  obtain ⟨x0, x1, x2, x3, x4, cl, im⟩ := a
  obtain ⟨y0, y1, y2, y3, y4, cm, jm⟩ := b
  rw [run_eql_struct, show (10000 : Nat) = 9999 + 1 from rfl, run_equalIn_agg w 9999 29 _ _ hS hp]
  simp only [blkV, Program.fieldsOf, Try.underlying29]
  go_simp
  by_cases h0 : x0 = y0 <;> by_cases h1 : x1 = y1 <;> by_cases h2 : x2 = y2 <;> by_cases h3 : x3 = y3 <;> by_cases h4 : x4 = y4 <;> by_cases h5 : cl = cm <;> by_cases h6 : im = jm <;> simp [h0, h1, h2, h3, h4, h5, h6] <;> omega
theorem dB_eql (w : World) : (binOp .eql 29 (.agg #[.int .u64 1, .int .u64 1, .int .u64 0, .int .u64 0, .int .u64 0, .bool false, .int .i64 0]) (.agg #[.int .u64 1, .int .u64 1, .int .u64 0, .int .u64 0, .int .u64 0, .bool false, .int .i64 0])).run Try.prog w = .ok (.bool true) w := by
  have := blk_eql dB dB w
  rwa [show decide (dB = dB) = true from decide_eq_true rfl] at this

set_option maxRecDepth 100000 in
set_option maxHeartbeats 2000000 in
theorem awake5_eq (w : World) : Calls Try.prog 23 #[] w fun e w' => e = .returned (.bool true) ∧ Fr Nob w w' := by
  have HEQ := Lib.hid dB_eql
  go_enter Try.func23, Try.ntmps23
  go_wp2_with fail
  refine (DL.new (n := 2) (Fr.refl Nob w) (by omega) (by omega)).mono ?_
  rintro e w1 ⟨q, K, rfl, d, _, _⟩
  have D := Lib.hid d
  clear d
  go_wp2_with fail
  have L1 : Calls Try.prog 25 #[.pointer (some ⟨q, 0, none⟩)] w1 fun e w' => e = .returned (.tuple #[.agg #[.int .u64 0, .int .u64 0, .int .u64 0, .int .u64 0, .int .u64 0, .bool false, .int .i64 0], .int .i64 5]) ∧ DL w w' q K Nob dN ∧ Fr K w1 w' := load_eq D.out (by decide) (by decide) rfl none new_load
  refine L1.mono ?_
  rintro e w2 ⟨rfl, d, _⟩
  have D2 := Lib.hid d
  clear d L1 D
  go_wp2_with fail
  have d := D2.out.nob ((Fr.refl Nob w2).alloc (.cells #[.int .u64 0, .int .u64 0, .int .u64 0, .int .u64 0, .int .u64 0, .bool false, .int .i64 0] 29))
  generalize w2.alloc (.cells #[.int .u64 0, .int .u64 0, .int .u64 0, .int .u64 0, .int .u64 0, .bool false, .int .i64 0] 29) = w3 at *
  have S1 : Calls Try.prog 26 #[.pointer (some ⟨q, 0, none⟩), .agg #[.int .u64 0, .int .u64 1, .int .u64 0, .int .u64 0, .int .u64 0, .bool false, .int .i64 0]] w3 fun e w' => e = .returned (.tuple #[.agg #[.int .u64 1, .int .u64 1, .int .u64 0, .int .u64 0, .int .u64 0, .bool false, .int .i64 0], .int .i64 0]) ∧ DL w w' q K Nob dS ∧ Fr K w3 w' := by
    have h := store_eq d (by decide) (by decide) rfl dB0 dB0_ok (by rw [dN_seq]; decide) false false dN_bw dN_bf
    rw [stB_dN, show stD dN dB0 false = stF dN dB0 from rfl, stF_dN] at h
    exact h
  refine S1.mono ?_
  rintro e w4 ⟨rfl, d4, _⟩
  have D4 := Lib.hid d4
  clear d d4 S1 D2
  go_wp2_with fail
  have fa := (Fr.refl Nob w4).alloc (.cells #[.int .u64 1, .int .u64 1, .int .u64 0, .int .u64 0, .int .u64 0, .bool false, .int .i64 0] 29)
  have h5 := heap_alloc_new w4 (.cells #[.int .u64 1, .int .u64 1, .int .u64 0, .int .u64 0, .int .u64 0, .bool false, .int .i64 0] 29)
  obtain ⟨R5, hR5⟩ : ∃ R, R = w4.heap.size := ⟨_, rfl⟩
  have K5 : Hid (¬ K R5) := Lib.hid (D4.out.fresh R5 (by rw [hR5]; exact Nat.le_refl _))
  have d := D4.out.nob fa
  rw [← hR5] at h5 ⊢
  generalize w4.alloc (.cells #[.int .u64 1, .int .u64 1, .int .u64 0, .int .u64 0, .int .u64 0, .bool false, .int .i64 0] 29) = w5 at *
  have L2 : Calls Try.prog 25 #[.pointer (some ⟨q, 0, none⟩)] w5 fun e w' => e = .returned (.tuple #[.agg #[.int .u64 1, .int .u64 1, .int .u64 0, .int .u64 0, .int .u64 0, .bool false, .int .i64 0], .int .i64 0]) ∧ DL w w' q K Nob (reads dS 2) ∧ Fr K w5 w' := load_eq d (by decide) (by decide) rfl (some dB) dS_load
  have H5 := Lib.hid h5
  clear fa h5 hR5 d
  refine L2.mono ?_
  rintro e w6 ⟨rfl, d6, f6⟩
  have D6 := Lib.hid d6
  have V5 := f6.heap H5.out K5.out
  clear L2 H5 D4 d6 f6
  have fa := (Fr.refl Nob w6).alloc (.cells #[.int .u64 1, .int .u64 1, .int .u64 0, .int .u64 0, .int .u64 0, .bool false, .int .i64 0] 29)
  have h7 := heap_alloc_new w6 (.cells #[.int .u64 1, .int .u64 1, .int .u64 0, .int .u64 0, .int .u64 0, .bool false, .int .i64 0] 29)
  obtain ⟨R7, hR7⟩ : ∃ R, R = w6.heap.size := ⟨_, rfl⟩
  have K7 : Hid (¬ K R7) := Lib.hid (D6.out.fresh R7 (by rw [hR7]; exact Nat.le_refl _))
  have D7 := Lib.hid (D6.out.nob fa)
  have V5a := fa.heap V5 fun h => h
  rw [← hR7] at h7
  have H5 := Lib.hid V5a
  have H7 := Lib.hid h7
  have R7E := Lib.hid hR7
  have n0 : (w6.alloc (.cells #[.int .u64 1, .int .u64 1, .int .u64 0, .int .u64 0, .int .u64 0, .bool false, .int .i64 0] 29)).cell? ⟨R5, 0, none⟩ = some (.int .u64 1) := cell_of_row _ R5 0 _ _ (0, 0) V5a
  have n1 : (w6.alloc (.cells #[.int .u64 1, .int .u64 1, .int .u64 0, .int .u64 0, .int .u64 0, .bool false, .int .i64 0] 29)).cell? ⟨R5, 1, none⟩ = some (.int .u64 1) := cell_of_row _ R5 1 _ _ (0, 0) V5a
  have n2 : (w6.alloc (.cells #[.int .u64 1, .int .u64 1, .int .u64 0, .int .u64 0, .int .u64 0, .bool false, .int .i64 0] 29)).cell? ⟨R5, 2, none⟩ = some (.int .u64 0) := cell_of_row _ R5 2 _ _ (0, 0) V5a
  have n3 : (w6.alloc (.cells #[.int .u64 1, .int .u64 1, .int .u64 0, .int .u64 0, .int .u64 0, .bool false, .int .i64 0] 29)).cell? ⟨R5, 3, none⟩ = some (.int .u64 0) := cell_of_row _ R5 3 _ _ (0, 0) V5a
  have n4 : (w6.alloc (.cells #[.int .u64 1, .int .u64 1, .int .u64 0, .int .u64 0, .int .u64 0, .bool false, .int .i64 0] 29)).cell? ⟨R5, 4, none⟩ = some (.int .u64 0) := cell_of_row _ R5 4 _ _ (0, 0) V5a
  have n5 : (w6.alloc (.cells #[.int .u64 1, .int .u64 1, .int .u64 0, .int .u64 0, .int .u64 0, .bool false, .int .i64 0] 29)).cell? ⟨R5, 5, none⟩ = some (.bool false) := cell_of_row _ R5 5 _ _ (0, 0) V5a
  have n6 : (w6.alloc (.cells #[.int .u64 1, .int .u64 1, .int .u64 0, .int .u64 0, .int .u64 0, .bool false, .int .i64 0] 29)).cell? ⟨R5, 6, none⟩ = some (.int .i64 0) := cell_of_row _ R5 6 _ _ (0, 0) V5a
  clear fa h7 hR7 V5 V5a D6
  go_wp2_with fail
  rw [← R7E.out]
  generalize w6.alloc (.cells #[.int .u64 1, .int .u64 1, .int .u64 0, .int .u64 0, .int .u64 0, .bool false, .int .i64 0] 29) = w7 at *
  clear n0 n1 n2 n3 n4 n5 n6
  have E1 : Calls Try.prog 28 #[.agg #[.int .u64 1, .int .u64 1, .int .u64 0, .int .u64 0, .int .u64 0, .bool false, .int .i64 0]] w7 fun e w' => ∃ g, e = .returned (.slice (some ⟨g, 0, none⟩) 64 64) ∧ bytesAt w' g (enc dB) ∧ Fr Nob w7 w' ∧ w7.heap.size ≤ g := encode_eq dB dB_ok w7
  refine E1.mono ?_
  rintro e w8 ⟨g, rfl, row, f8, _⟩
  have D8 := Lib.hid (D7.out.nob f8)
  replace H5 := Lib.hid (f8.heap H5.out fun h => h)
  replace H7 := Lib.hid (f8.heap H7.out fun h => h)
  have hde : dec (enc dB) = some dB := by
    have := dec_enc dB_ok []
    rwa [List.append_nil, dB_norm] at this
  have DEC : Calls Try.prog 27 #[.slice (some ⟨g, 0, none⟩) 64 64] w8 fun e w' => e = .returned (.tuple #[.agg #[.int .u64 1, .int .u64 1, .int .u64 0, .int .u64 0, .int .u64 0, .bool false, .int .i64 0], .int .i64 0]) ∧ Fr Nob w8 w' := decode_eq (w := w8) (v := .slice (some ⟨g, 0, none⟩) 64 64) ⟨RdB.of_block' row (enc_len _), _, _, _, rfl, Nat.le_refl _, by omega⟩ _ hde
  clear row f8 hde E1 D7
  go_wp2_with fail
  refine DEC.mono ?_
  rintro e w9 ⟨rfl, f9⟩
  have D9 := Lib.hid (D8.out.nob f9)
  replace H5 := Lib.hid (f9.heap H5.out fun h => h)
  replace H7 := Lib.hid (f9.heap H7.out fun h => h)
  clear f9 DEC D8
  go_wp2_with fail
  have fa := (Fr.refl Nob w9).alloc (.cells #[.int .u64 1, .int .u64 1, .int .u64 0, .int .u64 0, .int .u64 0, .bool false, .int .i64 0] 29)
  have h9 := heap_alloc_new w9 (.cells #[.int .u64 1, .int .u64 1, .int .u64 0, .int .u64 0, .int .u64 0, .bool false, .int .i64 0] 29)
  obtain ⟨R9, hR9⟩ : ∃ R, R = w9.heap.size := ⟨_, rfl⟩
  have K9 : Hid (¬ K R9) := Lib.hid (D9.out.fresh R9 (by rw [hR9]; exact Nat.le_refl _))
  have d := D9.out.nob fa
  rw [← hR9] at h9 ⊢
  replace H5 := Lib.hid (fa.heap H5.out fun h => h)
  replace H7 := Lib.hid (fa.heap H7.out fun h => h)
  have H9 := Lib.hid h9
  generalize w9.alloc (.cells #[.int .u64 1, .int .u64 1, .int .u64 0, .int .u64 0, .int .u64 0, .bool false, .int .i64 0] 29) = w10 at *
  have RD : Calls Try.prog 32 #[.pointer (some ⟨q, 0, none⟩), .int .i64 1] w10 fun e w' => ∃ v, e = .returned (.tuple #[v, .int .i64 0]) ∧ RdC w' v (pad (enc dB)) ∧ DL w w' q K Nob (reads dS 2).read ∧ Fr K w10 w' ∧ ∀ k, v.ownBlock = some k → w10.heap.size ≤ k := d.read_any (i := 1) (by decide) rfl (.whole (pad (enc dB))) rfl
  clear fa h9 hR9 d D9
  refine RD.mono ?_
  rintro e w11 ⟨v, rfl, _, d11, f11, _⟩
  have v5 := f11.heap H5.out K5.out
  have v7 := f11.heap H7.out K7.out
  have v9 := f11.heap H9.out K9.out
  have D11 := Lib.hid d11
  have a0 : w11.cell? ⟨R5, 0, none⟩ = some (.int .u64 1) := cell_of_row w11 R5 0 _ _ (0, 0) v5
  have a1 : w11.cell? ⟨R5, 1, none⟩ = some (.int .u64 1) := cell_of_row w11 R5 1 _ _ (0, 0) v5
  have a2 : w11.cell? ⟨R5, 2, none⟩ = some (.int .u64 0) := cell_of_row w11 R5 2 _ _ (0, 0) v5
  have a3 : w11.cell? ⟨R5, 3, none⟩ = some (.int .u64 0) := cell_of_row w11 R5 3 _ _ (0, 0) v5
  have a4 : w11.cell? ⟨R5, 4, none⟩ = some (.int .u64 0) := cell_of_row w11 R5 4 _ _ (0, 0) v5
  have a5 : w11.cell? ⟨R5, 5, none⟩ = some (.bool false) := cell_of_row w11 R5 5 _ _ (0, 0) v5
  have a6 : w11.cell? ⟨R5, 6, none⟩ = some (.int .i64 0) := cell_of_row w11 R5 6 _ _ (0, 0) v5
  have b0 : w11.cell? ⟨R7, 0, none⟩ = some (.int .u64 1) := cell_of_row w11 R7 0 _ _ (0, 0) v7
  have b1 : w11.cell? ⟨R7, 1, none⟩ = some (.int .u64 1) := cell_of_row w11 R7 1 _ _ (0, 0) v7
  have b2 : w11.cell? ⟨R7, 2, none⟩ = some (.int .u64 0) := cell_of_row w11 R7 2 _ _ (0, 0) v7
  have b3 : w11.cell? ⟨R7, 3, none⟩ = some (.int .u64 0) := cell_of_row w11 R7 3 _ _ (0, 0) v7
  have b4 : w11.cell? ⟨R7, 4, none⟩ = some (.int .u64 0) := cell_of_row w11 R7 4 _ _ (0, 0) v7
  have b5 : w11.cell? ⟨R7, 5, none⟩ = some (.bool false) := cell_of_row w11 R7 5 _ _ (0, 0) v7
  have b6 : w11.cell? ⟨R7, 6, none⟩ = some (.int .i64 0) := cell_of_row w11 R7 6 _ _ (0, 0) v7
  have c0 : w11.cell? ⟨R9, 0, none⟩ = some (.int .u64 1) := cell_of_row w11 R9 0 _ _ (0, 0) v9
  have c1 : w11.cell? ⟨R9, 1, none⟩ = some (.int .u64 1) := cell_of_row w11 R9 1 _ _ (0, 0) v9
  have c2 : w11.cell? ⟨R9, 2, none⟩ = some (.int .u64 0) := cell_of_row w11 R9 2 _ _ (0, 0) v9
  have c3 : w11.cell? ⟨R9, 3, none⟩ = some (.int .u64 0) := cell_of_row w11 R9 3 _ _ (0, 0) v9
  have c4 : w11.cell? ⟨R9, 4, none⟩ = some (.int .u64 0) := cell_of_row w11 R9 4 _ _ (0, 0) v9
  have c5 : w11.cell? ⟨R9, 5, none⟩ = some (.bool false) := cell_of_row w11 R9 5 _ _ (0, 0) v9
  have c6 : w11.cell? ⟨R9, 6, none⟩ = some (.int .i64 0) := cell_of_row w11 R9 6 _ _ (0, 0) v9
  clear f11 d11 RD H5 H7 H9 v5 v7 v9
  have hq := HEQ.out
  go_wp2_with fail
  have E2 : Calls Try.prog 28 #[.agg #[.int .u64 1, .int .u64 1, .int .u64 0, .int .u64 0, .int .u64 0, .bool false, .int .i64 0]] w11 fun e w' => ∃ g, e = .returned (.slice (some ⟨g, 0, none⟩) 64 64) ∧ bytesAt w' g (enc dB) ∧ Fr Nob w11 w' ∧ w11.heap.size ≤ g := encode_eq dB dB_ok w11
  refine E2.mono ?_
  rintro e w12 ⟨g2, rfl, _, f12, _⟩
  have F := Lib.hid (D11.out.fr.trans' f12)
  clear f12 E2
  go_wp2_with fail
  go_ret
  exact ⟨rfl, F.out⟩

end Go.Proofs.Ytpdljgjofebgpaa
