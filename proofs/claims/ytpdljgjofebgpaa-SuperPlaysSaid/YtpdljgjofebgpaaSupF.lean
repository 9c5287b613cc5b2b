/-
  super: Load and Store on a device of one page; what stands behind a Store.
-/
import Derived.Test.YtpdljgjofebgpaaSupE
namespace Go.Proofs.Ytpdljgjofebgpaa
open Go.RowKit

abbrev zeroV : Array Value := #[.int .u64 0, .int .u64 0, .int .u64 0, .int .u64 0, .int .u64 0, .bool false, .int .i64 0]
theorem zeroV_eq : zeroV = blkV Blk.zero := rfl

set_option maxRecDepth 100000 in
set_option maxHeartbeats 1000000 in
theorem load_bad {W w : World} {q : Nat} {K N : Nat → Prop} {D : Dv} (h : DL W w q K N D) (hl : D.pg.length < 2) :
    Calls Try.prog 25 #[.pointer (some ⟨q, 0, none⟩)] w fun e w' => e = .returned (.tuple #[.agg #[.int .u64 0, .int .u64 0, .int .u64 0, .int .u64 0, .int .u64 0, .bool false, .int .i64 0], .int .i64 1]) ∧ Fr Nob w w' := by
  have H := Lib.hid h
  clear h
  go_enter Try.func25, Try.ntmps25
  go_wp2_with fail
  have hr1 := heap_alloc_new w (.cells #[.int .u64 0, .int .u64 0, .int .u64 0, .int .u64 0, .int .u64 0, .bool false, .int .i64 0] 29)
  have f1 : Fr Nob w (w.alloc (.cells #[.int .u64 0, .int .u64 0, .int .u64 0, .int .u64 0, .int .u64 0, .bool false, .int .i64 0] 29)) := (Fr.refl Nob w).alloc _
  obtain ⟨R, hR⟩ : ∃ R, R = w.heap.size := ⟨_, rfl⟩
  rw [← hR] at hr1
  have HR := Lib.hid hR
  rw [← hR]
  generalize w.alloc (.cells #[.int .u64 0, .int .u64 0, .int .u64 0, .int .u64 0, .int .u64 0, .bool false, .int .i64 0] 29) = w1 at *
  clear hR
  have F1 := Lib.hid f1
  refine ((H.out.nob f1).pages).mono ?_
  rintro e w' ⟨rfl, rfl⟩
  have hl3 : (D.pg.length : Int) < 2 := by omega
  have rv := hr1
  clear f1 hr1
  have e0 := cell_of_row w1 R 0 _ _ (0, 0) rv
  have e1 := cell_of_row w1 R 1 _ _ (0, 0) rv
  have e2 := cell_of_row w1 R 2 _ _ (0, 0) rv
  have e3 := cell_of_row w1 R 3 _ _ (0, 0) rv
  have e4 := cell_of_row w1 R 4 _ _ (0, 0) rv
  have e5 := cell_of_row w1 R 5 _ _ (0, 0) rv
  have e6 := cell_of_row w1 R 6 _ _ (0, 0) rv
  have z0 := frozen_of_row w1 R 0 _ _ rv
  have z1 := frozen_of_row w1 R 1 _ _ rv
  have z2 := frozen_of_row w1 R 2 _ _ rv
  have z3 := frozen_of_row w1 R 3 _ _ rv
  have z4 := frozen_of_row w1 R 4 _ _ rv
  have z5 := frozen_of_row w1 R 5 _ _ rv
  have z6 := frozen_of_row w1 R 6 _ _ rv
  clear rv
  have FIN : Hid (∀ u0 u1 u2 u3 u4 u5 u6 : Value, Fr Nob w (((((((w1.setCell ⟨R, 0, none⟩ u0).setCell ⟨R, 1, none⟩ u1).setCell ⟨R, 2, none⟩ u2).setCell ⟨R, 3, none⟩ u3).setCell ⟨R, 4, none⟩ u4).setCell ⟨R, 5, none⟩ u5).setCell ⟨R, 6, none⟩ u6)) := Lib.hid (by
    intro u0 u1 u2 u3 u4 u5 u6
    exact F1.out.trans (fr7 (w := w1) (R := R) u0 u1 u2 u3 u4 u5 u6) fun j hj h => by
      have h : j = R := h
      have := HR.out
      omega)
  go_wp2_with fail
  refine bodyPost_ret (v := .tuple #[.agg #[.int .u64 0, .int .u64 0, .int .u64 0, .int .u64 0, .int .u64 0, .bool false, .int .i64 0], .int .i64 1]) (by simp [results, Try.results25, go_sem, e0, e1, e2, e3, e4, e5, e6]) rfl ⟨rfl, FIN.out _ _ _ _ _ _ _⟩

set_option maxRecDepth 100000 in
set_option maxHeartbeats 1000000 in
theorem store_bad {W w : World} {q : Nat} {K N : Nat → Prop} {D : Dv} (h : DL W w q K N D) (hl : D.pg.length < 2) (b : Blk) :
    Calls Try.prog 26 #[.pointer (some ⟨q, 0, none⟩), .agg (blkV b)] w fun e w' => e = .returned (.tuple #[.agg #[.int .u64 0, .int .u64 0, .int .u64 0, .int .u64 0, .int .u64 0, .bool false, .int .i64 0], .int .i64 1]) ∧ Fr Nob w w' := by
  have H := Lib.hid h
  obtain ⟨x0, x1, x2, x3, x4, cl, im, rfl⟩ := blk_cases b
  rw [blkV_mk]
  clear h
  go_enter Try.func26, Try.ntmps26
  go_wp2_with fail
  have f1 : Fr Nob w (w.alloc (.cells #[.int .u64 (x0 : Int), .int .u64 (x1 : Int), .int .u64 (x2 : Int), .int .u64 (x3 : Int), .int .u64 (x4 : Int), .bool cl, .int .i64 im] 29)) := (Fr.refl Nob w).alloc _
  have hs1 : (w.alloc (.cells #[.int .u64 (x0 : Int), .int .u64 (x1 : Int), .int .u64 (x2 : Int), .int .u64 (x3 : Int), .int .u64 (x4 : Int), .bool cl, .int .i64 im] 29)).heap.size = w.heap.size + 1 := by simp
  generalize w.alloc (.cells #[.int .u64 (x0 : Int), .int .u64 (x1 : Int), .int .u64 (x2 : Int), .int .u64 (x3 : Int), .int .u64 (x4 : Int), .bool cl, .int .i64 im] 29) = w1 at *
  have h2 := heap_alloc_new w1 (.cells #[.int .u64 0, .int .u64 0, .int .u64 0, .int .u64 0, .int .u64 0, .bool false, .int .i64 0] 29)
  have f2 := f1.alloc (.cells #[.int .u64 0, .int .u64 0, .int .u64 0, .int .u64 0, .int .u64 0, .bool false, .int .i64 0] 29)
  rw [hs1] at h2
  obtain ⟨R, hR⟩ : ∃ R, R = w.heap.size + 1 := ⟨_, rfl⟩
  rw [← hR] at h2 ⊢
  have HR := Lib.hid hR
  generalize w1.alloc (.cells #[.int .u64 0, .int .u64 0, .int .u64 0, .int .u64 0, .int .u64 0, .bool false, .int .i64 0] 29) = w2 at *
  have RV := Lib.hid h2
  have F2 := Lib.hid f2
  clear hR h2 f1 f2 hs1
  refine (load_bad (H.out.nob F2.out) hl).mono ?_
  rintro e w3 ⟨rfl, f3⟩
  have rv := f3.heap RV.out fun h => h
  have F3 := Lib.hid (F2.out.trans' f3)
  clear f3
  have e0 := cell_of_row w3 R 0 _ _ (0, 0) rv
  have e1 := cell_of_row w3 R 1 _ _ (0, 0) rv
  have e2 := cell_of_row w3 R 2 _ _ (0, 0) rv
  have e3 := cell_of_row w3 R 3 _ _ (0, 0) rv
  have e4 := cell_of_row w3 R 4 _ _ (0, 0) rv
  have e5 := cell_of_row w3 R 5 _ _ (0, 0) rv
  have e6 := cell_of_row w3 R 6 _ _ (0, 0) rv
  have z0 := frozen_of_row w3 R 0 _ _ rv
  have z1 := frozen_of_row w3 R 1 _ _ rv
  have z2 := frozen_of_row w3 R 2 _ _ rv
  have z3 := frozen_of_row w3 R 3 _ _ rv
  have z4 := frozen_of_row w3 R 4 _ _ rv
  have z5 := frozen_of_row w3 R 5 _ _ rv
  have z6 := frozen_of_row w3 R 6 _ _ rv
  have LT := Lib.hid (lt_of_block rv)
  clear rv
  have FIN : Hid (∀ (u0 u1 u2 u3 u4 u5 u6 : Value) (W0 : World), Fr Nob w3 W0 → Fr Nob w (((((((W0.setCell ⟨R, 0, none⟩ u0).setCell ⟨R, 1, none⟩ u1).setCell ⟨R, 2, none⟩ u2).setCell ⟨R, 3, none⟩ u3).setCell ⟨R, 4, none⟩ u4).setCell ⟨R, 5, none⟩ u5).setCell ⟨R, 6, none⟩ u6)) := Lib.hid (by
    intro u0 u1 u2 u3 u4 u5 u6 W0 f0
    exact (F3.out.trans' f0).trans (fr7 (w := W0) (R := R) u0 u1 u2 u3 u4 u5 u6) fun j hj h => by
      have h : j = R := h
      have := HR.out
      omega)
  have fa : Fr Nob w3 (w3.alloc (.cells #[.int .u64 0, .int .u64 0, .int .u64 0, .int .u64 0, .int .u64 0, .bool false, .int .i64 0] 29)) := (Fr.refl Nob w3).alloc _
  have FA := Lib.hid fa
  have y0 := (fa.frozen (p := ⟨R, 0, none⟩) LT.out fun h => h).trans z0
  have y1 := (fa.frozen (p := ⟨R, 1, none⟩) LT.out fun h => h).trans z1
  have y2 := (fa.frozen (p := ⟨R, 2, none⟩) LT.out fun h => h).trans z2
  have y3 := (fa.frozen (p := ⟨R, 3, none⟩) LT.out fun h => h).trans z3
  have y4 := (fa.frozen (p := ⟨R, 4, none⟩) LT.out fun h => h).trans z4
  have y5 := (fa.frozen (p := ⟨R, 5, none⟩) LT.out fun h => h).trans z5
  have y6 := (fa.frozen (p := ⟨R, 6, none⟩) LT.out fun h => h).trans z6
  have n0 := fa.cell e0 fun h => h
  have n1 := fa.cell e1 fun h => h
  have n2 := fa.cell e2 fun h => h
  have n3 := fa.cell e3 fun h => h
  have n4 := fa.cell e4 fun h => h
  have n5 := fa.cell e5 fun h => h
  have n6 := fa.cell e6 fun h => h
  clear fa e0 e1 e2 e3 e4 e5 e6 z0 z1 z2 z3 z4 z5 z6
  go_wp2_with fail
  refine bodyPost_ret (v := .tuple #[.agg #[.int .u64 0, .int .u64 0, .int .u64 0, .int .u64 0, .int .u64 0, .bool false, .int .i64 0], .int .i64 1]) (by simp [results, Try.results26, go_sem, n0, n1, n2, n3, n4, n5, n6]) rfl ⟨rfl, FIN.out _ _ _ _ _ _ _ _ FA.out⟩

/-! The example's blocks. -/
def dN : Dv := reads (Dv.new 2) 2
def dB0 : Blk := ⟨0, 1, 0, 0, 0, false, 0⟩
def dB : Blk := ⟨1, 1, 0, 0, 0, false, 0⟩
theorem dB_ok : dB.ok := ⟨by decide, by decide, by decide, by decide, by decide⟩
theorem dB0_ok : dB0.ok := ⟨by decide, by decide, by decide, by decide, by decide⟩
theorem dB_norm : dB.norm = dB := by rfl
theorem new_load : loadD (Dv.new 2) = none := by
  show newer (newer none (dec [])) (dec []) = none
  rw [dec_short (by simp)]; rfl
theorem dN_load : loadD dN = none := by
  show newer (newer none (dec [])) (dec []) = none
  rw [dec_short (by simp)]; rfl
theorem dN_seq : seqOf dN = 0 := by unfold seqOf; rw [dN_load]; rfl
theorem dN_bump : bumped dN dB0 = dB := by unfold bumped; rw [dN_seq]; rfl
def dS : Dv := ((reads dN 2).change 1 (.whole (pad (enc dB)))).flush
theorem stW_dN : stW dN dB0 = (reads dN 2).change 1 (.whole (pad (enc dB))) := by unfold stW; rw [dN_bump, dN_seq]
theorem stF_dN : stF dN dB0 = dS := by unfold stF; rw [stW_dN]; rfl
theorem stB_dN : stB dN dB0 false false = dB := by show (bumped dN dB0).norm = dB; rw [dN_bump]; rfl
theorem dN_bw : (reads dN 2).spend.off = false := by rfl
theorem dN_bf : (stW dN dB0).spend.off = false := by rw [stW_dN]; rfl
theorem dS_load : loadD dS = some dB := by
  have h1 : loadD dS = newer (newer none (dec [])) (pgDec (.whole (pad (enc dB)))) := by rfl
  have h2 : pgDec (.whole (pad (enc dB))) = some dB := by
    show dec (enc dB ++ List.replicate (384 - (enc dB).length) 0) = some dB
    rw [dec_enc dB_ok, dB_norm]
  rw [h1, h2, dec_short (by simp)]
  rfl
theorem dec_no_magic {p : List UInt8} (h : (p.take 64).getD 0 0 ≠ 83) : dec p = none := by
  unfold dec
  split
  · rename_i h2
    exfalso
    apply h
    rw [← h2.2]
    rfl
  · rfl
theorem dec_zeros : dec (List.replicate 64 0) = none := dec_no_magic (by decide)

end Go.Proofs.Ytpdljgjofebgpaa
