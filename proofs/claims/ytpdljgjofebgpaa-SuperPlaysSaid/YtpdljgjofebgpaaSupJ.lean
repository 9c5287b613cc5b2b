/-
  super: Store where no Seq is left.
-/
import Derived.Test.YtpdljgjofebgpaaSupE
namespace Go.Proofs.Ytpdljgjofebgpaa
open Go.RowKit

set_option maxRecDepth 100000 in
set_option maxHeartbeats 2000000 in
theorem store_worn {W w : World} {q : Nat} {K N : Nat → Prop} {D : Dv} (h : DL W w q K N D) (hl : 2 ≤ D.pg.length) (hl2 : D.pg.length ≤ 4096) (ho : D.off = false) (b : Blk) (hb : b.ok) (hs : seqOf D = 18446744073709551615)
    : Calls Try.prog 26 #[.pointer (some ⟨q, 0, none⟩), .agg (blkV b)] w fun e w' => e = .returned (.tuple #[.agg #[.int .u64 0, .int .u64 0, .int .u64 0, .int .u64 0, .int .u64 0, .bool false, .int .i64 0], .int .i64 9]) ∧ DL W w' q K N (reads D 2) ∧ Fr K w w' := by
  have H := Lib.hid h
  have hslt := seqOf_lt D
  obtain ⟨x0, x1, x2, x3, x4, cl, im, rfl⟩ := blk_cases b
  obtain ⟨o, hd⟩ : ∃ o, loadD D = o := ⟨_, rfl⟩
  obtain ⟨s0, s1, s2, s3, s4, sl, sm, ht⟩ := blk_cases (decB o)
  have hsq : seqOf D = s0 := by unfold seqOf; rw [hd, ht]
  have HSQ := Lib.hid hsq
  rw [hsq] at hs hslt
  have hseq : ((s0 : Int) == 18446744073709551615) = true := beq_iff_eq.2 (by omega)
  obtain ⟨le', hle⟩ : ∃ le', le' = loadE o := ⟨_, rfl⟩
  have hle2 : (le' != 0) = false ∨ ((le' != 0) = true ∧ (le' != 5) = false) := by
    rcases loadE_or o with h | h
    · left; rw [hle, h]; rfl
    · right; rw [hle, h]; exact ⟨rfl, rfl⟩
  obtain ⟨X, hX⟩ : ∃ X, X = w.heap.size := ⟨_, rfl⟩
  obtain ⟨R, hR⟩ : ∃ R, R = w.heap.size + 1 := ⟨_, rfl⟩
  rw [blkV_mk]
  have HD := Lib.hid hd
  have HT := Lib.hid ht
  have HLE := Lib.hid hle
  have HO := Lib.hid ho
  clear h hb hd ht hsq hle ho hs
  go_enter Try.func26, Try.ntmps26
  go_wp2_with fail
  have h1 := heap_alloc_new w (.cells #[.int .u64 (x0 : Int), .int .u64 (x1 : Int), .int .u64 (x2 : Int), .int .u64 (x3 : Int), .int .u64 (x4 : Int), .bool cl, .int .i64 im] 29)
  have f1 : Fr Nob w (w.alloc (.cells #[.int .u64 (x0 : Int), .int .u64 (x1 : Int), .int .u64 (x2 : Int), .int .u64 (x3 : Int), .int .u64 (x4 : Int), .bool cl, .int .i64 im] 29)) := (Fr.refl Nob w).alloc _
  have hs1 : (w.alloc (.cells #[.int .u64 (x0 : Int), .int .u64 (x1 : Int), .int .u64 (x2 : Int), .int .u64 (x3 : Int), .int .u64 (x4 : Int), .bool cl, .int .i64 im] 29)).heap.size = w.heap.size + 1 := by simp
  generalize w.alloc (.cells #[.int .u64 (x0 : Int), .int .u64 (x1 : Int), .int .u64 (x2 : Int), .int .u64 (x3 : Int), .int .u64 (x4 : Int), .bool cl, .int .i64 im] 29) = w1 at *
  have h2 := heap_alloc_new w1 (.cells #[.int .u64 0, .int .u64 0, .int .u64 0, .int .u64 0, .int .u64 0, .bool false, .int .i64 0] 29)
  have f2 : Fr Nob w1 (w1.alloc (.cells #[.int .u64 0, .int .u64 0, .int .u64 0, .int .u64 0, .int .u64 0, .bool false, .int .i64 0] 29)) := (Fr.refl Nob w1).alloc _
  have hs2 : (w1.alloc (.cells #[.int .u64 0, .int .u64 0, .int .u64 0, .int .u64 0, .int .u64 0, .bool false, .int .i64 0] 29)).heap.size = w1.heap.size + 1 := by simp
  rw [hs1, ← hR] at h2
  rw [← hX] at h1
  rw [← hR, ← hX]
  have XV := Lib.hid (f2.heap h1 fun h => h)
  have RV := Lib.hid h2
  have F2 := Lib.hid (f1.trans' f2)
  have D2 : Hid (DL W (w1.alloc (.cells #[.int .u64 0, .int .u64 0, .int .u64 0, .int .u64 0, .int .u64 0, .bool false, .int .i64 0] 29)) q K (fun j => N j ∨ j = X ∨ j = R) D) := Lib.hid (H.out.more (f1.trans' f2) fun k hk => by
    rw [hs2, hs1]
    rcases hk with h | h | h
    · exact .inl h
    · right; omega
    · right; omega)
  have HX := Lib.hid hX
  have HR := Lib.hid hR
  have KX : Hid (¬ K X) := Lib.hid (H.out.fresh X (by rw [hX]; exact Nat.le_refl _))
  have KR : Hid (¬ K R) := Lib.hid (H.out.fresh R (by rw [hR]; omega))
  have XR : Hid (X ≠ R) := Lib.hid (by omega)
  clear h1 f1 hs1 h2 f2 hs2 hX hR
  generalize w1.alloc (.cells #[.int .u64 0, .int .u64 0, .int .u64 0, .int .u64 0, .int .u64 0, .bool false, .int .i64 0] 29) = w2 at *
  refine (load_eq D2.out hl hl2 HO.out o HD.out).mono ?_
  rintro e w3 ⟨rfl, d3, f3⟩
  rw [HT.out, blkV_mk, ← HLE.out]
  have D3 := Lib.hid d3
  have xv3 := f3.heap XV.out KX.out
  have rv3 := f3.heap RV.out KR.out
  have F3 := Lib.hid (F2.out.nob.trans f3 fun j _ h => h)
  have c1 := cell_of_row w3 X 1 _ _ (0, 0) xv3
  have c2 := cell_of_row w3 X 2 _ _ (0, 0) xv3
  have c3 := cell_of_row w3 X 3 _ _ (0, 0) xv3
  have c4 := cell_of_row w3 X 4 _ _ (0, 0) xv3
  have c5 := cell_of_row w3 X 5 _ _ (0, 0) xv3
  have c6 := cell_of_row w3 X 6 _ _ (0, 0) xv3
  have c0 := cell_of_row w3 X 0 _ _ (0, 0) xv3
  have y0 := frozen_of_row w3 X 0 _ _ xv3
  have X3 := Lib.hid xv3
  have R3 := Lib.hid rv3
  have e0 := cell_of_row w3 R 0 _ _ (0, 0) rv3
  have e1 := cell_of_row w3 R 1 _ _ (0, 0) rv3
  have e2 := cell_of_row w3 R 2 _ _ (0, 0) rv3
  have e3 := cell_of_row w3 R 3 _ _ (0, 0) rv3
  have e4 := cell_of_row w3 R 4 _ _ (0, 0) rv3
  have e5 := cell_of_row w3 R 5 _ _ (0, 0) rv3
  have e6 := cell_of_row w3 R 6 _ _ (0, 0) rv3
  have z0 := frozen_of_row w3 R 0 _ _ rv3
  have z1 := frozen_of_row w3 R 1 _ _ rv3
  have z2 := frozen_of_row w3 R 2 _ _ rv3
  have z3 := frozen_of_row w3 R 3 _ _ rv3
  have z4 := frozen_of_row w3 R 4 _ _ rv3
  have z5 := frozen_of_row w3 R 5 _ _ rv3
  have z6 := frozen_of_row w3 R 6 _ _ rv3
  have LT := Lib.hid (lt_of_block rv3)
  have fa : Fr Nob w3 (w3.alloc (.cells #[.int .u64 (s0 : Int), .int .u64 (s1 : Int), .int .u64 (s2 : Int), .int .u64 (s3 : Int), .int .u64 (s4 : Int), .bool sl, .int .i64 sm] 29)) := (Fr.refl Nob w3).alloc _
  have n0 := fa.cell e0 fun h => h
  have g0 := (fa.frozen (p := ⟨R, 0, none⟩) LT.out fun h => h).trans z0
  have n1 := fa.cell e1 fun h => h
  have g1 := (fa.frozen (p := ⟨R, 1, none⟩) LT.out fun h => h).trans z1
  have n2 := fa.cell e2 fun h => h
  have g2 := (fa.frozen (p := ⟨R, 2, none⟩) LT.out fun h => h).trans z2
  have n3 := fa.cell e3 fun h => h
  have g3 := (fa.frozen (p := ⟨R, 3, none⟩) LT.out fun h => h).trans z3
  have n4 := fa.cell e4 fun h => h
  have g4 := (fa.frozen (p := ⟨R, 4, none⟩) LT.out fun h => h).trans z4
  have n5 := fa.cell e5 fun h => h
  have g5 := (fa.frozen (p := ⟨R, 5, none⟩) LT.out fun h => h).trans z5
  have n6 := fa.cell e6 fun h => h
  have g6 := (fa.frozen (p := ⟨R, 6, none⟩) LT.out fun h => h).trans z6
  have FIN : Hid (∀ u0 u1 u2 u3 u4 u5 u6 : Value, DL W ((((((((w3.alloc (.cells #[.int .u64 (s0 : Int), .int .u64 (s1 : Int), .int .u64 (s2 : Int), .int .u64 (s3 : Int), .int .u64 (s4 : Int), .bool sl, .int .i64 sm] 29)).setCell ⟨R, 0, none⟩ u0).setCell ⟨R, 1, none⟩ u1).setCell ⟨R, 2, none⟩ u2).setCell ⟨R, 3, none⟩ u3).setCell ⟨R, 4, none⟩ u4).setCell ⟨R, 5, none⟩ u5).setCell ⟨R, 6, none⟩ u6) q K N (reads D 2) ∧ Fr K w ((((((((w3.alloc (.cells #[.int .u64 (s0 : Int), .int .u64 (s1 : Int), .int .u64 (s2 : Int), .int .u64 (s3 : Int), .int .u64 (s4 : Int), .bool sl, .int .i64 sm] 29)).setCell ⟨R, 0, none⟩ u0).setCell ⟨R, 1, none⟩ u1).setCell ⟨R, 2, none⟩ u2).setCell ⟨R, 3, none⟩ u3).setCell ⟨R, 4, none⟩ u4).setCell ⟨R, 5, none⟩ u5).setCell ⟨R, 6, none⟩ u6)) := Lib.hid (by
    intro u0 u1 u2 u3 u4 u5 u6
    have f7 := fr7 (w := (w3.alloc (.cells #[.int .u64 (s0 : Int), .int .u64 (s1 : Int), .int .u64 (s2 : Int), .int .u64 (s3 : Int), .int .u64 (s4 : Int), .bool sl, .int .i64 sm] 29))) (R := R) u0 u1 u2 u3 u4 u5 u6
    have hr := HR.out
    have hw := H.out.wle
    have D4 := D3.out.nob fa
    refine ⟨(D4.keep' f7 (D4.fr.trans f7 fun j hj h => ?_) KR.out (.inr (.inr rfl))).less fun j h => .inl h, Fr.trans (S := K) (F3.out.trans fa fun j _ h => h.elim) f7 fun j hj h => ?_⟩
    · have h : j = R := h
      omega
    · have h : j = R := h
      omega)
  clear d3 f3 xv3 rv3 c0 c1 c2 c3 c4 c5 c6 e0 e1 e2 e3 e4 e5 e6 y0 z0 z1 z2 z3 z4 z5 z6 fa
  rcases hle2 with hle2 | ⟨hle2, hle3⟩
  all_goals
    go_wp2_with fail
    refine bodyPost_ret (v := .tuple #[.agg #[.int .u64 0, .int .u64 0, .int .u64 0, .int .u64 0, .int .u64 0, .bool false, .int .i64 0], .int .i64 9]) (by simp [results, Try.results26, go_sem, n0, n1, n2, n3, n4, n5, n6]) rfl ⟨rfl, FIN.out _ _ _ _ _ _ _⟩

end Go.Proofs.Ytpdljgjofebgpaa
