/-
  cellaretref4: Store. (Printed by gen/refu.py.)
-/
import Derived.Test.YtpdljgjofebgpaaRefT
import Derived.Test.YtpdljgjofebgpaaSupE
namespace Go.Proofs.Ytpdljgjofebgpaa
open Go.RowKit

set_option maxRecDepth 100000 in
set_option maxHeartbeats 4000000 in
theorem refStore_worn {w : World} {u : Nat} {M : Nat → Prop} {D : Dv} (s : RefAt w u M D) (hl : 2 ≤ D.pg.length) (ho : D.off = false) (hp : ∀ i, i < D.pg.length → (pgB (D.now i)).length ≤ 384) (b : Blk) (hs : seqOf D = 18446744073709551615) :
    Calls Try.prog 56 #[.pointer (some ⟨u, 0, none⟩), .agg (blkV b)] w fun e w' => e = .returned (.tuple #[.agg #[.int .u64 0, .int .u64 0, .int .u64 0, .int .u64 0, .int .u64 0, .bool false, .int .i64 0], .int .i64 9]) ∧ RfTo w u M w' (reads D 2) := by
  have HO := Lib.hid ho
  have HP := Lib.hid hp
  have hslt := seqOf_lt D
  obtain ⟨x0, x1, x2, x3, x4, cl, im, rfl⟩ := blk_cases b
  obtain ⟨o, hd⟩ : ∃ o, loadD D = o := ⟨_, rfl⟩
  obtain ⟨s0, s1, s2, s3, s4, sl, sm, ht⟩ := blk_cases (decB o)
  have hsq : seqOf D = s0 := by unfold seqOf; rw [hd, ht]
  have HSQ := Lib.hid hsq
  rw [hsq] at hs hslt
  have HSS := Lib.hid hs
  clear hs hsq
  obtain ⟨le', hle⟩ : ∃ le', le' = loadE o := ⟨_, rfl⟩
  have hle2 : (le' != 0) = false ∨ ((le' != 0) = true ∧ (le' != 5) = false) := by
    rcases loadE_or o with h | h
    · left; rw [hle, h]; rfl
    · right; rw [hle, h]; exact ⟨rfl, rfl⟩
  have hlt := s.lt
  obtain ⟨X, hX⟩ : ∃ X, X = w.heap.size := ⟨_, rfl⟩
  obtain ⟨R, hR⟩ : ∃ R, R = w.heap.size + 1 := ⟨_, rfl⟩
  have h1 := heap_alloc_new w (.cells #[.int .u64 (x0 : Int), .int .u64 (x1 : Int), .int .u64 (x2 : Int), .int .u64 (x3 : Int), .int .u64 (x4 : Int), .bool cl, .int .i64 im] 37)
  have f1 : Fr Nob w (w.alloc (.cells #[.int .u64 (x0 : Int), .int .u64 (x1 : Int), .int .u64 (x2 : Int), .int .u64 (x3 : Int), .int .u64 (x4 : Int), .bool cl, .int .i64 im] 37)) := (Fr.refl Nob w).alloc _
  have y1 : (w.alloc (.cells #[.int .u64 (x0 : Int), .int .u64 (x1 : Int), .int .u64 (x2 : Int), .int .u64 (x3 : Int), .int .u64 (x4 : Int), .bool cl, .int .i64 im] 37)).heap.size = w.heap.size + 1 := by simp
  rw [← hX] at h1
  have MX : Hid (¬ M X) := Lib.hid fun h => by
    have := hlt X h
    omega
  have MR : Hid (¬ M R) := Lib.hid fun h => by
    have := hlt R h
    omega
  have XR : Hid (¬ X = R) := Lib.hid (by omega)
  have HX := Lib.hid hX
  have HR := Lib.hid hR
  have y1h := Lib.hid y1
  rw [blkV_mk]
  have H1 := Lib.hid h1
  have FF1 := Lib.hid f1
  clear h1 f1 y1 hX hR
  go_enter Try.func56, Try.ntmps56
  go_upto_region 1 with fail
  rw [← HR.out, ← HX.out]
  generalize w.alloc (.cells #[.int .u64 (x0 : Int), .int .u64 (x1 : Int), .int .u64 (x2 : Int), .int .u64 (x3 : Int), .int .u64 (x4 : Int), .bool cl, .int .i64 im] 37) = w1 at *
  have h2 := heap_alloc_new w1 (.cells #[.int .u64 0, .int .u64 0, .int .u64 0, .int .u64 0, .int .u64 0, .bool false, .int .i64 0] 37)
  have f2 : Fr Nob w1 (w1.alloc (.cells #[.int .u64 0, .int .u64 0, .int .u64 0, .int .u64 0, .int .u64 0, .bool false, .int .i64 0] 37)) := (Fr.refl Nob w1).alloc _
  have y2 : (w1.alloc (.cells #[.int .u64 0, .int .u64 0, .int .u64 0, .int .u64 0, .int .u64 0, .bool false, .int .i64 0] 37)).heap.size = w1.heap.size + 1 := by simp
  rw [y1h.out, ← HR.out] at h2
  have X2 := Lib.hid (f2.heap H1.out fun h => h)
  have R2 := Lib.hid h2
  have F2 := Lib.hid (FF1.out.trans' f2)
  have S2 := Lib.hid (s.keep (FF1.out.trans' f2) fun _ _ h => h)
  have Y2 : Hid ((w1.alloc (.cells #[.int .u64 0, .int .u64 0, .int .u64 0, .int .u64 0, .int .u64 0, .bool false, .int .i64 0] 37)).heap.size = w.heap.size + 2) := Lib.hid (by rw [y2, y1h.out])
  clear h2 f2 y2 s hlt hp ho H1 FF1
  generalize w1.alloc (.cells #[.int .u64 0, .int .u64 0, .int .u64 0, .int .u64 0, .int .u64 0, .bool false, .int .i64 0] 37) = w2 at *
  have LD := Lib.hid (refLoad_eq S2.out hl HO.out HP.out o hd)
  rw [ht, blkV_mk, ← hle] at LD
  have HT := Lib.hid ht
  clear ht hd hle
  go_wp2_with fail
  refine LD.out.mono ?_
  rintro e w3 ⟨rfl, rs3, f3⟩
  have fa : Fr Nob w3 (w3.alloc (.cells #[.int .u64 (s0 : Int), .int .u64 (s1 : Int), .int .u64 (s2 : Int), .int .u64 (s3 : Int), .int .u64 (s4 : Int), .bool sl, .int .i64 sm] 37)) := (Fr.refl Nob w3).alloc _
  have h4 := heap_alloc_new w3 (.cells #[.int .u64 (s0 : Int), .int .u64 (s1 : Int), .int .u64 (s2 : Int), .int .u64 (s3 : Int), .int .u64 (s4 : Int), .bool sl, .int .i64 sm] 37)
  obtain ⟨B, hB⟩ : ∃ B, B = w3.heap.size := ⟨_, rfl⟩
  rw [← hB] at h4
  have S4 := Lib.hid (rs3.keep fa fun _ _ h => h)
  have X4 := Lib.hid (fa.heap (f3.heap X2.out MX.out) fun h => h)
  have R4 := Lib.hid (fa.heap (f3.heap R2.out MR.out) fun h => h)
  have F4 : Hid (Fr M w (w3.alloc (.cells #[.int .u64 (s0 : Int), .int .u64 (s1 : Int), .int .u64 (s2 : Int), .int .u64 (s3 : Int), .int .u64 (s4 : Int), .bool sl, .int .i64 sm] 37))) := Lib.hid (((F2.out.mono fun _ _ h => h.elim).trans f3 fun _ _ h => h).trans fa fun _ _ h => h.elim)
  have BX : Hid (¬ B = X ∧ ¬ B = R) := Lib.hid (by
    have := Y2.out
    have := f3.size
    have := HX.out
    have := HR.out
    omega)
  have B4 := Lib.hid h4
  clear rs3 f3 fa h4 LD X2 R2 F2 S2
  go_upto_region 2 with fail
  rw [← hB]
  clear hB
  generalize w3.alloc (.cells #[.int .u64 (s0 : Int), .int .u64 (s1 : Int), .int .u64 (s2 : Int), .int .u64 (s3 : Int), .int .u64 (s4 : Int), .bool sl, .int .i64 sm] 37) = w4 at *
  go_cut [18] (fun t W => t = .bool false ∧ W = w4)
  case first =>
    rcases hle2 with h | ⟨h, h'⟩
    all_goals
      go_wp2_with fail
      go_meet
      exact ⟨rfl, rfl⟩
  case rest =>
    obtain ⟨rfl, rfl⟩ := hcut
    generalize wc = w4 at *
    clear hle2
    have b0 := cell_of_row w4 B 0 _ _ (0, 0) B4.out
    have b1 := cell_of_row w4 B 1 _ _ (0, 0) B4.out
    have b2 := cell_of_row w4 B 2 _ _ (0, 0) B4.out
    have b3 := cell_of_row w4 B 3 _ _ (0, 0) B4.out
    have b4 := cell_of_row w4 B 4 _ _ (0, 0) B4.out
    have b5 := cell_of_row w4 B 5 _ _ (0, 0) B4.out
    have b6 := cell_of_row w4 B 6 _ _ (0, 0) B4.out
    have e0 := cell_of_row w4 R 0 _ _ (0, 0) R4.out
    have e1 := cell_of_row w4 R 1 _ _ (0, 0) R4.out
    have e2 := cell_of_row w4 R 2 _ _ (0, 0) R4.out
    have e3 := cell_of_row w4 R 3 _ _ (0, 0) R4.out
    have e4 := cell_of_row w4 R 4 _ _ (0, 0) R4.out
    have e5 := cell_of_row w4 R 5 _ _ (0, 0) R4.out
    have e6 := cell_of_row w4 R 6 _ _ (0, 0) R4.out
    have z0 := frozen_of_row w4 R 0 _ _ R4.out
    have z1 := frozen_of_row w4 R 1 _ _ R4.out
    have z2 := frozen_of_row w4 R 2 _ _ R4.out
    have z3 := frozen_of_row w4 R 3 _ _ R4.out
    have z4 := frozen_of_row w4 R 4 _ _ R4.out
    have z5 := frozen_of_row w4 R 5 _ _ R4.out
    have z6 := frozen_of_row w4 R 6 _ _ R4.out
    have hseq : ((s0 : Int) == 18446744073709551615) = true := beq_iff_eq.2 (by have := HSS.out; omega)
    have FIN : Hid (∀ u0 u1 u2 u3 u4 u5 u6 : Value, RfTo w u M (((((((w4.setCell ⟨R, 0, none⟩ u0).setCell ⟨R, 1, none⟩ u1).setCell ⟨R, 2, none⟩ u2).setCell ⟨R, 3, none⟩ u3).setCell ⟨R, 4, none⟩ u4).setCell ⟨R, 5, none⟩ u5).setCell ⟨R, 6, none⟩ u6) (reads D 2)) := Lib.hid fun u0 u1 u2 u3 u4 u5 u6 => by
      have f7 := fr7 (w := w4) (R := R) u0 u1 u2 u3 u4 u5 u6
      refine ⟨M, S4.out.keep f7 fun j hj e => ?_, F4.out.trans f7 fun j hj e => ?_, fun _ h => .inl h⟩
      · have e : j = R := e
        rw [e] at hj
        exact MR.out hj
      · have e : j = R := e
        have := HR.out
        omega
    go_wp2_with fail
    refine bodyPost_ret (v := .tuple #[.agg #[.int .u64 0, .int .u64 0, .int .u64 0, .int .u64 0, .int .u64 0, .bool false, .int .i64 0], .int .i64 9]) (by simp [results, Try.results56, go_sem, e0, e1, e2, e3, e4, e5, e6]) rfl ⟨rfl, FIN.out _ _ _ _ _ _ _⟩

set_option maxRecDepth 100000 in
set_option maxHeartbeats 8000000 in
theorem refStore_eq {w : World} {u : Nat} {M : Nat → Prop} {D : Dv} (s : RefAt w u M D) (hl : 2 ≤ D.pg.length) (ho : D.off = false) (hp : ∀ i, i < D.pg.length → (pgB (D.now i)).length ≤ 384) (b : Blk) (hs : seqOf D ≠ 18446744073709551615)
    (bw bf : Bool) (hbw : (reads D 2).spend.off = bw) (hbf : (stW D b).spend.off = bf) :
    Calls Try.prog 56 #[.pointer (some ⟨u, 0, none⟩), .agg (blkV b)] w fun e w' => e = .returned (.tuple #[.agg (blkV (stB D b bw bf)), .int .i64 (stE bw bf)]) ∧ RfTo w u M w' (stD D b bw) := by
  have HBW := Lib.hid hbw
  clear hbw
  have HO := Lib.hid ho
  have HP := Lib.hid hp
  have hslt := seqOf_lt D
  obtain ⟨x0, x1, x2, x3, x4, cl, im, rfl⟩ := blk_cases b
  have HBF := Lib.hid hbf
  clear hbf
  obtain ⟨o, hd⟩ : ∃ o, loadD D = o := ⟨_, rfl⟩
  obtain ⟨s0, s1, s2, s3, s4, sl, sm, ht⟩ := blk_cases (decB o)
  have hsq : seqOf D = s0 := by unfold seqOf; rw [hd, ht]
  have HSQ := Lib.hid hsq
  rw [hsq] at hs hslt
  have HSS := Lib.hid hs
  clear hs hsq
  obtain ⟨le', hle⟩ : ∃ le', le' = loadE o := ⟨_, rfl⟩
  have hle2 : (le' != 0) = false ∨ ((le' != 0) = true ∧ (le' != 5) = false) := by
    rcases loadE_or o with h | h
    · left; rw [hle, h]; rfl
    · right; rw [hle, h]; exact ⟨rfl, rfl⟩
  have hlt := s.lt
  obtain ⟨X, hX⟩ : ∃ X, X = w.heap.size := ⟨_, rfl⟩
  obtain ⟨R, hR⟩ : ∃ R, R = w.heap.size + 1 := ⟨_, rfl⟩
  have h1 := heap_alloc_new w (.cells #[.int .u64 (x0 : Int), .int .u64 (x1 : Int), .int .u64 (x2 : Int), .int .u64 (x3 : Int), .int .u64 (x4 : Int), .bool cl, .int .i64 im] 37)
  have f1 : Fr Nob w (w.alloc (.cells #[.int .u64 (x0 : Int), .int .u64 (x1 : Int), .int .u64 (x2 : Int), .int .u64 (x3 : Int), .int .u64 (x4 : Int), .bool cl, .int .i64 im] 37)) := (Fr.refl Nob w).alloc _
  have y1 : (w.alloc (.cells #[.int .u64 (x0 : Int), .int .u64 (x1 : Int), .int .u64 (x2 : Int), .int .u64 (x3 : Int), .int .u64 (x4 : Int), .bool cl, .int .i64 im] 37)).heap.size = w.heap.size + 1 := by simp
  rw [← hX] at h1
  have MX : Hid (¬ M X) := Lib.hid fun h => by
    have := hlt X h
    omega
  have MR : Hid (¬ M R) := Lib.hid fun h => by
    have := hlt R h
    omega
  have XR : Hid (¬ X = R) := Lib.hid (by omega)
  have HX := Lib.hid hX
  have HR := Lib.hid hR
  have y1h := Lib.hid y1
  rw [blkV_mk]
  have H1 := Lib.hid h1
  have FF1 := Lib.hid f1
  clear h1 f1 y1 hX hR
  go_enter Try.func56, Try.ntmps56
  go_upto_region 1 with fail
  rw [← HR.out, ← HX.out]
  generalize w.alloc (.cells #[.int .u64 (x0 : Int), .int .u64 (x1 : Int), .int .u64 (x2 : Int), .int .u64 (x3 : Int), .int .u64 (x4 : Int), .bool cl, .int .i64 im] 37) = w1 at *
  have h2 := heap_alloc_new w1 (.cells #[.int .u64 0, .int .u64 0, .int .u64 0, .int .u64 0, .int .u64 0, .bool false, .int .i64 0] 37)
  have f2 : Fr Nob w1 (w1.alloc (.cells #[.int .u64 0, .int .u64 0, .int .u64 0, .int .u64 0, .int .u64 0, .bool false, .int .i64 0] 37)) := (Fr.refl Nob w1).alloc _
  have y2 : (w1.alloc (.cells #[.int .u64 0, .int .u64 0, .int .u64 0, .int .u64 0, .int .u64 0, .bool false, .int .i64 0] 37)).heap.size = w1.heap.size + 1 := by simp
  rw [y1h.out, ← HR.out] at h2
  have X2 := Lib.hid (f2.heap H1.out fun h => h)
  have R2 := Lib.hid h2
  have F2 := Lib.hid (FF1.out.trans' f2)
  have S2 := Lib.hid (s.keep (FF1.out.trans' f2) fun _ _ h => h)
  have Y2 : Hid ((w1.alloc (.cells #[.int .u64 0, .int .u64 0, .int .u64 0, .int .u64 0, .int .u64 0, .bool false, .int .i64 0] 37)).heap.size = w.heap.size + 2) := Lib.hid (by rw [y2, y1h.out])
  clear h2 f2 y2 s hlt hp ho H1 FF1
  generalize w1.alloc (.cells #[.int .u64 0, .int .u64 0, .int .u64 0, .int .u64 0, .int .u64 0, .bool false, .int .i64 0] 37) = w2 at *
  have LD := Lib.hid (refLoad_eq S2.out hl HO.out HP.out o hd)
  rw [ht, blkV_mk, ← hle] at LD
  have HT := Lib.hid ht
  clear ht hd hle
  go_wp2_with fail
  refine LD.out.mono ?_
  rintro e w3 ⟨rfl, rs3, f3⟩
  have fa : Fr Nob w3 (w3.alloc (.cells #[.int .u64 (s0 : Int), .int .u64 (s1 : Int), .int .u64 (s2 : Int), .int .u64 (s3 : Int), .int .u64 (s4 : Int), .bool sl, .int .i64 sm] 37)) := (Fr.refl Nob w3).alloc _
  have h4 := heap_alloc_new w3 (.cells #[.int .u64 (s0 : Int), .int .u64 (s1 : Int), .int .u64 (s2 : Int), .int .u64 (s3 : Int), .int .u64 (s4 : Int), .bool sl, .int .i64 sm] 37)
  obtain ⟨B, hB⟩ : ∃ B, B = w3.heap.size := ⟨_, rfl⟩
  rw [← hB] at h4
  have S4 := Lib.hid (rs3.keep fa fun _ _ h => h)
  have X4 := Lib.hid (fa.heap (f3.heap X2.out MX.out) fun h => h)
  have R4 := Lib.hid (fa.heap (f3.heap R2.out MR.out) fun h => h)
  have F4 : Hid (Fr M w (w3.alloc (.cells #[.int .u64 (s0 : Int), .int .u64 (s1 : Int), .int .u64 (s2 : Int), .int .u64 (s3 : Int), .int .u64 (s4 : Int), .bool sl, .int .i64 sm] 37))) := Lib.hid (((F2.out.mono fun _ _ h => h.elim).trans f3 fun _ _ h => h).trans fa fun _ _ h => h.elim)
  have BX : Hid (¬ B = X ∧ ¬ B = R) := Lib.hid (by
    have := Y2.out
    have := f3.size
    have := HX.out
    have := HR.out
    omega)
  have B4 := Lib.hid h4
  clear rs3 f3 fa h4 LD X2 R2 F2 S2
  go_upto_region 2 with fail
  rw [← hB]
  clear hB
  generalize w3.alloc (.cells #[.int .u64 (s0 : Int), .int .u64 (s1 : Int), .int .u64 (s2 : Int), .int .u64 (s3 : Int), .int .u64 (s4 : Int), .bool sl, .int .i64 sm] 37) = w4 at *
  go_cut [18] (fun t W => t = .bool false ∧ W = w4)
  case first =>
    rcases hle2 with h | ⟨h, h'⟩
    all_goals
      go_wp2_with fail
      go_meet
      exact ⟨rfl, rfl⟩
  case rest =>
    obtain ⟨rfl, rfl⟩ := hcut
    generalize wc = w4 at *
    clear hle2
    have b0 := cell_of_row w4 B 0 _ _ (0, 0) B4.out
    have b1 := cell_of_row w4 B 1 _ _ (0, 0) B4.out
    have b2 := cell_of_row w4 B 2 _ _ (0, 0) B4.out
    have b3 := cell_of_row w4 B 3 _ _ (0, 0) B4.out
    have b4 := cell_of_row w4 B 4 _ _ (0, 0) B4.out
    have b5 := cell_of_row w4 B 5 _ _ (0, 0) B4.out
    have b6 := cell_of_row w4 B 6 _ _ (0, 0) B4.out
    have e0 := cell_of_row w4 R 0 _ _ (0, 0) R4.out
    have e1 := cell_of_row w4 R 1 _ _ (0, 0) R4.out
    have e2 := cell_of_row w4 R 2 _ _ (0, 0) R4.out
    have e3 := cell_of_row w4 R 3 _ _ (0, 0) R4.out
    have e4 := cell_of_row w4 R 4 _ _ (0, 0) R4.out
    have e5 := cell_of_row w4 R 5 _ _ (0, 0) R4.out
    have e6 := cell_of_row w4 R 6 _ _ (0, 0) R4.out
    have z0 := frozen_of_row w4 R 0 _ _ R4.out
    have z1 := frozen_of_row w4 R 1 _ _ R4.out
    have z2 := frozen_of_row w4 R 2 _ _ R4.out
    have z3 := frozen_of_row w4 R 3 _ _ R4.out
    have z4 := frozen_of_row w4 R 4 _ _ R4.out
    have z5 := frozen_of_row w4 R 5 _ _ R4.out
    have z6 := frozen_of_row w4 R 6 _ _ R4.out
    have hne : ((s0 : Int) == 18446744073709551615) = false := beq_eq_false_iff_ne.2 (by have := HSS.out; omega)
    have hwrap : IntKind.u64.wrap ((s0 : Int) + 1) = (s0 : Int) + 1 := by have := HSS.out; rw [IntKind.wrap_u64]; omega
    have htm : ((s0 : Int) + 1).tmod 2 = ((s0 : Int) + 1) % 2 := Int.tmod_eq_emod_of_nonneg (by omega)
    have hi2 : IntKind.i64.wrap (((s0 : Int) + 1) % 2) = ((s0 : Int) + 1) % 2 := by rw [IntKind.wrap_i64]; omega
    have a0 := cell_of_row w4 X 0 _ _ (0, 0) X4.out
    have a1 := cell_of_row w4 X 1 _ _ (0, 0) X4.out
    have a2 := cell_of_row w4 X 2 _ _ (0, 0) X4.out
    have a3 := cell_of_row w4 X 3 _ _ (0, 0) X4.out
    have a4 := cell_of_row w4 X 4 _ _ (0, 0) X4.out
    have a5 := cell_of_row w4 X 5 _ _ (0, 0) X4.out
    have a6 := cell_of_row w4 X 6 _ _ (0, 0) X4.out
    have f0 := frozen_of_row w4 X 0 _ _ X4.out
    have f1 := frozen_of_row w4 X 1 _ _ X4.out
    have f2 := frozen_of_row w4 X 2 _ _ X4.out
    have f3 := frozen_of_row w4 X 3 _ _ X4.out
    have f4 := frozen_of_row w4 X 4 _ _ X4.out
    have f5 := frozen_of_row w4 X 5 _ _ X4.out
    have f6 := frozen_of_row w4 X 6 _ _ X4.out
    obtain ⟨i, hi⟩ : ∃ i, i = Blk.img ⟨x0, x1, x2, x3, x4, cl, im⟩ := ⟨_, rfl⟩
    have HI := Lib.hid hi
    have NB : Hid (blkV (stB D ⟨x0, x1, x2, x3, x4, cl, im⟩ false false) = #[.int .u64 ((s0 : Int) + 1), .int .u64 (x1 : Int), .int .u64 (x2 : Int), .int .u64 (x3 : Int), .int .u64 (x4 : Int), .bool cl, .int .i64 (i : Int)]) := Lib.hid (by
      show blkV (bumped D ⟨x0, x1, x2, x3, x4, cl, im⟩).norm = _
      unfold blkV Blk.norm bumped
      rw [hi, HSQ.out]
      rfl)
    have ENC : Hid (∀ w, Calls Try.prog 29 #[.agg #[.int .u64 ((s0 : Int) + 1), .int .u64 (x1 : Int), .int .u64 (x2 : Int), .int .u64 (x3 : Int), .int .u64 (x4 : Int), .bool cl, .int .i64 (i : Int)]] w fun e w' => e = .returned (.string ⟨(enc (bumped D ⟨x0, x1, x2, x3, x4, cl, im⟩)).toArray⟩) ∧ Fr Nob w w') := Lib.hid fun w => by
      have h := refEnc_eq (w := w) (bumped D ⟨x0, x1, x2, x3, x4, cl, im⟩).norm
      have hn := NB.out
      rw [show stB D ⟨x0, x1, x2, x3, x4, cl, im⟩ false false = (bumped D ⟨x0, x1, x2, x3, x4, cl, im⟩).norm from rfl] at hn
      rw [hn, enc_norm] at h
      exact h
    have WR : Hid (∀ w, RefAt w u M (reads D 2) → Calls Try.prog 78 #[.pointer (some ⟨u, 0, none⟩), .int .i64 (((s0 : Int) + 1) % 2), .string ⟨(enc (bumped D ⟨x0, x1, x2, x3, x4, cl, im⟩)).toArray⟩] w fun e w' => e = .returned (.int .i64 (errOff bw)) ∧ RfTo w u M w' (stW D ⟨x0, x1, x2, x3, x4, cl, im⟩)) := Lib.hid fun w s => by
      have h := refWrite_eq s (i := (seqOf D + 1) % 2) (by rw [reads_pg]; omega) (bs := enc (bumped D ⟨x0, x1, x2, x3, x4, cl, im⟩)) (by rw [enc_len]; omega) bw HBW.out
      rw [HSQ.out, show (((s0 + 1) % 2 : Nat) : Int) = ((s0 : Int) + 1) % 2 from by omega] at h
      rw [show stW D ⟨x0, x1, x2, x3, x4, cl, im⟩ = (reads D 2).change ((s0 + 1) % 2) (.whole (pad (enc (bumped D ⟨x0, x1, x2, x3, x4, cl, im⟩)))) from by unfold stW; rw [HSQ.out]]
      exact h
    have X5 : Hid ((w4.setCell ⟨X, 0, none⟩ (.int .u64 ((s0 : Int) + 1))).heap[X]? = some (.cells #[.int .u64 ((s0 : Int) + 1), .int .u64 (x1 : Int), .int .u64 (x2 : Int), .int .u64 (x3 : Int), .int .u64 (x4 : Int), .bool cl, .int .i64 im] 37 (0, 0))) := Lib.hid ((heap_setCell_same w4 X 0 _ _ _ X4.out).trans rfl)
    have f5 : Fr (One X) w4 (w4.setCell ⟨X, 0, none⟩ (.int .u64 ((s0 : Int) + 1))) := (Fr.refl (One X) w4).set1 (o := 0) (.int .u64 ((s0 : Int) + 1))
    have R5 := Lib.hid (f5.heap R4.out fun e => XR.out (Eq.symm e))
    have S5 := Lib.hid (S4.out.keep f5 fun j hj e => by
      have e : j = X := e
      rw [e] at hj
      exact MX.out hj)
    have F5 : Hid (Fr M w (w4.setCell ⟨X, 0, none⟩ (.int .u64 ((s0 : Int) + 1)))) := Lib.hid (F4.out.trans f5 fun j hj e => by
      have e : j = X := e
      have := HX.out
      omega)
    clear f5 hi
    go_upto_region 7 with fail
    clear a0 a1 a2 a3 a4 a5 a6 f0 f1 f2 f3 f4 f5 f6 b0 b1 b2 b3 b4 b5 b6 e0 e1 e2 e3 e4 e5 e6 z0 z1 z2 z3 z4 z5 z6 S4 X4 R4 F4 B4
    generalize w4.setCell ⟨X, 0, none⟩ (.int .u64 ((s0 : Int) + 1)) = w5 at *
    have c0 : w5.cell? ⟨X, 0, none⟩ = some (.int .u64 ((s0 : Int) + 1)) := cell_of_row _ X 0 _ _ (0, 0) X5.out
    have c1 : w5.cell? ⟨X, 1, none⟩ = some (.int .u64 (x1 : Int)) := cell_of_row _ X 1 _ _ (0, 0) X5.out
    have c2 : w5.cell? ⟨X, 2, none⟩ = some (.int .u64 (x2 : Int)) := cell_of_row _ X 2 _ _ (0, 0) X5.out
    have c3 : w5.cell? ⟨X, 3, none⟩ = some (.int .u64 (x3 : Int)) := cell_of_row _ X 3 _ _ (0, 0) X5.out
    have c4 : w5.cell? ⟨X, 4, none⟩ = some (.int .u64 (x4 : Int)) := cell_of_row _ X 4 _ _ (0, 0) X5.out
    have c5 : w5.cell? ⟨X, 5, none⟩ = some (.bool cl) := cell_of_row _ X 5 _ _ (0, 0) X5.out
    have c6 : w5.cell? ⟨X, 6, none⟩ = some (.int .i64 im) := cell_of_row _ X 6 _ _ (0, 0) X5.out
    have fz := frozen_of_row w5 X 6 _ _ X5.out
    by_cases hr : 0 ≤ im ∧ im ≤ 2147483647
    · have e : im = (i : Int) := by
        rw [HI.out]
        unfold Blk.img
        rw [if_pos hr]
        exact (Int.toNat_of_nonneg hr.1).symm
      have g1 := hr.1
      have g2 := hr.2
      have X6 : Hid (w5.heap[X]? = some (.cells #[.int .u64 ((s0 : Int) + 1), .int .u64 (x1 : Int), .int .u64 (x2 : Int), .int .u64 (x3 : Int), .int .u64 (x4 : Int), .bool cl, .int .i64 (i : Int)] 37 (0, 0))) := Lib.hid (by
        rw [← e]
        exact X5.out)
      have R6 := R5
      have S6 := S5
      have F6 := F5
      clear hr e X5 R5 S5 F5
      go_upto_region 9 with fail
      clear c0 c1 c2 c3 c4 c5 c6 fz
      generalize w5 = w6 at *
      have MW : Hid (w.heap.size ≤ X ∧ w.heap.size ≤ R) := Lib.hid (by
        have := HX.out
        have := HR.out
        omega)
      have c0 : w6.cell? ⟨X, 0, none⟩ = some (.int .u64 ((s0 : Int) + 1)) := cell_of_row _ X 0 _ _ (0, 0) X6.out
      have c1 : w6.cell? ⟨X, 1, none⟩ = some (.int .u64 (x1 : Int)) := cell_of_row _ X 1 _ _ (0, 0) X6.out
      have c2 : w6.cell? ⟨X, 2, none⟩ = some (.int .u64 (x2 : Int)) := cell_of_row _ X 2 _ _ (0, 0) X6.out
      have c3 : w6.cell? ⟨X, 3, none⟩ = some (.int .u64 (x3 : Int)) := cell_of_row _ X 3 _ _ (0, 0) X6.out
      have c4 : w6.cell? ⟨X, 4, none⟩ = some (.int .u64 (x4 : Int)) := cell_of_row _ X 4 _ _ (0, 0) X6.out
      have c5 : w6.cell? ⟨X, 5, none⟩ = some (.bool cl) := cell_of_row _ X 5 _ _ (0, 0) X6.out
      have c6 : w6.cell? ⟨X, 6, none⟩ = some (.int .i64 (i : Int)) := cell_of_row _ X 6 _ _ (0, 0) X6.out
      have WL := Lib.hid (lt_of_block X6.out)
      have RL := Lib.hid (lt_of_block R6.out)
      go_cut [7] (fun t W => t = .int .i64 (errOff bw) ∧ Hid (W.heap[X]? = some (.cells #[.int .u64 ((s0 : Int) + 1), .int .u64 (x1 : Int), .int .u64 (x2 : Int), .int .u64 (x3 : Int), .int .u64 (x4 : Int), .bool cl, .int .i64 (i : Int)] 37 (0, 0))) ∧ Hid (W.heap[R]? = some (.cells #[.int .u64 0, .int .u64 0, .int .u64 0, .int .u64 0, .int .u64 0, .bool false, .int .i64 0] 37 (0, 0))) ∧ Hid (∃ M7, RefAt W u M7 (stW D ⟨x0, x1, x2, x3, x4, cl, im⟩) ∧ (¬ M7 X ∧ ¬ M7 R) ∧ ∀ k, M7 k → M k ∨ w.heap.size ≤ k) ∧ Hid (Fr M w W))
      case first =>
        have Q := Lib.hid (Fr.refl Nob w6)
        go_region_held3 (fun w' => w'.cell? ⟨X, 0, none⟩ = some (.int .u64 ((s0 : Int) + 1)) ∧ w'.cell? ⟨X, 1, none⟩ = some (.int .u64 (x1 : Int)) ∧ w'.cell? ⟨X, 2, none⟩ = some (.int .u64 (x2 : Int)) ∧ w'.cell? ⟨X, 3, none⟩ = some (.int .u64 (x3 : Int)) ∧ w'.cell? ⟨X, 4, none⟩ = some (.int .u64 (x4 : Int)) ∧ w'.cell? ⟨X, 5, none⟩ = some (.bool cl) ∧ w'.cell? ⟨X, 6, none⟩ = some (.int .i64 (i : Int)))
          (first | go_keep | exact ⟨c0, c1, c2, c3, c4, c5, c6⟩ | exact ⟨by assumption, by assumption, by assumption, by assumption, by assumption, by assumption, by assumption⟩)
          (first
          | (go_at_call 29; (with_reducible refine (ENC.out _).mono ?_); rintro e w7 ⟨rfl, f7⟩; have d0 : w7.cell? ⟨X, 0, none⟩ = some (.int .u64 ((s0 : Int) + 1)) := f7.cell (by assumption) (fun h => h); have d1 : w7.cell? ⟨X, 1, none⟩ = some (.int .u64 (x1 : Int)) := f7.cell (by assumption) (fun h => h); have d2 : w7.cell? ⟨X, 2, none⟩ = some (.int .u64 (x2 : Int)) := f7.cell (by assumption) (fun h => h); have d3 : w7.cell? ⟨X, 3, none⟩ = some (.int .u64 (x3 : Int)) := f7.cell (by assumption) (fun h => h); have d4 : w7.cell? ⟨X, 4, none⟩ = some (.int .u64 (x4 : Int)) := f7.cell (by assumption) (fun h => h); have d5 : w7.cell? ⟨X, 5, none⟩ = some (.bool cl) := f7.cell (by assumption) (fun h => h); have d6 : w7.cell? ⟨X, 6, none⟩ = some (.int .i64 (i : Int)) := f7.cell (by assumption) (fun h => h); have Q : Hid (Fr Nob w6 w7) := Lib.hid (by first | exact Q.out.trans' f7 | exact Q.out.drew.trans' f7); clear f7)
          | (go_at_call 78; (with_reducible refine (WR.out _ (S6.out.keep Q.out fun _ _ h => h)).mono ?_); rintro e w8 ⟨rfl, t⟩; have f8 := t.choose_spec.2.1; have k0 : w8.cell? ⟨X, 0, none⟩ = some (.int .u64 ((s0 : Int) + 1)) := f8.cell (by assumption) MX.out; have k1 : w8.cell? ⟨X, 1, none⟩ = some (.int .u64 (x1 : Int)) := f8.cell (by assumption) MX.out; have k2 : w8.cell? ⟨X, 2, none⟩ = some (.int .u64 (x2 : Int)) := f8.cell (by assumption) MX.out; have k3 : w8.cell? ⟨X, 3, none⟩ = some (.int .u64 (x3 : Int)) := f8.cell (by assumption) MX.out; have k4 : w8.cell? ⟨X, 4, none⟩ = some (.int .u64 (x4 : Int)) := f8.cell (by assumption) MX.out; have k5 : w8.cell? ⟨X, 5, none⟩ = some (.bool cl) := f8.cell (by assumption) MX.out; have k6 : w8.cell? ⟨X, 6, none⟩ = some (.int .i64 (i : Int)) := f8.cell (by assumption) MX.out; have TT := Lib.hid t; clear f8 t))
        all_goals
          go_wp2_with fail
          go_meet
          obtain ⟨M8, r8, f8, h8⟩ := TT.out
          have hq := Q.out.size
          refine ⟨rfl, Lib.hid (f8.heap (Q.out.heap X6.out fun h => h) MX.out), Lib.hid (f8.heap (Q.out.heap R6.out fun h => h) MR.out), Lib.hid ⟨M8, r8, ⟨fun h => ?_, fun h => ?_⟩, fun k hk => ?_⟩, Lib.hid ((F6.out.trans Q.out fun _ _ h => h.elim).trans f8 fun _ _ h => h)⟩
          · rcases h8 X h with h | h
            · exact MX.out h
            · have := WL.out
              omega
          · rcases h8 R h with h | h
            · exact MR.out h
            · have := RL.out
              omega
          · rcases h8 k hk with h | h
            · exact .inl h
            · have := (F6.out.trans Q.out fun _ _ h => h.elim).size
              right
              omega
      case rest =>
        obtain ⟨rfl, x9, r9, m9, f9⟩ := hcut
        generalize wc = w9 at *
        clear c0 c1 c2 c3 c4 c5 c6 ENC WR S6 X6 R6 F6 WL RL
        cases bw with
        | true =>
          rw [show errOff true = 4 from rfl]
          have e0 := cell_of_row w9 R 0 _ _ (0, 0) r9.out
          have e1 := cell_of_row w9 R 1 _ _ (0, 0) r9.out
          have e2 := cell_of_row w9 R 2 _ _ (0, 0) r9.out
          have e3 := cell_of_row w9 R 3 _ _ (0, 0) r9.out
          have e4 := cell_of_row w9 R 4 _ _ (0, 0) r9.out
          have e5 := cell_of_row w9 R 5 _ _ (0, 0) r9.out
          have e6 := cell_of_row w9 R 6 _ _ (0, 0) r9.out
          have z0 := frozen_of_row w9 R 0 _ _ r9.out
          have z1 := frozen_of_row w9 R 1 _ _ r9.out
          have z2 := frozen_of_row w9 R 2 _ _ r9.out
          have z3 := frozen_of_row w9 R 3 _ _ r9.out
          have z4 := frozen_of_row w9 R 4 _ _ r9.out
          have z5 := frozen_of_row w9 R 5 _ _ r9.out
          have z6 := frozen_of_row w9 R 6 _ _ r9.out
          have FIN : Hid (∀ u0 u1 u2 u3 u4 u5 u6 : Value, RfTo w u M (((((((w9.setCell ⟨R, 0, none⟩ u0).setCell ⟨R, 1, none⟩ u1).setCell ⟨R, 2, none⟩ u2).setCell ⟨R, 3, none⟩ u3).setCell ⟨R, 4, none⟩ u4).setCell ⟨R, 5, none⟩ u5).setCell ⟨R, 6, none⟩ u6) (stW D ⟨x0, x1, x2, x3, x4, cl, im⟩)) := Lib.hid fun u0 u1 u2 u3 u4 u5 u6 => by
            have f7 := fr7 (w := w9) (R := R) u0 u1 u2 u3 u4 u5 u6
            obtain ⟨M9, q1, q2, q3⟩ := m9.out
            refine ⟨M9, q1.keep f7 fun j hj e => ?_, f9.out.trans f7 fun j hj e => ?_, q3⟩
            · have e : j = R := e
              rw [e] at hj
              exact q2.2 hj
            · have e : j = R := e
              have := MW.out
              omega
          go_wp2_with fail
          refine bodyPost_ret (v := .tuple #[.agg #[.int .u64 0, .int .u64 0, .int .u64 0, .int .u64 0, .int .u64 0, .bool false, .int .i64 0], .int .i64 4]) (by simp [results, Try.results56, go_sem, e0, e1, e2, e3, e4, e5, e6]) rfl ⟨rfl, FIN.out _ _ _ _ _ _ _⟩
        | false =>
          rw [show errOff false = 0 from rfl]
          obtain ⟨M9, q1, q2, q3⟩ := m9.out
          have FL := Lib.hid (refFlush_eq q1 bf HBF.out)
          have Q2 := Lib.hid q2
          have Q3 := Lib.hid q3
          have LX := Lib.hid (lt_of_block x9.out)
          have LR := Lib.hid (lt_of_block r9.out)
          clear q1 q2 q3 m9
          go_wp2_with fail
          refine FL.out.mono ?_
          rintro e w10 ⟨rfl, t⟩
          have TT := Lib.hid t
          have X10 := Lib.hid (t.choose_spec.2.1.heap x9.out Q2.out.1)
          have R10 := Lib.hid (t.choose_spec.2.1.heap r9.out Q2.out.2)
          clear t FL x9 r9
          have e0 := cell_of_row w10 R 0 _ _ (0, 0) R10.out
          have e1 := cell_of_row w10 R 1 _ _ (0, 0) R10.out
          have e2 := cell_of_row w10 R 2 _ _ (0, 0) R10.out
          have e3 := cell_of_row w10 R 3 _ _ (0, 0) R10.out
          have e4 := cell_of_row w10 R 4 _ _ (0, 0) R10.out
          have e5 := cell_of_row w10 R 5 _ _ (0, 0) R10.out
          have e6 := cell_of_row w10 R 6 _ _ (0, 0) R10.out
          have z0 := frozen_of_row w10 R 0 _ _ R10.out
          have z1 := frozen_of_row w10 R 1 _ _ R10.out
          have z2 := frozen_of_row w10 R 2 _ _ R10.out
          have z3 := frozen_of_row w10 R 3 _ _ R10.out
          have z4 := frozen_of_row w10 R 4 _ _ R10.out
          have z5 := frozen_of_row w10 R 5 _ _ R10.out
          have z6 := frozen_of_row w10 R 6 _ _ R10.out
          have c0 := cell_of_row w10 X 0 _ _ (0, 0) X10.out
          have c1 := cell_of_row w10 X 1 _ _ (0, 0) X10.out
          have c2 := cell_of_row w10 X 2 _ _ (0, 0) X10.out
          have c3 := cell_of_row w10 X 3 _ _ (0, 0) X10.out
          have c4 := cell_of_row w10 X 4 _ _ (0, 0) X10.out
          have c5 := cell_of_row w10 X 5 _ _ (0, 0) X10.out
          have c6 := cell_of_row w10 X 6 _ _ (0, 0) X10.out
          have FIN : Hid (∀ u0 u1 u2 u3 u4 u5 u6 : Value, RfTo w u M (((((((w10.setCell ⟨R, 0, none⟩ u0).setCell ⟨R, 1, none⟩ u1).setCell ⟨R, 2, none⟩ u2).setCell ⟨R, 3, none⟩ u3).setCell ⟨R, 4, none⟩ u4).setCell ⟨R, 5, none⟩ u5).setCell ⟨R, 6, none⟩ u6) (stF D ⟨x0, x1, x2, x3, x4, cl, im⟩)) := Lib.hid fun u0 u1 u2 u3 u4 u5 u6 => by
            have f7 := fr7 (w := w10) (R := R) u0 u1 u2 u3 u4 u5 u6
            obtain ⟨M10, q1, q2, q3⟩ := TT.out
            refine ⟨M10, q1.keep f7 fun j hj e => ?_, (f9.out.trans q2 fun j hj e => ?_).trans f7 fun j hj e => ?_, fun k hk => ?_⟩
            · have e : j = R := e
              rw [e] at hj
              rcases q3 R hj with h | h
              · exact Q2.out.2 h
              · have := LR.out
                omega
            · rcases Q3.out j e with h | h
              · exact h
              · omega
            · have e : j = R := e
              have := MW.out
              omega
            · rcases q3 k hk with h | h
              · exact Q3.out k h
              · have := f9.out.size
                right
                omega
          cases bf with
          | true =>
            rw [show errOff true = 4 from rfl]
            go_wp2_with fail
            refine bodyPost_ret (v := .tuple #[.agg #[.int .u64 0, .int .u64 0, .int .u64 0, .int .u64 0, .int .u64 0, .bool false, .int .i64 0], .int .i64 4]) (by simp [results, Try.results56, go_sem, e0, e1, e2, e3, e4, e5, e6]) rfl ⟨rfl, FIN.out _ _ _ _ _ _ _⟩
          | false =>
            rw [show errOff false = 0 from rfl]
            go_wp2_with fail
            refine bodyPost_ret (v := .tuple #[.agg #[.int .u64 ((s0 : Int) + 1), .int .u64 (x1 : Int), .int .u64 (x2 : Int), .int .u64 (x3 : Int), .int .u64 (x4 : Int), .bool cl, .int .i64 (i : Int)], .int .i64 0]) (by simp [results, Try.results56, go_sem, e0, e1, e2, e3, e4, e5, e6]) rfl ⟨?_, FIN.out _ _ _ _ _ _ _⟩
            rw [NB.out]
            rfl
    · have e : i = 0 := by
        rw [HI.out]
        unfold Blk.img
        rw [if_neg hr]
      have f6 : Fr (One X) w5 (w5.setCell ⟨X, 6, none⟩ (.int .i64 0)) := (Fr.refl (One X) w5).set1 (o := 6) (.int .i64 0)
      have X6 : Hid ((w5.setCell ⟨X, 6, none⟩ (.int .i64 0)).heap[X]? = some (.cells #[.int .u64 ((s0 : Int) + 1), .int .u64 (x1 : Int), .int .u64 (x2 : Int), .int .u64 (x3 : Int), .int .u64 (x4 : Int), .bool cl, .int .i64 (i : Int)] 37 (0, 0))) := Lib.hid (by
        rw [heap_setCell_same w5 X 6 _ _ _ X5.out, e]
        rfl)
      clear e
      have R6 := Lib.hid (f6.heap R5.out fun e => XR.out (Eq.symm e))
      have S6 := Lib.hid (S5.out.keep f6 fun j hj e => by
        have e : j = X := e
        rw [e] at hj
        exact MX.out hj)
      have F6 : Hid (Fr M w (w5.setCell ⟨X, 6, none⟩ (.int .i64 0))) := Lib.hid (F5.out.trans f6 fun j hj e => by
        have e : j = X := e
        have := HX.out
        omega)
      clear f6 X5 R5 S5 F5
      rcases (by omega : im < 0 ∨ 2147483647 < im) with g | g
      · clear hr
        go_upto_region 9 with fail
        clear c0 c1 c2 c3 c4 c5 c6 fz
        generalize w5.setCell ⟨X, 6, none⟩ (.int .i64 0) = w6 at *
        have MW : Hid (w.heap.size ≤ X ∧ w.heap.size ≤ R) := Lib.hid (by
          have := HX.out
          have := HR.out
          omega)
        have c0 : w6.cell? ⟨X, 0, none⟩ = some (.int .u64 ((s0 : Int) + 1)) := cell_of_row _ X 0 _ _ (0, 0) X6.out
        have c1 : w6.cell? ⟨X, 1, none⟩ = some (.int .u64 (x1 : Int)) := cell_of_row _ X 1 _ _ (0, 0) X6.out
        have c2 : w6.cell? ⟨X, 2, none⟩ = some (.int .u64 (x2 : Int)) := cell_of_row _ X 2 _ _ (0, 0) X6.out
        have c3 : w6.cell? ⟨X, 3, none⟩ = some (.int .u64 (x3 : Int)) := cell_of_row _ X 3 _ _ (0, 0) X6.out
        have c4 : w6.cell? ⟨X, 4, none⟩ = some (.int .u64 (x4 : Int)) := cell_of_row _ X 4 _ _ (0, 0) X6.out
        have c5 : w6.cell? ⟨X, 5, none⟩ = some (.bool cl) := cell_of_row _ X 5 _ _ (0, 0) X6.out
        have c6 : w6.cell? ⟨X, 6, none⟩ = some (.int .i64 (i : Int)) := cell_of_row _ X 6 _ _ (0, 0) X6.out
        have WL := Lib.hid (lt_of_block X6.out)
        have RL := Lib.hid (lt_of_block R6.out)
        go_cut [7] (fun t W => t = .int .i64 (errOff bw) ∧ Hid (W.heap[X]? = some (.cells #[.int .u64 ((s0 : Int) + 1), .int .u64 (x1 : Int), .int .u64 (x2 : Int), .int .u64 (x3 : Int), .int .u64 (x4 : Int), .bool cl, .int .i64 (i : Int)] 37 (0, 0))) ∧ Hid (W.heap[R]? = some (.cells #[.int .u64 0, .int .u64 0, .int .u64 0, .int .u64 0, .int .u64 0, .bool false, .int .i64 0] 37 (0, 0))) ∧ Hid (∃ M7, RefAt W u M7 (stW D ⟨x0, x1, x2, x3, x4, cl, im⟩) ∧ (¬ M7 X ∧ ¬ M7 R) ∧ ∀ k, M7 k → M k ∨ w.heap.size ≤ k) ∧ Hid (Fr M w W))
        case first =>
          have Q := Lib.hid (Fr.refl Nob w6)
          go_region_held3 (fun w' => w'.cell? ⟨X, 0, none⟩ = some (.int .u64 ((s0 : Int) + 1)) ∧ w'.cell? ⟨X, 1, none⟩ = some (.int .u64 (x1 : Int)) ∧ w'.cell? ⟨X, 2, none⟩ = some (.int .u64 (x2 : Int)) ∧ w'.cell? ⟨X, 3, none⟩ = some (.int .u64 (x3 : Int)) ∧ w'.cell? ⟨X, 4, none⟩ = some (.int .u64 (x4 : Int)) ∧ w'.cell? ⟨X, 5, none⟩ = some (.bool cl) ∧ w'.cell? ⟨X, 6, none⟩ = some (.int .i64 (i : Int)))
            (first | go_keep | exact ⟨c0, c1, c2, c3, c4, c5, c6⟩ | exact ⟨by assumption, by assumption, by assumption, by assumption, by assumption, by assumption, by assumption⟩)
            (first
            | (go_at_call 29; (with_reducible refine (ENC.out _).mono ?_); rintro e w7 ⟨rfl, f7⟩; have d0 : w7.cell? ⟨X, 0, none⟩ = some (.int .u64 ((s0 : Int) + 1)) := f7.cell (by assumption) (fun h => h); have d1 : w7.cell? ⟨X, 1, none⟩ = some (.int .u64 (x1 : Int)) := f7.cell (by assumption) (fun h => h); have d2 : w7.cell? ⟨X, 2, none⟩ = some (.int .u64 (x2 : Int)) := f7.cell (by assumption) (fun h => h); have d3 : w7.cell? ⟨X, 3, none⟩ = some (.int .u64 (x3 : Int)) := f7.cell (by assumption) (fun h => h); have d4 : w7.cell? ⟨X, 4, none⟩ = some (.int .u64 (x4 : Int)) := f7.cell (by assumption) (fun h => h); have d5 : w7.cell? ⟨X, 5, none⟩ = some (.bool cl) := f7.cell (by assumption) (fun h => h); have d6 : w7.cell? ⟨X, 6, none⟩ = some (.int .i64 (i : Int)) := f7.cell (by assumption) (fun h => h); have Q : Hid (Fr Nob w6 w7) := Lib.hid (by first | exact Q.out.trans' f7 | exact Q.out.drew.trans' f7); clear f7)
            | (go_at_call 78; (with_reducible refine (WR.out _ (S6.out.keep Q.out fun _ _ h => h)).mono ?_); rintro e w8 ⟨rfl, t⟩; have f8 := t.choose_spec.2.1; have k0 : w8.cell? ⟨X, 0, none⟩ = some (.int .u64 ((s0 : Int) + 1)) := f8.cell (by assumption) MX.out; have k1 : w8.cell? ⟨X, 1, none⟩ = some (.int .u64 (x1 : Int)) := f8.cell (by assumption) MX.out; have k2 : w8.cell? ⟨X, 2, none⟩ = some (.int .u64 (x2 : Int)) := f8.cell (by assumption) MX.out; have k3 : w8.cell? ⟨X, 3, none⟩ = some (.int .u64 (x3 : Int)) := f8.cell (by assumption) MX.out; have k4 : w8.cell? ⟨X, 4, none⟩ = some (.int .u64 (x4 : Int)) := f8.cell (by assumption) MX.out; have k5 : w8.cell? ⟨X, 5, none⟩ = some (.bool cl) := f8.cell (by assumption) MX.out; have k6 : w8.cell? ⟨X, 6, none⟩ = some (.int .i64 (i : Int)) := f8.cell (by assumption) MX.out; have TT := Lib.hid t; clear f8 t))
          all_goals
            go_wp2_with fail
            go_meet
            obtain ⟨M8, r8, f8, h8⟩ := TT.out
            have hq := Q.out.size
            refine ⟨rfl, Lib.hid (f8.heap (Q.out.heap X6.out fun h => h) MX.out), Lib.hid (f8.heap (Q.out.heap R6.out fun h => h) MR.out), Lib.hid ⟨M8, r8, ⟨fun h => ?_, fun h => ?_⟩, fun k hk => ?_⟩, Lib.hid ((F6.out.trans Q.out fun _ _ h => h.elim).trans f8 fun _ _ h => h)⟩
            · rcases h8 X h with h | h
              · exact MX.out h
              · have := WL.out
                omega
            · rcases h8 R h with h | h
              · exact MR.out h
              · have := RL.out
                omega
            · rcases h8 k hk with h | h
              · exact .inl h
              · have := (F6.out.trans Q.out fun _ _ h => h.elim).size
                right
                omega
        case rest =>
          obtain ⟨rfl, x9, r9, m9, f9⟩ := hcut
          generalize wc = w9 at *
          clear c0 c1 c2 c3 c4 c5 c6 ENC WR S6 X6 R6 F6 WL RL
          cases bw with
          | true =>
            rw [show errOff true = 4 from rfl]
            have e0 := cell_of_row w9 R 0 _ _ (0, 0) r9.out
            have e1 := cell_of_row w9 R 1 _ _ (0, 0) r9.out
            have e2 := cell_of_row w9 R 2 _ _ (0, 0) r9.out
            have e3 := cell_of_row w9 R 3 _ _ (0, 0) r9.out
            have e4 := cell_of_row w9 R 4 _ _ (0, 0) r9.out
            have e5 := cell_of_row w9 R 5 _ _ (0, 0) r9.out
            have e6 := cell_of_row w9 R 6 _ _ (0, 0) r9.out
            have z0 := frozen_of_row w9 R 0 _ _ r9.out
            have z1 := frozen_of_row w9 R 1 _ _ r9.out
            have z2 := frozen_of_row w9 R 2 _ _ r9.out
            have z3 := frozen_of_row w9 R 3 _ _ r9.out
            have z4 := frozen_of_row w9 R 4 _ _ r9.out
            have z5 := frozen_of_row w9 R 5 _ _ r9.out
            have z6 := frozen_of_row w9 R 6 _ _ r9.out
            have FIN : Hid (∀ u0 u1 u2 u3 u4 u5 u6 : Value, RfTo w u M (((((((w9.setCell ⟨R, 0, none⟩ u0).setCell ⟨R, 1, none⟩ u1).setCell ⟨R, 2, none⟩ u2).setCell ⟨R, 3, none⟩ u3).setCell ⟨R, 4, none⟩ u4).setCell ⟨R, 5, none⟩ u5).setCell ⟨R, 6, none⟩ u6) (stW D ⟨x0, x1, x2, x3, x4, cl, im⟩)) := Lib.hid fun u0 u1 u2 u3 u4 u5 u6 => by
              have f7 := fr7 (w := w9) (R := R) u0 u1 u2 u3 u4 u5 u6
              obtain ⟨M9, q1, q2, q3⟩ := m9.out
              refine ⟨M9, q1.keep f7 fun j hj e => ?_, f9.out.trans f7 fun j hj e => ?_, q3⟩
              · have e : j = R := e
                rw [e] at hj
                exact q2.2 hj
              · have e : j = R := e
                have := MW.out
                omega
            go_wp2_with fail
            refine bodyPost_ret (v := .tuple #[.agg #[.int .u64 0, .int .u64 0, .int .u64 0, .int .u64 0, .int .u64 0, .bool false, .int .i64 0], .int .i64 4]) (by simp [results, Try.results56, go_sem, e0, e1, e2, e3, e4, e5, e6]) rfl ⟨rfl, FIN.out _ _ _ _ _ _ _⟩
          | false =>
            rw [show errOff false = 0 from rfl]
            obtain ⟨M9, q1, q2, q3⟩ := m9.out
            have FL := Lib.hid (refFlush_eq q1 bf HBF.out)
            have Q2 := Lib.hid q2
            have Q3 := Lib.hid q3
            have LX := Lib.hid (lt_of_block x9.out)
            have LR := Lib.hid (lt_of_block r9.out)
            clear q1 q2 q3 m9
            go_wp2_with fail
            refine FL.out.mono ?_
            rintro e w10 ⟨rfl, t⟩
            have TT := Lib.hid t
            have X10 := Lib.hid (t.choose_spec.2.1.heap x9.out Q2.out.1)
            have R10 := Lib.hid (t.choose_spec.2.1.heap r9.out Q2.out.2)
            clear t FL x9 r9
            have e0 := cell_of_row w10 R 0 _ _ (0, 0) R10.out
            have e1 := cell_of_row w10 R 1 _ _ (0, 0) R10.out
            have e2 := cell_of_row w10 R 2 _ _ (0, 0) R10.out
            have e3 := cell_of_row w10 R 3 _ _ (0, 0) R10.out
            have e4 := cell_of_row w10 R 4 _ _ (0, 0) R10.out
            have e5 := cell_of_row w10 R 5 _ _ (0, 0) R10.out
            have e6 := cell_of_row w10 R 6 _ _ (0, 0) R10.out
            have z0 := frozen_of_row w10 R 0 _ _ R10.out
            have z1 := frozen_of_row w10 R 1 _ _ R10.out
            have z2 := frozen_of_row w10 R 2 _ _ R10.out
            have z3 := frozen_of_row w10 R 3 _ _ R10.out
            have z4 := frozen_of_row w10 R 4 _ _ R10.out
            have z5 := frozen_of_row w10 R 5 _ _ R10.out
            have z6 := frozen_of_row w10 R 6 _ _ R10.out
            have c0 := cell_of_row w10 X 0 _ _ (0, 0) X10.out
            have c1 := cell_of_row w10 X 1 _ _ (0, 0) X10.out
            have c2 := cell_of_row w10 X 2 _ _ (0, 0) X10.out
            have c3 := cell_of_row w10 X 3 _ _ (0, 0) X10.out
            have c4 := cell_of_row w10 X 4 _ _ (0, 0) X10.out
            have c5 := cell_of_row w10 X 5 _ _ (0, 0) X10.out
            have c6 := cell_of_row w10 X 6 _ _ (0, 0) X10.out
            have FIN : Hid (∀ u0 u1 u2 u3 u4 u5 u6 : Value, RfTo w u M (((((((w10.setCell ⟨R, 0, none⟩ u0).setCell ⟨R, 1, none⟩ u1).setCell ⟨R, 2, none⟩ u2).setCell ⟨R, 3, none⟩ u3).setCell ⟨R, 4, none⟩ u4).setCell ⟨R, 5, none⟩ u5).setCell ⟨R, 6, none⟩ u6) (stF D ⟨x0, x1, x2, x3, x4, cl, im⟩)) := Lib.hid fun u0 u1 u2 u3 u4 u5 u6 => by
              have f7 := fr7 (w := w10) (R := R) u0 u1 u2 u3 u4 u5 u6
              obtain ⟨M10, q1, q2, q3⟩ := TT.out
              refine ⟨M10, q1.keep f7 fun j hj e => ?_, (f9.out.trans q2 fun j hj e => ?_).trans f7 fun j hj e => ?_, fun k hk => ?_⟩
              · have e : j = R := e
                rw [e] at hj
                rcases q3 R hj with h | h
                · exact Q2.out.2 h
                · have := LR.out
                  omega
              · rcases Q3.out j e with h | h
                · exact h
                · omega
              · have e : j = R := e
                have := MW.out
                omega
              · rcases q3 k hk with h | h
                · exact Q3.out k h
                · have := f9.out.size
                  right
                  omega
            cases bf with
            | true =>
              rw [show errOff true = 4 from rfl]
              go_wp2_with fail
              refine bodyPost_ret (v := .tuple #[.agg #[.int .u64 0, .int .u64 0, .int .u64 0, .int .u64 0, .int .u64 0, .bool false, .int .i64 0], .int .i64 4]) (by simp [results, Try.results56, go_sem, e0, e1, e2, e3, e4, e5, e6]) rfl ⟨rfl, FIN.out _ _ _ _ _ _ _⟩
            | false =>
              rw [show errOff false = 0 from rfl]
              go_wp2_with fail
              refine bodyPost_ret (v := .tuple #[.agg #[.int .u64 ((s0 : Int) + 1), .int .u64 (x1 : Int), .int .u64 (x2 : Int), .int .u64 (x3 : Int), .int .u64 (x4 : Int), .bool cl, .int .i64 (i : Int)], .int .i64 0]) (by simp [results, Try.results56, go_sem, e0, e1, e2, e3, e4, e5, e6]) rfl ⟨?_, FIN.out _ _ _ _ _ _ _⟩
              rw [NB.out]
              rfl
      · have g0 : 0 ≤ im := by omega
        clear hr
        go_upto_region 9 with fail
        clear c0 c1 c2 c3 c4 c5 c6 fz
        generalize w5.setCell ⟨X, 6, none⟩ (.int .i64 0) = w6 at *
        have MW : Hid (w.heap.size ≤ X ∧ w.heap.size ≤ R) := Lib.hid (by
          have := HX.out
          have := HR.out
          omega)
        have c0 : w6.cell? ⟨X, 0, none⟩ = some (.int .u64 ((s0 : Int) + 1)) := cell_of_row _ X 0 _ _ (0, 0) X6.out
        have c1 : w6.cell? ⟨X, 1, none⟩ = some (.int .u64 (x1 : Int)) := cell_of_row _ X 1 _ _ (0, 0) X6.out
        have c2 : w6.cell? ⟨X, 2, none⟩ = some (.int .u64 (x2 : Int)) := cell_of_row _ X 2 _ _ (0, 0) X6.out
        have c3 : w6.cell? ⟨X, 3, none⟩ = some (.int .u64 (x3 : Int)) := cell_of_row _ X 3 _ _ (0, 0) X6.out
        have c4 : w6.cell? ⟨X, 4, none⟩ = some (.int .u64 (x4 : Int)) := cell_of_row _ X 4 _ _ (0, 0) X6.out
        have c5 : w6.cell? ⟨X, 5, none⟩ = some (.bool cl) := cell_of_row _ X 5 _ _ (0, 0) X6.out
        have c6 : w6.cell? ⟨X, 6, none⟩ = some (.int .i64 (i : Int)) := cell_of_row _ X 6 _ _ (0, 0) X6.out
        have WL := Lib.hid (lt_of_block X6.out)
        have RL := Lib.hid (lt_of_block R6.out)
        go_cut [7] (fun t W => t = .int .i64 (errOff bw) ∧ Hid (W.heap[X]? = some (.cells #[.int .u64 ((s0 : Int) + 1), .int .u64 (x1 : Int), .int .u64 (x2 : Int), .int .u64 (x3 : Int), .int .u64 (x4 : Int), .bool cl, .int .i64 (i : Int)] 37 (0, 0))) ∧ Hid (W.heap[R]? = some (.cells #[.int .u64 0, .int .u64 0, .int .u64 0, .int .u64 0, .int .u64 0, .bool false, .int .i64 0] 37 (0, 0))) ∧ Hid (∃ M7, RefAt W u M7 (stW D ⟨x0, x1, x2, x3, x4, cl, im⟩) ∧ (¬ M7 X ∧ ¬ M7 R) ∧ ∀ k, M7 k → M k ∨ w.heap.size ≤ k) ∧ Hid (Fr M w W))
        case first =>
          have Q := Lib.hid (Fr.refl Nob w6)
          go_region_held3 (fun w' => w'.cell? ⟨X, 0, none⟩ = some (.int .u64 ((s0 : Int) + 1)) ∧ w'.cell? ⟨X, 1, none⟩ = some (.int .u64 (x1 : Int)) ∧ w'.cell? ⟨X, 2, none⟩ = some (.int .u64 (x2 : Int)) ∧ w'.cell? ⟨X, 3, none⟩ = some (.int .u64 (x3 : Int)) ∧ w'.cell? ⟨X, 4, none⟩ = some (.int .u64 (x4 : Int)) ∧ w'.cell? ⟨X, 5, none⟩ = some (.bool cl) ∧ w'.cell? ⟨X, 6, none⟩ = some (.int .i64 (i : Int)))
            (first | go_keep | exact ⟨c0, c1, c2, c3, c4, c5, c6⟩ | exact ⟨by assumption, by assumption, by assumption, by assumption, by assumption, by assumption, by assumption⟩)
            (first
            | (go_at_call 29; (with_reducible refine (ENC.out _).mono ?_); rintro e w7 ⟨rfl, f7⟩; have d0 : w7.cell? ⟨X, 0, none⟩ = some (.int .u64 ((s0 : Int) + 1)) := f7.cell (by assumption) (fun h => h); have d1 : w7.cell? ⟨X, 1, none⟩ = some (.int .u64 (x1 : Int)) := f7.cell (by assumption) (fun h => h); have d2 : w7.cell? ⟨X, 2, none⟩ = some (.int .u64 (x2 : Int)) := f7.cell (by assumption) (fun h => h); have d3 : w7.cell? ⟨X, 3, none⟩ = some (.int .u64 (x3 : Int)) := f7.cell (by assumption) (fun h => h); have d4 : w7.cell? ⟨X, 4, none⟩ = some (.int .u64 (x4 : Int)) := f7.cell (by assumption) (fun h => h); have d5 : w7.cell? ⟨X, 5, none⟩ = some (.bool cl) := f7.cell (by assumption) (fun h => h); have d6 : w7.cell? ⟨X, 6, none⟩ = some (.int .i64 (i : Int)) := f7.cell (by assumption) (fun h => h); have Q : Hid (Fr Nob w6 w7) := Lib.hid (by first | exact Q.out.trans' f7 | exact Q.out.drew.trans' f7); clear f7)
            | (go_at_call 78; (with_reducible refine (WR.out _ (S6.out.keep Q.out fun _ _ h => h)).mono ?_); rintro e w8 ⟨rfl, t⟩; have f8 := t.choose_spec.2.1; have k0 : w8.cell? ⟨X, 0, none⟩ = some (.int .u64 ((s0 : Int) + 1)) := f8.cell (by assumption) MX.out; have k1 : w8.cell? ⟨X, 1, none⟩ = some (.int .u64 (x1 : Int)) := f8.cell (by assumption) MX.out; have k2 : w8.cell? ⟨X, 2, none⟩ = some (.int .u64 (x2 : Int)) := f8.cell (by assumption) MX.out; have k3 : w8.cell? ⟨X, 3, none⟩ = some (.int .u64 (x3 : Int)) := f8.cell (by assumption) MX.out; have k4 : w8.cell? ⟨X, 4, none⟩ = some (.int .u64 (x4 : Int)) := f8.cell (by assumption) MX.out; have k5 : w8.cell? ⟨X, 5, none⟩ = some (.bool cl) := f8.cell (by assumption) MX.out; have k6 : w8.cell? ⟨X, 6, none⟩ = some (.int .i64 (i : Int)) := f8.cell (by assumption) MX.out; have TT := Lib.hid t; clear f8 t))
          all_goals
            go_wp2_with fail
            go_meet
            obtain ⟨M8, r8, f8, h8⟩ := TT.out
            have hq := Q.out.size
            refine ⟨rfl, Lib.hid (f8.heap (Q.out.heap X6.out fun h => h) MX.out), Lib.hid (f8.heap (Q.out.heap R6.out fun h => h) MR.out), Lib.hid ⟨M8, r8, ⟨fun h => ?_, fun h => ?_⟩, fun k hk => ?_⟩, Lib.hid ((F6.out.trans Q.out fun _ _ h => h.elim).trans f8 fun _ _ h => h)⟩
            · rcases h8 X h with h | h
              · exact MX.out h
              · have := WL.out
                omega
            · rcases h8 R h with h | h
              · exact MR.out h
              · have := RL.out
                omega
            · rcases h8 k hk with h | h
              · exact .inl h
              · have := (F6.out.trans Q.out fun _ _ h => h.elim).size
                right
                omega
        case rest =>
          obtain ⟨rfl, x9, r9, m9, f9⟩ := hcut
          generalize wc = w9 at *
          clear c0 c1 c2 c3 c4 c5 c6 ENC WR S6 X6 R6 F6 WL RL
          cases bw with
          | true =>
            rw [show errOff true = 4 from rfl]
            have e0 := cell_of_row w9 R 0 _ _ (0, 0) r9.out
            have e1 := cell_of_row w9 R 1 _ _ (0, 0) r9.out
            have e2 := cell_of_row w9 R 2 _ _ (0, 0) r9.out
            have e3 := cell_of_row w9 R 3 _ _ (0, 0) r9.out
            have e4 := cell_of_row w9 R 4 _ _ (0, 0) r9.out
            have e5 := cell_of_row w9 R 5 _ _ (0, 0) r9.out
            have e6 := cell_of_row w9 R 6 _ _ (0, 0) r9.out
            have z0 := frozen_of_row w9 R 0 _ _ r9.out
            have z1 := frozen_of_row w9 R 1 _ _ r9.out
            have z2 := frozen_of_row w9 R 2 _ _ r9.out
            have z3 := frozen_of_row w9 R 3 _ _ r9.out
            have z4 := frozen_of_row w9 R 4 _ _ r9.out
            have z5 := frozen_of_row w9 R 5 _ _ r9.out
            have z6 := frozen_of_row w9 R 6 _ _ r9.out
            have FIN : Hid (∀ u0 u1 u2 u3 u4 u5 u6 : Value, RfTo w u M (((((((w9.setCell ⟨R, 0, none⟩ u0).setCell ⟨R, 1, none⟩ u1).setCell ⟨R, 2, none⟩ u2).setCell ⟨R, 3, none⟩ u3).setCell ⟨R, 4, none⟩ u4).setCell ⟨R, 5, none⟩ u5).setCell ⟨R, 6, none⟩ u6) (stW D ⟨x0, x1, x2, x3, x4, cl, im⟩)) := Lib.hid fun u0 u1 u2 u3 u4 u5 u6 => by
              have f7 := fr7 (w := w9) (R := R) u0 u1 u2 u3 u4 u5 u6
              obtain ⟨M9, q1, q2, q3⟩ := m9.out
              refine ⟨M9, q1.keep f7 fun j hj e => ?_, f9.out.trans f7 fun j hj e => ?_, q3⟩
              · have e : j = R := e
                rw [e] at hj
                exact q2.2 hj
              · have e : j = R := e
                have := MW.out
                omega
            go_wp2_with fail
            refine bodyPost_ret (v := .tuple #[.agg #[.int .u64 0, .int .u64 0, .int .u64 0, .int .u64 0, .int .u64 0, .bool false, .int .i64 0], .int .i64 4]) (by simp [results, Try.results56, go_sem, e0, e1, e2, e3, e4, e5, e6]) rfl ⟨rfl, FIN.out _ _ _ _ _ _ _⟩
          | false =>
            rw [show errOff false = 0 from rfl]
            obtain ⟨M9, q1, q2, q3⟩ := m9.out
            have FL := Lib.hid (refFlush_eq q1 bf HBF.out)
            have Q2 := Lib.hid q2
            have Q3 := Lib.hid q3
            have LX := Lib.hid (lt_of_block x9.out)
            have LR := Lib.hid (lt_of_block r9.out)
            clear q1 q2 q3 m9
            go_wp2_with fail
            refine FL.out.mono ?_
            rintro e w10 ⟨rfl, t⟩
            have TT := Lib.hid t
            have X10 := Lib.hid (t.choose_spec.2.1.heap x9.out Q2.out.1)
            have R10 := Lib.hid (t.choose_spec.2.1.heap r9.out Q2.out.2)
            clear t FL x9 r9
            have e0 := cell_of_row w10 R 0 _ _ (0, 0) R10.out
            have e1 := cell_of_row w10 R 1 _ _ (0, 0) R10.out
            have e2 := cell_of_row w10 R 2 _ _ (0, 0) R10.out
            have e3 := cell_of_row w10 R 3 _ _ (0, 0) R10.out
            have e4 := cell_of_row w10 R 4 _ _ (0, 0) R10.out
            have e5 := cell_of_row w10 R 5 _ _ (0, 0) R10.out
            have e6 := cell_of_row w10 R 6 _ _ (0, 0) R10.out
            have z0 := frozen_of_row w10 R 0 _ _ R10.out
            have z1 := frozen_of_row w10 R 1 _ _ R10.out
            have z2 := frozen_of_row w10 R 2 _ _ R10.out
            have z3 := frozen_of_row w10 R 3 _ _ R10.out
            have z4 := frozen_of_row w10 R 4 _ _ R10.out
            have z5 := frozen_of_row w10 R 5 _ _ R10.out
            have z6 := frozen_of_row w10 R 6 _ _ R10.out
            have c0 := cell_of_row w10 X 0 _ _ (0, 0) X10.out
            have c1 := cell_of_row w10 X 1 _ _ (0, 0) X10.out
            have c2 := cell_of_row w10 X 2 _ _ (0, 0) X10.out
            have c3 := cell_of_row w10 X 3 _ _ (0, 0) X10.out
            have c4 := cell_of_row w10 X 4 _ _ (0, 0) X10.out
            have c5 := cell_of_row w10 X 5 _ _ (0, 0) X10.out
            have c6 := cell_of_row w10 X 6 _ _ (0, 0) X10.out
            have FIN : Hid (∀ u0 u1 u2 u3 u4 u5 u6 : Value, RfTo w u M (((((((w10.setCell ⟨R, 0, none⟩ u0).setCell ⟨R, 1, none⟩ u1).setCell ⟨R, 2, none⟩ u2).setCell ⟨R, 3, none⟩ u3).setCell ⟨R, 4, none⟩ u4).setCell ⟨R, 5, none⟩ u5).setCell ⟨R, 6, none⟩ u6) (stF D ⟨x0, x1, x2, x3, x4, cl, im⟩)) := Lib.hid fun u0 u1 u2 u3 u4 u5 u6 => by
              have f7 := fr7 (w := w10) (R := R) u0 u1 u2 u3 u4 u5 u6
              obtain ⟨M10, q1, q2, q3⟩ := TT.out
              refine ⟨M10, q1.keep f7 fun j hj e => ?_, (f9.out.trans q2 fun j hj e => ?_).trans f7 fun j hj e => ?_, fun k hk => ?_⟩
              · have e : j = R := e
                rw [e] at hj
                rcases q3 R hj with h | h
                · exact Q2.out.2 h
                · have := LR.out
                  omega
              · rcases Q3.out j e with h | h
                · exact h
                · omega
              · have e : j = R := e
                have := MW.out
                omega
              · rcases q3 k hk with h | h
                · exact Q3.out k h
                · have := f9.out.size
                  right
                  omega
            cases bf with
            | true =>
              rw [show errOff true = 4 from rfl]
              go_wp2_with fail
              refine bodyPost_ret (v := .tuple #[.agg #[.int .u64 0, .int .u64 0, .int .u64 0, .int .u64 0, .int .u64 0, .bool false, .int .i64 0], .int .i64 4]) (by simp [results, Try.results56, go_sem, e0, e1, e2, e3, e4, e5, e6]) rfl ⟨rfl, FIN.out _ _ _ _ _ _ _⟩
            | false =>
              rw [show errOff false = 0 from rfl]
              go_wp2_with fail
              refine bodyPost_ret (v := .tuple #[.agg #[.int .u64 ((s0 : Int) + 1), .int .u64 (x1 : Int), .int .u64 (x2 : Int), .int .u64 (x3 : Int), .int .u64 (x4 : Int), .bool cl, .int .i64 (i : Int)], .int .i64 0]) (by simp [results, Try.results56, go_sem, e0, e1, e2, e3, e4, e5, e6]) rfl ⟨?_, FIN.out _ _ _ _ _ _ _⟩
              rw [NB.out]
              rfl

end Go.Proofs.Ytpdljgjofebgpaa
