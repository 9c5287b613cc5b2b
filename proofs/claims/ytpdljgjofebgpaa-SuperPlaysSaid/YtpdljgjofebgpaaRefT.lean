/-
  cellaretref4: Load. (Printed by gen/reft.py.)
-/
import Derived.Test.YtpdljgjofebgpaaRefR
import Derived.Test.YtpdljgjofebgpaaRefO
namespace Go.Proofs.Ytpdljgjofebgpaa
open Go.RowKit

set_option maxRecDepth 100000 in
theorem refRead_same {w : World} {u : Nat} {M : Nat → Prop} {D : Dv} (s : RefAt w u M D) {i : Nat} (hi : i < D.pg.length) (ho : D.off = false) :
    Calls Try.prog 84 #[.pointer (some ⟨u, 0, none⟩), .int .i64 i] w fun e w' => e = .returned (.tuple #[.string ⟨(txtP (D.now i)).toArray⟩, .int .i64 (rdE (D.now i))]) ∧ RefAt w' u M D.read ∧ Fr M w w' := by
  obtain ⟨gl, cl, gn, cn, gw, cw, s, hM⟩ := s
  have HM := Lib.hid hM
  have S := Lib.hid s
  have S0 := s.keep ((Fr.refl Nob w).drew) fun _ _ h => h
  have c1 := s.cells.2.1
  have c3 := s.cells.2.2.2.1
  rw [ho] at c3
  have d8 := S0.cells.2.2.2.2.2.2.2.2.1
  have z8 := S0.cells.2.2.2.2.2.2.2.2.2.2 8
  have hi1 : ¬ (i : Int) < 0 := by omega
  have hi2 : ¬ (D.pg.length : Int) ≤ (i : Int) := by omega
  have hi3 : (i : Int) < (D.pg.length : Int) := by omega
  have hi4 : ¬ D.pg.length ≤ i := by omega
  have HI := Lib.hid hi
  have f5 : Fr (One u) w (w.setCell ⟨u, 8, none⟩ (.int .i64 (inc D.n2))).drew := ((Fr.refl (One u) w).set1 (o := 8) (.int .i64 (inc D.n2))).drew
  have S5 : Hid (RefIn (w.setCell ⟨u, 8, none⟩ (.int .i64 (inc D.n2))).drew u gl cl gn cn gw cw D.read) := Lib.hid (S.out.retop (D' := D.read) f5 (by
    show (w.setCell ⟨u, 8, none⟩ (.int .i64 (inc D.n2))).heap[u]? = _
    rw [heap_setCell_same _ u 8 _ _ _ S.out.top]
    rfl) rfl S.out.arm0 S.out.arm1)
  have TO : Hid (RefAt (w.setCell ⟨u, 8, none⟩ (.int .i64 (inc D.n2))).drew u M D.read ∧ Fr M w (w.setCell ⟨u, 8, none⟩ (.int .i64 (inc D.n2))).drew) := Lib.hid ⟨⟨gl, cl, gn, cn, gw, cw, S5.out, hM⟩, f5.mono fun _ _ e => (hM _).2 (.inl e)⟩
  have hl : i < D.nows.length := by unfold Dv.nows; rw [List.length_map]; exact hi
  have t0 : (w.setCell ⟨u, 8, none⟩ (.int .i64 (inc D.n2))).drew.cell? ⟨gn, i * 2, none⟩ = some (.int .i64 (kindP (D.now i))) := row_at S5.out.now (by
    have := pgsV_at D.nows i 0 hl (by omega)
    rw [Nat.add_zero, nows_at hi] at this
    exact this)
  have t1 : (w.setCell ⟨u, 8, none⟩ (.int .i64 (inc D.n2))).drew.cell? ⟨gn, i * 2 + 1, none⟩ = some (.string ⟨(txtP (D.now i)).toArray⟩) := row_at S5.out.now (by
    have := pgsV_at D.nows i 1 hl (by omega)
    rw [nows_at hi] at this
    exact this)
  have e1 := S5.out.cells.2.1
  clear s hM S0 hi hl f5 ho
  generalize D.now i = p at *
  go_enter Try.func84, Try.ntmps84
  go_wp2_with fail
  go_still_tail 9, (by kernel_rfl)
  change wpList _ _ _ _ _ w.drew
  go_upto_region 6 with fail
  generalize (w.setCell ⟨u, 8, none⟩ (.int .i64 (inc D.n2))).drew = w2 at *
  clear c1 c3 d8 z8
  cases p with
  | blank =>
    simp only [kindP] at t0
    go_wp2_with fail
    go_ret2
    exact ⟨rfl, TO.out⟩
  | torn =>
    simp only [kindP] at t0
    go_wp2_with fail
    go_ret2
    exact ⟨rfl, TO.out⟩
  | whole bs =>
    simp only [kindP] at t0
    simp only [txtP] at t1
    go_wp2_with fail
    go_ret2
    exact ⟨rfl, TO.out⟩


theorem rdE_zero {p : Pg} (h : ¬ rdE p = 0) : pgDec p = none := by
  cases p with
  | whole bs => exact absurd rfl h
  | blank => exact dec_short (by simp [pgB])
  | torn => exact dec_short (by simp [pgB])

set_option maxRecDepth 100000 in
set_option maxHeartbeats 4000000 in
theorem refLoad_eq {w : World} {u : Nat} {M : Nat → Prop} {D : Dv} (s : RefAt w u M D) (hl : 2 ≤ D.pg.length) (ho : D.off = false) (hp : ∀ i, i < D.pg.length → (pgB (D.now i)).length ≤ 384) (o : Option Blk) (hd : loadD D = o) :
    Calls Try.prog 59 #[.pointer (some ⟨u, 0, none⟩)] w fun e w' => e = .returned (.tuple #[.agg (blkV (decB o)), .int .i64 (loadE o)]) ∧ RefAt w' u M (reads D 2) ∧ Fr M w w' := by
  have HO := Lib.hid ho
  have HD := Lib.hid hd
  have HP := Lib.hid hp
  have hlt := s.lt
  obtain ⟨R, hR⟩ : ∃ R, R = w.heap.size := ⟨_, rfl⟩
  obtain ⟨B, hB⟩ : ∃ B, B = w.heap.size + 1 := ⟨_, rfl⟩
  have h1 := heap_alloc_new w (.cells #[.int .u64 0, .int .u64 0, .int .u64 0, .int .u64 0, .int .u64 0, .bool false, .int .i64 0] 37)
  have f1 : Fr Nob w (w.alloc (.cells #[.int .u64 0, .int .u64 0, .int .u64 0, .int .u64 0, .int .u64 0, .bool false, .int .i64 0] 37)) := (Fr.refl Nob w).alloc _
  have y1 : (w.alloc (.cells #[.int .u64 0, .int .u64 0, .int .u64 0, .int .u64 0, .int .u64 0, .bool false, .int .i64 0] 37)).heap.size = w.heap.size + 1 := by simp
  rw [← hR] at h1
  have MR : Hid (¬ M R) := Lib.hid fun h => by
    have := hlt R h
    omega
  have MB : Hid (¬ M B) := Lib.hid fun h => by
    have := hlt B h
    omega
  have RB : Hid (¬ R = B) := Lib.hid (by omega)
  have hl2 : ¬ (D.pg.length : Int) < 2 := by omega
  have LW : Hid (w.heap.size ≤ R ∧ w.heap.size ≤ B) := Lib.hid (by omega)
  have HS1 := Lib.hid y1
  have HR := Lib.hid hR
  have HB := Lib.hid hB
  have H1 := Lib.hid h1
  have F1 := Lib.hid f1
  have S1 := Lib.hid (s.keep f1 fun _ _ h => h)
  clear ho hd hp hlt y1 hR hB h1 f1 s
  go_enter Try.func59, Try.ntmps59
  go_upto_region 1 with fail
  generalize w.alloc (.cells #[.int .u64 0, .int .u64 0, .int .u64 0, .int .u64 0, .int .u64 0, .bool false, .int .i64 0] 37) = w1 at *
  obtain ⟨gl, cl, gn, cn, gw, cw, si, _⟩ := S1.out
  have c1 := si.cells.2.1
  have c3 := si.cells.2.2.2.1
  rw [HO.out] at c3
  clear si
  have h2 := heap_alloc_new w1 (.cells #[.int .u64 0, .int .u64 0, .int .u64 0, .int .u64 0, .int .u64 0, .bool false, .int .i64 0] 37)
  have f2 : Fr Nob w1 (w1.alloc (.cells #[.int .u64 0, .int .u64 0, .int .u64 0, .int .u64 0, .int .u64 0, .bool false, .int .i64 0] 37)) := (Fr.refl Nob w1).alloc _
  rw [HS1.out, ← HB.out] at h2
  have BV := Lib.hid h2
  have RV := Lib.hid (f2.heap H1.out fun h => h)
  have S2 := Lib.hid (S1.out.keep f2 fun _ _ h => h)
  have F2 := Lib.hid (F1.out.trans' f2)
  clear h2 f2
  go_wp2_with fail
  rw [HS1.out, ← HB.out, ← HR.out]
  generalize w1.alloc (.cells #[.int .u64 0, .int .u64 0, .int .u64 0, .int .u64 0, .int .u64 0, .bool false, .int .i64 0] 37) = w2 at *
  clear S1 F1 H1 HS1 c1 c3
  go_loopw [5, 6] (fun v i wr => ∃ k : Nat, k ≤ 2 ∧ i = .int .i64 k ∧ v = .bool (loadK D k).isSome ∧ Hid (RefAt wr u M (reads D k)) ∧ Hid (wr.heap[B]? = some (.cells (blkV (decB (loadK D k))) 37 (0, 0))) ∧ Hid (wr.heap[R]? = some (.cells #[.int .u64 0, .int .u64 0, .int .u64 0, .int .u64 0, .int .u64 0, .bool false, .int .i64 0] 37 (0, 0))) ∧ Hid (Fr M w wr)) (fun _ i _ => 2 - (intOf i).toNat)
  case atStart => exact ⟨0, by omega, rfl, rfl, S2, BV, RV, Lib.hid (F2.out.mono fun _ _ h => h.elim)⟩
  case round =>
    clear S2 BV RV F2
    obtain ⟨k, hk, rfl, rfl, sr, bv, rv, fr⟩ := hrel
    by_cases hlt : k < 2
    · have hki : (k : Int) < 2 := by omega
      obtain ⟨p, hp⟩ : ∃ p, p = D.now k := ⟨_, rfl⟩
      have RD := Lib.hid (refRead_same sr.out (i := k) (by rw [reads_pg]; omega) (by rw [reads_off]; exact HO.out))
      have hst : loadK D (k + 1) = newer (loadK D k) (pgDec p) := by rw [hp]; rfl
      rw [reads_now, ← hp, show (reads D k).read = reads D (k + 1) from rfl, txt_pgB, rdE_pgE] at RD
      have LP : (pgB p).length ≤ 384 := by rw [hp]; exact HP.out k (by omega)
      have HST := Lib.hid hst
      clear hp hst
      generalize loadK D k = bst at *
      obtain ⟨c, hc⟩ : ∃ c, c = pgE p := ⟨_, rfl⟩
      rw [← hc] at RD
      have HC := Lib.hid hc
      clear hc
      go_wp2_with fail
      refine RD.out.mono ?_
      rintro e w3 ⟨rfl, s3, f3⟩
      have S3 := Lib.hid s3
      have BV3 := Lib.hid (f3.heap bv.out MB.out)
      have RV3 := Lib.hid (f3.heap rv.out MR.out)
      have FR3 : Hid (Fr M w w3) := Lib.hid (fr.out.trans f3 fun _ _ h => h)
      clear s3 f3 RD sr bv rv fr
      by_cases hc0 : c = 0
      · subst hc0
        obtain ⟨o', ho'⟩ : ∃ o', pgDec p = o' := ⟨_, rfl⟩
        have DEC := Lib.hid (refDec_eq (w := w3) (bs := pgB p) (by omega) o' ho')
        rw [ho'] at HST
        clear ho'
        obtain ⟨s0, s1, s2, s3, s4, cl, im, hs⟩ := blk_cases (decB o')
        rw [hs, blkV_mk] at DEC
        obtain ⟨t0, t1, t2, t3, t4, tl, tm, ht⟩ := blk_cases (decB bst)
        rw [ht, blkV_mk] at BV3
        have HS := Lib.hid hs
        have HT := Lib.hid ht
        clear hs ht
        go_wp2_with fail
        refine DEC.out.mono ?_
        rintro e w4 ⟨rfl, f4⟩
        have fa : Fr Nob w4 (w4.alloc (.cells #[.int .u64 (s0 : Int), .int .u64 (s1 : Int), .int .u64 (s2 : Int), .int .u64 (s3 : Int), .int .u64 (s4 : Int), .bool cl, .int .i64 im] 37)) := (Fr.refl Nob w4).alloc _
        have f5 := f4.trans' fa
        have h5 := heap_alloc_new w4 (.cells #[.int .u64 (s0 : Int), .int .u64 (s1 : Int), .int .u64 (s2 : Int), .int .u64 (s3 : Int), .int .u64 (s4 : Int), .bool cl, .int .i64 im] 37)
        obtain ⟨X, hX⟩ : ∃ X, X = w4.heap.size := ⟨_, rfl⟩
        rw [← hX] at h5
        have S5 := Lib.hid (S3.out.keep f5 fun _ _ h => h)
        have BV5 := Lib.hid (f5.heap BV3.out fun h => h)
        have RV5 := Lib.hid (f5.heap RV3.out fun h => h)
        have FR5 : Hid (Fr M w (w4.alloc (.cells #[.int .u64 (s0 : Int), .int .u64 (s1 : Int), .int .u64 (s2 : Int), .int .u64 (s3 : Int), .int .u64 (s4 : Int), .bool cl, .int .i64 im] 37))) := Lib.hid (FR3.out.trans f5 fun _ _ h => h.elim)
        have H5 := Lib.hid h5
        clear f4 fa f5 h5 DEC S3 BV3 RV3 FR3
        go_upto_region 13 with fail
        rw [← hX]
        clear hX
        generalize w4.alloc (.cells #[.int .u64 (s0 : Int), .int .u64 (s1 : Int), .int .u64 (s2 : Int), .int .u64 (s3 : Int), .int .u64 (s4 : Int), .bool cl, .int .i64 im] 37) = w5 at *
        have b0 := cell_of_row w5 B 0 _ _ (0, 0) BV5.out
        have b1 := cell_of_row w5 B 1 _ _ (0, 0) BV5.out
        have b2 := cell_of_row w5 B 2 _ _ (0, 0) BV5.out
        have b3 := cell_of_row w5 B 3 _ _ (0, 0) BV5.out
        have b4 := cell_of_row w5 B 4 _ _ (0, 0) BV5.out
        have b5 := cell_of_row w5 B 5 _ _ (0, 0) BV5.out
        have b6 := cell_of_row w5 B 6 _ _ (0, 0) BV5.out
        have z0 := frozen_of_row w5 B 0 _ _ BV5.out
        have z1 := frozen_of_row w5 B 1 _ _ BV5.out
        have z2 := frozen_of_row w5 B 2 _ _ BV5.out
        have z3 := frozen_of_row w5 B 3 _ _ BV5.out
        have z4 := frozen_of_row w5 B 4 _ _ BV5.out
        have z5 := frozen_of_row w5 B 5 _ _ BV5.out
        have z6 := frozen_of_row w5 B 6 _ _ BV5.out
        have x0 := cell_of_row w5 X 0 _ _ (0, 0) H5.out
        have x1 := cell_of_row w5 X 1 _ _ (0, 0) H5.out
        have x2 := cell_of_row w5 X 2 _ _ (0, 0) H5.out
        have x3 := cell_of_row w5 X 3 _ _ (0, 0) H5.out
        have x4 := cell_of_row w5 X 4 _ _ (0, 0) H5.out
        have x5 := cell_of_row w5 X 5 _ _ (0, 0) H5.out
        have x6 := cell_of_row w5 X 6 _ _ (0, 0) H5.out
        have FIN : Hid (∀ u0 u1 u2 u3 u4 u5 u6 : Value, RefAt (((((((w5.setCell ⟨B, 0, none⟩ u0).setCell ⟨B, 1, none⟩ u1).setCell ⟨B, 2, none⟩ u2).setCell ⟨B, 3, none⟩ u3).setCell ⟨B, 4, none⟩ u4).setCell ⟨B, 5, none⟩ u5).setCell ⟨B, 6, none⟩ u6) u M (reads D (k + 1)) ∧ Fr M w (((((((w5.setCell ⟨B, 0, none⟩ u0).setCell ⟨B, 1, none⟩ u1).setCell ⟨B, 2, none⟩ u2).setCell ⟨B, 3, none⟩ u3).setCell ⟨B, 4, none⟩ u4).setCell ⟨B, 5, none⟩ u5).setCell ⟨B, 6, none⟩ u6) ∧ (((((((w5.setCell ⟨B, 0, none⟩ u0).setCell ⟨B, 1, none⟩ u1).setCell ⟨B, 2, none⟩ u2).setCell ⟨B, 3, none⟩ u3).setCell ⟨B, 4, none⟩ u4).setCell ⟨B, 5, none⟩ u5).setCell ⟨B, 6, none⟩ u6).heap[B]? = some (.cells #[u0, u1, u2, u3, u4, u5, u6] 37 (0, 0)) ∧ (((((((w5.setCell ⟨B, 0, none⟩ u0).setCell ⟨B, 1, none⟩ u1).setCell ⟨B, 2, none⟩ u2).setCell ⟨B, 3, none⟩ u3).setCell ⟨B, 4, none⟩ u4).setCell ⟨B, 5, none⟩ u5).setCell ⟨B, 6, none⟩ u6).heap[R]? = some (.cells #[.int .u64 0, .int .u64 0, .int .u64 0, .int .u64 0, .int .u64 0, .bool false, .int .i64 0] 37 (0, 0))) := Lib.hid fun u0 u1 u2 u3 u4 u5 u6 => by
          have f7 := fr7 (w := w5) (R := B) u0 u1 u2 u3 u4 u5 u6
          refine ⟨S5.out.keep f7 fun j hj e => ?_, FR5.out.trans f7 fun j hj e => ?_, set7 BV5.out (by rfl) u0 u1 u2 u3 u4 u5 u6, f7.heap RV5.out RB.out⟩
          · have e : j = B := e
            rw [e] at hj
            exact MB.out hj
          · have e : j = B := e
            have := LW.out.2
            omega
        cases o' with
        | none =>
          have hnw : loadK D (k + 1) = bst := by rw [HST.out]; cases bst <;> rfl
          have HNW := Lib.hid hnw
          clear hnw
          go_wp2_with fail
          go_roundw
          case rel =>
            refine ⟨k + 1, by omega, by go_num, by rw [HNW.out], S5, Lib.hid ?_, RV5, FR5⟩
            rw [HNW.out, HT.out, blkV_mk]
            exact BV5.out
          case measure => simp [intOf]; omega
        | some b =>
          have hbs : b = ⟨s0, s1, s2, s3, s4, cl, im⟩ := HS.out
          cases bst with
          | none =>
            have hnw : loadK D (k + 1) = some b := HST.out
            have HNW := Lib.hid hnw
            clear hnw
            go_wp2_with fail
            go_roundw
            case rel =>
              obtain ⟨q1, q2, q3, q4⟩ := FIN.out (.int .u64 s0) (.int .u64 s1) (.int .u64 s2) (.int .u64 s3) (.int .u64 s4) (.bool cl) (.int .i64 im)
              refine ⟨k + 1, by omega, by go_num, by rw [HNW.out]; rfl, Lib.hid q1, Lib.hid ?_, Lib.hid q4, Lib.hid q2⟩
              rw [HNW.out, show decB (some b) = b from rfl, hbs, blkV_mk]
              exact q3
            case measure => simp [intOf]; omega
          | some d =>
            have hds : d = ⟨t0, t1, t2, t3, t4, tl, tm⟩ := HT.out
            by_cases hcmp : t0 < s0
            · have hci : (t0 : Int) < (s0 : Int) := by omega
              have hnw : loadK D (k + 1) = some b := by
                rw [HST.out]
                show (if d.seq < b.seq then some b else some d) = some b
                rw [hds, hbs, if_pos hcmp]
              have HNW := Lib.hid hnw
              clear hnw
              go_wp2_with fail
              go_roundw
              case rel =>
                obtain ⟨q1, q2, q3, q4⟩ := FIN.out (.int .u64 s0) (.int .u64 s1) (.int .u64 s2) (.int .u64 s3) (.int .u64 s4) (.bool cl) (.int .i64 im)
                refine ⟨k + 1, by omega, by go_num, by rw [HNW.out]; rfl, Lib.hid q1, Lib.hid ?_, Lib.hid q4, Lib.hid q2⟩
                rw [HNW.out, show decB (some b) = b from rfl, hbs, blkV_mk]
                exact q3
              case measure => simp [intOf]; omega
            · have hci : ¬ (t0 : Int) < (s0 : Int) := by omega
              have hnw : loadK D (k + 1) = some d := by
                rw [HST.out]
                show (if d.seq < b.seq then some b else some d) = some d
                rw [hds, hbs, if_neg hcmp]
              have HNW := Lib.hid hnw
              clear hnw
              go_wp2_with fail
              go_roundw
              case rel =>
                refine ⟨k + 1, by omega, by go_num, by rw [HNW.out]; rfl, S5, Lib.hid ?_, RV5, FR5⟩
                rw [HNW.out, show decB (some d) = d from rfl, hds, blkV_mk]
                exact BV5.out
              case measure => simp [intOf]; omega
      · have hnw : loadK D (k + 1) = bst := by
          rw [HST.out, rdE_zero (p := p) (by rw [rdE_pgE, ← HC.out]; exact hc0)]
          cases bst <;> rfl
        have HNW := Lib.hid hnw
        clear hnw
        go_wp2_with fail
        go_roundw
        case rel => exact ⟨k + 1, by omega, by go_num, by rw [HNW.out], S3, by rw [HNW.out]; exact BV3, RV3, FR3⟩
        case measure => simp [intOf]; omega
    · have hk2 : k = 2 := by omega
      subst hk2
      have ho : loadK D 2 = o := HD.out
      rw [ho] at bv
      obtain ⟨t0, t1, t2, t3, t4, tl, tm, ht⟩ := blk_cases (decB o)
      rw [ht, blkV_mk] at bv
      have HT := Lib.hid ht
      clear ht
      have b0 := cell_of_row wr B 0 _ _ (0, 0) bv.out
      have b1 := cell_of_row wr B 1 _ _ (0, 0) bv.out
      have b2 := cell_of_row wr B 2 _ _ (0, 0) bv.out
      have b3 := cell_of_row wr B 3 _ _ (0, 0) bv.out
      have b4 := cell_of_row wr B 4 _ _ (0, 0) bv.out
      have b5 := cell_of_row wr B 5 _ _ (0, 0) bv.out
      have b6 := cell_of_row wr B 6 _ _ (0, 0) bv.out
      have e0 := cell_of_row wr R 0 _ _ (0, 0) rv.out
      have e1 := cell_of_row wr R 1 _ _ (0, 0) rv.out
      have e2 := cell_of_row wr R 2 _ _ (0, 0) rv.out
      have e3 := cell_of_row wr R 3 _ _ (0, 0) rv.out
      have e4 := cell_of_row wr R 4 _ _ (0, 0) rv.out
      have e5 := cell_of_row wr R 5 _ _ (0, 0) rv.out
      have e6 := cell_of_row wr R 6 _ _ (0, 0) rv.out
      have z0 := frozen_of_row wr R 0 _ _ rv.out
      have z1 := frozen_of_row wr R 1 _ _ rv.out
      have z2 := frozen_of_row wr R 2 _ _ rv.out
      have z3 := frozen_of_row wr R 3 _ _ rv.out
      have z4 := frozen_of_row wr R 4 _ _ rv.out
      have z5 := frozen_of_row wr R 5 _ _ rv.out
      have z6 := frozen_of_row wr R 6 _ _ rv.out
      have FIN : Hid (∀ u0 u1 u2 u3 u4 u5 u6 : Value, RefAt (((((((wr.setCell ⟨R, 0, none⟩ u0).setCell ⟨R, 1, none⟩ u1).setCell ⟨R, 2, none⟩ u2).setCell ⟨R, 3, none⟩ u3).setCell ⟨R, 4, none⟩ u4).setCell ⟨R, 5, none⟩ u5).setCell ⟨R, 6, none⟩ u6) u M (reads D 2) ∧ Fr M w (((((((wr.setCell ⟨R, 0, none⟩ u0).setCell ⟨R, 1, none⟩ u1).setCell ⟨R, 2, none⟩ u2).setCell ⟨R, 3, none⟩ u3).setCell ⟨R, 4, none⟩ u4).setCell ⟨R, 5, none⟩ u5).setCell ⟨R, 6, none⟩ u6)) := Lib.hid fun u0 u1 u2 u3 u4 u5 u6 => by
        have f7 := fr7 (w := wr) (R := R) u0 u1 u2 u3 u4 u5 u6
        refine ⟨sr.out.keep f7 fun j hj e => ?_, fr.out.trans f7 fun j hj e => ?_⟩
        · have e : j = R := e
          rw [e] at hj
          exact MR.out hj
        · have e : j = R := e
          have := LW.out.1
          omega
      clear sr bv rv fr
      rw [ho]
      cases o with
      | none =>
        have hz : (⟨t0, t1, t2, t3, t4, tl, tm⟩ : Blk) = Blk.zero := HT.out.symm.trans rfl
        unfold Blk.zero at hz
        injection hz with y0 y1 y2 y3 y4 y5 y6
        subst y0 y1 y2 y3 y4 y5 y6
        go_wp2_with fail
        refine bodyPost_ret (v := .tuple #[.agg #[.int .u64 0, .int .u64 0, .int .u64 0, .int .u64 0, .int .u64 0, .bool false, .int .i64 0], .int .i64 5]) (by simp [results, Try.results59, go_sem, e0, e1, e2, e3, e4, e5, e6]) rfl ⟨rfl, FIN.out _ _ _ _ _ _ _⟩
      | some b =>
        go_wp2_with fail
        refine bodyPost_ret (v := .tuple #[.agg #[.int .u64 (t0 : Int), .int .u64 (t1 : Int), .int .u64 (t2 : Int), .int .u64 (t3 : Int), .int .u64 (t4 : Int), .bool tl, .int .i64 tm], .int .i64 0]) (by simp [results, Try.results59, go_sem, e0, e1, e2, e3, e4, e5, e6]) rfl ⟨?_, FIN.out _ _ _ _ _ _ _⟩
        rw [HT.out, blkV_mk]
        rfl

end Go.Proofs.Ytpdljgjofebgpaa
