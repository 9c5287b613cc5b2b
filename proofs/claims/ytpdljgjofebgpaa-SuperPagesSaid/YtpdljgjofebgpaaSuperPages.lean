/-
  Law 5: SuperPages, walked. (Printed by gen/pages5.py.)
-/
import Derived.Test.YtpdljgjofebgpaaSupJ
import Derived.Test.YtpdljgjofebgpaaSupH
namespace Go.Proofs.Ytpdljgjofebgpaa
open Go.RowKit Go.ChangeShapes Go.WideShapes Go.Deep

theorem DL.new_off {W w : World} (f : Fr Nob W w) {n : Nat} (h0 : 1 ≤ n) (h1 : n ≤ 4096) (N : Nat → Prop) (hN : ∀ k, N k → k < w.heap.size) :
    Calls Try.prog 24 #[.int .i64 n] w fun e w' => ∃ q K, e = .returned (.tuple #[.pointer (some ⟨q, 0, none⟩), .int .i64 0]) ∧ DL W w' q K N (Dv.new n) ∧ Fr Nob w w' ∧ ∀ k, K k → w.heap.size ≤ k := by
  refine (new_eq h0 h1).mono ?_
  rintro e w' ⟨q, K, rfl, s, f', hk⟩
  exact ⟨q, K, rfl, ⟨_, s, f.trans' f', fun k h => Nat.le_trans f.size (hk k h), fun k h => Nat.lt_of_lt_of_le (hN k h) f'.size, fun _ h => h.elim⟩, f', hk⟩

/-- The device of SuperPages. -/
structure TwoAt (D : Dv) (p0 p1 : Pg) : Prop where
  calm : Calm D
  n0 : D.now 0 = p0
  n1 : D.now 1 = p1

set_option maxRecDepth 100000 in
set_option maxHeartbeats 8000000 in
theorem superPages_walk (a b : Blk) (sm f1 f2 : Bool) (w : World) (ha : a.ok) (hb : b.ok) :
    Calls Try.prog 7 #[.agg (blkV a), .agg (blkV b), .bool sm, .bool f1, .bool f2] w fun e w' => e = .returned (.bool true) ∧ Fr Nob w w' := by
  obtain ⟨a0, a1, a2, a3, a4, al, am, rfl⟩ := blk_cases a
  obtain ⟨b0, b1, b2, b3, b4, bl, bm, rfl⟩ := blk_cases b
  have HA := Lib.hid ha
  have HB := Lib.hid hb
  clear ha hb
  rw [blkV_mk, blkV_mk]
  go_enter Try.func7, Try.ntmps7
  go_wp2_with fail
  have h5 := heap_alloc_new w (.cells #[.int .u64 (a0 : Int), .int .u64 (a1 : Int), .int .u64 (a2 : Int), .int .u64 (a3 : Int), .int .u64 (a4 : Int), .bool al, .int .i64 am] 29)
  have fa : Fr Nob w (w.alloc (.cells #[.int .u64 (a0 : Int), .int .u64 (a1 : Int), .int .u64 (a2 : Int), .int .u64 (a3 : Int), .int .u64 (a4 : Int), .bool al, .int .i64 am] 29)) := (Fr.refl Nob w).alloc _
  have hs1 : (w.alloc (.cells #[.int .u64 (a0 : Int), .int .u64 (a1 : Int), .int .u64 (a2 : Int), .int .u64 (a3 : Int), .int .u64 (a4 : Int), .bool al, .int .i64 am] 29)).heap.size = w.heap.size + 1 := by simp
  generalize w.alloc (.cells #[.int .u64 (a0 : Int), .int .u64 (a1 : Int), .int .u64 (a2 : Int), .int .u64 (a3 : Int), .int .u64 (a4 : Int), .bool al, .int .i64 am] 29) = wa at *
  have h6 := heap_alloc_new wa (.cells #[.int .u64 (b0 : Int), .int .u64 (b1 : Int), .int .u64 (b2 : Int), .int .u64 (b3 : Int), .int .u64 (b4 : Int), .bool bl, .int .i64 bm] 29)
  have fb : Fr Nob wa (wa.alloc (.cells #[.int .u64 (b0 : Int), .int .u64 (b1 : Int), .int .u64 (b2 : Int), .int .u64 (b3 : Int), .int .u64 (b4 : Int), .bool bl, .int .i64 bm] 29)) := (Fr.refl Nob wa).alloc _
  have hs2 : (wa.alloc (.cells #[.int .u64 (b0 : Int), .int .u64 (b1 : Int), .int .u64 (b2 : Int), .int .u64 (b3 : Int), .int .u64 (b4 : Int), .bool bl, .int .i64 bm] 29)).heap.size = wa.heap.size + 1 := by simp
  replace h5 := fb.heap h5 fun h => h
  generalize wa.alloc (.cells #[.int .u64 (b0 : Int), .int .u64 (b1 : Int), .int .u64 (b2 : Int), .int .u64 (b3 : Int), .int .u64 (b4 : Int), .bool bl, .int .i64 bm] 29) = wb at *
  rw [hs1] at h6
  rw [hs1] at hs2
  obtain ⟨B5, hB5⟩ : ∃ R, R = w.heap.size := ⟨_, rfl⟩
  obtain ⟨B6, hB6⟩ : ∃ R, R = w.heap.size + 1 := ⟨_, rfl⟩
  rw [← hB6] at h6
  rw [← hB5] at h5
  rw [← hB6, ← hB5]
  have H5 := Lib.hid h5
  have H6 := Lib.hid h6
  have FB := Lib.hid (fa.trans' fb)
  have SZ : Hid (B5 < wb.heap.size ∧ B6 < wb.heap.size ∧ B5 ≠ B6 ∧ w.heap.size ≤ B5 ∧ w.heap.size ≤ B6) := Lib.hid (by omega)
  clear h5 h6 fa fb hs1 hs2 hB5 hB6
  refine (awake5_eq wb).mono ?_
  rintro e w0 ⟨rfl, f0⟩
  replace H5 := Lib.hid (f0.heap H5.out fun h => h)
  replace H6 := Lib.hid (f0.heap H6.out fun h => h)
  have F0 := Lib.hid (FB.out.trans' f0)
  have NW := Lib.hid (DL.new_off F0.out (n := 2) (by omega) (by omega) (fun k => k = B5 ∨ k = B6) (fun k h => by
    have := f0.size
    have := SZ.out
    omega))
  have S0 : Hid (B5 < w0.heap.size ∧ B6 < w0.heap.size) := Lib.hid (by
    have := f0.size
    have := SZ.out
    omega)
  clear f0 FB
  go_wp2_with fail
  refine NW.out.mono ?_
  rintro e w1 ⟨q, K, rfl, d1, f1', hk1⟩
  replace H5 := Lib.hid (f1'.heap H5.out fun h => h)
  replace H6 := Lib.hid (f1'.heap H6.out fun h => h)
  have K5 : Hid (¬ K B5) := Lib.hid fun h => by
    have := hk1 B5 h
    have := S0.out
    omega
  have K6 : Hid (¬ K B6) := Lib.hid fun h => by
    have := hk1 B6 h
    have := S0.out
    omega
  have D1 := Lib.hid d1
  clear d1 f1' hk1 NW
  go_upto_if 27 with fail
  have c50 := cell_of_row w1 B5 0 _ _ (0, 0) H5.out
  have c60 := cell_of_row w1 B6 0 _ _ (0, 0) H6.out
  have z60 := frozen_of_row w1 B6 0 _ _ H6.out
  go_cut [] (fun W => ∃ s : Nat, s < 18446744073709551616 ∧ Hid (W.heap[B5]? = some (.cells #[.int .u64 (a0 : Int), .int .u64 (a1 : Int), .int .u64 (a2 : Int), .int .u64 (a3 : Int), .int .u64 (a4 : Int), .bool al, .int .i64 am] 29 (0, 0))) ∧ Hid (W.heap[B6]? = some (.cells #[.int .u64 (s : Int), .int .u64 (b1 : Int), .int .u64 (b2 : Int), .int .u64 (b3 : Int), .int .u64 (b4 : Int), .bool bl, .int .i64 bm] 29 (0, 0))) ∧ Hid (DL w W q K (fun k => k = B5 ∨ k = B6) (Dv.new 2)))
  case first =>
    cases sm with
    | false =>
      go_wp2_with fail
      go_meet
      exact ⟨b0, HB.out.1, H5, H6, D1⟩
    | true =>
      go_wp2_with fail
      go_meet
      refine ⟨a0, HA.out.1, Lib.hid ?_, Lib.hid ?_, Lib.hid (D1.out.keep' (B := B6) ((Fr.refl (One B6) w1).set1 (o := 0) _) (D1.out.fr.trans ((Fr.refl (One B6) w1).set1 (o := 0) _) fun i hi h => ?_) K6.out (.inr rfl))⟩
      · exact ((Fr.refl (One B6) w1).set1 (o := 0) _).heap H5.out fun h => SZ.out.2.2.1 h
      · exact heap_setCell_same w1 B6 0 _ _ _ H6.out
      · have h : i = B6 := h
        have := SZ.out
        omega
  case rest =>
    obtain ⟨s, hs, h5, h6, d2⟩ := hcut
    generalize wc = w2 at *
    clear c50 c60 z60 D1 H5 H6
    have T2 : Hid (TwoAt (Dv.new 2) .blank .blank) := Lib.hid ⟨⟨rfl, rfl, by decide⟩, rfl, rfl⟩
    go_upto_if 31 with fail
    go_cut [] (fun W => ∃ D, Hid (W.heap[B5]? = some (.cells #[.int .u64 (a0 : Int), .int .u64 (a1 : Int), .int .u64 (a2 : Int), .int .u64 (a3 : Int), .int .u64 (a4 : Int), .bool al, .int .i64 am] 29 (0, 0))) ∧ Hid (W.heap[B6]? = some (.cells #[.int .u64 (s : Int), .int .u64 (b1 : Int), .int .u64 (b2 : Int), .int .u64 (b3 : Int), .int .u64 (b4 : Int), .bool bl, .int .i64 bm] 29 (0, 0))) ∧ Hid (DL w W q K (fun k => k = B5 ∨ k = B6) D) ∧ Hid (TwoAt D (if f1 = true then .whole (pad (enc ⟨a0, a1, a2, a3, a4, al, am⟩)) else .blank) .blank))
    case first =>
      cases f1 with
      | false =>
        go_wp2_with fail
        go_meet
        exact ⟨_, h5, h6, d2, T2⟩
      | true =>
        have c0 := cell_of_row w2 B5 0 _ _ (0, 0) h5.out
        have c1 := cell_of_row w2 B5 1 _ _ (0, 0) h5.out
        have c2 := cell_of_row w2 B5 2 _ _ (0, 0) h5.out
        have c3 := cell_of_row w2 B5 3 _ _ (0, 0) h5.out
        have c4 := cell_of_row w2 B5 4 _ _ (0, 0) h5.out
        have c5 := cell_of_row w2 B5 5 _ _ (0, 0) h5.out
        have c6 := cell_of_row w2 B5 6 _ _ (0, 0) h5.out
        have ENC := Lib.hid (encode_eq ⟨a0, a1, a2, a3, a4, al, am⟩ HA.out w2)
        rw [blkV_mk] at ENC
        go_wp2_with fail
        refine ENC.out.mono ?_
        rintro e w3 ⟨ge, rfl, hbe, f3, _⟩
        have WR := Lib.hid ((d2.out.nob f3).write (i := 0) (by decide) (RdB.of_block' (cap := 64) hbe (enc_len _)) (by rw [enc_len]; omega) false (by rw [T2.out.calm.spend]; rfl))
        have G5 := Lib.hid (f3.heap h5.out fun h => h)
        have G6 := Lib.hid (f3.heap h6.out fun h => h)
        clear hbe f3
        clear c0 c1 c2 c3 c4 c5 c6
        go_wp2_with fail
        refine WR.out.mono ?_
        rintro e w4 ⟨rfl, d4, f4⟩
        go_wp2_with fail
        go_meet
        exact ⟨_, Lib.hid (f4.heap G5.out K5.out), Lib.hid (f4.heap G6.out K6.out), Lib.hid d4, Lib.hid ⟨T2.out.calm.change _ _, by rw [T2.out.calm.now_change _ (by omega)]; rfl, by rw [T2.out.calm.now_change _ (by omega)]; rfl⟩⟩
    case rest =>
      clear h5 h6 d2 T2
      obtain ⟨D3, h5, h6, d3, T3⟩ := hcut
      generalize wc = w3 at *
      go_upto_if 36 with fail
      go_cut [] (fun W => ∃ D, Hid (W.heap[B5]? = some (.cells #[.int .u64 (a0 : Int), .int .u64 (a1 : Int), .int .u64 (a2 : Int), .int .u64 (a3 : Int), .int .u64 (a4 : Int), .bool al, .int .i64 am] 29 (0, 0))) ∧ Hid (W.heap[B6]? = some (.cells #[.int .u64 (s : Int), .int .u64 (b1 : Int), .int .u64 (b2 : Int), .int .u64 (b3 : Int), .int .u64 (b4 : Int), .bool bl, .int .i64 bm] 29 (0, 0))) ∧ Hid (DL w W q K (fun k => k = B5 ∨ k = B6) D) ∧ Hid (TwoAt D (if f1 = true then .whole (pad (enc ⟨a0, a1, a2, a3, a4, al, am⟩)) else .blank) (if f2 = true then .whole (pad (enc ⟨s, b1, b2, b3, b4, bl, bm⟩)) else .blank)))
      case first =>
        cases f2 with
        | false =>
          go_wp2_with fail
          go_meet
          exact ⟨_, h5, h6, d3, T3⟩
        | true =>
          have c0 := cell_of_row w3 B6 0 _ _ (0, 0) h6.out
          have c1 := cell_of_row w3 B6 1 _ _ (0, 0) h6.out
          have c2 := cell_of_row w3 B6 2 _ _ (0, 0) h6.out
          have c3 := cell_of_row w3 B6 3 _ _ (0, 0) h6.out
          have c4 := cell_of_row w3 B6 4 _ _ (0, 0) h6.out
          have c5 := cell_of_row w3 B6 5 _ _ (0, 0) h6.out
          have c6 := cell_of_row w3 B6 6 _ _ (0, 0) h6.out
          have ENC := Lib.hid (encode_eq ⟨s, b1, b2, b3, b4, bl, bm⟩ ⟨hs, HB.out.2⟩ w3)
          rw [blkV_mk] at ENC
          go_wp2_with fail
          refine ENC.out.mono ?_
          rintro e w4 ⟨ge, rfl, hbe, f4, _⟩
          have WR := Lib.hid ((d3.out.nob f4).write (i := 1) (by rw [T3.out.calm.1]; decide) (RdB.of_block' (cap := 64) hbe (enc_len _)) (by rw [enc_len]; omega) false (by rw [T3.out.calm.spend]; exact T3.out.calm.2.1))
          have G5 := Lib.hid (f4.heap h5.out fun h => h)
          have G6 := Lib.hid (f4.heap h6.out fun h => h)
          clear hbe f4
          clear c0 c1 c2 c3 c4 c5 c6
          go_wp2_with fail
          refine WR.out.mono ?_
          rintro e w5 ⟨rfl, d5, f5⟩
          go_wp2_with fail
          go_meet
          exact ⟨_, Lib.hid (f5.heap G5.out K5.out), Lib.hid (f5.heap G6.out K6.out), Lib.hid d5, Lib.hid ⟨T3.out.calm.change _ _, by rw [T3.out.calm.now_change _ (by omega)]; exact T3.out.n0, by rw [T3.out.calm.now_change _ (by omega)]; rfl⟩⟩
      case rest =>
        clear h5 h6 d3 T3
        obtain ⟨D, h5, h6, d4, T4⟩ := hcut
        generalize wc = w4 at *
        by_cases hnone : f1 = false ∧ f2 = false
        · obtain ⟨rfl, rfl⟩ := hnone
          have hd : loadD D = none := by
            rw [load_two, T4.out.n0, T4.out.n1]
            rfl
          have LD := Lib.hid (load_eq d4.out (by rw [T4.out.calm.1]; omega) (by rw [T4.out.calm.1]; omega) T4.out.calm.2.1 none hd)
          have EQ := Lib.hid (blk_eql Blk.zero Blk.zero)
          rw [show decide (Blk.zero = Blk.zero) = true from decide_eq_true rfl, show blkV Blk.zero = #[.int .u64 0, .int .u64 0, .int .u64 0, .int .u64 0, .int .u64 0, .bool false, .int .i64 0] from rfl] at EQ
          rw [show blkV (decB none) = #[.int .u64 0, .int .u64 0, .int .u64 0, .int .u64 0, .int .u64 0, .bool false, .int .i64 0] from rfl, show loadE none = 5 from rfl] at LD
          clear hd h5 h6 d4 T4
          go_wp2_with fail
          refine LD.out.mono ?_
          rintro e w5 ⟨rfl, d5, _⟩
          have eq := EQ.out
          have h13 := heap_alloc_new w5 (.cells #[.int .u64 0, .int .u64 0, .int .u64 0, .int .u64 0, .int .u64 0, .bool false, .int .i64 0] 29)
          have f13 : Fr Nob w5 (w5.alloc (.cells #[.int .u64 0, .int .u64 0, .int .u64 0, .int .u64 0, .int .u64 0, .bool false, .int .i64 0] 29)) := (Fr.refl Nob w5).alloc _
          have c0 := cell_of_row (w5.alloc (.cells #[.int .u64 0, .int .u64 0, .int .u64 0, .int .u64 0, .int .u64 0, .bool false, .int .i64 0] 29)) w5.heap.size 0 _ _ (0, 0) h13
          have c1 := cell_of_row (w5.alloc (.cells #[.int .u64 0, .int .u64 0, .int .u64 0, .int .u64 0, .int .u64 0, .bool false, .int .i64 0] 29)) w5.heap.size 1 _ _ (0, 0) h13
          have c2 := cell_of_row (w5.alloc (.cells #[.int .u64 0, .int .u64 0, .int .u64 0, .int .u64 0, .int .u64 0, .bool false, .int .i64 0] 29)) w5.heap.size 2 _ _ (0, 0) h13
          have c3 := cell_of_row (w5.alloc (.cells #[.int .u64 0, .int .u64 0, .int .u64 0, .int .u64 0, .int .u64 0, .bool false, .int .i64 0] 29)) w5.heap.size 3 _ _ (0, 0) h13
          have c4 := cell_of_row (w5.alloc (.cells #[.int .u64 0, .int .u64 0, .int .u64 0, .int .u64 0, .int .u64 0, .bool false, .int .i64 0] 29)) w5.heap.size 4 _ _ (0, 0) h13
          have c5 := cell_of_row (w5.alloc (.cells #[.int .u64 0, .int .u64 0, .int .u64 0, .int .u64 0, .int .u64 0, .bool false, .int .i64 0] 29)) w5.heap.size 5 _ _ (0, 0) h13
          have c6 := cell_of_row (w5.alloc (.cells #[.int .u64 0, .int .u64 0, .int .u64 0, .int .u64 0, .int .u64 0, .bool false, .int .i64 0] 29)) w5.heap.size 6 _ _ (0, 0) h13
          have FE := Lib.hid (d5.fr.trans' f13)
          clear h13 f13 d5 LD EQ
          go_wp2_with fail
          go_ret
          exact ⟨rfl, FE.out⟩
        · have hc : f1 = true ∨ (f1 = false ∧ f2 = true) := by
            cases f1 <;> cases f2 <;> simp_all
          have hbo : Blk.ok ⟨s, b1, b2, b3, b4, bl, bm⟩ := ⟨hs, HB.out.2⟩
          obtain ⟨v, hv⟩ : ∃ v : Blk, v = (if f1 = false ∨ (f2 = true ∧ a0 < s) then ⟨s, b1, b2, b3, b4, bl, bm⟩ else ⟨a0, a1, a2, a3, a4, al, am⟩) := ⟨_, rfl⟩
          have hvo : v.ok := by
            rw [hv]
            split
            · exact hbo
            · exact HA.out
          have hd : loadD D = some v.norm := by
            rw [load_two, T4.out.n0, T4.out.n1, hv]
            have ea := pgDec_enc HA.out
            have eb := pgDec_enc hbo
            rcases hc with rfl | ⟨rfl, rfl⟩
            · cases f2 with
              | false =>
                rw [if_pos rfl, if_neg (by simp), ea, if_neg (by simp)]
                rfl
              | true =>
                rw [if_pos rfl, if_pos rfl, ea, eb]
                show (if a0 < s then _ else _) = _
                by_cases hlt : a0 < s
                · rw [if_pos hlt, if_pos (.inr ⟨rfl, hlt⟩)]
                · rw [if_neg hlt, if_neg (by simp [hlt])]
            · rw [if_neg (by simp), if_pos rfl, eb, if_pos (.inl rfl)]
              rfl
          obtain ⟨x0, x1, x2, x3, x4, xl, xm, hx⟩ := blk_cases v.norm
          have LD := Lib.hid (load_eq d4.out (by rw [T4.out.calm.1]; omega) (by rw [T4.out.calm.1]; omega) T4.out.calm.2.1 (some v.norm) hd)
          rw [show decB (some v.norm) = v.norm from rfl, hx, blkV_mk, show loadE (some ⟨x0, x1, x2, x3, x4, xl, xm⟩) = 0 from rfl] at LD
          have HX := Lib.hid hx
          have HV := Lib.hid hv
          have HVO := Lib.hid hvo
          have HD := Lib.hid hd
          have BO := Lib.hid hbo
          clear hbo hv hvo hd hx
          go_wp2_with fail
          refine LD.out.mono ?_
          rintro e w5 ⟨rfl, d5, f5⟩
          have h13 := heap_alloc_new w5 (.cells #[.int .u64 (x0 : Int), .int .u64 (x1 : Int), .int .u64 (x2 : Int), .int .u64 (x3 : Int), .int .u64 (x4 : Int), .bool xl, .int .i64 xm] 29)
          have f13 : Fr Nob w5 (w5.alloc (.cells #[.int .u64 (x0 : Int), .int .u64 (x1 : Int), .int .u64 (x2 : Int), .int .u64 (x3 : Int), .int .u64 (x4 : Int), .bool xl, .int .i64 xm] 29)) := (Fr.refl Nob w5).alloc _
          obtain ⟨B13, hB13⟩ : ∃ R, R = w5.heap.size := ⟨_, rfl⟩
          have K13 : Hid (¬ K B13) := Lib.hid (d5.fresh B13 (by rw [hB13]; exact Nat.le_refl _))
          have G5 := Lib.hid (f13.heap (f5.heap h5.out K5.out) fun h => h)
          have G6 := Lib.hid (f13.heap (f5.heap h6.out K6.out) fun h => h)
          have D5 := Lib.hid (d5.nob f13)
          go_upto_region 11 with fail
          rw [← hB13] at h13 ⊢
          have G13 := Lib.hid h13
          clear h13 f13 hB13 d5 f5 LD h5 h6 d4
          generalize w5.alloc (.cells #[.int .u64 (x0 : Int), .int .u64 (x1 : Int), .int .u64 (x2 : Int), .int .u64 (x3 : Int), .int .u64 (x4 : Int), .bool xl, .int .i64 xm] 29) = w6 at *
          go_cut [51] (fun t W => t = .bool false ∧ W = w6)
          case first =>
            rcases hc with rfl | ⟨rfl, rfl⟩
            all_goals
              go_wp2_with fail
              go_meet
              exact ⟨rfl, rfl⟩
          case rest =>
            obtain ⟨rfl, rfl⟩ := hcut
            have c0 := cell_of_row wc B5 0 _ _ (0, 0) G5.out
            have c1 := cell_of_row wc B5 1 _ _ (0, 0) G5.out
            have c2 := cell_of_row wc B5 2 _ _ (0, 0) G5.out
            have c3 := cell_of_row wc B5 3 _ _ (0, 0) G5.out
            have c4 := cell_of_row wc B5 4 _ _ (0, 0) G5.out
            have c5 := cell_of_row wc B5 5 _ _ (0, 0) G5.out
            have c6 := cell_of_row wc B5 6 _ _ (0, 0) G5.out
            have ENC := Lib.hid (encode_eq ⟨a0, a1, a2, a3, a4, al, am⟩ HA.out wc)
            rw [blkV_mk] at ENC
            obtain ⟨n0, n1, n2, n3, n4, nl, nm, hn⟩ := blk_cases (Blk.norm ⟨a0, a1, a2, a3, a4, al, am⟩)
            go_wp2_with fail
            refine ENC.out.mono ?_
            rintro e w7 ⟨ge, rfl, hbe, f7, _⟩
            have DEC := Lib.hid (decode_eq (w := w7) (v := .slice (some ⟨ge, 0, none⟩) 64 64) ⟨RdB.of_block' hbe (enc_len _), _, _, _, rfl, Nat.le_refl _, by omega⟩ (some (Blk.norm ⟨a0, a1, a2, a3, a4, al, am⟩)) (by
              have h := dec_enc HA.out []
              rwa [List.append_nil] at h))
            rw [show decB (some (Blk.norm ⟨a0, a1, a2, a3, a4, al, am⟩)) = Blk.norm ⟨a0, a1, a2, a3, a4, al, am⟩ from rfl, hn, blkV_mk, show decE (some ⟨n0, n1, n2, n3, n4, nl, nm⟩) = 0 from rfl] at DEC
            have HN := Lib.hid hn
            have F7 := Lib.hid f7
            clear c0 c1 c2 c3 c4 c5 c6
            clear hbe f7 ENC hn
            go_wp2_with fail
            refine DEC.out.mono ?_
            rintro e w8 ⟨rfl, f8⟩
            have h15 := heap_alloc_new w8 (.cells #[.int .u64 (n0 : Int), .int .u64 (n1 : Int), .int .u64 (n2 : Int), .int .u64 (n3 : Int), .int .u64 (n4 : Int), .bool nl, .int .i64 nm] 29)
            have f15 : Fr Nob w8 (w8.alloc (.cells #[.int .u64 (n0 : Int), .int .u64 (n1 : Int), .int .u64 (n2 : Int), .int .u64 (n3 : Int), .int .u64 (n4 : Int), .bool nl, .int .i64 nm] 29)) := (Fr.refl Nob w8).alloc _
            have fall : Fr Nob wc (w8.alloc (.cells #[.int .u64 (n0 : Int), .int .u64 (n1 : Int), .int .u64 (n2 : Int), .int .u64 (n3 : Int), .int .u64 (n4 : Int), .bool nl, .int .i64 nm] 29)) := (F7.out.trans' f8).trans' f15
            have hs15 : (w8.alloc (.cells #[.int .u64 (n0 : Int), .int .u64 (n1 : Int), .int .u64 (n2 : Int), .int .u64 (n3 : Int), .int .u64 (n4 : Int), .bool nl, .int .i64 nm] 29)).heap.size = w8.heap.size + 1 := by simp
            obtain ⟨B15, hB15⟩ : ∃ R, R = w8.heap.size := ⟨_, rfl⟩
            have hsz : wc.heap.size ≤ B15 := by
              rw [hB15]
              exact (F7.out.trans' f8).size
            have K15 : Hid (¬ K B15) := Lib.hid (D5.out.fresh B15 hsz)
            have E5 := Lib.hid (fall.heap G5.out fun h => h)
            have E6 := Lib.hid (fall.heap G6.out fun h => h)
            have E13 := Lib.hid (fall.heap G13.out fun h => h)
            have NE15 : Hid (B15 ≠ B5 ∧ B15 ≠ B6 ∧ B15 ≠ B13 ∧ w.heap.size ≤ B15) := Lib.hid (by
              have := lt_of_block G5.out
              have := lt_of_block G6.out
              have := lt_of_block G13.out
              have := D5.out.fr.size
              omega)
            have D9 : Hid (DL w (w8.alloc (.cells #[.int .u64 (n0 : Int), .int .u64 (n1 : Int), .int .u64 (n2 : Int), .int .u64 (n3 : Int), .int .u64 (n4 : Int), .bool nl, .int .i64 nm] 29)) q K (fun k => (k = B5 ∨ k = B6) ∨ k = B15) (reads D 2)) := Lib.hid (D5.out.more fall fun k hk => by
              rcases hk with h | h
              · exact .inl h
              · right
                rw [hs15]
                omega)
            obtain ⟨tb, htb⟩ : ∃ tb, tb = decide (f1 = false ∨ (f2 = true ∧ a0 < s)) := ⟨_, rfl⟩
            have TB := Lib.hid htb
            go_upto_region 14 with fail
            rw [← hB15] at h15 ⊢
            have E15 := Lib.hid h15
            clear h15 f15 fall hs15 hsz hB15 f8 DEC F7 G5 G6 G13 D5 htb
            generalize w8.alloc (.cells #[.int .u64 (n0 : Int), .int .u64 (n1 : Int), .int .u64 (n2 : Int), .int .u64 (n3 : Int), .int .u64 (n4 : Int), .bool nl, .int .i64 nm] 29) = w9 at *
            go_cut [76] (fun t W => t = .bool tb ∧ W = w9)
            case first =>
              have c50 := cell_of_row w9 B5 0 _ _ (0, 0) E5.out
              have c60 := cell_of_row w9 B6 0 _ _ (0, 0) E6.out
              rcases hc with rfl | ⟨rfl, rfl⟩
              · cases f2 with
                | false =>
                  go_wp2_with fail
                  go_meet
                  exact ⟨by rw [TB.out]; simp, rfl⟩
                | true =>
                  by_cases hlt : a0 < s
                  · have hli : (a0 : Int) < (s : Int) := by omega
                    go_wp2_with fail
                    go_meet
                    exact ⟨by rw [TB.out]; simp [hlt], rfl⟩
                  · have hli : ¬ (a0 : Int) < (s : Int) := by omega
                    go_wp2_with fail
                    go_meet
                    exact ⟨by rw [TB.out]; simp [hlt], rfl⟩
              · go_wp2_with fail
                go_meet
                exact ⟨by rw [TB.out]; simp, rfl⟩
            case rest =>
              obtain ⟨rfl, rfl⟩ := hcut
              have hvt : v = (if tb = true then ⟨s, b1, b2, b3, b4, bl, bm⟩ else ⟨a0, a1, a2, a3, a4, al, am⟩) := by
                rw [HV.out, TB.out]
                simp only [decide_eq_true_eq]
              go_upto_if 76 with fail
              go_cut [] (fun W => Hid (W.heap[B5]? = some (.cells #[.int .u64 (a0 : Int), .int .u64 (a1 : Int), .int .u64 (a2 : Int), .int .u64 (a3 : Int), .int .u64 (a4 : Int), .bool al, .int .i64 am] 29 (0, 0))) ∧ Hid (W.heap[B13]? = some (.cells #[.int .u64 (x0 : Int), .int .u64 (x1 : Int), .int .u64 (x2 : Int), .int .u64 (x3 : Int), .int .u64 (x4 : Int), .bool xl, .int .i64 xm] 29 (0, 0))) ∧ Hid (W.heap[B15]? = some (.cells #[.int .u64 (x0 : Int), .int .u64 (x1 : Int), .int .u64 (x2 : Int), .int .u64 (x3 : Int), .int .u64 (x4 : Int), .bool xl, .int .i64 xm] 29 (0, 0))) ∧ Hid (DL w W q K (fun k => (k = B5 ∨ k = B6) ∨ k = B15) (reads D 2)))
              case first =>
                cases tb with
                | false =>
                  have hxn : (#[.int .u64 (n0 : Int), .int .u64 (n1 : Int), .int .u64 (n2 : Int), .int .u64 (n3 : Int), .int .u64 (n4 : Int), .bool nl, .int .i64 nm] : Array Value) = #[.int .u64 (x0 : Int), .int .u64 (x1 : Int), .int .u64 (x2 : Int), .int .u64 (x3 : Int), .int .u64 (x4 : Int), .bool xl, .int .i64 xm] := by
                    rw [← blkV_mk, ← blkV_mk, ← HX.out, ← HN.out, hvt, if_neg (by simp)]
                  go_wp2_with fail
                  go_meet
                  exact ⟨E5, E13, Lib.hid (by rw [← hxn]; exact E15.out), D9⟩
                | true =>
                  have hvb : v.norm = Blk.norm ⟨s, b1, b2, b3, b4, bl, bm⟩ := by rw [hvt, if_pos rfl]
                  have c0 := cell_of_row wc B6 0 _ _ (0, 0) E6.out
                  have c1 := cell_of_row wc B6 1 _ _ (0, 0) E6.out
                  have c2 := cell_of_row wc B6 2 _ _ (0, 0) E6.out
                  have c3 := cell_of_row wc B6 3 _ _ (0, 0) E6.out
                  have c4 := cell_of_row wc B6 4 _ _ (0, 0) E6.out
                  have c5 := cell_of_row wc B6 5 _ _ (0, 0) E6.out
                  have c6 := cell_of_row wc B6 6 _ _ (0, 0) E6.out
                  have ENC := Lib.hid (encode_eq ⟨s, b1, b2, b3, b4, bl, bm⟩ BO.out wc)
                  rw [blkV_mk] at ENC
                  have HVB := Lib.hid hvb
                  clear hvb hvt
                  go_wp2_with fail
                  refine ENC.out.mono ?_
                  rintro e w10 ⟨ge, rfl, hbe, f10, _⟩
                  have DEC := Lib.hid (decode_eq (w := w10) (v := .slice (some ⟨ge, 0, none⟩) 64 64) ⟨RdB.of_block' hbe (enc_len _), _, _, _, rfl, Nat.le_refl _, by omega⟩ (some (Blk.norm ⟨s, b1, b2, b3, b4, bl, bm⟩)) (by
                    have h := dec_enc BO.out []
                    rwa [List.append_nil] at h))
                  rw [show decB (some (Blk.norm ⟨s, b1, b2, b3, b4, bl, bm⟩)) = Blk.norm ⟨s, b1, b2, b3, b4, bl, bm⟩ from rfl, show decE (some (Blk.norm ⟨s, b1, b2, b3, b4, bl, bm⟩)) = 0 from rfl, ← HVB.out, HX.out, blkV_mk] at DEC
                  have F10 := Lib.hid f10
                  clear c0 c1 c2 c3 c4 c5 c6
                  clear hbe f10 ENC
                  go_wp2_with fail
                  refine DEC.out.mono ?_
                  rintro e w11 ⟨rfl, f11⟩
                  have fall := F10.out.trans' f11
                  have g15 := fall.heap E15.out fun h => h
                  have c0 := cell_of_row w11 B15 0 _ _ (0, 0) g15
                  have c1 := cell_of_row w11 B15 1 _ _ (0, 0) g15
                  have c2 := cell_of_row w11 B15 2 _ _ (0, 0) g15
                  have c3 := cell_of_row w11 B15 3 _ _ (0, 0) g15
                  have c4 := cell_of_row w11 B15 4 _ _ (0, 0) g15
                  have c5 := cell_of_row w11 B15 5 _ _ (0, 0) g15
                  have c6 := cell_of_row w11 B15 6 _ _ (0, 0) g15
                  have z0 := frozen_of_row w11 B15 0 _ _ g15
                  have z1 := frozen_of_row w11 B15 1 _ _ g15
                  have z2 := frozen_of_row w11 B15 2 _ _ g15
                  have z3 := frozen_of_row w11 B15 3 _ _ g15
                  have z4 := frozen_of_row w11 B15 4 _ _ g15
                  have z5 := frozen_of_row w11 B15 5 _ _ g15
                  have z6 := frozen_of_row w11 B15 6 _ _ g15
                  have R5 := Lib.hid (fall.heap E5.out fun h => h)
                  have R13 := Lib.hid (fall.heap E13.out fun h => h)
                  have R15 := Lib.hid g15
                  have D11 := Lib.hid (D9.out.nob fall)
                  clear f11 fall g15 DEC
                  go_wp2_with fail
                  go_meet
                  have f7 := fr7 (w := w11) (R := B15) (.int .u64 (x0 : Int)) (.int .u64 (x1 : Int)) (.int .u64 (x2 : Int)) (.int .u64 (x3 : Int)) (.int .u64 (x4 : Int)) (.bool xl) (.int .i64 xm)
                  refine ⟨Lib.hid (f7.heap R5.out fun h => NE15.out.1 h.symm), Lib.hid (f7.heap R13.out fun h => NE15.out.2.2.1 h.symm), Lib.hid (set7 R15.out rfl _ _ _ _ _ _ _), Lib.hid (D11.out.keep' f7 (D11.out.fr.trans f7 fun j hj h => ?_) K15.out (.inr rfl))⟩
                  have h : j = B15 := h
                  have := NE15.out
                  omega
              case rest =>
                obtain ⟨h5, h13, h15, d10⟩ := hcut
                generalize wc = w10 at *
                have hl5 : loadD (reads D 2) = some ⟨x0, x1, x2, x3, x4, xl, xm⟩ := by
                  rw [load_two, reads_now, reads_now, ← load_two, HD.out, HX.out]
                have hsq : seqOf (reads D 2) = x0 := by
                  unfold seqOf
                  rw [hl5]
                  rfl
                have C5 := Lib.hid (T4.out.calm.reads 2)
                have SQ := Lib.hid hsq
                have EQX : Hid (∀ w', (binOp .eql 29 (.agg #[.int .u64 (x0 : Int), .int .u64 (x1 : Int), .int .u64 (x2 : Int), .int .u64 (x3 : Int), .int .u64 (x4 : Int), .bool xl, .int .i64 xm]) (.agg #[.int .u64 (x0 : Int), .int .u64 (x1 : Int), .int .u64 (x2 : Int), .int .u64 (x3 : Int), .int .u64 (x4 : Int), .bool xl, .int .i64 xm])).run Try.prog w' = .ok (.bool true) w') := Lib.hid fun w' => by
                  have h := blk_eql ⟨x0, x1, x2, x3, x4, xl, xm⟩ ⟨x0, x1, x2, x3, x4, xl, xm⟩ w'
                  rwa [blkV_mk, decide_eq_true rfl] at h
                have c0 := cell_of_row w10 B5 0 _ _ (0, 0) h5.out
                have c1 := cell_of_row w10 B5 1 _ _ (0, 0) h5.out
                have c2 := cell_of_row w10 B5 2 _ _ (0, 0) h5.out
                have c3 := cell_of_row w10 B5 3 _ _ (0, 0) h5.out
                have c4 := cell_of_row w10 B5 4 _ _ (0, 0) h5.out
                have c5 := cell_of_row w10 B5 5 _ _ (0, 0) h5.out
                have c6 := cell_of_row w10 B5 6 _ _ (0, 0) h5.out
                clear hl5 hsq h5 T4 E5 E6 E13 E15 D9
                by_cases hm : x0 = 18446744073709551615
                · have ST := Lib.hid (store_worn d10.out (by rw [C5.out.1]; omega) (by rw [C5.out.1]; omega) C5.out.2.1 ⟨a0, a1, a2, a3, a4, al, am⟩ HA.out (by rw [SQ.out]; exact hm))
                  rw [blkV_mk] at ST
                  have EQZ : Hid (∀ w', (binOp .eql 29 (.agg #[.int .u64 0, .int .u64 0, .int .u64 0, .int .u64 0, .int .u64 0, .bool false, .int .i64 0]) (.agg #[.int .u64 0, .int .u64 0, .int .u64 0, .int .u64 0, .int .u64 0, .bool false, .int .i64 0])).run Try.prog w' = .ok (.bool true) w') := Lib.hid fun w' => by
                    have h := blk_eql Blk.zero Blk.zero w'
                    rwa [show blkV Blk.zero = #[.int .u64 0, .int .u64 0, .int .u64 0, .int .u64 0, .int .u64 0, .bool false, .int .i64 0] from rfl, decide_eq_true rfl] at h
                  have heq : ((x0 : Int) == 18446744073709551615) = true := beq_iff_eq.2 (by omega)
                  clear hm d10
                  go_wp2_with fail
                  refine ST.out.mono ?_
                  rintro e w11 ⟨rfl, d11, f11⟩
                  have h17 := heap_alloc_new w11 (.cells #[.int .u64 0, .int .u64 0, .int .u64 0, .int .u64 0, .int .u64 0, .bool false, .int .i64 0] 29)
                  have f17 : Fr Nob w11 (w11.alloc (.cells #[.int .u64 0, .int .u64 0, .int .u64 0, .int .u64 0, .int .u64 0, .bool false, .int .i64 0] 29)) := (Fr.refl Nob w11).alloc _
                  have G13 := Lib.hid (f17.heap (f11.heap h13.out K13.out) fun h => h)
                  have G15 := Lib.hid (f17.heap (f11.heap h15.out K15.out) fun h => h)
                  have FE := Lib.hid (d11.fr.trans' f17)
                  obtain ⟨B17, hB17⟩ : ∃ R, R = w11.heap.size := ⟨_, rfl⟩
                  clear c0 c1 c2 c3 c4 c5 c6
                  go_upto_region 17 with fail
                  rw [← hB17] at h17 ⊢
                  generalize w11.alloc (.cells #[.int .u64 0, .int .u64 0, .int .u64 0, .int .u64 0, .int .u64 0, .bool false, .int .i64 0] 29) = w12 at *
                  have c0 := cell_of_row w12 B15 0 _ _ (0, 0) G15.out
                  have c1 := cell_of_row w12 B15 1 _ _ (0, 0) G15.out
                  have c2 := cell_of_row w12 B15 2 _ _ (0, 0) G15.out
                  have c3 := cell_of_row w12 B15 3 _ _ (0, 0) G15.out
                  have c4 := cell_of_row w12 B15 4 _ _ (0, 0) G15.out
                  have c5 := cell_of_row w12 B15 5 _ _ (0, 0) G15.out
                  have c6 := cell_of_row w12 B15 6 _ _ (0, 0) G15.out
                  have y0 := cell_of_row w12 B13 0 _ _ (0, 0) G13.out
                  have y1 := cell_of_row w12 B13 1 _ _ (0, 0) G13.out
                  have y2 := cell_of_row w12 B13 2 _ _ (0, 0) G13.out
                  have y3 := cell_of_row w12 B13 3 _ _ (0, 0) G13.out
                  have y4 := cell_of_row w12 B13 4 _ _ (0, 0) G13.out
                  have y5 := cell_of_row w12 B13 5 _ _ (0, 0) G13.out
                  have y6 := cell_of_row w12 B13 6 _ _ (0, 0) G13.out
                  have z0 := cell_of_row w12 B17 0 _ _ (0, 0) h17
                  have z1 := cell_of_row w12 B17 1 _ _ (0, 0) h17
                  have z2 := cell_of_row w12 B17 2 _ _ (0, 0) h17
                  have z3 := cell_of_row w12 B17 3 _ _ (0, 0) h17
                  have z4 := cell_of_row w12 B17 4 _ _ (0, 0) h17
                  have z5 := cell_of_row w12 B17 5 _ _ (0, 0) h17
                  have z6 := cell_of_row w12 B17 6 _ _ (0, 0) h17
                  have ez := EQZ.out
                  have ex := EQX.out
                  clear h17 f17 hB17 d11 f11 ST
                  go_wp2_with fail
                  go_ret
                  exact ⟨rfl, FE.out⟩
                · have hxlt : x0 < 18446744073709551616 := by
                    have := seqOf_lt (reads D 2)
                    rw [SQ.out] at this
                    exact this
                  have hbu : bumped (reads D 2) ⟨a0, a1, a2, a3, a4, al, am⟩ = ⟨x0 + 1, a1, a2, a3, a4, al, am⟩ := by
                    unfold bumped
                    rw [SQ.out]
                  have hs1 : seqOf (reads D 2) + 1 < 18446744073709551616 := by
                    rw [SQ.out]
                    omega
                  obtain ⟨y0, y1, y2, y3, y4, yl, ym, hy⟩ := blk_cases (Blk.norm ⟨x0 + 1, a1, a2, a3, a4, al, am⟩)
                  have hy0 : y0 = x0 + 1 := (congrArg Blk.seq hy).symm
                  have ST : Hid (Calls Try.prog 26 #[.pointer (some ⟨q, 0, none⟩), .agg #[.int .u64 (a0 : Int), .int .u64 (a1 : Int), .int .u64 (a2 : Int), .int .u64 (a3 : Int), .int .u64 (a4 : Int), .bool al, .int .i64 am]] w10 fun e w' => e = .returned (.tuple #[.agg #[.int .u64 (y0 : Int), .int .u64 (y1 : Int), .int .u64 (y2 : Int), .int .u64 (y3 : Int), .int .u64 (y4 : Int), .bool yl, .int .i64 ym], .int .i64 0]) ∧ DL w w' q K (fun k => (k = B5 ∨ k = B6) ∨ k = B15) (stF (reads D 2) ⟨a0, a1, a2, a3, a4, al, am⟩) ∧ Fr K w10 w') := Lib.hid (by
                    have h := store_eq d10.out (by rw [C5.out.1]; omega) (by rw [C5.out.1]; omega) C5.out.2.1 ⟨a0, a1, a2, a3, a4, al, am⟩ HA.out (by rw [SQ.out]; exact hm) false false C5.out.bw (C5.out.bf _)
                    rw [show stB (reads D 2) ⟨a0, a1, a2, a3, a4, al, am⟩ false false = (bumped (reads D 2) ⟨a0, a1, a2, a3, a4, al, am⟩).norm from rfl, hbu, hy, blkV_mk] at h
                    exact h)
                  have LD6 : Hid (loadD (stF (reads D 2) ⟨a0, a1, a2, a3, a4, al, am⟩) = some ⟨y0, y1, y2, y3, y4, yl, ym⟩) := Lib.hid (by rw [C5.out.load_stF HA.out hs1, hbu, hy])
                  have C6 := Lib.hid (C5.out.stF ⟨a0, a1, a2, a3, a4, al, am⟩)
                  have EQY : Hid (∀ w', (binOp .eql 29 (.agg #[.int .u64 (y0 : Int), .int .u64 (y1 : Int), .int .u64 (y2 : Int), .int .u64 (y3 : Int), .int .u64 (y4 : Int), .bool yl, .int .i64 ym]) (.agg #[.int .u64 (y0 : Int), .int .u64 (y1 : Int), .int .u64 (y2 : Int), .int .u64 (y3 : Int), .int .u64 (y4 : Int), .bool yl, .int .i64 ym])).run Try.prog w' = .ok (.bool true) w') := Lib.hid fun w' => by
                    have h := blk_eql ⟨y0, y1, y2, y3, y4, yl, ym⟩ ⟨y0, y1, y2, y3, y4, yl, ym⟩ w'
                    rwa [blkV_mk, decide_eq_true rfl] at h
                  have heq : ((x0 : Int) == 18446744073709551615) = false := beq_eq_false_iff_ne.2 (by omega)
                  have hwu : IntKind.u64.wrap ((x0 : Int) + 1) = (y0 : Int) := by
                    rw [IntKind.wrap_u64]
                    omega
                  have HWU := Lib.hid hwu
                  generalize stF (reads D 2) ⟨a0, a1, a2, a3, a4, al, am⟩ = D6 at *
                  clear hm d10 hbu hs1 hy hy0 hxlt hwu
                  go_wp2_with fail
                  refine ST.out.mono ?_
                  rintro e w11 ⟨rfl, d11, f11⟩
                  have h17 := heap_alloc_new w11 (.cells #[.int .u64 (y0 : Int), .int .u64 (y1 : Int), .int .u64 (y2 : Int), .int .u64 (y3 : Int), .int .u64 (y4 : Int), .bool yl, .int .i64 ym] 29)
                  have f17 : Fr Nob w11 (w11.alloc (.cells #[.int .u64 (y0 : Int), .int .u64 (y1 : Int), .int .u64 (y2 : Int), .int .u64 (y3 : Int), .int .u64 (y4 : Int), .bool yl, .int .i64 ym] 29)) := (Fr.refl Nob w11).alloc _
                  have G13 := Lib.hid (f17.heap (f11.heap h13.out K13.out) fun h => h)
                  have G15 := Lib.hid (f17.heap (f11.heap h15.out K15.out) fun h => h)
                  have D12 := Lib.hid (d11.nob f17)
                  obtain ⟨B17, hB17⟩ : ∃ R, R = w11.heap.size := ⟨_, rfl⟩
                  have K17 : Hid (¬ K B17) := Lib.hid (d11.fresh B17 (by rw [hB17]; exact Nat.le_refl _))
                  clear c0 c1 c2 c3 c4 c5 c6
                  go_upto_region 17 with fail
                  rw [← hB17] at h17 ⊢
                  have G17 := Lib.hid h17
                  clear h17 f17 hB17 d11 f11 ST
                  generalize w11.alloc (.cells #[.int .u64 (y0 : Int), .int .u64 (y1 : Int), .int .u64 (y2 : Int), .int .u64 (y3 : Int), .int .u64 (y4 : Int), .bool yl, .int .i64 ym] 29) = w12 at *
                  have LD := Lib.hid (load_eq D12.out (by rw [C6.out.1]; omega) (by rw [C6.out.1]; omega) C6.out.2.1 _ LD6.out)
                  rw [show decB (some (⟨y0, y1, y2, y3, y4, yl, ym⟩ : Blk)) = ⟨y0, y1, y2, y3, y4, yl, ym⟩ from rfl, blkV_mk, show loadE (some (⟨y0, y1, y2, y3, y4, yl, ym⟩ : Blk)) = 0 from rfl] at LD
                  have c150 := cell_of_row w12 B15 0 _ _ (0, 0) G15.out
                  clear D12
                  go_wp2_with fail
                  refine LD.out.mono ?_
                  rintro e w13 ⟨rfl, d13, f13⟩
                  have h19 := heap_alloc_new w13 (.cells #[.int .u64 (y0 : Int), .int .u64 (y1 : Int), .int .u64 (y2 : Int), .int .u64 (y3 : Int), .int .u64 (y4 : Int), .bool yl, .int .i64 ym] 29)
                  have f19 : Fr Nob w13 (w13.alloc (.cells #[.int .u64 (y0 : Int), .int .u64 (y1 : Int), .int .u64 (y2 : Int), .int .u64 (y3 : Int), .int .u64 (y4 : Int), .bool yl, .int .i64 ym] 29)) := (Fr.refl Nob w13).alloc _
                  replace G13 := Lib.hid (f19.heap (f13.heap G13.out K13.out) fun h => h)
                  replace G15 := Lib.hid (f19.heap (f13.heap G15.out K15.out) fun h => h)
                  replace G17 := Lib.hid (f19.heap (f13.heap G17.out K17.out) fun h => h)
                  have FE := Lib.hid (d13.fr.trans' f19)
                  obtain ⟨B19, hB19⟩ : ∃ R, R = w13.heap.size := ⟨_, rfl⟩
                  clear c150
                  go_upto_region 20 with fail
                  rw [← hB19] at h19 ⊢
                  generalize w13.alloc (.cells #[.int .u64 (y0 : Int), .int .u64 (y1 : Int), .int .u64 (y2 : Int), .int .u64 (y3 : Int), .int .u64 (y4 : Int), .bool yl, .int .i64 ym] 29) = w14 at *
                  have c0 := cell_of_row w14 B15 0 _ _ (0, 0) G15.out
                  have c1 := cell_of_row w14 B15 1 _ _ (0, 0) G15.out
                  have c2 := cell_of_row w14 B15 2 _ _ (0, 0) G15.out
                  have c3 := cell_of_row w14 B15 3 _ _ (0, 0) G15.out
                  have c4 := cell_of_row w14 B15 4 _ _ (0, 0) G15.out
                  have c5 := cell_of_row w14 B15 5 _ _ (0, 0) G15.out
                  have c6 := cell_of_row w14 B15 6 _ _ (0, 0) G15.out
                  have r0 := cell_of_row w14 B13 0 _ _ (0, 0) G13.out
                  have r1 := cell_of_row w14 B13 1 _ _ (0, 0) G13.out
                  have r2 := cell_of_row w14 B13 2 _ _ (0, 0) G13.out
                  have r3 := cell_of_row w14 B13 3 _ _ (0, 0) G13.out
                  have r4 := cell_of_row w14 B13 4 _ _ (0, 0) G13.out
                  have r5 := cell_of_row w14 B13 5 _ _ (0, 0) G13.out
                  have r6 := cell_of_row w14 B13 6 _ _ (0, 0) G13.out
                  have z0 := cell_of_row w14 B17 0 _ _ (0, 0) G17.out
                  have z1 := cell_of_row w14 B17 1 _ _ (0, 0) G17.out
                  have z2 := cell_of_row w14 B17 2 _ _ (0, 0) G17.out
                  have z3 := cell_of_row w14 B17 3 _ _ (0, 0) G17.out
                  have z4 := cell_of_row w14 B17 4 _ _ (0, 0) G17.out
                  have z5 := cell_of_row w14 B17 5 _ _ (0, 0) G17.out
                  have z6 := cell_of_row w14 B17 6 _ _ (0, 0) G17.out
                  have t0 := cell_of_row w14 B19 0 _ _ (0, 0) h19
                  have t1 := cell_of_row w14 B19 1 _ _ (0, 0) h19
                  have t2 := cell_of_row w14 B19 2 _ _ (0, 0) h19
                  have t3 := cell_of_row w14 B19 3 _ _ (0, 0) h19
                  have t4 := cell_of_row w14 B19 4 _ _ (0, 0) h19
                  have t5 := cell_of_row w14 B19 5 _ _ (0, 0) h19
                  have t6 := cell_of_row w14 B19 6 _ _ (0, 0) h19
                  have ey := EQY.out
                  have ex := EQX.out
                  have hwu := HWU.out
                  clear h19 f19 hB19 d13 f13 LD
                  go_wp2_with fail
                  go_ret
                  exact ⟨rfl, FE.out⟩

end Go.Proofs.Ytpdljgjofebgpaa
