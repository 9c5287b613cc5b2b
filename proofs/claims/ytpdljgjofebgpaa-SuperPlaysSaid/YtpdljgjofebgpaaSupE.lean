/-
  super: Store.
-/
import Derived.Test.YtpdljgjofebgpaaSupD
namespace Go.Proofs.Ytpdljgjofebgpaa
open Go.RowKit

def seqOf (D : Dv) : Nat := (decB (loadD D)).seq
def bumped (D : Dv) (b : Blk) : Blk := { b with seq := seqOf D + 1 }
def stW (D : Dv) (b : Blk) : Dv := (reads D 2).change ((seqOf D + 1) % 2) (.whole (pad (enc (bumped D b))))
def stF (D : Dv) (b : Blk) : Dv := (stW D b).flush
def stB (D : Dv) (b : Blk) (bw bf : Bool) : Blk := if bw = true then Blk.zero else if bf = true then Blk.zero else (bumped D b).norm
def stE (bw bf : Bool) : Int := if bw = true then 4 else if bf = true then 4 else 0
def stD (D : Dv) (b : Blk) (bw : Bool) : Dv := if bw = true then stW D b else stF D b

theorem dec_ok {p : List UInt8} {b : Blk} (h : dec p = some b) : b.ok := by
  unfold dec at h
  split at h
  · rename_i h2
    rw [← Option.some.inj h]
    exact parse_ok h2.1
  · cases h
theorem newer_ok {b o : Option Blk} (hb : (decB b).ok) (ho : (decB o).ok) : (decB (newer b o)).ok := by
  cases o with
  | none => cases b <;> exact hb
  | some x =>
    cases b with
    | none => exact ho
    | some c =>
      show (decB (if c.seq < x.seq then some x else some c)).ok
      split
      · exact ho
      · exact hb
theorem zero_ok : Blk.zero.ok := ⟨by decide, by decide, by decide, by decide, by decide⟩
theorem pgDec_ok (p : Pg) : (decB (pgDec p)).ok := by
  cases h : pgDec p with
  | none => exact zero_ok
  | some b => exact dec_ok h
theorem loadK_ok (D : Dv) : ∀ k, (decB (loadK D k)).ok
  | 0 => zero_ok
  | k + 1 => newer_ok (loadK_ok D k) (pgDec_ok _)
theorem seqOf_lt (D : Dv) : seqOf D < 18446744073709551616 := (loadK_ok D 2).1

theorem loadE_or (o : Option Blk) : loadE o = 0 ∨ loadE o = 5 := by cases o with | none => exact .inr rfl | some b => exact .inl rfl

set_option maxRecDepth 100000 in
set_option maxHeartbeats 2000000 in
theorem store_eq {W w : World} {q : Nat} {K N : Nat → Prop} {D : Dv} (h : DL W w q K N D) (hl : 2 ≤ D.pg.length) (hl2 : D.pg.length ≤ 4096) (ho : D.off = false) (b : Blk) (hb : b.ok) (hs : seqOf D ≠ 18446744073709551615)
    (bw bf : Bool) (hbw : (reads D 2).spend.off = bw) (hbf : (stW D b).spend.off = bf) :
    Calls Try.prog 26 #[.pointer (some ⟨q, 0, none⟩), .agg (blkV b)] w fun e w' => e = .returned (.tuple #[.agg (blkV (stB D b bw bf)), .int .i64 (stE bw bf)]) ∧ DL W w' q K N (stD D b bw) ∧ Fr K w w' := by
  have H := Lib.hid h
  have hslt := seqOf_lt D
  have hbo : (bumped D b).ok := ⟨by show seqOf D + 1 < _; omega, hb.2.1, hb.2.2.1, hb.2.2.2.1, hb.2.2.2.2⟩
  obtain ⟨x0, x1, x2, x3, x4, cl, im, rfl⟩ := blk_cases b
  have HBO := Lib.hid hbo
  have HBW := Lib.hid hbw
  have HBF := Lib.hid hbf
  obtain ⟨o, hd⟩ : ∃ o, loadD D = o := ⟨_, rfl⟩
  obtain ⟨s0, s1, s2, s3, s4, sl, sm, ht⟩ := blk_cases (decB o)
  have hsq : seqOf D = s0 := by unfold seqOf; rw [hd, ht]
  have HSQ := Lib.hid hsq
  rw [hsq] at hs hslt
  have hwrap : IntKind.u64.wrap ((s0 : Int) + 1) = (s0 : Int) + 1 := by rw [IntKind.wrap_u64]; omega
  have hi2 : IntKind.i64.wrap (((s0 : Int) + 1) % 2) = ((s0 : Int) + 1) % 2 := by rw [IntKind.wrap_i64]; omega
  have hne : ((s0 : Int) == 18446744073709551615) = false := beq_eq_false_iff_ne.2 (by omega)
  obtain ⟨le', hle⟩ : ∃ le', le' = loadE o := ⟨_, rfl⟩
  have hle2 : (le' != 0) = false ∨ ((le' != 0) = true ∧ (le' != 5) = false) := by
    rcases loadE_or o with h | h
    · left; rw [hle, h]; rfl
    · right; rw [hle, h]; exact ⟨rfl, rfl⟩
  obtain ⟨X, hX⟩ : ∃ X, X = w.heap.size := ⟨_, rfl⟩
  obtain ⟨R, hR⟩ : ∃ R, R = w.heap.size + 1 := ⟨_, rfl⟩
  rw [blkV_mk]
  have HD := Lib.hid hd
  have HT := Lib.hid ht
  have HLE := Lib.hid hle
  have HO := Lib.hid ho
  clear h hb hbo hbw hbf hd ht hsq hle ho hs
  go_enter Try.func26, Try.ntmps26
  go_wp2_with fail
  have h1 := heap_alloc_new w (.cells #[.int .u64 (x0 : Int), .int .u64 (x1 : Int), .int .u64 (x2 : Int), .int .u64 (x3 : Int), .int .u64 (x4 : Int), .bool cl, .int .i64 im] 29)
  have f1 : Fr Nob w (w.alloc (.cells #[.int .u64 (x0 : Int), .int .u64 (x1 : Int), .int .u64 (x2 : Int), .int .u64 (x3 : Int), .int .u64 (x4 : Int), .bool cl, .int .i64 im] 29)) := (Fr.refl Nob w).alloc _
  have hs1 : (w.alloc (.cells #[.int .u64 (x0 : Int), .int .u64 (x1 : Int), .int .u64 (x2 : Int), .int .u64 (x3 : Int), .int .u64 (x4 : Int), .bool cl, .int .i64 im] 29)).heap.size = w.heap.size + 1 := by simp
  generalize w.alloc (.cells #[.int .u64 (x0 : Int), .int .u64 (x1 : Int), .int .u64 (x2 : Int), .int .u64 (x3 : Int), .int .u64 (x4 : Int), .bool cl, .int .i64 im] 29) = w1 at *
  have h2 := heap_alloc_new w1 (.cells #[.int .u64 0, .int .u64 0, .int .u64 0, .int .u64 0, .int .u64 0, .bool false, .int .i64 0] 29)
  have f2 : Fr Nob w1 (w1.alloc (.cells #[.int .u64 0, .int .u64 0, .int .u64 0, .int .u64 0, .int .u64 0, .bool false, .int .i64 0] 29)) := (Fr.refl Nob w1).alloc _
  have hs2 : (w1.alloc (.cells #[.int .u64 0, .int .u64 0, .int .u64 0, .int .u64 0, .int .u64 0, .bool false, .int .i64 0] 29)).heap.size = w1.heap.size + 1 := by simp
  rw [hs1, ← hR] at h2
  rw [← hX] at h1
  rw [← hR, ← hX]
  have XV := Lib.hid (f2.heap h1 fun h => h)
  have RV := Lib.hid h2
  have F2 := Lib.hid (f1.trans' f2)
  have D2 : Hid (DL W (w1.alloc (.cells #[.int .u64 0, .int .u64 0, .int .u64 0, .int .u64 0, .int .u64 0, .bool false, .int .i64 0] 29)) q K (fun j => N j ∨ j = X ∨ j = R) D) := Lib.hid (H.out.more (f1.trans' f2) fun k hk => by
    rw [hs2, hs1]
    rcases hk with h | h | h
    · exact .inl h
    · right; omega
    · right; omega)
  have HX := Lib.hid hX
  have HR := Lib.hid hR
  have KX : Hid (¬ K X) := Lib.hid (H.out.fresh X (by rw [hX]; exact Nat.le_refl _))
  have KR : Hid (¬ K R) := Lib.hid (H.out.fresh R (by rw [hR]; omega))
  have XR : Hid (X ≠ R) := Lib.hid (by omega)
  clear h1 f1 hs1 h2 f2 hs2 hX hR
  generalize w1.alloc (.cells #[.int .u64 0, .int .u64 0, .int .u64 0, .int .u64 0, .int .u64 0, .bool false, .int .i64 0] 29) = w2 at *
  refine (load_eq D2.out hl hl2 HO.out o HD.out).mono ?_
  rintro e w3 ⟨rfl, d3, f3⟩
  rw [HT.out, blkV_mk, ← HLE.out]
  have D3 := Lib.hid d3
  have xv3 := f3.heap XV.out KX.out
  have rv3 := f3.heap RV.out KR.out
  have F3 := Lib.hid (F2.out.nob.trans f3 fun j _ h => h)
  have c1 := cell_of_row w3 X 1 _ _ (0, 0) xv3
  have c2 := cell_of_row w3 X 2 _ _ (0, 0) xv3
  have c3 := cell_of_row w3 X 3 _ _ (0, 0) xv3
  have c4 := cell_of_row w3 X 4 _ _ (0, 0) xv3
  have c5 := cell_of_row w3 X 5 _ _ (0, 0) xv3
  have c6 := cell_of_row w3 X 6 _ _ (0, 0) xv3
  have c0 := cell_of_row w3 X 0 _ _ (0, 0) xv3
  have y0 := frozen_of_row w3 X 0 _ _ xv3
  have X3 := Lib.hid xv3
  have R3 := Lib.hid rv3
  clear d3 f3 xv3 rv3
  have fn : Fr Nob w3 (w3.alloc (.cells #[.int .u64 (s0 : Int), .int .u64 (s1 : Int), .int .u64 (s2 : Int), .int .u64 (s3 : Int), .int .u64 (s4 : Int), .bool sl, .int .i64 sm] 29)) := (Fr.refl Nob w3).alloc _
  have n0 := fn.cell c0 fun h => h
  have n1 := fn.cell c1 fun h => h
  have n2 := fn.cell c2 fun h => h
  have n3 := fn.cell c3 fun h => h
  have n4 := fn.cell c4 fun h => h
  have n5 := fn.cell c5 fun h => h
  have n6 := fn.cell c6 fun h => h
  have z0 := (fn.frozen (p := ⟨X, 0, none⟩) (lt_of_block X3.out) fun h => h).trans y0
  have X4 : Hid (((w3.alloc (.cells #[.int .u64 (s0 : Int), .int .u64 (s1 : Int), .int .u64 (s2 : Int), .int .u64 (s3 : Int), .int .u64 (s4 : Int), .bool sl, .int .i64 sm] 29)).setCell ⟨X, 0, none⟩ (.int .u64 ((s0 : Int) + 1))).heap[X]? = some (.cells #[.int .u64 ((s0 : Int) + 1), .int .u64 (x1 : Int), .int .u64 (x2 : Int), .int .u64 (x3 : Int), .int .u64 (x4 : Int), .bool cl, .int .i64 im] 29 (0, 0))) := Lib.hid (heap_setCell_same (w3.alloc (.cells #[.int .u64 (s0 : Int), .int .u64 (s1 : Int), .int .u64 (s2 : Int), .int .u64 (s3 : Int), .int .u64 (s4 : Int), .bool sl, .int .i64 sm] 29)) X 0 _ _ (.int .u64 ((s0 : Int) + 1)) (fn.heap X3.out fun h => h))
  have F4 : Hid (Fr (fun j => K j ∨ j = X) w ((w3.alloc (.cells #[.int .u64 (s0 : Int), .int .u64 (s1 : Int), .int .u64 (s2 : Int), .int .u64 (s3 : Int), .int .u64 (s4 : Int), .bool sl, .int .i64 sm] 29)).setCell ⟨X, 0, none⟩ (.int .u64 ((s0 : Int) + 1)))) := Lib.hid ((F3.out.mono fun j _ h => Or.inl h).trans (fn.nob.trans (Fr.set1 (Fr.refl (One X) (w3.alloc (.cells #[.int .u64 (s0 : Int), .int .u64 (s1 : Int), .int .u64 (s2 : Int), .int .u64 (s3 : Int), .int .u64 (s4 : Int), .bool sl, .int .i64 sm] 29))) _) (S := One X) fun _ _ h => h) fun j _ h => Or.inr h)
  have f34 : Fr (One X) w3 ((w3.alloc (.cells #[.int .u64 (s0 : Int), .int .u64 (s1 : Int), .int .u64 (s2 : Int), .int .u64 (s3 : Int), .int .u64 (s4 : Int), .bool sl, .int .i64 sm] 29)).setCell ⟨X, 0, none⟩ (.int .u64 ((s0 : Int) + 1))) := fn.nob.set1 _
  have R4 := Lib.hid (f34.heap R3.out fun h => XR.out (Eq.symm h))
  have D4 : Hid (DL W ((w3.alloc (.cells #[.int .u64 (s0 : Int), .int .u64 (s1 : Int), .int .u64 (s2 : Int), .int .u64 (s3 : Int), .int .u64 (s4 : Int), .bool sl, .int .i64 sm] 29)).setCell ⟨X, 0, none⟩ (.int .u64 ((s0 : Int) + 1))) q K (fun j => N j ∨ j = X ∨ j = R) (reads D 2)) := Lib.hid (D3.out.keep' f34 (D3.out.fr.trans f34 fun j hj h => by
    have h : j = X := h
    have := HX.out
    have := H.out.wle
    omega) KX.out (.inr (.inl rfl)))
  clear fn f34 y0
  have hmod : ((s0 : Int) + 1) % 2 = (((s0 + 1) % 2 : Nat) : Int) := by omega
  have HMOD := Lib.hid hmod
  clear hmod
  obtain ⟨bb, hbb⟩ : ∃ bb : Blk, bb = ⟨s0 + 1, x1, x2, x3, x4, cl, im⟩ := ⟨_, rfl⟩
  have hbu : bumped D ⟨x0, x1, x2, x3, x4, cl, im⟩ = bb := by unfold bumped; rw [HSQ.out, hbb]
  have hbbo : bb.ok := by rw [← hbu]; exact HBO.out
  have hsw : stW D ⟨x0, x1, x2, x3, x4, cl, im⟩ = (reads D 2).change ((s0 + 1) % 2) (.whole (pad (enc bb))) := by unfold stW; rw [hbu, HSQ.out]
  have hcast : ((s0 + 1 : Nat) : Int) = (s0 : Int) + 1 := by omega
  have hbv : blkV bb = #[.int .u64 ((s0 : Int) + 1), .int .u64 (x1 : Int), .int .u64 (x2 : Int), .int .u64 (x3 : Int), .int .u64 (x4 : Int), .bool cl, .int .i64 im] := by rw [hbb, blkV_mk, hcast]
  have HBU := Lib.hid hbu
  have HBBO := Lib.hid hbbo
  have HSW := Lib.hid hsw
  have HBV := Lib.hid hbv
  clear hbb hbu hbbo hsw hcast hbv
  rcases hle2 with hle2 | ⟨hle2, hle3⟩
  all_goals
    go_wp2_with fail
    generalize (w3.alloc (.cells #[.int .u64 (s0 : Int), .int .u64 (s1 : Int), .int .u64 (s2 : Int), .int .u64 (s3 : Int), .int .u64 (s4 : Int), .bool sl, .int .i64 sm] 29)).setCell ⟨X, 0, none⟩ (.int .u64 ((s0 : Int) + 1)) = w5 at *
    have ENC := Lib.hid (encode_eq bb HBBO.out w5)
    rw [HBV.out] at ENC
    refine ENC.out.mono ?_
    rintro e w6 ⟨gp, rfl, hrow, f6, hgp⟩
    have ROW := Lib.hid hrow
    have D6 := Lib.hid (D4.out.nob f6)
    have X6 := Lib.hid (f6.heap X4.out fun h => h)
    have R6 := Lib.hid (f6.heap R4.out fun h => h)
    have F6 := Lib.hid (F4.out.trans f6 fun j _ h => h.elim)
    have KG : Hid (¬ K gp) := Lib.hid (D4.out.fresh gp hgp)
    clear hrow f6 hgp ENC n0 n1 n2 n3 n4 n5 n6 c0 c1 c2 c3 c4 c5 c6 z0
    have v0 := cell_of_row w6 X 0 _ _ (0, 0) X6.out
    go_wp2_with fail
    rw [HMOD.out]
    refine (D6.out.write (i := (s0 + 1) % 2) (by rw [reads_pg]; omega) (RdB.of_block' ROW.out (enc_len _)) (by rw [enc_len]; omega) bw HBW.out).mono ?_
    rintro e w7 ⟨rfl, d7, f7⟩
    rw [← HSW.out] at d7
    have D7 := Lib.hid d7
    have rv := f7.heap R6.out KR.out
    have X7 := Lib.hid (f7.heap X6.out KX.out)
    have G7 := Lib.hid (f7.heap ROW.out KG.out)
    have F7 := Lib.hid (F6.out.trans f7 fun j _ h => Or.inl h)
    clear d7 f7 v0
    cases bw with
    | true =>
      rw [errOff_true]
      have FIN : Hid (∀ u0 u1 u2 u3 u4 u5 u6 : Value, DL W (((((((w7.setCell ⟨R, 0, none⟩ u0).setCell ⟨R, 1, none⟩ u1).setCell ⟨R, 2, none⟩ u2).setCell ⟨R, 3, none⟩ u3).setCell ⟨R, 4, none⟩ u4).setCell ⟨R, 5, none⟩ u5).setCell ⟨R, 6, none⟩ u6) q K N (stW D ⟨x0, x1, x2, x3, x4, cl, im⟩) ∧ Fr K w (((((((w7.setCell ⟨R, 0, none⟩ u0).setCell ⟨R, 1, none⟩ u1).setCell ⟨R, 2, none⟩ u2).setCell ⟨R, 3, none⟩ u3).setCell ⟨R, 4, none⟩ u4).setCell ⟨R, 5, none⟩ u5).setCell ⟨R, 6, none⟩ u6)) := Lib.hid fun u0 u1 u2 u3 u4 u5 u6 => by
        have f7 := fr7 (w := w7) (R := R) u0 u1 u2 u3 u4 u5 u6
        have hx := HX.out
        have hr := HR.out
        have hw := H.out.wle
        refine ⟨((D7.out).keep' f7 ((D7.out).fr.trans f7 fun j hj h => ?_) KR.out (.inr (.inr rfl))).less fun j h => .inl h, Fr.trans (S := K) (Fr.trans (S := K) (Fr.refl K w) (F7.out) fun j hj h => ?_) f7 fun j hj h => ?_⟩
        · have h : j = R := h
          omega
        · rcases h with h | h
          · exact h
          · omega
        · have h : j = R := h
          omega
      have e0 := cell_of_row w7 R 0 _ _ (0, 0) rv
      have e1 := cell_of_row w7 R 1 _ _ (0, 0) rv
      have e2 := cell_of_row w7 R 2 _ _ (0, 0) rv
      have e3 := cell_of_row w7 R 3 _ _ (0, 0) rv
      have e4 := cell_of_row w7 R 4 _ _ (0, 0) rv
      have e5 := cell_of_row w7 R 5 _ _ (0, 0) rv
      have e6 := cell_of_row w7 R 6 _ _ (0, 0) rv
      have z0 := frozen_of_row w7 R 0 _ _ rv
      have z1 := frozen_of_row w7 R 1 _ _ rv
      have z2 := frozen_of_row w7 R 2 _ _ rv
      have z3 := frozen_of_row w7 R 3 _ _ rv
      have z4 := frozen_of_row w7 R 4 _ _ rv
      have z5 := frozen_of_row w7 R 5 _ _ rv
      have z6 := frozen_of_row w7 R 6 _ _ rv
      clear rv
      go_wp2_with fail
      refine bodyPost_ret (v := .tuple #[.agg #[.int .u64 0, .int .u64 0, .int .u64 0, .int .u64 0, .int .u64 0, .bool false, .int .i64 0], .int .i64 4]) (by simp [results, Try.results26, go_sem, e0, e1, e2, e3, e4, e5, e6]) rfl ⟨rfl, FIN.out _ _ _ _ _ _ _⟩
    | false =>
      rw [errOff_false]
      have R7 := Lib.hid rv
      clear rv
      go_wp2_with fail
      refine (D7.out.flush bf HBF.out).mono ?_
      rintro e w8 ⟨rfl, d8, f8⟩
      have D8 : Hid (DL W w8 q K (fun j => N j ∨ j = X ∨ j = R) (stF D ⟨x0, x1, x2, x3, x4, cl, im⟩)) := Lib.hid d8
      have rv := f8.heap R7.out KR.out
      have X8 := Lib.hid (f8.heap X7.out KX.out)
      have G8 := Lib.hid (f8.heap G7.out KG.out)
      have F8 := Lib.hid (F7.out.trans f8 fun j _ h => Or.inl h)
      clear d8 f8
      cases bf with
      | true =>
        rw [errOff_true]
        have FIN : Hid (∀ u0 u1 u2 u3 u4 u5 u6 : Value, DL W (((((((w8.setCell ⟨R, 0, none⟩ u0).setCell ⟨R, 1, none⟩ u1).setCell ⟨R, 2, none⟩ u2).setCell ⟨R, 3, none⟩ u3).setCell ⟨R, 4, none⟩ u4).setCell ⟨R, 5, none⟩ u5).setCell ⟨R, 6, none⟩ u6) q K N (stF D ⟨x0, x1, x2, x3, x4, cl, im⟩) ∧ Fr K w (((((((w8.setCell ⟨R, 0, none⟩ u0).setCell ⟨R, 1, none⟩ u1).setCell ⟨R, 2, none⟩ u2).setCell ⟨R, 3, none⟩ u3).setCell ⟨R, 4, none⟩ u4).setCell ⟨R, 5, none⟩ u5).setCell ⟨R, 6, none⟩ u6)) := Lib.hid fun u0 u1 u2 u3 u4 u5 u6 => by
          have f7 := fr7 (w := w8) (R := R) u0 u1 u2 u3 u4 u5 u6
          have hx := HX.out
          have hr := HR.out
          have hw := H.out.wle
          refine ⟨((D8.out).keep' f7 ((D8.out).fr.trans f7 fun j hj h => ?_) KR.out (.inr (.inr rfl))).less fun j h => .inl h, Fr.trans (S := K) (Fr.trans (S := K) (Fr.refl K w) (F8.out) fun j hj h => ?_) f7 fun j hj h => ?_⟩
          · have h : j = R := h
            omega
          · rcases h with h | h
            · exact h
            · omega
          · have h : j = R := h
            omega
        have e0 := cell_of_row w8 R 0 _ _ (0, 0) rv
        have e1 := cell_of_row w8 R 1 _ _ (0, 0) rv
        have e2 := cell_of_row w8 R 2 _ _ (0, 0) rv
        have e3 := cell_of_row w8 R 3 _ _ (0, 0) rv
        have e4 := cell_of_row w8 R 4 _ _ (0, 0) rv
        have e5 := cell_of_row w8 R 5 _ _ (0, 0) rv
        have e6 := cell_of_row w8 R 6 _ _ (0, 0) rv
        have z0 := frozen_of_row w8 R 0 _ _ rv
        have z1 := frozen_of_row w8 R 1 _ _ rv
        have z2 := frozen_of_row w8 R 2 _ _ rv
        have z3 := frozen_of_row w8 R 3 _ _ rv
        have z4 := frozen_of_row w8 R 4 _ _ rv
        have z5 := frozen_of_row w8 R 5 _ _ rv
        have z6 := frozen_of_row w8 R 6 _ _ rv
        clear rv
        go_wp2_with fail
        refine bodyPost_ret (v := .tuple #[.agg #[.int .u64 0, .int .u64 0, .int .u64 0, .int .u64 0, .int .u64 0, .bool false, .int .i64 0], .int .i64 4]) (by simp [results, Try.results26, go_sem, e0, e1, e2, e3, e4, e5, e6]) rfl ⟨rfl, FIN.out _ _ _ _ _ _ _⟩
      | false =>
        rw [errOff_false]
        have R8 := Lib.hid rv
        clear rv
        have hde : dec (enc bb) = some bb.norm := by
          have := dec_enc HBBO.out []
          rwa [List.append_nil] at this
        have DEC := Lib.hid (decode_eq (w := w8) (v := .slice (some ⟨gp, 0, none⟩) 64 64) ⟨RdB.of_block' G8.out (enc_len _), _, _, _, rfl, Nat.le_refl _, by omega⟩ _ hde)
        obtain ⟨p0, p1, p2, p3, p4, pl, pm, hp⟩ := blk_cases bb.norm
        rw [show decB (some bb.norm) = bb.norm from rfl, show decE (some bb.norm) = 0 from rfl, hp, blkV_mk] at DEC
        have HP := Lib.hid hp
        clear hde hp
        go_wp2_with fail
        refine DEC.out.mono ?_
        rintro e w9 ⟨rfl, f9⟩
        have xv := f9.heap X8.out fun h => h
        have rv := f9.heap R8.out fun h => h
        have D9 := Lib.hid (D8.out.nob f9)
        have F9 := Lib.hid (F8.out.trans f9 fun j _ h => h.elim)
        clear f9 DEC
        have a0 := cell_of_row w9 X 0 _ _ (0, 0) xv
        have a1 := cell_of_row w9 X 1 _ _ (0, 0) xv
        have a2 := cell_of_row w9 X 2 _ _ (0, 0) xv
        have a3 := cell_of_row w9 X 3 _ _ (0, 0) xv
        have a4 := cell_of_row w9 X 4 _ _ (0, 0) xv
        have a5 := cell_of_row w9 X 5 _ _ (0, 0) xv
        have a6 := cell_of_row w9 X 6 _ _ (0, 0) xv
        have b0 := frozen_of_row w9 X 0 _ _ xv
        have b1 := frozen_of_row w9 X 1 _ _ xv
        have b2 := frozen_of_row w9 X 2 _ _ xv
        have b3 := frozen_of_row w9 X 3 _ _ xv
        have b4 := frozen_of_row w9 X 4 _ _ xv
        have b5 := frozen_of_row w9 X 5 _ _ xv
        have b6 := frozen_of_row w9 X 6 _ _ xv
        have e0 := cell_of_row w9 R 0 _ _ (0, 0) rv
        have e1 := cell_of_row w9 R 1 _ _ (0, 0) rv
        have e2 := cell_of_row w9 R 2 _ _ (0, 0) rv
        have e3 := cell_of_row w9 R 3 _ _ (0, 0) rv
        have e4 := cell_of_row w9 R 4 _ _ (0, 0) rv
        have e5 := cell_of_row w9 R 5 _ _ (0, 0) rv
        have e6 := cell_of_row w9 R 6 _ _ (0, 0) rv
        have z0 := frozen_of_row w9 R 0 _ _ rv
        have z1 := frozen_of_row w9 R 1 _ _ rv
        have z2 := frozen_of_row w9 R 2 _ _ rv
        have z3 := frozen_of_row w9 R 3 _ _ rv
        have z4 := frozen_of_row w9 R 4 _ _ rv
        have z5 := frozen_of_row w9 R 5 _ _ rv
        have z6 := frozen_of_row w9 R 6 _ _ rv
        have hxr : ¬ X = R := XR.out
        have hrx : ¬ R = X := fun h => XR.out (Eq.symm h)
        have fX : Fr (One X) w9 (((((((w9.setCell ⟨X, 0, none⟩ (.int .u64 (p0 : Int))).setCell ⟨X, 1, none⟩ (.int .u64 (p1 : Int))).setCell ⟨X, 2, none⟩ (.int .u64 (p2 : Int))).setCell ⟨X, 3, none⟩ (.int .u64 (p3 : Int))).setCell ⟨X, 4, none⟩ (.int .u64 (p4 : Int))).setCell ⟨X, 5, none⟩ (.bool pl)).setCell ⟨X, 6, none⟩ (.int .i64 pm)) := fr7 (w := w9) (R := X) _ _ _ _ _ _ _
        have DX : Hid (DL W (((((((w9.setCell ⟨X, 0, none⟩ (.int .u64 (p0 : Int))).setCell ⟨X, 1, none⟩ (.int .u64 (p1 : Int))).setCell ⟨X, 2, none⟩ (.int .u64 (p2 : Int))).setCell ⟨X, 3, none⟩ (.int .u64 (p3 : Int))).setCell ⟨X, 4, none⟩ (.int .u64 (p4 : Int))).setCell ⟨X, 5, none⟩ (.bool pl)).setCell ⟨X, 6, none⟩ (.int .i64 pm)) q K (fun j => N j ∨ j = X ∨ j = R) (stF D ⟨x0, x1, x2, x3, x4, cl, im⟩)) := Lib.hid (D9.out.keep' fX (D9.out.fr.trans fX fun j hj h => by
          have h : j = X := h
          have := HX.out
          have := H.out.wle
          omega) KX.out (.inr (.inl rfl)))
        have FX := Lib.hid (F9.out.trans fX fun j _ h => Or.inr h)
        clear xv rv fX
        have FIN : Hid (∀ u0 u1 u2 u3 u4 u5 u6 : Value, DL W ((((((((((((((w9.setCell ⟨X, 0, none⟩ (.int .u64 (p0 : Int))).setCell ⟨X, 1, none⟩ (.int .u64 (p1 : Int))).setCell ⟨X, 2, none⟩ (.int .u64 (p2 : Int))).setCell ⟨X, 3, none⟩ (.int .u64 (p3 : Int))).setCell ⟨X, 4, none⟩ (.int .u64 (p4 : Int))).setCell ⟨X, 5, none⟩ (.bool pl)).setCell ⟨X, 6, none⟩ (.int .i64 pm)).setCell ⟨R, 0, none⟩ u0).setCell ⟨R, 1, none⟩ u1).setCell ⟨R, 2, none⟩ u2).setCell ⟨R, 3, none⟩ u3).setCell ⟨R, 4, none⟩ u4).setCell ⟨R, 5, none⟩ u5).setCell ⟨R, 6, none⟩ u6) q K N (stF D ⟨x0, x1, x2, x3, x4, cl, im⟩) ∧ Fr K w ((((((((((((((w9.setCell ⟨X, 0, none⟩ (.int .u64 (p0 : Int))).setCell ⟨X, 1, none⟩ (.int .u64 (p1 : Int))).setCell ⟨X, 2, none⟩ (.int .u64 (p2 : Int))).setCell ⟨X, 3, none⟩ (.int .u64 (p3 : Int))).setCell ⟨X, 4, none⟩ (.int .u64 (p4 : Int))).setCell ⟨X, 5, none⟩ (.bool pl)).setCell ⟨X, 6, none⟩ (.int .i64 pm)).setCell ⟨R, 0, none⟩ u0).setCell ⟨R, 1, none⟩ u1).setCell ⟨R, 2, none⟩ u2).setCell ⟨R, 3, none⟩ u3).setCell ⟨R, 4, none⟩ u4).setCell ⟨R, 5, none⟩ u5).setCell ⟨R, 6, none⟩ u6)) := Lib.hid fun u0 u1 u2 u3 u4 u5 u6 => by
          have f7 := fr7 (w := (((((((w9.setCell ⟨X, 0, none⟩ (.int .u64 (p0 : Int))).setCell ⟨X, 1, none⟩ (.int .u64 (p1 : Int))).setCell ⟨X, 2, none⟩ (.int .u64 (p2 : Int))).setCell ⟨X, 3, none⟩ (.int .u64 (p3 : Int))).setCell ⟨X, 4, none⟩ (.int .u64 (p4 : Int))).setCell ⟨X, 5, none⟩ (.bool pl)).setCell ⟨X, 6, none⟩ (.int .i64 pm))) (R := R) u0 u1 u2 u3 u4 u5 u6
          have hx := HX.out
          have hr := HR.out
          have hw := H.out.wle
          refine ⟨((DX.out).keep' f7 ((DX.out).fr.trans f7 fun j hj h => ?_) KR.out (.inr (.inr rfl))).less fun j h => .inl h, Fr.trans (S := K) (Fr.trans (S := K) (Fr.refl K w) (FX.out) fun j hj h => ?_) f7 fun j hj h => ?_⟩
          · have h : j = R := h
            omega
          · rcases h with h | h
            · exact h
            · omega
          · have h : j = R := h
            omega
        go_wp2_with fail
        refine bodyPost_ret (v := .tuple #[.agg #[.int .u64 (p0 : Int), .int .u64 (p1 : Int), .int .u64 (p2 : Int), .int .u64 (p3 : Int), .int .u64 (p4 : Int), .bool pl, .int .i64 pm], .int .i64 0]) (by simp [results, Try.results26, go_sem, e0, e1, e2, e3, e4, e5, e6]) rfl ⟨?_, FIN.out _ _ _ _ _ _ _⟩
        rw [show stB D ⟨x0, x1, x2, x3, x4, cl, im⟩ false false = (bumped D ⟨x0, x1, x2, x3, x4, cl, im⟩).norm from rfl, HBU.out, HP.out]
        rfl

end Go.Proofs.Ytpdljgjofebgpaa
