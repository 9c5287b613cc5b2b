/-
  cellaretref4: Decode.
-/
import Derived.Test.YtpdljgjofebgpaaRefQ
namespace Go.Proofs.Ytpdljgjofebgpaa
open Go.RowKit

theorem str_sub (bs : List UInt8) (a b : Nat) : (⟨bs.toArray⟩ : ByteArray).extract a b = ⟨(sub bs a (b - a)).toArray⟩ := by
  apply ByteArray.ext
  simp [sub, ByteArray.data_extract]

theorem str_slice (bs : List UInt8) (a b : Nat) (h1 : a ≤ b) (h2 : b ≤ bs.length) (w : World) : (Instr.slice 9 (.string ⟨bs.toArray⟩) (some (.int .i64 (a : Int))) (some (.int .i64 (b : Int))) none).run Try.prog w = .ok (.string ⟨(sub bs a (b - a)).toArray⟩) w := by
  have hs : (⟨bs.toArray⟩ : ByteArray).size = bs.length := by simp [ByteArray.size]
  rw [run_slice_string w 9 _ .i64 .i64 _ _ Try.underlying9 (by omega) (by omega) (by omega)]
  rw [Int.toNat_natCast, Int.toNat_natCast, str_sub]
theorem str_head (bs : List UInt8) (b : Nat) (h2 : b ≤ bs.length) (w : World) : (Instr.slice 9 (.string ⟨bs.toArray⟩) none (some (.int .i64 (b : Int))) none).run Try.prog w = .ok (.string ⟨(bs.take b).toArray⟩) w := by
  have hs : (⟨bs.toArray⟩ : ByteArray).size = bs.length := by simp [ByteArray.size]
  rw [run_slice_string_h (s := ⟨bs.toArray⟩) w 9 Try.underlying9 .i64 _ (by omega) (by omega), Int.toNat_natCast, str_sub]
  rfl

set_option maxRecDepth 100000 in
set_option maxHeartbeats 4000000 in
theorem refDec_short {w : World} {bs : List UInt8} (hn : bs.length < 64) :
    Calls Try.prog 31 #[.string ⟨bs.toArray⟩] w fun e w' => e = .returned (.tuple #[.agg (blkV (decB none)), .bool false]) ∧ Fr Nob w w' := by
  have hni : (bs.length : Int) < 64 := by omega
  have h1 := heap_alloc_new w (.cells #[.int .u64 0, .int .u64 0, .int .u64 0, .int .u64 0, .int .u64 0, .bool false, .int .i64 0] 37)
  have f1 : Fr Nob w (w.alloc (.cells #[.int .u64 0, .int .u64 0, .int .u64 0, .int .u64 0, .int .u64 0, .bool false, .int .i64 0] 37)) := (Fr.refl Nob w).alloc _
  obtain ⟨R, hR⟩ : ∃ R, R = w.heap.size := ⟨_, rfl⟩
  rw [← hR] at h1
  go_enter Try.func31, Try.ntmps31
  go_upto_region 1 with fail
  rw [← hR]
  have HR := Lib.hid hR
  clear hR
  generalize w.alloc (.cells #[.int .u64 0, .int .u64 0, .int .u64 0, .int .u64 0, .int .u64 0, .bool false, .int .i64 0] 37) = w1 at *
  have e0 := cell_of_row w1 R 0 _ _ (0, 0) h1
  have e1 := cell_of_row w1 R 1 _ _ (0, 0) h1
  have e2 := cell_of_row w1 R 2 _ _ (0, 0) h1
  have e3 := cell_of_row w1 R 3 _ _ (0, 0) h1
  have e4 := cell_of_row w1 R 4 _ _ (0, 0) h1
  have e5 := cell_of_row w1 R 5 _ _ (0, 0) h1
  have e6 := cell_of_row w1 R 6 _ _ (0, 0) h1
  have z0 := frozen_of_row w1 R 0 _ _ h1
  have z1 := frozen_of_row w1 R 1 _ _ h1
  have z2 := frozen_of_row w1 R 2 _ _ h1
  have z3 := frozen_of_row w1 R 3 _ _ h1
  have z4 := frozen_of_row w1 R 4 _ _ h1
  have z5 := frozen_of_row w1 R 5 _ _ h1
  have z6 := frozen_of_row w1 R 6 _ _ h1
  have FR : Hid (∀ u0 u1 u2 u3 u4 u5 u6 : Value, Fr Nob w (((((((w1.setCell ⟨R, 0, none⟩ u0).setCell ⟨R, 1, none⟩ u1).setCell ⟨R, 2, none⟩ u2).setCell ⟨R, 3, none⟩ u3).setCell ⟨R, 4, none⟩ u4).setCell ⟨R, 5, none⟩ u5).setCell ⟨R, 6, none⟩ u6)) := Lib.hid fun u0 u1 u2 u3 u4 u5 u6 =>
    f1.trans (fr7 u0 u1 u2 u3 u4 u5 u6) fun k hk h => by
      have h : k = R := h
      have := HR.out
      omega
  clear h1 f1 hn
  go_wp2_with fail
  refine bodyPost_ret (v := .tuple #[.agg #[.int .u64 0, .int .u64 0, .int .u64 0, .int .u64 0, .int .u64 0, .bool false, .int .i64 0], .bool false]) (by simp [results, Try.results31, go_sem, e0, e1, e2, e3, e4, e5, e6]) rfl ⟨rfl, ?_⟩
  exact FR.out _ _ _ _ _ _ _

set_option maxRecDepth 100000 in
set_option maxHeartbeats 4000000 in
theorem refDec_long {w : World} {bs : List UInt8} (hn : 64 ≤ bs.length) (hm : bs.length ≤ 1000000) (o : Option Blk) (ho : dec bs = o) :
    Calls Try.prog 31 #[.string ⟨bs.toArray⟩] w fun e w' => e = .returned (.tuple #[.agg (blkV (decB o)), .bool o.isSome]) ∧ Fr Nob w w' := by
  have hni : (64 : Int) ≤ (bs.length : Int) := by omega
  have h1 := heap_alloc_new w (.cells #[.int .u64 0, .int .u64 0, .int .u64 0, .int .u64 0, .int .u64 0, .bool false, .int .i64 0] 37)
  have f1 : Fr Nob w (w.alloc (.cells #[.int .u64 0, .int .u64 0, .int .u64 0, .int .u64 0, .int .u64 0, .bool false, .int .i64 0] 37)) := (Fr.refl Nob w).alloc _
  obtain ⟨R, hR⟩ : ∃ R, R = w.heap.size := ⟨_, rfl⟩
  rw [← hR] at h1
  have HO := Lib.hid ho
  clear ho
  go_enter Try.func31, Try.ntmps31
  go_upto_region 3 with fail
  rw [← hR]
  have HR := Lib.hid hR
  clear hR
  generalize w.alloc (.cells #[.int .u64 0, .int .u64 0, .int .u64 0, .int .u64 0, .int .u64 0, .bool false, .int .i64 0] 37) = w1 at *
  have hy4 := (parse_image hn).2
  have hyi : (parse bs).image = ((upL (sub bs 48 4) : Nat) : Int) := rfl
  rw [hyi] at hy4
  have hwy : IntKind.i64.wrap ((upL (sub bs 48 4) : Nat) : Int) = ((upL (sub bs 48 4) : Nat) : Int) := by rw [IntKind.wrap_i64]; omega
  obtain ⟨x, hx⟩ : ∃ x, x = (bs.getD 44 0).toNat := ⟨_, rfl⟩
  obtain ⟨cl, hcl⟩ : ∃ cl, ((x : Int) == 1) = cl := ⟨_, rfl⟩
  have hpc : (parse bs).clean = cl := by
    rw [← hcl, hx]
    show decide (bs.getD 44 0 = 1) = _
    rw [Bool.eq_iff_iff, decide_eq_true_iff, beq_iff_eq]
    constructor
    · intro e; rw [e]; rfl
    · intro e; exact UInt8.toNat_inj.1 (by show _ = 1; omega)
  have hpv : blkV (parse bs) = #[.int .u64 (upL (sub bs 4 8) : Nat), .int .u64 (upL (sub bs 12 8) : Nat), .int .u64 (upL (sub bs 20 8) : Nat), .int .u64 (upL (sub bs 28 8) : Nat), .int .u64 (upL (sub bs 36 8) : Nat), .bool cl, .int .i64 (upL (sub bs 48 4) : Nat)] := by
    unfold blkV
    rw [hyi, hpc]
    rfl
  have he : ∀ h : 44 < (⟨bs.toArray⟩ : ByteArray).size, (⟨bs.toArray⟩ : ByteArray)[44].toNat = x := fun h => by
    rw [hx, List.getD_eq_getElem?_getD, List.getElem?_eq_getElem (by omega)]
    rfl
  have q1 : ∀ w', (Instr.slice 9 (.string ⟨bs.toArray⟩) (some (.int .i64 4)) (some (.int .i64 12)) none).run Try.prog w' = .ok (.string ⟨(sub bs 4 8).toArray⟩) w' := fun w' => str_slice bs 4 12 (by omega) (by omega) w'
  have q2 : ∀ w', (Instr.slice 9 (.string ⟨bs.toArray⟩) (some (.int .i64 12)) (some (.int .i64 20)) none).run Try.prog w' = .ok (.string ⟨(sub bs 12 8).toArray⟩) w' := fun w' => str_slice bs 12 20 (by omega) (by omega) w'
  have q3 : ∀ w', (Instr.slice 9 (.string ⟨bs.toArray⟩) (some (.int .i64 20)) (some (.int .i64 28)) none).run Try.prog w' = .ok (.string ⟨(sub bs 20 8).toArray⟩) w' := fun w' => str_slice bs 20 28 (by omega) (by omega) w'
  have q4 : ∀ w', (Instr.slice 9 (.string ⟨bs.toArray⟩) (some (.int .i64 28)) (some (.int .i64 36)) none).run Try.prog w' = .ok (.string ⟨(sub bs 28 8).toArray⟩) w' := fun w' => str_slice bs 28 36 (by omega) (by omega) w'
  have q5 : ∀ w', (Instr.slice 9 (.string ⟨bs.toArray⟩) (some (.int .i64 36)) (some (.int .i64 44)) none).run Try.prog w' = .ok (.string ⟨(sub bs 36 8).toArray⟩) w' := fun w' => str_slice bs 36 44 (by omega) (by omega) w'
  have q6 : ∀ w', (Instr.slice 9 (.string ⟨bs.toArray⟩) (some (.int .i64 48)) (some (.int .i64 52)) none).run Try.prog w' = .ok (.string ⟨(sub bs 48 4).toArray⟩) w' := fun w' => str_slice bs 48 52 (by omega) (by omega) w'
  have PV := Lib.hid hpv
  have F1 := Lib.hid f1
  have H1 := Lib.hid h1
  clear hy4 hyi hx hpc hpv h1 f1
  have up8 : Hid (∀ (a n : Nat), a + n ≤ bs.length → n ≤ 8 → ∀ w : World, Calls Try.prog 69 #[.string ⟨(sub bs a n).toArray⟩] w fun e w' => e = .returned (.int .u64 (upL (sub bs a n) : Nat)) ∧ w = w') := Lib.hid fun a n h1 h2 w => up_eq (by rw [sub_len h1]; exact h2)
  go_cut [4] (fun s4 W4 => ∃ B4, s4 = .pointer (some ⟨B4, 0, none⟩) ∧ Hid (W4.heap[B4]? = some (.cells (blkV (parse bs)) 37 (0, 0))) ∧ Hid (Fr Nob w1 W4))
  case first =>
    have e0 := cell_of_row w1 R 0 _ _ (0, 0) H1.out
    go_region_held3 (fun w' => w'.cell? ⟨R, 0, none⟩ = some (.int .u64 0))
      (first | go_keep | exact e0)
      ((go_at_call 69; (first | (with_reducible refine (up8.out 4 8 (by omega) (by omega) _).mono ?_) | (with_reducible refine (up8.out 12 8 (by omega) (by omega) _).mono ?_) | (with_reducible refine (up8.out 20 8 (by omega) (by omega) _).mono ?_) | (with_reducible refine (up8.out 28 8 (by omega) (by omega) _).mono ?_) | (with_reducible refine (up8.out 36 8 (by omega) (by omega) _).mono ?_) | (with_reducible refine (up8.out 48 4 (by omega) (by omega) _).mono ?_)); rintro e w' ⟨rfl, rfl⟩))
    all_goals
      go_wp2_with fail
      go_meet
      refine ⟨w1.heap.size, rfl, Lib.hid ?_, Lib.hid (by first | exact ((Fr.refl Nob w1).alloc _).drew | exact (Fr.refl Nob w1).alloc _)⟩
      rw [PV.out]
      exact heap_alloc_new w1 _
  case rest =>
    obtain ⟨B4, rfl, h4, f4⟩ := hcut
    have RH := Lib.hid (str_head bs 64 hn)
    have DT : Hid (enc (parse bs) = bs.take 64 → dec bs = some (parse bs)) := Lib.hid fun h => by
      unfold dec
      rw [if_pos ⟨hn, h⟩]
    have DF : Hid (¬ enc (parse bs) = bs.take 64 → dec bs = none) := Lib.hid fun h => by
      unfold dec
      rw [if_neg fun h2 => h h2.2]
    have ENC : Hid (∀ w : World, Calls Try.prog 29 #[.agg (blkV (parse bs))] w fun e w' => e = .returned (.string ⟨(enc (parse bs)).toArray⟩) ∧ Fr Nob w w') := Lib.hid fun w => refEnc_eq (parse bs)
    have VB : Hid (blkV (decB (some (parse bs))) = blkV (parse bs)) := Lib.hid rfl
    rw [PV.out] at ENC h4 VB
    clear q1 q2 q3 q4 q5 q6 he hwy hcl up8 PV
    generalize upL (sub bs 4 8) = n0 at *
    generalize upL (sub bs 12 8) = n1 at *
    generalize upL (sub bs 20 8) = n2 at *
    generalize upL (sub bs 28 8) = n3 at *
    generalize upL (sub bs 36 8) = n4 at *
    generalize upL (sub bs 48 4) = n6 at *
    have c0 := cell_of_row wc B4 0 _ _ (0, 0) h4.out
    have c1 := cell_of_row wc B4 1 _ _ (0, 0) h4.out
    have c2 := cell_of_row wc B4 2 _ _ (0, 0) h4.out
    have c3 := cell_of_row wc B4 3 _ _ (0, 0) h4.out
    have c4 := cell_of_row wc B4 4 _ _ (0, 0) h4.out
    have c5 := cell_of_row wc B4 5 _ _ (0, 0) h4.out
    have c6 := cell_of_row wc B4 6 _ _ (0, 0) h4.out
    have q7 : ∀ w', (Instr.slice 9 (.string ⟨bs.toArray⟩) none (some (.int .i64 64)) none).run Try.prog w' = .ok (.string ⟨(bs.take 64).toArray⟩) w' := RH.out
    have G1 := Lib.hid (f4.out.heap H1.out fun h => h)
    generalize bs.take 64 = b64 at *
    generalize enc (parse bs) = eb at *
    obtain ⟨r, hr⟩ : ∃ r, decide (eb = b64) = r := ⟨_, rfl⟩
    have HR1 := Lib.hid hr
    clear RH hr
    go_upto_region 4 with fail
    go_cut [36] (fun s W => s = .bool (!r) ∧ Hid (Fr Nob wc W))
    case first =>
      have F5 := Lib.hid (Fr.refl Nob wc)
      go_region_held3 (fun w' => w'.cell? ⟨B4, 0, none⟩ = some (.int .u64 (n0 : Int)) ∧ w'.cell? ⟨B4, 1, none⟩ = some (.int .u64 (n1 : Int)) ∧ w'.cell? ⟨B4, 2, none⟩ = some (.int .u64 (n2 : Int)) ∧ w'.cell? ⟨B4, 3, none⟩ = some (.int .u64 (n3 : Int)) ∧ w'.cell? ⟨B4, 4, none⟩ = some (.int .u64 (n4 : Int)) ∧ w'.cell? ⟨B4, 5, none⟩ = some (.bool cl) ∧ w'.cell? ⟨B4, 6, none⟩ = some (.int .i64 (n6 : Int)))
        (first | go_keep | exact ⟨c0, c1, c2, c3, c4, c5, c6⟩ | exact ⟨by assumption, by assumption, by assumption, by assumption, by assumption, by assumption, by assumption⟩)
        ((go_at_call 29; (with_reducible refine (ENC.out _).mono ?_); rintro e w6 ⟨rfl, f6⟩; have d0 : w6.cell? ⟨B4, 0, none⟩ = some (.int .u64 (n0 : Int)) := f6.cell (by assumption) (fun h => h); have d1 : w6.cell? ⟨B4, 1, none⟩ = some (.int .u64 (n1 : Int)) := f6.cell (by assumption) (fun h => h); have d2 : w6.cell? ⟨B4, 2, none⟩ = some (.int .u64 (n2 : Int)) := f6.cell (by assumption) (fun h => h); have d3 : w6.cell? ⟨B4, 3, none⟩ = some (.int .u64 (n3 : Int)) := f6.cell (by assumption) (fun h => h); have d4 : w6.cell? ⟨B4, 4, none⟩ = some (.int .u64 (n4 : Int)) := f6.cell (by assumption) (fun h => h); have d5 : w6.cell? ⟨B4, 5, none⟩ = some (.bool cl) := f6.cell (by assumption) (fun h => h); have d6 : w6.cell? ⟨B4, 6, none⟩ = some (.int .i64 (n6 : Int)) := f6.cell (by assumption) (fun h => h); have F5 : Hid (Fr Nob wc w6) := Lib.hid (by first | exact F5.out.trans' f6 | exact F5.out.drew.trans' f6); clear f6))
      go_wp2_with fail
      go_meet
      refine ⟨?_, F5⟩
      rw [show (eb == b64) = r from by rw [← HR1.out, Bool.eq_iff_iff]; simp]
    case rest =>
      obtain ⟨rfl, f8⟩ := hcut
      generalize wc = W8 at *
      have rv8 := f8.out.heap G1.out fun h => h
      have F8 := Lib.hid ((F1.out.trans' f4.out).trans' f8.out)
      have FR8 : Hid (∀ u0 u1 u2 u3 u4 u5 u6 : Value, Fr Nob w (((((((W8.setCell ⟨R, 0, none⟩ u0).setCell ⟨R, 1, none⟩ u1).setCell ⟨R, 2, none⟩ u2).setCell ⟨R, 3, none⟩ u3).setCell ⟨R, 4, none⟩ u4).setCell ⟨R, 5, none⟩ u5).setCell ⟨R, 6, none⟩ u6)) := Lib.hid fun u0 u1 u2 u3 u4 u5 u6 =>
        F8.out.trans (fr7 u0 u1 u2 u3 u4 u5 u6) fun k hk h => by
          have h : k = R := h
          have := HR.out
          omega
      have e0 := cell_of_row W8 R 0 _ _ (0, 0) rv8
      have e1 := cell_of_row W8 R 1 _ _ (0, 0) rv8
      have e2 := cell_of_row W8 R 2 _ _ (0, 0) rv8
      have e3 := cell_of_row W8 R 3 _ _ (0, 0) rv8
      have e4 := cell_of_row W8 R 4 _ _ (0, 0) rv8
      have e5 := cell_of_row W8 R 5 _ _ (0, 0) rv8
      have e6 := cell_of_row W8 R 6 _ _ (0, 0) rv8
      have z0 := frozen_of_row W8 R 0 _ _ rv8
      have z1 := frozen_of_row W8 R 1 _ _ rv8
      have z2 := frozen_of_row W8 R 2 _ _ rv8
      have z3 := frozen_of_row W8 R 3 _ _ rv8
      have z4 := frozen_of_row W8 R 4 _ _ rv8
      have z5 := frozen_of_row W8 R 5 _ _ rv8
      have z6 := frozen_of_row W8 R 6 _ _ rv8
      have g0 := f8.out.cell c0 fun h => h
      have g1 := f8.out.cell c1 fun h => h
      have g2 := f8.out.cell c2 fun h => h
      have g3 := f8.out.cell c3 fun h => h
      have g4 := f8.out.cell c4 fun h => h
      have g5 := f8.out.cell c5 fun h => h
      have g6 := f8.out.cell c6 fun h => h
      clear c0 c1 c2 c3 c4 c5 c6 q7 h4 f4 rv8 f8
      cases r with
      | true =>
        have ho : o = some (parse bs) := HO.out.symm.trans (DT.out (of_decide_eq_true HR1.out))
        subst ho
        go_wp2_with fail
        refine bodyPost_ret (v := .tuple #[.agg #[.int .u64 (n0 : Int), .int .u64 (n1 : Int), .int .u64 (n2 : Int), .int .u64 (n3 : Int), .int .u64 (n4 : Int), .bool cl, .int .i64 (n6 : Int)], .bool true]) (by simp [results, Try.results31, go_sem, e0, e1, e2, e3, e4, e5, e6]) rfl ⟨?_, ?_⟩
        · rw [VB.out]; rfl
        · exact FR8.out _ _ _ _ _ _ _
      | false =>
        have ho : o = none := HO.out.symm.trans (DF.out (of_decide_eq_false HR1.out))
        subst ho
        go_wp2_with fail
        refine bodyPost_ret (v := .tuple #[.agg #[.int .u64 0, .int .u64 0, .int .u64 0, .int .u64 0, .int .u64 0, .bool false, .int .i64 0], .bool false]) (by simp [results, Try.results31, go_sem, e0, e1, e2, e3, e4, e5, e6]) rfl ⟨rfl, ?_⟩
        exact FR8.out _ _ _ _ _ _ _

theorem refDec_eq {w : World} {bs : List UInt8} (hm : bs.length ≤ 1000000) (o : Option Blk) (ho : dec bs = o) :
    Calls Try.prog 31 #[.string ⟨bs.toArray⟩] w fun e w' => e = .returned (.tuple #[.agg (blkV (decB o)), .bool o.isSome]) ∧ Fr Nob w w' := by
  by_cases hn : 64 ≤ bs.length
  · exact refDec_long hn hm o ho
  · have h : o = none := ho.symm.trans (dec_short (by omega))
    subst h
    exact refDec_short (by omega)

end Go.Proofs.Ytpdljgjofebgpaa
