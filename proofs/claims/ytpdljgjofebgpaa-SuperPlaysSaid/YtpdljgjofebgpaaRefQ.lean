/-
  cellaretref4: Encode.
-/
import Derived.Test.YtpdljgjofebgpaaRefP
import Derived.Test.YtpdljgjofebgpaaSupD
import Derived.Deep.RegionHeld3
namespace Go.Proofs.Ytpdljgjofebgpaa
open Go.RowKit

theorem str_app (a b : List UInt8) : (⟨a.toArray⟩ : ByteArray) ++ ⟨b.toArray⟩ = ⟨(a ++ b).toArray⟩ := by
  apply ByteArray.ext
  simp
theorem le_clean (c : Bool) : le 4 (if c = true then 1 else 0) = [cleanB c] ++ [0, 0, 0] := by cases c <;> rfl

theorem low_eq8 {w : World} (v : Nat) : Calls Try.prog 67 #[.int .u64 v, .int .i64 8] w fun e w' => e = .returned (.string ⟨(le 8 v).toArray⟩) ∧ Fr Nob w w' := low_eq v 8 (by omega)
theorem low_eq4 {w : World} (v : Nat) : Calls Try.prog 67 #[.int .u64 v, .int .i64 4] w fun e w' => e = .returned (.string ⟨(le 4 v).toArray⟩) ∧ Fr Nob w w' := low_eq v 4 (by omega)

theorem low4 {w : World} {x : Int} (v : Nat) (h : x = (v : Int)) : Calls Try.prog 67 #[.int .u64 x, .int .i64 4] w fun e w' => e = .returned (.string ⟨(le 4 v).toArray⟩) ∧ Fr Nob w w' := by
  subst h
  exact low_eq4 v
theorem low8 {w : World} {x : Int} (v : Nat) (h : x = (v : Int)) : Calls Try.prog 67 #[.int .u64 x, .int .i64 8] w fun e w' => e = .returned (.string ⟨(le 8 v).toArray⟩) ∧ Fr Nob w w' := by
  subst h
  exact low_eq8 v

set_option maxRecDepth 100000 in
set_option maxHeartbeats 4000000 in
theorem refEnc_eq {w : World} (b : Blk) :
    Calls Try.prog 29 #[.agg (blkV b)] w fun e w' => e = .returned (.string ⟨(enc b).toArray⟩) ∧ Fr Nob w w' := by
  obtain ⟨s0, s1, s2, s3, s4, cl, im, rfl⟩ := blk_cases b
  have h1 := heap_alloc_new w (.cells (blkV ⟨s0, s1, s2, s3, s4, cl, im⟩) 37)
  have f1 : Fr Nob w (w.alloc (.cells (blkV ⟨s0, s1, s2, s3, s4, cl, im⟩) 37)) := (Fr.refl Nob w).alloc _
  have him := img_lt ⟨s0, s1, s2, s3, s4, cl, im⟩
  rw [blkV_mk] at *
  obtain ⟨B, hB⟩ : ∃ B, B = w.heap.size := ⟨_, rfl⟩
  rw [← hB] at h1
  go_enter Try.func29, Try.ntmps29
  go_upto_region 1 with fail
  rw [← hB]
  clear hB
  generalize w.alloc (.cells #[.int .u64 (s0 : Int), .int .u64 (s1 : Int), .int .u64 (s2 : Int), .int .u64 (s3 : Int), .int .u64 (s4 : Int), .bool cl, .int .i64 im] 37) = w1 at *
  have l0 := le_len 8 s0
  have l1 := le_len 8 s1
  have l2 := le_len 8 s2
  have l3 := le_len 8 s3
  have l4 := le_len 8 s4
  go_cut [3] (fun s W => s = .string ⟨(magicB ++ numsB [s0, s1, s2, s3, s4]).toArray⟩ ∧ Hid (Fr Nob w1 W))
  case first =>
    have c0 : w1.cell? ⟨B, 0, none⟩ = some (.int .u64 (s0 : Int)) := cell_of_row _ B 0 _ _ (0, 0) h1
    have c1 : w1.cell? ⟨B, 1, none⟩ = some (.int .u64 (s1 : Int)) := cell_of_row _ B 1 _ _ (0, 0) h1
    have c2 : w1.cell? ⟨B, 2, none⟩ = some (.int .u64 (s2 : Int)) := cell_of_row _ B 2 _ _ (0, 0) h1
    have c3 : w1.cell? ⟨B, 3, none⟩ = some (.int .u64 (s3 : Int)) := cell_of_row _ B 3 _ _ (0, 0) h1
    have c4 : w1.cell? ⟨B, 4, none⟩ = some (.int .u64 (s4 : Int)) := cell_of_row _ B 4 _ _ (0, 0) h1
    have F1 := Lib.hid (Fr.refl Nob w1)
    clear f1 h1 him
    go_wp2_with fail
    go_region_held3 (fun w' => w'.cell? ⟨B, 0, none⟩ = some (.int .u64 (s0 : Int)) ∧ w'.cell? ⟨B, 1, none⟩ = some (.int .u64 (s1 : Int)) ∧ w'.cell? ⟨B, 2, none⟩ = some (.int .u64 (s2 : Int)) ∧ w'.cell? ⟨B, 3, none⟩ = some (.int .u64 (s3 : Int)) ∧ w'.cell? ⟨B, 4, none⟩ = some (.int .u64 (s4 : Int)))
      (first | go_keep | exact ⟨by assumption, by assumption, by assumption, by assumption, by assumption⟩)
      (first
      | (go_at_call 67; refine (low_eq8 _).mono ?_; rintro e w3 ⟨rfl, f3⟩; have d0 : w3.cell? ⟨B, 0, none⟩ = some (.int .u64 (s0 : Int)) := f3.cell (by assumption) (fun h => h); have d1 : w3.cell? ⟨B, 1, none⟩ = some (.int .u64 (s1 : Int)) := f3.cell (by assumption) (fun h => h); have d2 : w3.cell? ⟨B, 2, none⟩ = some (.int .u64 (s2 : Int)) := f3.cell (by assumption) (fun h => h); have d3 : w3.cell? ⟨B, 3, none⟩ = some (.int .u64 (s3 : Int)) := f3.cell (by assumption) (fun h => h); have d4 : w3.cell? ⟨B, 4, none⟩ = some (.int .u64 (s4 : Int)) := f3.cell (by assumption) (fun h => h); have F1 : Hid (Fr Nob w1 w3) := Lib.hid (by first | exact F1.out.trans' f3 | exact F1.out.drew.trans' f3); clear f3))
    go_wp2_with fail
    go_meet
    refine ⟨?_, F1⟩
    have e : (({ data := #[83, 85, 80, 69] } ++ { data := (le 8 s0).toArray } ++ { data := (le 8 s1).toArray } ++ { data := (le 8 s2).toArray } ++ { data := (le 8 s3).toArray } ++ { data := (le 8 s4).toArray } : ByteArray)) = ⟨(magicB ++ numsB [s0, s1, s2, s3, s4]).toArray⟩ := by
      rw [show ({ data := #[83, 85, 80, 69] } : ByteArray) = ⟨magicB.toArray⟩ from rfl, str_app, str_app, str_app, str_app, str_app]
      unfold numsB
      simp only [List.flatMap_cons, List.flatMap_nil, List.append_nil, List.append_assoc]
    rw [e]
  case rest =>
    obtain ⟨rfl, F2⟩ := hcut
    have c5 := cell_of_row _ B 5 _ _ (0, 0) (F2.out.heap h1 fun h => h)
    have c6 := cell_of_row _ B 6 _ _ (0, 0) (F2.out.heap h1 fun h => h)
    have lh : (magicB ++ numsB [s0, s1, s2, s3, s4]).length = 44 := by
      rw [List.length_append, numsB_len]
      rfl
    obtain ⟨H, hH⟩ : ∃ H, H = magicB ++ numsB [s0, s1, s2, s3, s4] := ⟨_, rfl⟩
    obtain ⟨i, hi⟩ : ∃ i, i = Blk.img ⟨s0, s1, s2, s3, s4, cl, im⟩ := ⟨_, rfl⟩
    obtain ⟨t, ht⟩ : ∃ t, t = encHead ⟨s0, s1, s2, s3, s4, cl, im⟩ := ⟨_, rfl⟩
    have he : ({ data := H.toArray } ++ { data := (le 4 (if cl = true then 1 else 0)).toArray } ++ { data := (le 4 i).toArray } ++ { data := (le 8 0).toArray } : ByteArray) = ⟨t.toArray⟩ := by
      rw [str_app, str_app, str_app, ht, hi, hH, le_clean, le_zero]
      unfold encHead Blk.nums
      simp only [List.append_assoc]
    have lt : t.length = 60 := by rw [ht, encHead_len]
    have l8 := le_len 8 0
    have l4i := le_len 4 i
    have lc : (le 4 (crcL t)).length = 4 := le_len _ _
    have hfin : ({ data := t.toArray } ++ { data := (le 4 (crcL t)).toArray } : ByteArray) = ⟨(enc ⟨s0, s1, s2, s3, s4, cl, im⟩).toArray⟩ := by
      rw [str_app, ht]
      rfl
    rw [← hH] at lh
    rw [← hH]
    have HI := Lib.hid hi
    have HE := Lib.hid he
    have HF := Lib.hid hfin
    have F0 := Lib.hid f1
    clear l0 l1 l2 l3 l4 hH hi ht he hfin him h1 f1
    cases hcl : cl
    · subst hcl
      simp only [Bool.false_eq_true, if_false] at HE
      have l4c := le_len 4 0
      by_cases hr : 0 ≤ im ∧ im ≤ 2147483647
      · have e : im = (i : Int) := by
          rw [HI.out]
          unfold Blk.img
          rw [if_pos hr]
          exact (Int.toNat_of_nonneg hr.1).symm
        have g1 := hr.1
        have g2 := hr.2
        clear hr
        subst e
        go_wp2_with fail
        refine (low4 0 rfl).mono ?_
        rintro e w4 ⟨rfl, f4⟩
        have F4 := Lib.hid (F2.out.trans' f4)
        clear f4
        go_wp2_with fail
        refine (low4 i rfl).mono ?_
        rintro e w5 ⟨rfl, f5⟩
        replace F4 := Lib.hid (F4.out.trans' f5)
        clear f5
        go_wp2_with fail
        refine (low8 0 rfl).mono ?_
        rintro e w6 ⟨rfl, f6⟩
        replace F4 := Lib.hid (F4.out.trans' f6)
        clear f6
        go_wp2_with fail
        rw [HE.out]
        refine (textCrc_eq (by omega)).mono ?_
        rintro e w7 ⟨rfl, f7⟩
        replace F4 := Lib.hid (F4.out.trans' f7)
        clear f7
        go_wp2_with fail
        refine (low4 (crcL t) rfl).mono ?_
        rintro e w8 ⟨rfl, f8⟩
        replace F4 := Lib.hid (F4.out.trans' f8)
        clear f8
        go_wp2_with fail
        go_ret
        refine ⟨?_, F0.out.trans' F4.out⟩
        rw [← HF.out]
        rfl
      · have e : i = 0 := by
          rw [HI.out]
          unfold Blk.img
          rw [if_neg hr]
        subst e
        rcases (by omega : im < 0 ∨ 2147483647 < im) with g | g
        · clear hr
          go_wp2_with fail
          refine (low4 0 rfl).mono ?_
          rintro e w4 ⟨rfl, f4⟩
          have F4 := Lib.hid (F2.out.trans' f4)
          clear f4
          go_wp2_with fail
          refine (low4 0 rfl).mono ?_
          rintro e w5 ⟨rfl, f5⟩
          replace F4 := Lib.hid (F4.out.trans' f5)
          clear f5
          go_wp2_with fail
          refine (low8 0 rfl).mono ?_
          rintro e w6 ⟨rfl, f6⟩
          replace F4 := Lib.hid (F4.out.trans' f6)
          clear f6
          go_wp2_with fail
          rw [HE.out]
          refine (textCrc_eq (by omega)).mono ?_
          rintro e w7 ⟨rfl, f7⟩
          replace F4 := Lib.hid (F4.out.trans' f7)
          clear f7
          go_wp2_with fail
          refine (low4 (crcL t) rfl).mono ?_
          rintro e w8 ⟨rfl, f8⟩
          replace F4 := Lib.hid (F4.out.trans' f8)
          clear f8
          go_wp2_with fail
          go_ret
          refine ⟨?_, F0.out.trans' F4.out⟩
          rw [← HF.out]
          rfl
        · have g0 : 0 ≤ im := by omega
          clear hr
          go_wp2_with fail
          refine (low4 0 rfl).mono ?_
          rintro e w4 ⟨rfl, f4⟩
          have F4 := Lib.hid (F2.out.trans' f4)
          clear f4
          go_wp2_with fail
          refine (low4 0 rfl).mono ?_
          rintro e w5 ⟨rfl, f5⟩
          replace F4 := Lib.hid (F4.out.trans' f5)
          clear f5
          go_wp2_with fail
          refine (low8 0 rfl).mono ?_
          rintro e w6 ⟨rfl, f6⟩
          replace F4 := Lib.hid (F4.out.trans' f6)
          clear f6
          go_wp2_with fail
          rw [HE.out]
          refine (textCrc_eq (by omega)).mono ?_
          rintro e w7 ⟨rfl, f7⟩
          replace F4 := Lib.hid (F4.out.trans' f7)
          clear f7
          go_wp2_with fail
          refine (low4 (crcL t) rfl).mono ?_
          rintro e w8 ⟨rfl, f8⟩
          replace F4 := Lib.hid (F4.out.trans' f8)
          clear f8
          go_wp2_with fail
          go_ret
          refine ⟨?_, F0.out.trans' F4.out⟩
          rw [← HF.out]
          rfl
    · subst hcl
      simp only [if_true] at HE
      have l4c := le_len 4 1
      by_cases hr : 0 ≤ im ∧ im ≤ 2147483647
      · have e : im = (i : Int) := by
          rw [HI.out]
          unfold Blk.img
          rw [if_pos hr]
          exact (Int.toNat_of_nonneg hr.1).symm
        have g1 := hr.1
        have g2 := hr.2
        clear hr
        subst e
        go_wp2_with fail
        refine (low4 1 rfl).mono ?_
        rintro e w4 ⟨rfl, f4⟩
        have F4 := Lib.hid (F2.out.trans' f4)
        clear f4
        go_wp2_with fail
        refine (low4 i rfl).mono ?_
        rintro e w5 ⟨rfl, f5⟩
        replace F4 := Lib.hid (F4.out.trans' f5)
        clear f5
        go_wp2_with fail
        refine (low8 0 rfl).mono ?_
        rintro e w6 ⟨rfl, f6⟩
        replace F4 := Lib.hid (F4.out.trans' f6)
        clear f6
        go_wp2_with fail
        rw [HE.out]
        refine (textCrc_eq (by omega)).mono ?_
        rintro e w7 ⟨rfl, f7⟩
        replace F4 := Lib.hid (F4.out.trans' f7)
        clear f7
        go_wp2_with fail
        refine (low4 (crcL t) rfl).mono ?_
        rintro e w8 ⟨rfl, f8⟩
        replace F4 := Lib.hid (F4.out.trans' f8)
        clear f8
        go_wp2_with fail
        go_ret
        refine ⟨?_, F0.out.trans' F4.out⟩
        rw [← HF.out]
        rfl
      · have e : i = 0 := by
          rw [HI.out]
          unfold Blk.img
          rw [if_neg hr]
        subst e
        rcases (by omega : im < 0 ∨ 2147483647 < im) with g | g
        · clear hr
          go_wp2_with fail
          refine (low4 1 rfl).mono ?_
          rintro e w4 ⟨rfl, f4⟩
          have F4 := Lib.hid (F2.out.trans' f4)
          clear f4
          go_wp2_with fail
          refine (low4 0 rfl).mono ?_
          rintro e w5 ⟨rfl, f5⟩
          replace F4 := Lib.hid (F4.out.trans' f5)
          clear f5
          go_wp2_with fail
          refine (low8 0 rfl).mono ?_
          rintro e w6 ⟨rfl, f6⟩
          replace F4 := Lib.hid (F4.out.trans' f6)
          clear f6
          go_wp2_with fail
          rw [HE.out]
          refine (textCrc_eq (by omega)).mono ?_
          rintro e w7 ⟨rfl, f7⟩
          replace F4 := Lib.hid (F4.out.trans' f7)
          clear f7
          go_wp2_with fail
          refine (low4 (crcL t) rfl).mono ?_
          rintro e w8 ⟨rfl, f8⟩
          replace F4 := Lib.hid (F4.out.trans' f8)
          clear f8
          go_wp2_with fail
          go_ret
          refine ⟨?_, F0.out.trans' F4.out⟩
          rw [← HF.out]
          rfl
        · have g0 : 0 ≤ im := by omega
          clear hr
          go_wp2_with fail
          refine (low4 1 rfl).mono ?_
          rintro e w4 ⟨rfl, f4⟩
          have F4 := Lib.hid (F2.out.trans' f4)
          clear f4
          go_wp2_with fail
          refine (low4 0 rfl).mono ?_
          rintro e w5 ⟨rfl, f5⟩
          replace F4 := Lib.hid (F4.out.trans' f5)
          clear f5
          go_wp2_with fail
          refine (low8 0 rfl).mono ?_
          rintro e w6 ⟨rfl, f6⟩
          replace F4 := Lib.hid (F4.out.trans' f6)
          clear f6
          go_wp2_with fail
          rw [HE.out]
          refine (textCrc_eq (by omega)).mono ?_
          rintro e w7 ⟨rfl, f7⟩
          replace F4 := Lib.hid (F4.out.trans' f7)
          clear f7
          go_wp2_with fail
          refine (low4 (crcL t) rfl).mono ?_
          rintro e w8 ⟨rfl, f8⟩
          replace F4 := Lib.hid (F4.out.trans' f8)
          clear f8
          go_wp2_with fail
          go_ret
          refine ⟨?_, F0.out.trans' F4.out⟩
          rw [← HF.out]
          rfl

end Go.Proofs.Ytpdljgjofebgpaa
