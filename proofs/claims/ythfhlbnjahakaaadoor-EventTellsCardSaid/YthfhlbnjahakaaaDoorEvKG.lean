/-
  event: verbs; Good of a store.
-/
import Derived.Test.YthfhlbnjahakaaaDoorEvKF
import Derived.Deep.RegionWith
import Derived.Deep.DeepCutAuto
namespace Go.Proofs.YthfhlbnjahakaaaDoor
open Go.RowKit

def verbsL : List ByteArray := [⟨#[115, 101, 116]⟩, ⟨#[97, 100, 100]⟩, ⟨#[114, 101, 112, 108, 97, 99, 101]⟩, ⟨#[97, 112, 112, 101, 110, 100]⟩, ⟨#[112, 114, 101, 112, 101, 110, 100]⟩, ⟨#[99, 97, 115]⟩]
set_option maxHeartbeats 4000000 in
set_option maxRecDepth 100000 in
theorem verbs_eq {w : World} : Calls Tryd.prog 22 #[] w fun e w' => ∃ g, e = .returned (.slice (some ⟨g, 0, none⟩) 6 6) ∧ Hid (RdS w' (.slice (some ⟨g, 0, none⟩) 6 6) verbsL) ∧ Hid (Fr Nob w w') := by
  have hb : Fr Nob w (w.alloc (.cells #[.string ⟨#[115, 101, 116]⟩, .string ⟨#[97, 100, 100]⟩, .string ⟨#[114, 101, 112, 108, 97, 99, 101]⟩, .string ⟨#[97, 112, 112, 101, 110, 100]⟩, .string ⟨#[112, 114, 101, 112, 101, 110, 100]⟩, .string ⟨#[99, 97, 115]⟩] 9)) := frB _
  have hr : RdS (w.alloc (.cells #[.string ⟨#[115, 101, 116]⟩, .string ⟨#[97, 100, 100]⟩, .string ⟨#[114, 101, 112, 108, 97, 99, 101]⟩, .string ⟨#[97, 112, 112, 101, 110, 100]⟩, .string ⟨#[112, 114, 101, 112, 101, 110, 100]⟩, .string ⟨#[99, 97, 115]⟩] 9)) (.slice (some ⟨w.heap.size, 0, none⟩) 6 6) verbsL := by
    refine ⟨_, 6, rfl, Nat.le_refl _, fun _ => ⟨w.heap.size, 0, rfl, fun j x hx => ?_⟩⟩
    have hh := heap_alloc_new w (.cells #[.string ⟨#[115, 101, 116]⟩, .string ⟨#[97, 100, 100]⟩, .string ⟨#[114, 101, 112, 108, 97, 99, 101]⟩, .string ⟨#[97, 112, 112, 101, 110, 100]⟩, .string ⟨#[112, 114, 101, 112, 101, 110, 100]⟩, .string ⟨#[99, 97, 115]⟩] 9)
    match j, hx with
    | 0, hx => cases hx; exact cell_of_row _ _ 0 _ _ (0, 0) hh
    | 1, hx => cases hx; exact cell_of_row _ _ 1 _ _ (0, 0) hh
    | 2, hx => cases hx; exact cell_of_row _ _ 2 _ _ (0, 0) hh
    | 3, hx => cases hx; exact cell_of_row _ _ 3 _ _ (0, 0) hh
    | 4, hx => cases hx; exact cell_of_row _ _ 4 _ _ (0, 0) hh
    | 5, hx => cases hx; exact cell_of_row _ _ 5 _ _ (0, 0) hh
    | j + 6, hx => simp [verbsL] at hx
  have HB := Lib.hid hb
  have HR := Lib.hid hr
  clear hb hr
  go_enter Tryd.func22, Tryd.ntmps22
  go_wp2_with fail
  go_ret
  exact ⟨_, rfl, HR, HB⟩

set_option maxHeartbeats 8000000 in
set_option maxRecDepth 100000 in
theorem good_store {w : World} (b d : ByteArray) (v : Value) (n1 n2 n3 n4 : Int) (b1 b2 b3 b4 : Bool) {l : List ByteArray} (k : ByteArray) (h : RdS w v l) (hk : k = keyOf l) (hs : k.size ≤ 9223372036854775807) (hd : d.size ≤ 9223372036854775807) (hU : U8 w) : Calls Tryd.prog 10 #[.agg #[.string ⟨#[115, 116, 111, 114, 101]⟩, .string b, v, .string d, .int .u32 n1, .int .i64 n2, .int .u64 n3, .int .u64 n4, .bool b1, .bool b2, .bool b3, .bool b4]] w fun e w' => e = .returned (.bool (memB b verbsL && decide (d.size ≤ 1024) && keyB k)) ∧ Fr Nob w w' := by
  have hb1 : Fr Nob w (w.alloc (.cells #[.string ⟨#[115, 116, 111, 114, 101]⟩, .string b, v, .string d, .int .u32 n1, .int .i64 n2, .int .u64 n3, .int .u64 n4, .bool b1, .bool b2, .bool b3, .bool b4] 28)) := frB _
  obtain ⟨B, hB⟩ : ∃ B, B = w.heap.size := ⟨_, rfl⟩
  obtain ⟨w1, hw1⟩ : ∃ w1, w1 = w.alloc (.cells #[.string ⟨#[115, 116, 111, 114, 101]⟩, .string b, v, .string d, .int .u32 n1, .int .i64 n2, .int .u64 n3, .int .u64 n4, .bool b1, .bool b2, .bool b3, .bool b4] 28) := ⟨_, rfl⟩
  have f1 : Fr Nob w w1 := by rw [hw1]; exact hb1
  have h1 : w1.heap[B]? = some (.cells #[.string ⟨#[115, 116, 111, 114, 101]⟩, .string b, v, .string d, .int .u32 n1, .int .i64 n2, .int .u64 n3, .int .u64 n4, .bool b1, .bool b2, .bool b3, .bool b4] 28 (0, 0)) := by rw [hw1, hB]; exact heap_alloc_new w _
  have OF := Lib.hid (of_store (w := w1) b d v n1 n2 n3 n4 b1 b2 b3 b4 k (h.nob f1) hk)
  have F0 := Lib.hid f1
  have H1 := Lib.hid h1
  have HW := Lib.hid hw1.symm
  have HB := Lib.hid hB.symm
  clear hb1 f1 hw1 h1 hB
  have HU := Lib.hid hU
  have HS := Lib.hid hs
  have HH := Lib.hid h
  have HK := Lib.hid hk
  clear hU hs h hk
  have AGet := taGet
  have AStore := taStore
  have AArith := taArith
  have ATouch := taTouch
  have ADelete := taDelete
  have AFlush := taFlush
  have ABad := taBad
  have AWord := taWord
  go_enter Tryd.func10, Tryd.ntmps10
  go_wp2_with fail
  rw [HW.out, HB.out]
  refine OF.out.mono ?_
  rintro e w2 ⟨rfl, f2⟩
  have F1 : Fr Nob w w2 := F0.out.trans' f2
  have h2 := f2.heap H1.out fun h => h
  have F1 := Lib.hid F1
  have H2 := Lib.hid h2
  clear h2
  obtain ⟨wx, hwx⟩ : ∃ wx, wx = ((w2.alloc (.cells #[.string ⟨#[]⟩] 53)).alloc (.cells #[.bool false] 57)).alloc (.cells #[.string b, .string k, .string d, .int .u32 n1, .int .i64 n2, .int .u64 n3, .bool b4] 47) := ⟨_, rfl⟩
  obtain ⟨S, hS⟩ : ∃ S, S = w2.heap.size + 1 + 1 := ⟨_, rfl⟩
  have fx : Fr Nob w2 wx := by rw [hwx]; exact (((Fr.refl Nob w2).alloc _).alloc _).alloc _
  have hx := fx.heap H2.out fun h => h
  have h8 : wx.heap[S]? = some (.cells #[.string b, .string k, .string d, .int .u32 n1, .int .i64 n2, .int .u64 n3, .bool b4] 47 (0, 0)) := by rw [hwx, hS]; exact heap_alloc_at _ _ _ (by simp)
  have FX := Lib.hid (F1.out.trans' fx)
  have HX := Lib.hid hx
  have HWX := Lib.hid hwx.symm
  have HSS := Lib.hid hS.symm
  have c0 := cell_of_row wx S 0 _ _ (0, 0) h8
  have c2 := cell_of_row wx S 2 _ _ (0, 0) h8
  clear hwx fx hx F1 H2 h8 hS
  go_wp2_with fail
  rw [HWX.out, HSS.out]
  obtain ⟨Z, hZ⟩ : ∃ Z, (memB b verbsL && decide (d.size ≤ 1024)) = Z := ⟨_, rfl⟩
  have HZ := Lib.hid hZ
  clear hZ
  go_cut [52] (fun t W => t = .bool (!Z) ∧ Hid (Fr Nob w W) ∧ Hid (W.heap[B]? = some (.cells #[.string ⟨#[115, 116, 111, 114, 101]⟩, .string b, v, .string d, .int .u32 n1, .int .i64 n2, .int .u64 n3, .int .u64 n4, .bool b1, .bool b2, .bool b3, .bool b4] 28 (0, 0))))
  case first =>
    have cc := fun (W : World) (v : Value) (h : RdS W v verbsL) => contains_eq b h (by decide)
    by_cases m : memB b verbsL = true
    · rw [m] at cc
      by_cases z : d.size ≤ 1024
      · have z1 : decide ((1024 : Int) < (d.size : Int)) = false := decide_eq_false (by omega)
        have hz : Z = true := by have := HZ.out; rw [m, decide_eq_true z] at this; exact this.symm
        subst hz
        clear z m
        go_region_with (first
          | (go_at_call 22; refine verbs_eq.mono ?_; rintro e w3 ⟨g, rfl, r3, f3⟩; have F3 := Lib.hid (FX.out.trans' f3.out.undrew); have H3 := Lib.hid (f3.out.undrew.heap HX.out fun h => h); replace c0 := f3.out.undrew.cell c0 (fun h => h); replace c2 := f3.out.undrew.cell c2 (fun h => h); clear f3)
          | (go_at_call 21; refine (cc _ _ r3.out).mono ?_; rintro e w4 ⟨rfl, rfl⟩))
        all_goals
          go_wp2_with fail
          go_meet
          exact ⟨rfl, F3, H3⟩
      · have z1 : decide ((1024 : Int) < (d.size : Int)) = true := decide_eq_true (by omega)
        have hz : Z = false := by have := HZ.out; rw [m, decide_eq_false z] at this; exact this.symm
        subst hz
        clear z m
        go_region_with (first
          | (go_at_call 22; refine verbs_eq.mono ?_; rintro e w3 ⟨g, rfl, r3, f3⟩; have F3 := Lib.hid (FX.out.trans' f3.out.undrew); have H3 := Lib.hid (f3.out.undrew.heap HX.out fun h => h); replace c0 := f3.out.undrew.cell c0 (fun h => h); replace c2 := f3.out.undrew.cell c2 (fun h => h); clear f3)
          | (go_at_call 21; refine (cc _ _ r3.out).mono ?_; rintro e w4 ⟨rfl, rfl⟩))
        all_goals
          go_wp2_with fail
          go_meet
          exact ⟨rfl, F3, H3⟩
    · have m := Bool.eq_false_iff.2 m
      rw [m] at cc
      have hz : Z = false := by have := HZ.out; rw [m, Bool.false_and] at this; exact this.symm
      subst hz
      clear m
      first | (go_region_with (first
        | (go_at_call 22; refine verbs_eq.mono ?_; rintro e w3 ⟨g, rfl, r3, f3⟩; have F3 := Lib.hid (FX.out.trans' f3.out.undrew); have H3 := Lib.hid (f3.out.undrew.heap HX.out fun h => h); replace c0 := f3.out.undrew.cell c0 (fun h => h); replace c2 := f3.out.undrew.cell c2 (fun h => h); clear f3)
        | (go_at_call 21; refine (cc _ _ r3.out).mono ?_; rintro e w4 ⟨rfl, rfl⟩))) | fail
      all_goals
        go_wp2_with fail
        go_meet
        exact ⟨rfl, F3, H3⟩
  case rest =>
    obtain ⟨rfl, F3, H3⟩ := hcut
    clear c0 c2 FX HX HWX HSS
    cases Z
    · have HE : Hid (false = (memB b verbsL && decide (d.size ≤ 1024) && keyB k)) := Lib.hid (by rw [HZ.out]; rfl)
      clear HZ
      go_wp2_with fail
      go_ret
      exact ⟨congrArg (fun b => Ending.returned (.bool b)) HE.out, (by have F7 := F3.out; repeat first | exact F7 | refine Fr.alloc ?_ _)⟩
    · have HE : Hid ((!badKey [k]) = (memB b verbsL && decide (d.size ≤ 1024) && keyB k)) := Lib.hid (by rw [HZ.out, Bool.true_and]; unfold badKey; rw [List.any_cons, List.any_nil, Bool.or_false, Bool.not_not])
      clear HZ
      have q0 := cell_of_row _ B 0 _ _ (0, 0) H3.out
      have q1 := cell_of_row _ B 1 _ _ (0, 0) H3.out
      have q2 := cell_of_row _ B 2 _ _ (0, 0) H3.out
      have q3 := cell_of_row _ B 3 _ _ (0, 0) H3.out
      have q4 := cell_of_row _ B 4 _ _ (0, 0) H3.out
      have q5 := cell_of_row _ B 5 _ _ (0, 0) H3.out
      have q6 := cell_of_row _ B 6 _ _ (0, 0) H3.out
      have q7 := cell_of_row _ B 7 _ _ (0, 0) H3.out
      have q8 := cell_of_row _ B 8 _ _ (0, 0) H3.out
      have q9 := cell_of_row _ B 9 _ _ (0, 0) H3.out
      have q10 := cell_of_row _ B 10 _ _ (0, 0) H3.out
      have q11 := cell_of_row _ B 11 _ _ (0, 0) H3.out
      go_wp2_with fail
      refine (keysF_store b d v n1 n2 n3 n4 b1 b2 b3 b4 k (HH.out.nob F3.out) HK.out).mono ?_
      rintro e w6 ⟨g6, rfl, o6, f6, _⟩
      have R6 := rds_one o6.out
      have F6 : Fr Nob w w6 := F3.out.trans' f6.out
      have cF := containsF_eq R6 (by simp) (by intro x hx; rw [List.mem_singleton.1 hx]; exact HS.out) (HU.out.fr F6)
      have F6 := Lib.hid F6
      clear R6 o6 f6
      have hlen : ([k] : List ByteArray).length = 1 := rfl
      go_wp2_with (go_at_call 25; refine cF.mono ?_; rintro e W' ⟨rfl, hbc⟩)
      go_ret
      exact ⟨congrArg (fun b => Ending.returned (.bool b)) HE.out, (by have F7 := F6.out.trans' hbc.out; repeat first | exact F7 | refine Fr.alloc ?_ _)⟩
end Go.Proofs.YthfhlbnjahakaaaDoor
