/-
  super: Decode.
-/
import Derived.Test.YtpdljgjofebgpaaSupB
import Derived.Deep.RegionHeld3
import Derived.Deep.DeepCutAuto
namespace Go.Proofs.Ytpdljgjofebgpaa
open Go.RowKit

def decE : Option Blk → Int
  | some _ => 0
  | none => 3
def decB (o : Option Blk) : Blk := o.getD Blk.zero

theorem decode_short {w : World} {v : Value} {bs : List UInt8} (h : RdB w v bs) (hn : bs.length < 64) :
    Calls Try.prog 27 #[v] w fun e w' => e = .returned (.tuple #[.agg (blkV Blk.zero), .int .i64 3]) ∧ Fr Nob w w' := by
  obtain ⟨a, cap, rfl, _⟩ := h
  have hlt : (bs.length : Int) < 64 := by omega
  go_enter Try.func27, Try.ntmps27
  go_wp2_with fail
  exact bodyPost_ret (v := .tuple #[.agg (blkV Blk.zero), .int .i64 3]) (by simp [results, Try.results27, go_sem, blkV, Blk.zero]) rfl ⟨rfl, (Fr.refl Nob w).alloc _⟩

theorem RdB.of_block' {w : World} {g n cap : Nat} {l : List UInt8} {t : TypeId} {fr : Nat × Nat} (h : w.heap[g]? = some (.cells (bytesV l).toArray t fr)) (hn : l.length = n) : RdB w (.slice (some ⟨g, 0, none⟩) n cap) l := by
  subst hn
  exact RdB.of_block h

theorem slice48 (w : World) (g o n cap : Nat) (h : 52 ≤ cap) : (Instr.slice 34 (.slice (some ⟨g, o, none⟩) n cap) (some (.int .i64 48)) (some (.int .i64 52)) none).run Try.prog w = .ok (.slice (some ⟨g, o + 48, none⟩) 4 (cap - 48)) w := by
  have ht' : Try.prog.underlying 34 = some (.slice (Try.prog.elem 34)) := by simp [Program.elem, Try.underlying34]
  have he : Try.prog.elem 34 = 5 := by simp [Program.elem, Try.underlying34]
  rw [run_slice_lh w 34 _ _ _ ht' .i64 .i64 _ _ (by omega) (by omega) (by omega), he, Try.sizeOf5]
  have hne : ¬ cap = 48 := by omega
  simp [Result.andThen, sliced, Addr.add, hne]

/-- Five numbers in a row. -/
def arrV (f : Nat → Nat) : Array Value := #[.int .u64 (f 0 : Nat), .int .u64 (f 1 : Nat), .int .u64 (f 2 : Nat), .int .u64 (f 3 : Nat), .int .u64 (f 4 : Nat)]
theorem arrV_at (f : Nat → Nat) {k : Nat} (h : k < 5) : (arrV f)[k]? = some (.int .u64 (f k : Nat)) := by
  match k, h with
  | 0, _ => rfl
  | 1, _ => rfl
  | 2, _ => rfl
  | 3, _ => rfl
  | 4, _ => rfl
  | k + 5, h => omega
theorem arrV_set (f : Nat → Nat) {k : Nat} (h : k < 5) (x : Nat) : (arrV f).setIfInBounds k (.int .u64 (x : Int)) = arrV (fun j => if j = k then x else f j) := by
  match k, h with
  | 0, _ => rfl
  | 1, _ => rfl
  | 2, _ => rfl
  | 3, _ => rfl
  | 4, _ => rfl
  | k + 5, h => omega

set_option maxRecDepth 100000 in
set_option maxHeartbeats 2000000 in
theorem decode_long {w : World} {gp op cap : Nat} {bs : List UInt8} (h : ∀ j, j < bs.length → w.cell? ⟨gp, op + j, none⟩ = some (.int .u8 ((bs.getD j 0).toNat : Int))) (hc : bs.length ≤ cap) (hn : 64 ≤ bs.length) (hcm : cap ≤ 9223372036854775807) (o : Option Blk) (ho : dec bs = o) :
    Calls Try.prog 27 #[.slice (some ⟨gp, op, none⟩) bs.length cap] w fun e w' => e = .returned (.tuple #[.agg (blkV (decB o)), .int .i64 (decE o)]) ∧ Fr Nob w w' := by
  have hnlt : ¬ (bs.length : Int) < 64 := by omega
  have H := Lib.hid h
  have HO := Lib.hid ho
  have hge : (64 : Int) ≤ (bs.length : Int) := by omega
  have hcc : (bs.length : Int) ≤ (cap : Int) := by omega
  clear h ho
  go_enter Try.func27, Try.ntmps27
  go_wp2_with fail
  obtain ⟨R, hR⟩ : ∃ R, R = w.heap.size := ⟨_, rfl⟩
  obtain ⟨A, hA⟩ : ∃ A, A = w.heap.size + 1 := ⟨_, rfl⟩
  have hr1 := heap_alloc_new w (.cells #[.int .u64 0, .int .u64 0, .int .u64 0, .int .u64 0, .int .u64 0, .bool false, .int .i64 0] 29)
  have f1 : Fr Nob w (w.alloc (.cells #[.int .u64 0, .int .u64 0, .int .u64 0, .int .u64 0, .int .u64 0, .bool false, .int .i64 0] 29)) := (Fr.refl Nob w).alloc _
  have hs1 : (w.alloc (.cells #[.int .u64 0, .int .u64 0, .int .u64 0, .int .u64 0, .int .u64 0, .bool false, .int .i64 0] 29)).heap.size = w.heap.size + 1 := by simp
  generalize w.alloc (.cells #[.int .u64 0, .int .u64 0, .int .u64 0, .int .u64 0, .int .u64 0, .bool false, .int .i64 0] 29) = w1 at *
  have ha2 : (w1.alloc (.cells #[.int .u64 0, .int .u64 0, .int .u64 0, .int .u64 0, .int .u64 0] 102)).heap[A]? = some (.cells (arrV fun _ => 0) 102 (0, 0)) := by
    rw [hA, ← hs1]
    exact heap_alloc_new w1 _
  have f12 : Fr Nob w1 (w1.alloc (.cells #[.int .u64 0, .int .u64 0, .int .u64 0, .int .u64 0, .int .u64 0] 102)) := (Fr.refl Nob w1).alloc _
  have hs2 : (w1.alloc (.cells #[.int .u64 0, .int .u64 0, .int .u64 0, .int .u64 0, .int .u64 0] 102)).heap.size = w1.heap.size + 1 := by simp
  rw [hs1] at hs2
  rw [← hR] at hr1
  rw [← hA, ← hR]
  have RV := Lib.hid (f12.heap hr1 fun h => h)
  have F2 := Lib.hid (f1.trans' f12)
  have AV := Lib.hid ha2
  have HR := Lib.hid hR
  have HA := Lib.hid hA
  have HS2 := Lib.hid hs2
  clear hr1 f1 f12 ha2 hR hA hs1 hs2
  generalize w1.alloc (.cells #[.int .u64 0, .int .u64 0, .int .u64 0, .int .u64 0, .int .u64 0] 102) = w2 at *
  obtain ⟨N, hN⟩ : ∃ N : Nat → Nat, N = fun k => upL (sub bs (4 + 8 * k) 8) := ⟨_, rfl⟩
  have HN := Lib.hid hN
  clear hN
  go_loopw [5, 11] (fun _ i wr => ∃ k : Nat, k ≤ 5 ∧ i = .int .i64 k ∧ Hid (∃ fn, wr.heap[A]? = some (.cells (arrV fn) 102 (0, 0)) ∧ ∀ j, j < k → fn j = N j) ∧ Hid (Fr (One A) w2 wr)) (fun _ i _ => 5 - (intOf i).toNat)
  case atStart => exact ⟨0, by omega, rfl, Lib.hid ⟨_, AV.out, fun j h => absurd h (by omega)⟩, Lib.hid (Fr.refl _ _)⟩
  case round =>
    obtain ⟨k, hk, rfl, ar, fr⟩ := hrel
    have hAw : ∀ j, j < w.heap.size → j ≠ A := fun j hj e => by have := HA.out; omega
    have frw : Fr Nob w wr := F2.out.trans fr.out fun j hj h => absurd (show j = A from h) (hAw j hj)
    have HW : Hid (∀ j, j < bs.length → wr.cell? ⟨gp, op + j, none⟩ = some (.int .u8 ((bs.getD j 0).toNat : Int))) := Lib.hid fun j hj => frw.cell (H.out j hj) fun h => h
    have FRW := Lib.hid frw
    clear frw hAw
    by_cases hlt : k < 5
    · obtain ⟨fn, har, hfn⟩ := ar.out
      have hca : wr.cell? ⟨A, k, none⟩ = some (.int .u64 (fn k : Nat)) := by rw [cell_of_row wr A k _ _ (0, 0) har]; exact arrV_at fn hlt
      have hza := frozen_of_row wr A k _ _ har
      have hpart := RdB.part (cap := cap - (4 + 8 * k)) HW.out (l := 4 + 8 * k) (n := 8) (by omega)
      have HP := Lib.hid (number_eq hpart (by simp; omega))
      have hki : (k : Int) < 5 := by omega
      have AR := Lib.hid har
      have FN := Lib.hid hfn
      generalize fn k = old at hca
      clear har hfn hpart ar
      go_wp2_with fail
      refine HP.out.mono ?_
      rintro e w' ⟨rfl, rfl⟩
      have hnk : upL ((bs.drop (4 + 8 * k)).take 8) = N k := by rw [HN.out]; rfl
      rw [hnk]
      clear hnk
      go_wp2_with fail
      go_roundw
      case rel =>
        refine ⟨k + 1, by omega, by go_num, Lib.hid ⟨fun j => if j = k then N k else fn j, ?_, fun j hj => ?_⟩, Lib.hid (fr.out.set1 _)⟩
        · rw [heap_setCell_same wr A k _ _ _ AR.out, arrV_set fn hlt]
        · show (if j = k then N k else fn j) = N j
          by_cases e : j = k
          · rw [if_pos e, e]
          · rw [if_neg e]
            exact FN.out j (by omega)
      case measure => simp [intOf]; omega
    · have hk5 : k = 5 := by omega
      subst hk5
      obtain ⟨fn, har, hfn⟩ := ar.out
      have hfa : arrV fn = arrV N := by
        unfold arrV
        rw [hfn 0 (by omega), hfn 1 (by omega), hfn 2 (by omega), hfn 3 (by omega), hfn 4 (by omega)]
      rw [hfa] at har
      have a0 := cell_of_row wr A 0 _ _ (0, 0) har
      have a1 := cell_of_row wr A 1 _ _ (0, 0) har
      have a2 := cell_of_row wr A 2 _ _ (0, 0) har
      have a3 := cell_of_row wr A 3 _ _ (0, 0) har
      have a4 := cell_of_row wr A 4 _ _ (0, 0) har
      rw [show (arrV N)[0]? = some (.int .u64 (N 0 : Nat)) from rfl] at a0
      rw [show (arrV N)[1]? = some (.int .u64 (N 1 : Nat)) from rfl] at a1
      rw [show (arrV N)[2]? = some (.int .u64 (N 2 : Nat)) from rfl] at a2
      rw [show (arrV N)[3]? = some (.int .u64 (N 3 : Nat)) from rfl] at a3
      rw [show (arrV N)[4]? = some (.int .u64 (N 4 : Nat)) from rfl] at a4
      have x44 := HW.out 44 (by omega)
      have hpart := RdB.part (cap := cap - 48) HW.out (l := 48) (n := 4) (by omega)
      have hy4 := (parse_image hn).2
      obtain ⟨y, hy⟩ : ∃ y, y = upL ((bs.drop 48).take 4) := ⟨_, rfl⟩
      have hyi : (parse bs).image = (y : Int) := by rw [hy]; rfl
      rw [hyi] at hy4
      have hwy : IntKind.i64.wrap (y : Int) = (y : Int) := by rw [IntKind.wrap_i64]; omega
      obtain ⟨x, hx⟩ : ∃ x, x = (bs.getD 44 0).toNat := ⟨_, rfl⟩
      obtain ⟨cl, hcl⟩ : ∃ cl, ((x : Int) == 1) = cl := ⟨_, rfl⟩
      have hpc : (parse bs).clean = cl := by
        rw [← hcl, hx]
        show decide (bs.getD 44 0 = 1) = _
        rw [Bool.eq_iff_iff, decide_eq_true_iff, beq_iff_eq]
        constructor
        · intro e; rw [e]; rfl
        · intro e; exact UInt8.toNat_inj.1 (by show _ = 1; omega)
      have hpv : blkV (parse bs) = #[.int .u64 (N 0 : Nat), .int .u64 (N 1 : Nat), .int .u64 (N 2 : Nat), .int .u64 (N 3 : Nat), .int .u64 (N 4 : Nat), .bool cl, .int .i64 (y : Int)] := by
        unfold blkV
        rw [hyi, hpc, HN.out]
        rfl
      rw [← hx] at x44
      have PV := Lib.hid hpv
      have HP := Lib.hid (number_eq (hpart.nob (Fr.refl Nob wr).drew) (by simp; omega))
      have HP2 := Lib.hid (number_eq (hpart.nob ((Fr.refl Nob wr).alloc (.cells #[.int .u64 0, .int .u64 0, .int .u64 0, .int .u64 0, .int .u64 0, .bool false, .int .i64 0] 29)).drew) (by simp; omega))
      rw [← hy] at HP HP2
      have fz := (Fr.refl Nob wr).alloc (.cells #[.int .u64 0, .int .u64 0, .int .u64 0, .int .u64 0, .int .u64 0, .bool false, .int .i64 0] 29)
      have y44 := fz.cell x44 fun h => h
      have b0 := fz.cell a0 fun h => h
      have b1 := fz.cell a1 fun h => h
      have b2 := fz.cell a2 fun h => h
      have b3 := fz.cell a3 fun h => h
      have b4 := fz.cell a4 fun h => h
      have h44 : (44 : Int) < (bs.length : Int) := by omega
      have h44d : decide ((44 : Int) < (bs.length : Int)) = true := by simpa using h44
      clear har hfn hfa hpart ar fz hy hyi hx hpc hpv hy4
      have hcap1 : (52 : Int) ≤ (cap : Int) := by omega
      have hcap2 : 52 ≤ cap := by omega
      have hcap3 : ¬ cap = 48 := by omega
      have hcap4 : (48 : Int) ≤ (cap : Int) := by omega
      have hsl : ∀ w', (Instr.slice 34 (.slice (some ⟨gp, op, none⟩) bs.length cap) (some (.int .i64 48)) (some (.int .i64 52)) none).run Try.prog w' = .ok (.slice (some ⟨gp, op + 48, none⟩) 4 (cap - 48)) w' := fun w' => slice48 w' gp op bs.length cap hcap2
      go_upto_region 9 with fail
      go_cut [6] (fun s6 W6 => ∃ B6, s6 = .pointer (some ⟨B6, 0, none⟩) ∧ Hid (W6.heap[B6]? = some (.cells (blkV (parse bs)) 29 (0, 0))) ∧ Hid (Fr Nob wr W6))
      case first =>
        go_region_held3 (fun w' => w'.cell? ⟨A, 0, none⟩ = some (.int .u64 (N 0 : Nat)) ∧ w'.cell? ⟨A, 1, none⟩ = some (.int .u64 (N 1 : Nat)) ∧ w'.cell? ⟨A, 2, none⟩ = some (.int .u64 (N 2 : Nat)) ∧ w'.cell? ⟨A, 3, none⟩ = some (.int .u64 (N 3 : Nat)) ∧ w'.cell? ⟨A, 4, none⟩ = some (.int .u64 (N 4 : Nat)) ∧ w'.cell? ⟨gp, op + 44, none⟩ = some (.int .u8 (x : Int)))
          (first | go_keep | exact ⟨a0, a1, a2, a3, a4, x44⟩ | exact ⟨b0, b1, b2, b3, b4, y44⟩)
          (first | (go_at_call 62; (with_reducible refine HP.out.mono ?_); rintro e w' ⟨rfl, rfl⟩) | (go_at_call 62; (with_reducible refine HP2.out.mono ?_); rintro e w' ⟨rfl, rfl⟩))
        all_goals
          go_wp2_with fail
          go_meet
          refine ⟨wr.heap.size, rfl, Lib.hid ?_, Lib.hid ((Fr.refl Nob wr).alloc _).drew⟩
          rw [PV.out]
          exact heap_alloc_new wr _
      case rest =>
        obtain ⟨B6, rfl, hb6, f6⟩ := hcut
        generalize wc = W6 at *
        clear a0 a1 a2 a3 a4 b0 b1 b2 b3 b4 x44 y44 HP HP2 hwy hcl
        have hRA : R ≠ A := by have := HR.out; have := HA.out; omega
        have hrv := fr.out.heap RV.out hRA
        have RV6 := Lib.hid (f6.out.heap hrv fun h => h)
        have F6 := Lib.hid (FRW.out.trans' f6.out)
        have ENC := Lib.hid (encode_eq (parse bs) (parse_ok hn) W6.drew)
        have HB6 := Lib.hid hb6.out
        rw [PV.out] at ENC HB6
        have g0 := cell_of_row W6 B6 0 _ _ (0, 0) HB6.out
        have g1 := cell_of_row W6 B6 1 _ _ (0, 0) HB6.out
        have g2 := cell_of_row W6 B6 2 _ _ (0, 0) HB6.out
        have g3 := cell_of_row W6 B6 3 _ _ (0, 0) HB6.out
        have g4 := cell_of_row W6 B6 4 _ _ (0, 0) HB6.out
        have g5 := cell_of_row W6 B6 5 _ _ (0, 0) HB6.out
        have g6 := cell_of_row W6 B6 6 _ _ (0, 0) HB6.out
        clear hb6 f6 hrv hRA
        have hr64 : Hid (∀ w', Fr Nob W6 w' → RdB w' (.slice (some ⟨gp, op, none⟩) 64 cap) (bs.take 64)) := Lib.hid fun w' f => by
          have hl : (bs.take 64).length = 64 := by simp; omega
          refine ⟨_, cap, by rw [hl], fun _ => ⟨gp, op, rfl, fun j hj => ?_⟩⟩
          rw [hl] at hj
          rw [(F6.out.trans' f).cell (H.out j (by omega)) fun h => h, List.getD_eq_getElem?_getD, List.getD_eq_getElem?_getD, List.getElem?_take, if_pos hj]
        obtain ⟨r, hr⟩ : ∃ r, decide (enc (parse bs) = bs.take 64) = r := ⟨_, rfl⟩
        have HRR := Lib.hid hr
        clear hr
        go_upto_region 10 with fail
        go_cut [51] (fun s W8 => s = .bool (!r) ∧ Hid (Fr Nob W6 W8))
        case first =>
          go_region_with (first
            | (go_at_call 28; (with_reducible refine ENC.out.mono ?_); rintro e w7 ⟨ge, rfl, hbe, f7, hge7⟩; have BE := Lib.hid hbe; have F7 := Lib.hid f7; clear hbe f7 hge7)
            | (go_at_call 63; refine (equal_eq (xs := enc (parse bs)) (ys := bs.take 64) (RdB.of_block' BE.out (enc_len _)) (hr64.out _ F7.out.undrew) (by simp; omega) r HRR.out).mono ?_; rintro e w8 ⟨rfl, f8⟩; have F8 := Lib.hid f8; clear f8))
          all_goals
            go_wp2_with fail
            go_meet
            exact ⟨rfl, Lib.hid (F7.out.undrew.trans' F8.out)⟩
        case rest =>
          obtain ⟨rfl, f8⟩ := hcut
          generalize wc = W8 at *
          have F8 := Lib.hid (F6.out.trans' f8.out)
          have rv8 := f8.out.heap RV6.out fun h => h
          have FR8 : Hid (∀ u0 u1 u2 u3 u4 u5 u6 : Value, Fr Nob w (((((((W8.setCell ⟨R, 0, none⟩ u0).setCell ⟨R, 1, none⟩ u1).setCell ⟨R, 2, none⟩ u2).setCell ⟨R, 3, none⟩ u3).setCell ⟨R, 4, none⟩ u4).setCell ⟨R, 5, none⟩ u5).setCell ⟨R, 6, none⟩ u6)) := Lib.hid fun u0 u1 u2 u3 u4 u5 u6 =>
            F8.out.trans (((((((Fr.refl (One R) W8).set1 u0).set1 u1).set1 u2).set1 u3).set1 u4).set1 u5 |>.set1 u6) fun k hk h => by
              have h : k = R := h
              have := HR.out
              omega
          have e0 := cell_of_row W8 R 0 _ _ (0, 0) rv8
          have e1 := cell_of_row W8 R 1 _ _ (0, 0) rv8
          have e2 := cell_of_row W8 R 2 _ _ (0, 0) rv8
          have e3 := cell_of_row W8 R 3 _ _ (0, 0) rv8
          have e4 := cell_of_row W8 R 4 _ _ (0, 0) rv8
          have e5 := cell_of_row W8 R 5 _ _ (0, 0) rv8
          have e6 := cell_of_row W8 R 6 _ _ (0, 0) rv8
          have z0 := frozen_of_row W8 R 0 _ _ rv8
          have z1 := frozen_of_row W8 R 1 _ _ rv8
          have z2 := frozen_of_row W8 R 2 _ _ rv8
          have z3 := frozen_of_row W8 R 3 _ _ rv8
          have z4 := frozen_of_row W8 R 4 _ _ rv8
          have z5 := frozen_of_row W8 R 5 _ _ rv8
          have z6 := frozen_of_row W8 R 6 _ _ rv8
          have g0 := f8.out.cell g0 fun h => h
          have g1 := f8.out.cell g1 fun h => h
          have g2 := f8.out.cell g2 fun h => h
          have g3 := f8.out.cell g3 fun h => h
          have g4 := f8.out.cell g4 fun h => h
          have g5 := f8.out.cell g5 fun h => h
          have g6 := f8.out.cell g6 fun h => h
          cases r with
          | true =>
            have hd : dec bs = some (parse bs) := by
              unfold dec
              rw [if_pos ⟨hn, of_decide_eq_true HRR.out⟩]
            have ho : o = some (parse bs) := HO.out.symm.trans hd
            subst ho
            have hdb : blkV (decB (some (parse bs))) = #[.int .u64 (N 0 : Nat), .int .u64 (N 1 : Nat), .int .u64 (N 2 : Nat), .int .u64 (N 3 : Nat), .int .u64 (N 4 : Nat), .bool cl, .int .i64 (y : Int)] := PV.out
            have HDB := Lib.hid hdb
            clear rv8 f8 hd hdb
            go_wp2_with fail
            refine bodyPost_ret (v := .tuple #[.agg #[.int .u64 (N 0 : Nat), .int .u64 (N 1 : Nat), .int .u64 (N 2 : Nat), .int .u64 (N 3 : Nat), .int .u64 (N 4 : Nat), .bool cl, .int .i64 (y : Int)], .int .i64 0]) (by simp [results, Try.results27, go_sem, e0, e1, e2, e3, e4, e5, e6]) rfl ⟨?_, ?_⟩
            · rw [HDB.out]; rfl
            · exact FR8.out _ _ _ _ _ _ _
          | false =>
            have hd : dec bs = none := by
              unfold dec
              rw [if_neg fun h => of_decide_eq_false HRR.out h.2]
            have ho : o = none := HO.out.symm.trans hd
            subst ho
            clear rv8 f8 hd
            go_wp2_with fail
            refine bodyPost_ret (v := .tuple #[.agg #[.int .u64 0, .int .u64 0, .int .u64 0, .int .u64 0, .int .u64 0, .bool false, .int .i64 0], .int .i64 3]) (by simp [results, Try.results27, go_sem, e0, e1, e2, e3, e4, e5, e6]) rfl ⟨rfl, ?_⟩
            exact FR8.out _ _ _ _ _ _ _

end Go.Proofs.Ytpdljgjofebgpaa
