/-
  Law 5: SuperTurns, walked.
-/
import Derived.Test.YtpdljgjofebgpaaSupG
namespace Go.Proofs.Ytpdljgjofebgpaa
open Go.RowKit

theorem blk_neq_self (a : Blk) (w : World) : (binOp .neq 29 (.agg (blkV a)) (.agg (blkV a))).run Try.prog w = .ok (.bool false) w := by
  have h := blk_eql a a w
  rw [show decide (a = a) = true from decide_eq_true rfl, run_eql_struct] at h
  rw [run_neq_struct]
  generalize (Op.equalIn 10000 29 (.agg (blkV a)) (.agg (blkV a))).run Try.prog w = r at *
  cases r with
  | ok b w' =>
    simp [Result.andThen] at h ⊢
    obtain ⟨rfl, rfl⟩ := h
    exact ⟨rfl, rfl⟩
  | _ => simp [Result.andThen] at h

set_option maxRecDepth 100000 in
set_option maxHeartbeats 4000000 in
theorem superTurns_walk (A : Option Addr) (n cap : Nat) (z : Nat → Blk) (w : World) (hz : BlkRow w A n z) :
    Calls Try.prog 5 #[.slice A n cap] w fun e w' => e = .returned (.bool true) ∧ Fr Nob w w' := by
  have Z := Lib.hid hz
  clear hz
  by_cases hn : n ≤ 20
  · have hn20 : ¬ (20 : Int) < n := by omega
    go_enter Try.func5, Try.ntmps5
    go_wp2_with fail
    refine (awake5_eq w).mono ?_
    rintro e w0 ⟨rfl, f0⟩
    have F0 := Lib.hid f0
    clear f0
    go_wp2_with fail
    refine (DL.new (n := 2) F0.out (by omega) (by omega)).mono ?_
    rintro e w1 ⟨q, K, rfl, d, _, _⟩
    have D := Lib.hid d
    clear d
    have h5 := heap_alloc_new w1 (.cells #[.int .u64 0, .int .u64 0, .int .u64 0, .int .u64 0, .int .u64 0, .bool false, .int .i64 0] 29)
    have fa := (Fr.refl Nob w1).alloc (.cells #[.int .u64 0, .int .u64 0, .int .u64 0, .int .u64 0, .int .u64 0, .bool false, .int .i64 0] 29)
    have hs : (w1.alloc (.cells #[.int .u64 0, .int .u64 0, .int .u64 0, .int .u64 0, .int .u64 0, .bool false, .int .i64 0] 29)).heap.size = w1.heap.size + 1 := by simp
    obtain ⟨R5, hR5⟩ : ∃ R, R = w1.heap.size := ⟨_, rfl⟩
    have K5 : Hid (¬ K R5) := Lib.hid (D.out.fresh R5 (by rw [hR5]; exact Nat.le_refl _))
    have W5 : Hid (w.heap.size ≤ R5) := Lib.hid (by rw [hR5]; exact D.out.wle)
    rw [← hR5] at h5
    have H5 := Lib.hid h5
    have D1 : Hid (DL w (w1.alloc (.cells #[.int .u64 0, .int .u64 0, .int .u64 0, .int .u64 0, .int .u64 0, .bool false, .int .i64 0] 29)) q K (fun j => j = R5) (Dv.new 2)) := Lib.hid (D.out.more fa fun j hj => (by
      rw [hs]
      right
      omega))
    have E5 := Lib.hid hR5
    clear h5 fa hs hR5 D
    go_wp2_with fail
    rw [← E5.out]
    generalize w1.alloc (.cells #[.int .u64 0, .int .u64 0, .int .u64 0, .int .u64 0, .int .u64 0, .bool false, .int .i64 0] 29) = w2 at *
    go_loopw [6] (fun i wr => ∃ (k : Nat) (D : Dv) (wb : Blk), k ≤ n ∧ i = .int .i64 k ∧ Hid (DL w wr q K (fun j => j = R5) D) ∧ Hid (Calm D) ∧ Hid (seqOf D = k) ∧ Hid (wr.heap[R5]? = some (.cells (blkV wb.norm) 29 (0, 0))) ∧ Hid (0 < k → wb.ok ∧ wb.seq = k ∧ D.now (k % 2) = .whole (pad (enc wb)))) (fun i _ => n - (intOf i).toNat)
    case atStart => exact ⟨0, _, Blk.zero, by omega, rfl, D1, Lib.hid ⟨rfl, rfl, by decide⟩, Lib.hid (by unfold seqOf; rw [new_load]; rfl), H5, Lib.hid fun h => absurd h (by omega)⟩
    case round =>
      clear D1 H5
      obtain ⟨k, D, wb, hk, rfl, DD, CC, SQ, H5, PV⟩ := hrel
      by_cases hlt : k < n
      · have hkn : (k : Int) < n := by omega
        obtain ⟨b, o, hA⟩ := Z.out.addr (by omega)
        have ZZ := Lib.hid (Z.out.keep DD.out.fr)
        obtain ⟨zk, hzk⟩ : ∃ zk, z k = zk := ⟨_, rfl⟩
        have hzo : zk.ok := by rw [← hzk]; exact Z.out.ok k hlt
        obtain ⟨x0, x1, x2, x3, x4, cl, im, rfl⟩ := blk_cases zk
        have key : ∀ j, j < 7 → wr.cell? ⟨b, o + k * 7 + j, none⟩ = (blkV ⟨x0, x1, x2, x3, x4, cl, im⟩).toList[j]? := by rw [← hzk]; exact fun j hj => ZZ.out.cell hA hlt j hj
        have c0 : wr.cell? ⟨b, o + k * 7, none⟩ = some (.int .u64 (x0 : Int)) := key 0 (by omega)
        have c1 : wr.cell? ⟨b, o + k * 7 + 1, none⟩ = some (.int .u64 (x1 : Int)) := key 1 (by omega)
        have c2 : wr.cell? ⟨b, o + k * 7 + 2, none⟩ = some (.int .u64 (x2 : Int)) := key 2 (by omega)
        have c3 : wr.cell? ⟨b, o + k * 7 + 3, none⟩ = some (.int .u64 (x3 : Int)) := key 3 (by omega)
        have c4 : wr.cell? ⟨b, o + k * 7 + 4, none⟩ = some (.int .u64 (x4 : Int)) := key 4 (by omega)
        have c5 : wr.cell? ⟨b, o + k * 7 + 5, none⟩ = some (.bool cl) := key 5 (by omega)
        have c6 : wr.cell? ⟨b, o + k * 7 + 6, none⟩ = some (.int .i64 im) := key 6 (by omega)
        obtain ⟨nb, hnb⟩ : ∃ nb : Blk, nb = ⟨k + 1, x1, x2, x3, x4, cl, im⟩ := ⟨_, rfl⟩
        have hbu : bumped D ⟨x0, x1, x2, x3, x4, cl, im⟩ = nb := by unfold bumped; rw [SQ.out, hnb]
        have hnbo : nb.ok := by rw [hnb]; exact ⟨by show k + 1 < _; omega, hzo.2⟩
        obtain ⟨m, hm⟩ : ∃ m : Int, m = (nb.img : Int) := ⟨_, rfl⟩
        have hnv : blkV nb.norm = #[.int .u64 ((k : Int) + 1), .int .u64 (x1 : Int), .int .u64 (x2 : Int), .int .u64 (x3 : Int), .int .u64 (x4 : Int), .bool cl, .int .i64 m] := by rw [hm, hnb]; rfl
        have NBV := Lib.hid (show blkV (Blk.norm ⟨k + 1, x1, x2, x3, x4, cl, im⟩) = #[.int .u64 ((k : Int) + 1), .int .u64 (x1 : Int), .int .u64 (x2 : Int), .int .u64 (x3 : Int), .int .u64 (x4 : Int), .bool cl, .int .i64 m] by rw [← hnb]; exact hnv)
        have NBO := Lib.hid (show Blk.ok ⟨k + 1, x1, x2, x3, x4, cl, im⟩ by rw [← hnb]; exact hnbo)
        have hs1 : seqOf D + 1 < 18446744073709551616 := by rw [SQ.out]; omega
        have hcalm : Calm (stF D ⟨x0, x1, x2, x3, x4, cl, im⟩) := CC.out.stF _
        have hsq2 : seqOf (stF D ⟨x0, x1, x2, x3, x4, cl, im⟩) = k + 1 := by rw [CC.out.seq_stF hzo hs1, SQ.out]
        have hnow : (stF D ⟨x0, x1, x2, x3, x4, cl, im⟩).now ((k + 1) % 2) = .whole (pad (enc nb)) := by rw [CC.out.now_stF, SQ.out, if_pos rfl, hbu]
        have hold : 0 < k → (stF D ⟨x0, x1, x2, x3, x4, cl, im⟩).now (k % 2) = .whole (pad (enc wb)) := fun h => by rw [CC.out.now_stF, SQ.out, if_neg (by omega)]; exact (PV.out h).2.2
        have hpd : pgDec (.whole (pad (enc nb))) = some nb.norm := pgDec_enc hnbo
        have ST : Hid (Calls Try.prog 26 #[.pointer (some ⟨q, 0, none⟩), .agg #[.int .u64 (x0 : Int), .int .u64 (x1 : Int), .int .u64 (x2 : Int), .int .u64 (x3 : Int), .int .u64 (x4 : Int), .bool cl, .int .i64 im]] wr fun e w' => e = .returned (.tuple #[.agg #[.int .u64 ((k : Int) + 1), .int .u64 (x1 : Int), .int .u64 (x2 : Int), .int .u64 (x3 : Int), .int .u64 (x4 : Int), .bool cl, .int .i64 m], .int .i64 0]) ∧ DL w w' q K (fun j => j = R5) (stF D ⟨x0, x1, x2, x3, x4, cl, im⟩) ∧ Fr K wr w') := Lib.hid (by
          have h := store_eq DD.out (by rw [CC.out.1]; omega) (by rw [CC.out.1]; omega) CC.out.2.1 ⟨x0, x1, x2, x3, x4, cl, im⟩ hzo (by omega) false false CC.out.bw (CC.out.bf _)
          rw [show stB D ⟨x0, x1, x2, x3, x4, cl, im⟩ false false = (bumped D ⟨x0, x1, x2, x3, x4, cl, im⟩).norm from rfl, hbu, hnv] at h
          exact h)
        generalize stF D ⟨x0, x1, x2, x3, x4, cl, im⟩ = D2 at *
        have CC2 := Lib.hid hcalm
        have SQ2 := Lib.hid hsq2
        have NOW : Hid (D2.now ((k + 1) % 2) = .whole (pad (enc ⟨k + 1, x1, x2, x3, x4, cl, im⟩))) := Lib.hid (by rw [hnow, hnb])
        have NOWN := Lib.hid hnow
        have OLD := Lib.hid hold
        have PD := Lib.hid hpd
        have hq : ∀ w', (binOp .neq 29 (.agg #[.int .u64 ((k : Int) + 1), .int .u64 (x1 : Int), .int .u64 (x2 : Int), .int .u64 (x3 : Int), .int .u64 (x4 : Int), .bool cl, .int .i64 m]) (.agg #[.int .u64 ((k : Int) + 1), .int .u64 (x1 : Int), .int .u64 (x2 : Int), .int .u64 (x3 : Int), .int .u64 (x4 : Int), .bool cl, .int .i64 m])).run Try.prog w' = .ok (.bool false) w' := fun w' => by
          have := blk_neq_self nb.norm w'
          rwa [hnv] at this
        have HQ := Lib.hid hq
        have HNV := Lib.hid hnv
        have hwi : IntKind.i64.wrap ((k : Int) + 1) = (k : Int) + 1 := by rw [IntKind.wrap_i64]; omega
        have hwu : IntKind.u64.wrap ((k : Int) + 1) = (k : Int) + 1 := by rw [IntKind.wrap_u64]; omega
        have hm2 : IntKind.i64.wrap (((k : Int) + 1) % 2) = ((k : Int) + 1) % 2 := by rw [IntKind.wrap_i64]; omega
        have HMOD : Hid (((k : Int) + 1) % 2 = (((k + 1) % 2 : Nat) : Int)) := Lib.hid (by omega)
        clear hzk hzo key hnb hbu hnbo hm hnv hs1 hcalm hsq2 hnow hold hpd hq
        obtain ⟨y0, y1, y2, y3, y4, yl, ym, hwb⟩ := blk_cases wb.norm
        have HWB := Lib.hid hwb
        rw [hwb, blkV_mk] at H5
        clear hwb
        subst hA
        go_wp2_with fail
        refine ST.out.mono ?_
        rintro e w3 ⟨rfl, d3, f3⟩
        replace DD := Lib.hid d3
        replace H5 := Lib.hid (f3.heap H5.out K5.out)
        clear d3 f3 ST c0 c1 c2 c3 c4 c5 c6
        have fa := (Fr.refl Nob w3).alloc (.cells #[.int .u64 ((k : Int) + 1), .int .u64 (x1 : Int), .int .u64 (x2 : Int), .int .u64 (x3 : Int), .int .u64 (x4 : Int), .bool cl, .int .i64 m] 29)
        have hb := heap_alloc_new w3 (.cells #[.int .u64 ((k : Int) + 1), .int .u64 (x1 : Int), .int .u64 (x2 : Int), .int .u64 (x3 : Int), .int .u64 (x4 : Int), .bool cl, .int .i64 m] 29)
        obtain ⟨R7, hR7⟩ : ∃ R, R = w3.heap.size := ⟨_, rfl⟩
        have KR7 : Hid (¬ K R7) := Lib.hid (DD.out.fresh R7 (by rw [hR7]; exact Nat.le_refl _))
        have NR7 : Hid (R7 ≠ R5) := Lib.hid (by have := lt_of_block H5.out; omega)
        replace DD := Lib.hid (DD.out.nob fa)
        replace H5 := Lib.hid (fa.heap H5.out fun h => h)
        rw [← hR7] at hb
        have HR7 := Lib.hid hb
        have ER7 := Lib.hid hR7
        clear fa hb hR7
        have v7 := HR7.out
        have a0 : (w3.alloc (.cells #[.int .u64 ((k : Int) + 1), .int .u64 (x1 : Int), .int .u64 (x2 : Int), .int .u64 (x3 : Int), .int .u64 (x4 : Int), .bool cl, .int .i64 m] 29)).cell? ⟨R7, 0, none⟩ = some (.int .u64 ((k : Int) + 1)) := cell_of_row _ R7 0 _ _ (0, 0) v7
        rw [ER7.out] at a0
        clear v7
        go_wp2_with fail
        rw [← ER7.out]
        rw [← ER7.out] at a0
        generalize w3.alloc (.cells #[.int .u64 ((k : Int) + 1), .int .u64 (x1 : Int), .int .u64 (x2 : Int), .int .u64 (x3 : Int), .int .u64 (x4 : Int), .bool cl, .int .i64 m] 29) = w4 at *
        rw [HMOD.out]
        refine (DD.out.read_any (i := (k + 1) % 2) (by rw [CC2.out.1]; omega) CC2.out.2.1 _ NOWN.out).mono ?_
        rintro e w5 ⟨v, rfl, rc, d5, f5, _⟩
        have DEC : Calls Try.prog 27 #[v] w5 fun e w' => e = .returned (.tuple #[.agg #[.int .u64 ((k : Int) + 1), .int .u64 (x1 : Int), .int .u64 (x2 : Int), .int .u64 (x3 : Int), .int .u64 (x4 : Int), .bool cl, .int .i64 m], .int .i64 0]) ∧ Fr Nob w5 w' := by
          have h := decode_eq rc _ PD.out
          rw [show decB (some nb.norm) = nb.norm from rfl, HNV.out] at h
          exact h
        have DECH := Lib.hid DEC
        replace DD := Lib.hid d5
        replace H5 := Lib.hid (f5.heap H5.out K5.out)
        replace HR7 := Lib.hid (f5.heap HR7.out KR7.out)
        clear rc d5 f5 DEC a0
        rw [show pgE (.whole (pad (enc nb))) = 0 from rfl]
        go_wp2_with fail
        refine DECH.out.mono ?_
        rintro e w6 ⟨rfl, f6⟩
        replace DD := Lib.hid (DD.out.nob f6)
        replace H5 := Lib.hid (f6.heap H5.out fun h => h)
        replace HR7 := Lib.hid (f6.heap HR7.out fun h => h)
        clear f6 DECH
        have fa := (Fr.refl Nob w6).alloc (.cells #[.int .u64 ((k : Int) + 1), .int .u64 (x1 : Int), .int .u64 (x2 : Int), .int .u64 (x3 : Int), .int .u64 (x4 : Int), .bool cl, .int .i64 m] 29)
        have hb := heap_alloc_new w6 (.cells #[.int .u64 ((k : Int) + 1), .int .u64 (x1 : Int), .int .u64 (x2 : Int), .int .u64 (x3 : Int), .int .u64 (x4 : Int), .bool cl, .int .i64 m] 29)
        obtain ⟨R11, hR11⟩ : ∃ R, R = w6.heap.size := ⟨_, rfl⟩
        have KR11 : Hid (¬ K R11) := Lib.hid (DD.out.fresh R11 (by rw [hR11]; exact Nat.le_refl _))
        have NR11 : Hid (R11 ≠ R5) := Lib.hid (by have := lt_of_block H5.out; omega)
        replace DD := Lib.hid (DD.out.nob fa)
        replace H5 := Lib.hid (fa.heap H5.out fun h => h)
        replace HR7 := Lib.hid (fa.heap HR7.out fun h => h)
        rw [← hR11] at hb
        have HR11 := Lib.hid hb
        have ER11 := Lib.hid hR11
        clear fa hb hR11
        have v7 := HR7.out
        have v11 := HR11.out
        rw [ER11.out] at v11
        have hq := HQ.out
        have a0 : (w6.alloc (.cells #[.int .u64 ((k : Int) + 1), .int .u64 (x1 : Int), .int .u64 (x2 : Int), .int .u64 (x3 : Int), .int .u64 (x4 : Int), .bool cl, .int .i64 m] 29)).cell? ⟨R7, 0, none⟩ = some (.int .u64 ((k : Int) + 1)) := cell_of_row _ R7 0 _ _ (0, 0) v7
        have a1 : (w6.alloc (.cells #[.int .u64 ((k : Int) + 1), .int .u64 (x1 : Int), .int .u64 (x2 : Int), .int .u64 (x3 : Int), .int .u64 (x4 : Int), .bool cl, .int .i64 m] 29)).cell? ⟨R7, 1, none⟩ = some (.int .u64 (x1 : Int)) := cell_of_row _ R7 1 _ _ (0, 0) v7
        have a2 : (w6.alloc (.cells #[.int .u64 ((k : Int) + 1), .int .u64 (x1 : Int), .int .u64 (x2 : Int), .int .u64 (x3 : Int), .int .u64 (x4 : Int), .bool cl, .int .i64 m] 29)).cell? ⟨R7, 2, none⟩ = some (.int .u64 (x2 : Int)) := cell_of_row _ R7 2 _ _ (0, 0) v7
        have a3 : (w6.alloc (.cells #[.int .u64 ((k : Int) + 1), .int .u64 (x1 : Int), .int .u64 (x2 : Int), .int .u64 (x3 : Int), .int .u64 (x4 : Int), .bool cl, .int .i64 m] 29)).cell? ⟨R7, 3, none⟩ = some (.int .u64 (x3 : Int)) := cell_of_row _ R7 3 _ _ (0, 0) v7
        have a4 : (w6.alloc (.cells #[.int .u64 ((k : Int) + 1), .int .u64 (x1 : Int), .int .u64 (x2 : Int), .int .u64 (x3 : Int), .int .u64 (x4 : Int), .bool cl, .int .i64 m] 29)).cell? ⟨R7, 4, none⟩ = some (.int .u64 (x4 : Int)) := cell_of_row _ R7 4 _ _ (0, 0) v7
        have a5 : (w6.alloc (.cells #[.int .u64 ((k : Int) + 1), .int .u64 (x1 : Int), .int .u64 (x2 : Int), .int .u64 (x3 : Int), .int .u64 (x4 : Int), .bool cl, .int .i64 m] 29)).cell? ⟨R7, 5, none⟩ = some (.bool cl) := cell_of_row _ R7 5 _ _ (0, 0) v7
        have a6 : (w6.alloc (.cells #[.int .u64 ((k : Int) + 1), .int .u64 (x1 : Int), .int .u64 (x2 : Int), .int .u64 (x3 : Int), .int .u64 (x4 : Int), .bool cl, .int .i64 m] 29)).cell? ⟨R7, 6, none⟩ = some (.int .i64 m) := cell_of_row _ R7 6 _ _ (0, 0) v7
        have b0 : (w6.alloc (.cells #[.int .u64 ((k : Int) + 1), .int .u64 (x1 : Int), .int .u64 (x2 : Int), .int .u64 (x3 : Int), .int .u64 (x4 : Int), .bool cl, .int .i64 m] 29)).cell? ⟨w6.heap.size, 0, none⟩ = some (.int .u64 ((k : Int) + 1)) := cell_of_row _ w6.heap.size 0 _ _ (0, 0) v11
        have b1 : (w6.alloc (.cells #[.int .u64 ((k : Int) + 1), .int .u64 (x1 : Int), .int .u64 (x2 : Int), .int .u64 (x3 : Int), .int .u64 (x4 : Int), .bool cl, .int .i64 m] 29)).cell? ⟨w6.heap.size, 1, none⟩ = some (.int .u64 (x1 : Int)) := cell_of_row _ w6.heap.size 1 _ _ (0, 0) v11
        have b2 : (w6.alloc (.cells #[.int .u64 ((k : Int) + 1), .int .u64 (x1 : Int), .int .u64 (x2 : Int), .int .u64 (x3 : Int), .int .u64 (x4 : Int), .bool cl, .int .i64 m] 29)).cell? ⟨w6.heap.size, 2, none⟩ = some (.int .u64 (x2 : Int)) := cell_of_row _ w6.heap.size 2 _ _ (0, 0) v11
        have b3 : (w6.alloc (.cells #[.int .u64 ((k : Int) + 1), .int .u64 (x1 : Int), .int .u64 (x2 : Int), .int .u64 (x3 : Int), .int .u64 (x4 : Int), .bool cl, .int .i64 m] 29)).cell? ⟨w6.heap.size, 3, none⟩ = some (.int .u64 (x3 : Int)) := cell_of_row _ w6.heap.size 3 _ _ (0, 0) v11
        have b4 : (w6.alloc (.cells #[.int .u64 ((k : Int) + 1), .int .u64 (x1 : Int), .int .u64 (x2 : Int), .int .u64 (x3 : Int), .int .u64 (x4 : Int), .bool cl, .int .i64 m] 29)).cell? ⟨w6.heap.size, 4, none⟩ = some (.int .u64 (x4 : Int)) := cell_of_row _ w6.heap.size 4 _ _ (0, 0) v11
        have b5 : (w6.alloc (.cells #[.int .u64 ((k : Int) + 1), .int .u64 (x1 : Int), .int .u64 (x2 : Int), .int .u64 (x3 : Int), .int .u64 (x4 : Int), .bool cl, .int .i64 m] 29)).cell? ⟨w6.heap.size, 5, none⟩ = some (.bool cl) := cell_of_row _ w6.heap.size 5 _ _ (0, 0) v11
        have b6 : (w6.alloc (.cells #[.int .u64 ((k : Int) + 1), .int .u64 (x1 : Int), .int .u64 (x2 : Int), .int .u64 (x3 : Int), .int .u64 (x4 : Int), .bool cl, .int .i64 m] 29)).cell? ⟨w6.heap.size, 6, none⟩ = some (.int .i64 m) := cell_of_row _ w6.heap.size 6 _ _ (0, 0) v11
        clear v7 v11
        by_cases hk0 : 0 < k
        · have hk1 : (0 : Int) < k := by omega
          have hy : y0 = k := by
            have h1 := (PV.out hk0).2.1
            have h2 : wb.norm.seq = wb.seq := rfl
            rw [← h1, ← h2, HWB.out]
          subst hy
          have hm3 : IntKind.i64.wrap ((y0 : Int) % 2) = (y0 : Int) % 2 := by rw [IntKind.wrap_i64]; omega
          have HMOD3 : Hid ((y0 : Int) % 2 = ((y0 % 2 : Nat) : Int)) := Lib.hid (by omega)
          have v5 := H5.out
          have u0 : (w6.alloc (.cells #[.int .u64 ((y0 : Int) + 1), .int .u64 (x1 : Int), .int .u64 (x2 : Int), .int .u64 (x3 : Int), .int .u64 (x4 : Int), .bool cl, .int .i64 m] 29)).cell? ⟨R5, 0, none⟩ = some (.int .u64 (y0 : Int)) := cell_of_row _ R5 0 _ _ (0, 0) v5
          clear v5
          go_wp2_with fail
          clear a0 a1 a2 a3 a4 a5 a6 b0 b1 b2 b3 b4 b5 b6 u0 hq
          generalize w6.alloc (.cells #[.int .u64 ((y0 : Int) + 1), .int .u64 (x1 : Int), .int .u64 (x2 : Int), .int .u64 (x3 : Int), .int .u64 (x4 : Int), .bool cl, .int .i64 m] 29) = w7 at *
          rw [HMOD3.out]
          refine (DD.out.read_any (i := y0 % 2) (by rw [show D2.read.pg = D2.pg from rfl, CC2.out.1]; omega) CC2.out.2.1 _ (OLD.out hk0)).mono ?_
          rintro e w8 ⟨v, rfl, rc, d8, f8, _⟩
          have DEC : Calls Try.prog 27 #[v] w8 fun e w' => e = .returned (.tuple #[.agg #[.int .u64 (y0 : Int), .int .u64 (y1 : Int), .int .u64 (y2 : Int), .int .u64 (y3 : Int), .int .u64 (y4 : Int), .bool yl, .int .i64 ym], .int .i64 0]) ∧ Fr Nob w8 w' := by
            have h := decode_eq rc _ (pgDec_enc (PV.out hk0).1)
            rw [show decB (some wb.norm) = wb.norm from rfl, HWB.out, blkV_mk] at h
            exact h
          have DECH := Lib.hid DEC
          replace DD := Lib.hid d8
          replace H5 := Lib.hid (f8.heap H5.out K5.out)
          replace HR7 := Lib.hid (f8.heap HR7.out KR7.out)
          clear rc d8 f8 DEC
          rw [show pgE (.whole (pad (enc wb))) = 0 from rfl]
          go_wp2_with fail
          refine DECH.out.mono ?_
          rintro e w9 ⟨rfl, f9⟩
          replace DD := Lib.hid (DD.out.nob f9)
          replace H5 := Lib.hid (f9.heap H5.out fun h => h)
          replace HR7 := Lib.hid (f9.heap HR7.out fun h => h)
          clear f9 DECH
          have fa := (Fr.refl Nob w9).alloc (.cells #[.int .u64 (y0 : Int), .int .u64 (y1 : Int), .int .u64 (y2 : Int), .int .u64 (y3 : Int), .int .u64 (y4 : Int), .bool yl, .int .i64 ym] 29)
          have hb := heap_alloc_new w9 (.cells #[.int .u64 (y0 : Int), .int .u64 (y1 : Int), .int .u64 (y2 : Int), .int .u64 (y3 : Int), .int .u64 (y4 : Int), .bool yl, .int .i64 ym] 29)
          obtain ⟨R15, hR15⟩ : ∃ R, R = w9.heap.size := ⟨_, rfl⟩
          have KR15 : Hid (¬ K R15) := Lib.hid (DD.out.fresh R15 (by rw [hR15]; exact Nat.le_refl _))
          have NR15 : Hid (R15 ≠ R5) := Lib.hid (by have := lt_of_block H5.out; omega)
          replace DD := Lib.hid (DD.out.nob fa)
          replace H5 := Lib.hid (fa.heap H5.out fun h => h)
          replace HR7 := Lib.hid (fa.heap HR7.out fun h => h)
          rw [← hR15] at hb
          have HR15 := Lib.hid hb
          have ER15 := Lib.hid hR15
          clear fa hb hR15
          have v15 := HR15.out
          rw [ER15.out] at v15
          have v7 := HR7.out
          have hq : ∀ w', (binOp .neq 29 (.agg #[.int .u64 (y0 : Int), .int .u64 (y1 : Int), .int .u64 (y2 : Int), .int .u64 (y3 : Int), .int .u64 (y4 : Int), .bool yl, .int .i64 ym]) (.agg #[.int .u64 (y0 : Int), .int .u64 (y1 : Int), .int .u64 (y2 : Int), .int .u64 (y3 : Int), .int .u64 (y4 : Int), .bool yl, .int .i64 ym])).run Try.prog w' = .ok (.bool false) w' := fun w' => by
            have := blk_neq_self wb.norm w'
            rwa [HWB.out, blkV_mk] at this
          have a0 : (w9.alloc (.cells #[.int .u64 (y0 : Int), .int .u64 (y1 : Int), .int .u64 (y2 : Int), .int .u64 (y3 : Int), .int .u64 (y4 : Int), .bool yl, .int .i64 ym] 29)).cell? ⟨R7, 0, none⟩ = some (.int .u64 ((y0 : Int) + 1)) := cell_of_row _ R7 0 _ _ (0, 0) v7
          have a1 : (w9.alloc (.cells #[.int .u64 (y0 : Int), .int .u64 (y1 : Int), .int .u64 (y2 : Int), .int .u64 (y3 : Int), .int .u64 (y4 : Int), .bool yl, .int .i64 ym] 29)).cell? ⟨R7, 1, none⟩ = some (.int .u64 (x1 : Int)) := cell_of_row _ R7 1 _ _ (0, 0) v7
          have a2 : (w9.alloc (.cells #[.int .u64 (y0 : Int), .int .u64 (y1 : Int), .int .u64 (y2 : Int), .int .u64 (y3 : Int), .int .u64 (y4 : Int), .bool yl, .int .i64 ym] 29)).cell? ⟨R7, 2, none⟩ = some (.int .u64 (x2 : Int)) := cell_of_row _ R7 2 _ _ (0, 0) v7
          have a3 : (w9.alloc (.cells #[.int .u64 (y0 : Int), .int .u64 (y1 : Int), .int .u64 (y2 : Int), .int .u64 (y3 : Int), .int .u64 (y4 : Int), .bool yl, .int .i64 ym] 29)).cell? ⟨R7, 3, none⟩ = some (.int .u64 (x3 : Int)) := cell_of_row _ R7 3 _ _ (0, 0) v7
          have a4 : (w9.alloc (.cells #[.int .u64 (y0 : Int), .int .u64 (y1 : Int), .int .u64 (y2 : Int), .int .u64 (y3 : Int), .int .u64 (y4 : Int), .bool yl, .int .i64 ym] 29)).cell? ⟨R7, 4, none⟩ = some (.int .u64 (x4 : Int)) := cell_of_row _ R7 4 _ _ (0, 0) v7
          have a5 : (w9.alloc (.cells #[.int .u64 (y0 : Int), .int .u64 (y1 : Int), .int .u64 (y2 : Int), .int .u64 (y3 : Int), .int .u64 (y4 : Int), .bool yl, .int .i64 ym] 29)).cell? ⟨R7, 5, none⟩ = some (.bool cl) := cell_of_row _ R7 5 _ _ (0, 0) v7
          have a6 : (w9.alloc (.cells #[.int .u64 (y0 : Int), .int .u64 (y1 : Int), .int .u64 (y2 : Int), .int .u64 (y3 : Int), .int .u64 (y4 : Int), .bool yl, .int .i64 ym] 29)).cell? ⟨R7, 6, none⟩ = some (.int .i64 m) := cell_of_row _ R7 6 _ _ (0, 0) v7
          have b0 : (w9.alloc (.cells #[.int .u64 (y0 : Int), .int .u64 (y1 : Int), .int .u64 (y2 : Int), .int .u64 (y3 : Int), .int .u64 (y4 : Int), .bool yl, .int .i64 ym] 29)).cell? ⟨w9.heap.size, 0, none⟩ = some (.int .u64 (y0 : Int)) := cell_of_row _ w9.heap.size 0 _ _ (0, 0) v15
          have b1 : (w9.alloc (.cells #[.int .u64 (y0 : Int), .int .u64 (y1 : Int), .int .u64 (y2 : Int), .int .u64 (y3 : Int), .int .u64 (y4 : Int), .bool yl, .int .i64 ym] 29)).cell? ⟨w9.heap.size, 1, none⟩ = some (.int .u64 (y1 : Int)) := cell_of_row _ w9.heap.size 1 _ _ (0, 0) v15
          have b2 : (w9.alloc (.cells #[.int .u64 (y0 : Int), .int .u64 (y1 : Int), .int .u64 (y2 : Int), .int .u64 (y3 : Int), .int .u64 (y4 : Int), .bool yl, .int .i64 ym] 29)).cell? ⟨w9.heap.size, 2, none⟩ = some (.int .u64 (y2 : Int)) := cell_of_row _ w9.heap.size 2 _ _ (0, 0) v15
          have b3 : (w9.alloc (.cells #[.int .u64 (y0 : Int), .int .u64 (y1 : Int), .int .u64 (y2 : Int), .int .u64 (y3 : Int), .int .u64 (y4 : Int), .bool yl, .int .i64 ym] 29)).cell? ⟨w9.heap.size, 3, none⟩ = some (.int .u64 (y3 : Int)) := cell_of_row _ w9.heap.size 3 _ _ (0, 0) v15
          have b4 : (w9.alloc (.cells #[.int .u64 (y0 : Int), .int .u64 (y1 : Int), .int .u64 (y2 : Int), .int .u64 (y3 : Int), .int .u64 (y4 : Int), .bool yl, .int .i64 ym] 29)).cell? ⟨w9.heap.size, 4, none⟩ = some (.int .u64 (y4 : Int)) := cell_of_row _ w9.heap.size 4 _ _ (0, 0) v15
          have b5 : (w9.alloc (.cells #[.int .u64 (y0 : Int), .int .u64 (y1 : Int), .int .u64 (y2 : Int), .int .u64 (y3 : Int), .int .u64 (y4 : Int), .bool yl, .int .i64 ym] 29)).cell? ⟨w9.heap.size, 5, none⟩ = some (.bool yl) := cell_of_row _ w9.heap.size 5 _ _ (0, 0) v15
          have b6 : (w9.alloc (.cells #[.int .u64 (y0 : Int), .int .u64 (y1 : Int), .int .u64 (y2 : Int), .int .u64 (y3 : Int), .int .u64 (y4 : Int), .bool yl, .int .i64 ym] 29)).cell? ⟨w9.heap.size, 6, none⟩ = some (.int .i64 ym) := cell_of_row _ w9.heap.size 6 _ _ (0, 0) v15
          clear v7 v15
          have v5 := H5.out
          have v7 := HR7.out
          have p0 : (w9.alloc (.cells #[.int .u64 (y0 : Int), .int .u64 (y1 : Int), .int .u64 (y2 : Int), .int .u64 (y3 : Int), .int .u64 (y4 : Int), .bool yl, .int .i64 ym] 29)).cell? ⟨R5, 0, none⟩ = some (.int .u64 (y0 : Int)) := cell_of_row _ R5 0 _ _ (0, 0) v5
          have p1 : (w9.alloc (.cells #[.int .u64 (y0 : Int), .int .u64 (y1 : Int), .int .u64 (y2 : Int), .int .u64 (y3 : Int), .int .u64 (y4 : Int), .bool yl, .int .i64 ym] 29)).cell? ⟨R5, 1, none⟩ = some (.int .u64 (y1 : Int)) := cell_of_row _ R5 1 _ _ (0, 0) v5
          have p2 : (w9.alloc (.cells #[.int .u64 (y0 : Int), .int .u64 (y1 : Int), .int .u64 (y2 : Int), .int .u64 (y3 : Int), .int .u64 (y4 : Int), .bool yl, .int .i64 ym] 29)).cell? ⟨R5, 2, none⟩ = some (.int .u64 (y2 : Int)) := cell_of_row _ R5 2 _ _ (0, 0) v5
          have p3 : (w9.alloc (.cells #[.int .u64 (y0 : Int), .int .u64 (y1 : Int), .int .u64 (y2 : Int), .int .u64 (y3 : Int), .int .u64 (y4 : Int), .bool yl, .int .i64 ym] 29)).cell? ⟨R5, 3, none⟩ = some (.int .u64 (y3 : Int)) := cell_of_row _ R5 3 _ _ (0, 0) v5
          have p4 : (w9.alloc (.cells #[.int .u64 (y0 : Int), .int .u64 (y1 : Int), .int .u64 (y2 : Int), .int .u64 (y3 : Int), .int .u64 (y4 : Int), .bool yl, .int .i64 ym] 29)).cell? ⟨R5, 4, none⟩ = some (.int .u64 (y4 : Int)) := cell_of_row _ R5 4 _ _ (0, 0) v5
          have p5 : (w9.alloc (.cells #[.int .u64 (y0 : Int), .int .u64 (y1 : Int), .int .u64 (y2 : Int), .int .u64 (y3 : Int), .int .u64 (y4 : Int), .bool yl, .int .i64 ym] 29)).cell? ⟨R5, 5, none⟩ = some (.bool yl) := cell_of_row _ R5 5 _ _ (0, 0) v5
          have p6 : (w9.alloc (.cells #[.int .u64 (y0 : Int), .int .u64 (y1 : Int), .int .u64 (y2 : Int), .int .u64 (y3 : Int), .int .u64 (y4 : Int), .bool yl, .int .i64 ym] 29)).cell? ⟨R5, 6, none⟩ = some (.int .i64 ym) := cell_of_row _ R5 6 _ _ (0, 0) v5
          have f0 : (w9.alloc (.cells #[.int .u64 (y0 : Int), .int .u64 (y1 : Int), .int .u64 (y2 : Int), .int .u64 (y3 : Int), .int .u64 (y4 : Int), .bool yl, .int .i64 ym] 29)).frozen? ⟨R5, 0, none⟩ = false := frozen_of_row _ R5 0 _ _ v5
          have f1 : (w9.alloc (.cells #[.int .u64 (y0 : Int), .int .u64 (y1 : Int), .int .u64 (y2 : Int), .int .u64 (y3 : Int), .int .u64 (y4 : Int), .bool yl, .int .i64 ym] 29)).frozen? ⟨R5, 1, none⟩ = false := frozen_of_row _ R5 1 _ _ v5
          have f2 : (w9.alloc (.cells #[.int .u64 (y0 : Int), .int .u64 (y1 : Int), .int .u64 (y2 : Int), .int .u64 (y3 : Int), .int .u64 (y4 : Int), .bool yl, .int .i64 ym] 29)).frozen? ⟨R5, 2, none⟩ = false := frozen_of_row _ R5 2 _ _ v5
          have f3 : (w9.alloc (.cells #[.int .u64 (y0 : Int), .int .u64 (y1 : Int), .int .u64 (y2 : Int), .int .u64 (y3 : Int), .int .u64 (y4 : Int), .bool yl, .int .i64 ym] 29)).frozen? ⟨R5, 3, none⟩ = false := frozen_of_row _ R5 3 _ _ v5
          have f4 : (w9.alloc (.cells #[.int .u64 (y0 : Int), .int .u64 (y1 : Int), .int .u64 (y2 : Int), .int .u64 (y3 : Int), .int .u64 (y4 : Int), .bool yl, .int .i64 ym] 29)).frozen? ⟨R5, 4, none⟩ = false := frozen_of_row _ R5 4 _ _ v5
          have f5 : (w9.alloc (.cells #[.int .u64 (y0 : Int), .int .u64 (y1 : Int), .int .u64 (y2 : Int), .int .u64 (y3 : Int), .int .u64 (y4 : Int), .bool yl, .int .i64 ym] 29)).frozen? ⟨R5, 5, none⟩ = false := frozen_of_row _ R5 5 _ _ v5
          have f6 : (w9.alloc (.cells #[.int .u64 (y0 : Int), .int .u64 (y1 : Int), .int .u64 (y2 : Int), .int .u64 (y3 : Int), .int .u64 (y4 : Int), .bool yl, .int .i64 ym] 29)).frozen? ⟨R5, 6, none⟩ = false := frozen_of_row _ R5 6 _ _ v5
          clear v5 v7
          go_wp2_with fail
          go_roundw
          case rel =>
            have f6 := fr7 (w := (w9.alloc (.cells #[.int .u64 (y0 : Int), .int .u64 (y1 : Int), .int .u64 (y2 : Int), .int .u64 (y3 : Int), .int .u64 (y4 : Int), .bool yl, .int .i64 ym] 29))) (R := R5) (.int .u64 ((y0 : Int) + 1)) (.int .u64 (x1 : Int)) (.int .u64 (x2 : Int)) (.int .u64 (x3 : Int)) (.int .u64 (x4 : Int)) (.bool cl) (.int .i64 m)
            have g6 := DD.out.fr.trans f6 fun j hj h => (by
              have h : j = R5 := h
              have := W5.out
              omega)
            refine ⟨y0 + 1, _, ⟨y0 + 1, x1, x2, x3, x4, cl, im⟩, by omega, by go_num, Lib.hid (DD.out.keep' f6 g6 K5.out rfl), CC2, SQ2, Lib.hid ?_, Lib.hid fun _ => ⟨NBO.out, rfl, NOW.out⟩⟩
            rw [NBV.out]
            exact set7 H5.out rfl _ _ _ _ _ _ _
          case measure => simp [intOf]; omega
        · have hk1 : ¬ (0 : Int) < k := by omega
          have v5 := H5.out
          have v7 := HR7.out
          have p0 : (w6.alloc (.cells #[.int .u64 ((k : Int) + 1), .int .u64 (x1 : Int), .int .u64 (x2 : Int), .int .u64 (x3 : Int), .int .u64 (x4 : Int), .bool cl, .int .i64 m] 29)).cell? ⟨R5, 0, none⟩ = some (.int .u64 (y0 : Int)) := cell_of_row _ R5 0 _ _ (0, 0) v5
          have p1 : (w6.alloc (.cells #[.int .u64 ((k : Int) + 1), .int .u64 (x1 : Int), .int .u64 (x2 : Int), .int .u64 (x3 : Int), .int .u64 (x4 : Int), .bool cl, .int .i64 m] 29)).cell? ⟨R5, 1, none⟩ = some (.int .u64 (y1 : Int)) := cell_of_row _ R5 1 _ _ (0, 0) v5
          have p2 : (w6.alloc (.cells #[.int .u64 ((k : Int) + 1), .int .u64 (x1 : Int), .int .u64 (x2 : Int), .int .u64 (x3 : Int), .int .u64 (x4 : Int), .bool cl, .int .i64 m] 29)).cell? ⟨R5, 2, none⟩ = some (.int .u64 (y2 : Int)) := cell_of_row _ R5 2 _ _ (0, 0) v5
          have p3 : (w6.alloc (.cells #[.int .u64 ((k : Int) + 1), .int .u64 (x1 : Int), .int .u64 (x2 : Int), .int .u64 (x3 : Int), .int .u64 (x4 : Int), .bool cl, .int .i64 m] 29)).cell? ⟨R5, 3, none⟩ = some (.int .u64 (y3 : Int)) := cell_of_row _ R5 3 _ _ (0, 0) v5
          have p4 : (w6.alloc (.cells #[.int .u64 ((k : Int) + 1), .int .u64 (x1 : Int), .int .u64 (x2 : Int), .int .u64 (x3 : Int), .int .u64 (x4 : Int), .bool cl, .int .i64 m] 29)).cell? ⟨R5, 4, none⟩ = some (.int .u64 (y4 : Int)) := cell_of_row _ R5 4 _ _ (0, 0) v5
          have p5 : (w6.alloc (.cells #[.int .u64 ((k : Int) + 1), .int .u64 (x1 : Int), .int .u64 (x2 : Int), .int .u64 (x3 : Int), .int .u64 (x4 : Int), .bool cl, .int .i64 m] 29)).cell? ⟨R5, 5, none⟩ = some (.bool yl) := cell_of_row _ R5 5 _ _ (0, 0) v5
          have p6 : (w6.alloc (.cells #[.int .u64 ((k : Int) + 1), .int .u64 (x1 : Int), .int .u64 (x2 : Int), .int .u64 (x3 : Int), .int .u64 (x4 : Int), .bool cl, .int .i64 m] 29)).cell? ⟨R5, 6, none⟩ = some (.int .i64 ym) := cell_of_row _ R5 6 _ _ (0, 0) v5
          have f0 : (w6.alloc (.cells #[.int .u64 ((k : Int) + 1), .int .u64 (x1 : Int), .int .u64 (x2 : Int), .int .u64 (x3 : Int), .int .u64 (x4 : Int), .bool cl, .int .i64 m] 29)).frozen? ⟨R5, 0, none⟩ = false := frozen_of_row _ R5 0 _ _ v5
          have f1 : (w6.alloc (.cells #[.int .u64 ((k : Int) + 1), .int .u64 (x1 : Int), .int .u64 (x2 : Int), .int .u64 (x3 : Int), .int .u64 (x4 : Int), .bool cl, .int .i64 m] 29)).frozen? ⟨R5, 1, none⟩ = false := frozen_of_row _ R5 1 _ _ v5
          have f2 : (w6.alloc (.cells #[.int .u64 ((k : Int) + 1), .int .u64 (x1 : Int), .int .u64 (x2 : Int), .int .u64 (x3 : Int), .int .u64 (x4 : Int), .bool cl, .int .i64 m] 29)).frozen? ⟨R5, 2, none⟩ = false := frozen_of_row _ R5 2 _ _ v5
          have f3 : (w6.alloc (.cells #[.int .u64 ((k : Int) + 1), .int .u64 (x1 : Int), .int .u64 (x2 : Int), .int .u64 (x3 : Int), .int .u64 (x4 : Int), .bool cl, .int .i64 m] 29)).frozen? ⟨R5, 3, none⟩ = false := frozen_of_row _ R5 3 _ _ v5
          have f4 : (w6.alloc (.cells #[.int .u64 ((k : Int) + 1), .int .u64 (x1 : Int), .int .u64 (x2 : Int), .int .u64 (x3 : Int), .int .u64 (x4 : Int), .bool cl, .int .i64 m] 29)).frozen? ⟨R5, 4, none⟩ = false := frozen_of_row _ R5 4 _ _ v5
          have f5 : (w6.alloc (.cells #[.int .u64 ((k : Int) + 1), .int .u64 (x1 : Int), .int .u64 (x2 : Int), .int .u64 (x3 : Int), .int .u64 (x4 : Int), .bool cl, .int .i64 m] 29)).frozen? ⟨R5, 5, none⟩ = false := frozen_of_row _ R5 5 _ _ v5
          have f6 : (w6.alloc (.cells #[.int .u64 ((k : Int) + 1), .int .u64 (x1 : Int), .int .u64 (x2 : Int), .int .u64 (x3 : Int), .int .u64 (x4 : Int), .bool cl, .int .i64 m] 29)).frozen? ⟨R5, 6, none⟩ = false := frozen_of_row _ R5 6 _ _ v5
          clear v5 v7
          go_wp2_with fail
          go_roundw
          case rel =>
            have f6 := fr7 (w := (w6.alloc (.cells #[.int .u64 ((k : Int) + 1), .int .u64 (x1 : Int), .int .u64 (x2 : Int), .int .u64 (x3 : Int), .int .u64 (x4 : Int), .bool cl, .int .i64 m] 29))) (R := R5) (.int .u64 ((k : Int) + 1)) (.int .u64 (x1 : Int)) (.int .u64 (x2 : Int)) (.int .u64 (x3 : Int)) (.int .u64 (x4 : Int)) (.bool cl) (.int .i64 m)
            have g6 := DD.out.fr.trans f6 fun j hj h => (by
              have h : j = R5 := h
              have := W5.out
              omega)
            refine ⟨k + 1, _, ⟨k + 1, x1, x2, x3, x4, cl, im⟩, by omega, by go_num, Lib.hid (DD.out.keep' f6 g6 K5.out rfl), CC2, SQ2, Lib.hid ?_, Lib.hid fun _ => ⟨NBO.out, rfl, NOW.out⟩⟩
            rw [NBV.out]
            exact set7 H5.out rfl _ _ _ _ _ _ _
          case measure => simp [intOf]; omega
      · have hkn : ¬ (k : Int) < n := by omega
        go_wp2_with fail
        go_ret
        exact ⟨rfl, DD.out.fr⟩
  · have hn20 : (20 : Int) < n := by omega
    go_enter Try.func5, Try.ntmps5
    go_wp2_with fail
    refine (awake5_eq w).mono ?_
    rintro e w0 ⟨rfl, f0⟩
    have F0 := Lib.hid f0
    clear f0
    go_wp2_with fail
    go_ret
    exact ⟨rfl, F0.out⟩

end Go.Proofs.Ytpdljgjofebgpaa
