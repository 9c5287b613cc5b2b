/-
  Law 5: SuperLasts, walked.
-/
import Derived.Test.YtpdljgjofebgpaaSupH
import Derived.Test.YtpdljgjofebgpaaSupI
import Derived.Test.YtpdljgjofebgpaaSuperTurns
namespace Go.Proofs.Ytpdljgjofebgpaa
open Go.RowKit

/-- What the walk knows at the loop's head. -/
structure LastAt (W wr : World) (q : Nat) (K : Nat → Prop) (R6 R11 : Nat) (bb : Blk) (k : Nat) (D : Dv) (p0 p1 : Pg) : Prop where
  dl : DL W wr q K (fun j => j = R11) D
  calm : Calm D
  seq : seqOf D = k
  flat : Flat D p0 p1
  zero : k = 0 → loadD D = none
  pos : 0 < k → (loadD D).isSome = true
  was : wr.heap[R11]? = some (.cells (blkV (decB (loadD D))) 29 (0, 0))
  arg : wr.heap[R6]? = some (.cells (blkV bb) 29 (0, 0))

set_option maxRecDepth 100000 in
set_option maxHeartbeats 4000000 in
theorem superLasts_walk (A : Option Addr) (n cap : Nat) (z : Nat → Blk) (arm : Int) (bb : Blk) (PA : Option Addr) (pn pc : Nat) (pl : List UInt8) (w : World) (hz : BlkRow w A n z) (harm : (Lit.int .i64 arm).wf = true) (hbb : bb.ok) (hp : InB w PA pn pc pl) :
    Calls Try.prog 19 #[.slice A n cap, .int .i64 arm, .agg (blkV bb), .slice PA pn pc] w fun e w' => e = .returned (.bool true) ∧ Fr Nob w w' := by
  have Z := Lib.hid hz
  have BO := Lib.hid hbb
  have PI := Lib.hid hp
  have AR := Lib.hid harm
  obtain ⟨b0, b1, b2, b3, b4, bl, bm, hbq⟩ := blk_cases bb
  have HBQ := Lib.hid hbq
  rw [show blkV bb = #[.int .u64 (b0 : Int), .int .u64 (b1 : Int), .int .u64 (b2 : Int), .int .u64 (b3 : Int), .int .u64 (b4 : Int), .bool bl, .int .i64 bm] by rw [hbq, blkV_mk]]
  clear hz hbb hp harm hbq
  have f6 := (Fr.refl Nob w).alloc (.cells #[.int .u64 (b0 : Int), .int .u64 (b1 : Int), .int .u64 (b2 : Int), .int .u64 (b3 : Int), .int .u64 (b4 : Int), .bool bl, .int .i64 bm] 29)
  have h6 := heap_alloc_new w (.cells #[.int .u64 (b0 : Int), .int .u64 (b1 : Int), .int .u64 (b2 : Int), .int .u64 (b3 : Int), .int .u64 (b4 : Int), .bool bl, .int .i64 bm] 29)
  obtain ⟨R6, hR6⟩ : ∃ R, R = w.heap.size := ⟨_, rfl⟩
  rw [← hR6] at h6
  have E6 := Lib.hid hR6
  have F6 := Lib.hid f6
  have H6 := Lib.hid h6
  clear f6 h6 hR6
  by_cases hn : n ≤ 10
  · have hn10 : ¬ (10 : Int) < n := by omega
    go_enter Try.func19, Try.ntmps19
    go_wp2_with fail
    rw [← E6.out]
    generalize w.alloc (.cells #[.int .u64 (b0 : Int), .int .u64 (b1 : Int), .int .u64 (b2 : Int), .int .u64 (b3 : Int), .int .u64 (b4 : Int), .bool bl, .int .i64 bm] 29) = W at *
    refine (awake5_eq W).mono ?_
    rintro e w0 ⟨rfl, f0⟩
    have F0 := Lib.hid f0
    have H6' := Lib.hid (f0.heap H6.out fun h => h)
    clear f0
    go_wp2_with fail
    refine (DL.new (n := 2) F0.out (by omega) (by omega)).mono ?_
    rintro e w1 ⟨q, K, rfl, d, f1, hK⟩
    have K6 : Hid (¬ K R6) := Lib.hid fun h => by
      have h1 := hK R6 h
      have h2 := lt_of_block H6'.out
      omega
    replace H6' := Lib.hid (f1.heap H6'.out fun h => h)
    have D := Lib.hid d
    clear d f1 hK
    have h5 := heap_alloc_new w1 (.cells #[.int .u64 0, .int .u64 0, .int .u64 0, .int .u64 0, .int .u64 0, .bool false, .int .i64 0] 29)
    have fa := (Fr.refl Nob w1).alloc (.cells #[.int .u64 0, .int .u64 0, .int .u64 0, .int .u64 0, .int .u64 0, .bool false, .int .i64 0] 29)
    have hs : (w1.alloc (.cells #[.int .u64 0, .int .u64 0, .int .u64 0, .int .u64 0, .int .u64 0, .bool false, .int .i64 0] 29)).heap.size = w1.heap.size + 1 := by simp
    obtain ⟨R11, hR11⟩ : ∃ R, R = w1.heap.size := ⟨_, rfl⟩
    have K11 : Hid (¬ K R11) := Lib.hid (D.out.fresh R11 (by rw [hR11]; exact Nat.le_refl _))
    have W11 : Hid (W.heap.size ≤ R11) := Lib.hid (by rw [hR11]; exact D.out.wle)
    have N6 : Hid (R6 ≠ R11) := Lib.hid (by have := lt_of_block H6'.out; omega)
    replace H6' := Lib.hid (fa.heap H6'.out fun h => h)
    rw [← hR11] at h5
    have D1 : Hid (DL W (w1.alloc (.cells #[.int .u64 0, .int .u64 0, .int .u64 0, .int .u64 0, .int .u64 0, .bool false, .int .i64 0] 29)) q K (fun j => j = R11) (Dv.new 2)) := Lib.hid (D.out.more fa fun j hj => (by
      rw [hs]
      right
      omega))
    have L0 : Hid (LastAt W (w1.alloc (.cells #[.int .u64 0, .int .u64 0, .int .u64 0, .int .u64 0, .int .u64 0, .bool false, .int .i64 0] 29)) q K R6 R11 bb 0 (Dv.new 2) .blank .blank) := Lib.hid ⟨D1.out, ⟨rfl, rfl, by decide⟩, (by unfold seqOf; rw [new_load]; rfl), Flat.new, fun _ => new_load, fun h => absurd h (by omega), (by rw [new_load]; exact h5), (by rw [HBQ.out, blkV_mk]; exact H6'.out)⟩
    have E11 := Lib.hid hR11
    clear h5 fa hs hR11 D D1 H6' H6
    go_wp2_with fail
    rw [← E11.out]
    generalize w1.alloc (.cells #[.int .u64 0, .int .u64 0, .int .u64 0, .int .u64 0, .int .u64 0, .bool false, .int .i64 0] 29) = w2 at *
    go_loopw [12, 13] (fun u i wr => ∃ (k : Nat) (D : Dv) (p0 p1 : Pg), k ≤ n ∧ i = .int .i64 k ∧ u = .bool (decide (0 < k)) ∧ Hid (LastAt W wr q K R6 R11 bb k D p0 p1)) (fun _ i _ => n - (intOf i).toNat)
    case atStart => exact ⟨0, _, _, _, by omega, rfl, rfl, L0⟩
    case round =>
      clear L0
      obtain ⟨k, D, p0, p1, hk, rfl, rfl, LA⟩ := hrel
      by_cases hlt : k < n
      · have hkn : (k : Int) < n := by omega
        obtain ⟨b, o, hA⟩ := Z.out.addr (by omega)
        have ZZ := Lib.hid (Z.out.keep (F6.out.trans' LA.out.dl.fr))
        obtain ⟨zk, hzk⟩ : ∃ zk, z k = zk := ⟨_, rfl⟩
        have hzo : zk.ok := by rw [← hzk]; exact Z.out.ok k hlt
        obtain ⟨x0, x1, x2, x3, x4, cl, im, rfl⟩ := blk_cases zk
        have key : ∀ j, j < 7 → wr.cell? ⟨b, o + k * 7 + j, none⟩ = (blkV ⟨x0, x1, x2, x3, x4, cl, im⟩).toList[j]? := by rw [← hzk]; exact fun j hj => ZZ.out.cell hA hlt j hj
        have c0 : wr.cell? ⟨b, o + k * 7, none⟩ = some (.int .u64 (x0 : Int)) := key 0 (by omega)
        have c1 : wr.cell? ⟨b, o + k * 7 + 1, none⟩ = some (.int .u64 (x1 : Int)) := key 1 (by omega)
        have c2 : wr.cell? ⟨b, o + k * 7 + 2, none⟩ = some (.int .u64 (x2 : Int)) := key 2 (by omega)
        have c3 : wr.cell? ⟨b, o + k * 7 + 3, none⟩ = some (.int .u64 (x3 : Int)) := key 3 (by omega)
        have c4 : wr.cell? ⟨b, o + k * 7 + 4, none⟩ = some (.int .u64 (x4 : Int)) := key 4 (by omega)
        have c5 : wr.cell? ⟨b, o + k * 7 + 5, none⟩ = some (.bool cl) := key 5 (by omega)
        have c6 : wr.cell? ⟨b, o + k * 7 + 6, none⟩ = some (.int .i64 im) := key 6 (by omega)
        have CC := Lib.hid LA.out.calm
        have SQ := Lib.hid LA.out.seq
        have DD := Lib.hid LA.out.dl
        have H6 := Lib.hid LA.out.arg
        have H11 := Lib.hid LA.out.was
        obtain ⟨nb, hnb⟩ : ∃ nb : Blk, nb = ⟨k + 1, x1, x2, x3, x4, cl, im⟩ := ⟨_, rfl⟩
        have hbu : bumped D ⟨x0, x1, x2, x3, x4, cl, im⟩ = nb := by unfold bumped; rw [SQ.out, hnb]
        obtain ⟨m, hm⟩ : ∃ m : Int, m = (nb.img : Int) := ⟨_, rfl⟩
        have hnv : blkV nb.norm = #[.int .u64 ((k : Int) + 1), .int .u64 (x1 : Int), .int .u64 (x2 : Int), .int .u64 (x3 : Int), .int .u64 (x4 : Int), .bool cl, .int .i64 m] := by rw [hm, hnb]; rfl
        have hs1 : seqOf D + 1 < 18446744073709551616 := by rw [SQ.out]; omega
        have CC2 := Lib.hid (CC.out.stF ⟨x0, x1, x2, x3, x4, cl, im⟩)
        have SQ2 : Hid (seqOf (stF D ⟨x0, x1, x2, x3, x4, cl, im⟩) = k + 1) := Lib.hid (by rw [CC.out.seq_stF hzo hs1, SQ.out])
        have LD2 : Hid (loadD (stF D ⟨x0, x1, x2, x3, x4, cl, im⟩) = some nb.norm) := Lib.hid (by rw [CC.out.load_stF hzo hs1, hbu])
        obtain ⟨q0, q1, hfl⟩ := LA.out.flat.stF CC.out hzo hs1
        have FL2 := Lib.hid hfl
        have ST : Hid (Calls Try.prog 26 #[.pointer (some ⟨q, 0, none⟩), .agg #[.int .u64 (x0 : Int), .int .u64 (x1 : Int), .int .u64 (x2 : Int), .int .u64 (x3 : Int), .int .u64 (x4 : Int), .bool cl, .int .i64 im]] wr fun e w' => e = .returned (.tuple #[.agg #[.int .u64 ((k : Int) + 1), .int .u64 (x1 : Int), .int .u64 (x2 : Int), .int .u64 (x3 : Int), .int .u64 (x4 : Int), .bool cl, .int .i64 m], .int .i64 0]) ∧ DL W w' q K (fun j => j = R11) (stF D ⟨x0, x1, x2, x3, x4, cl, im⟩) ∧ Fr K wr w') := Lib.hid (by
          have h := store_eq DD.out (by rw [CC.out.1]; omega) (by rw [CC.out.1]; omega) CC.out.2.1 ⟨x0, x1, x2, x3, x4, cl, im⟩ hzo (by omega) false false CC.out.bw (CC.out.bf _)
          rw [show stB D ⟨x0, x1, x2, x3, x4, cl, im⟩ false false = (bumped D ⟨x0, x1, x2, x3, x4, cl, im⟩).norm from rfl, hbu, hnv] at h
          exact h)
        have HNV := Lib.hid hnv
        obtain ⟨y0, y1, y2, y3, y4, yl, ym, hwb⟩ := blk_cases (decB (loadD D))
        rw [hwb, blkV_mk] at H11
        clear hwb hfl LA CC SQ hs1
        generalize stF D ⟨x0, x1, x2, x3, x4, cl, im⟩ = D2 at *
        clear hzk hzo key hnb hbu hm hnv
        subst hA
        go_wp2_with fail
        refine ST.out.mono ?_
        rintro e w3 ⟨rfl, d3, f3⟩
        replace DD := Lib.hid d3
        replace H11 := Lib.hid (f3.heap H11.out K11.out)
        replace H6 := Lib.hid (f3.heap H6.out K6.out)
        clear d3 f3 ST c0 c1 c2 c3 c4 c5 c6
        have fa := (Fr.refl Nob w3).alloc (.cells #[.int .u64 ((k : Int) + 1), .int .u64 (x1 : Int), .int .u64 (x2 : Int), .int .u64 (x3 : Int), .int .u64 (x4 : Int), .bool cl, .int .i64 m] 29)
        have hb := heap_alloc_new w3 (.cells #[.int .u64 ((k : Int) + 1), .int .u64 (x1 : Int), .int .u64 (x2 : Int), .int .u64 (x3 : Int), .int .u64 (x4 : Int), .bool cl, .int .i64 m] 29)
        obtain ⟨R14, hR14⟩ : ∃ R, R = w3.heap.size := ⟨_, rfl⟩
        have KR14 : Hid (¬ K R14) := Lib.hid (DD.out.fresh R14 (by rw [hR14]; exact Nat.le_refl _))
        have NR14 : Hid (R14 ≠ R11 ∧ R14 ≠ R6) := Lib.hid (by have := lt_of_block H11.out; have := lt_of_block H6.out; omega)
        replace DD := Lib.hid (DD.out.nob fa)
        replace H11 := Lib.hid (fa.heap H11.out fun h => h)
        replace H6 := Lib.hid (fa.heap H6.out fun h => h)
        rw [← hR14] at hb
        have HR14 := Lib.hid hb
        have ER14 := Lib.hid hR14
        clear fa hb hR14
        have v7 := HR14.out
        have v11 := H11.out
        rw [ER14.out] at v7
        have a0 : (w3.alloc (.cells #[.int .u64 ((k : Int) + 1), .int .u64 (x1 : Int), .int .u64 (x2 : Int), .int .u64 (x3 : Int), .int .u64 (x4 : Int), .bool cl, .int .i64 m] 29)).cell? ⟨w3.heap.size, 0, none⟩ = some (.int .u64 ((k : Int) + 1)) := cell_of_row _ w3.heap.size 0 _ _ (0, 0) v7
        have a1 : (w3.alloc (.cells #[.int .u64 ((k : Int) + 1), .int .u64 (x1 : Int), .int .u64 (x2 : Int), .int .u64 (x3 : Int), .int .u64 (x4 : Int), .bool cl, .int .i64 m] 29)).cell? ⟨w3.heap.size, 1, none⟩ = some (.int .u64 (x1 : Int)) := cell_of_row _ w3.heap.size 1 _ _ (0, 0) v7
        have a2 : (w3.alloc (.cells #[.int .u64 ((k : Int) + 1), .int .u64 (x1 : Int), .int .u64 (x2 : Int), .int .u64 (x3 : Int), .int .u64 (x4 : Int), .bool cl, .int .i64 m] 29)).cell? ⟨w3.heap.size, 2, none⟩ = some (.int .u64 (x2 : Int)) := cell_of_row _ w3.heap.size 2 _ _ (0, 0) v7
        have a3 : (w3.alloc (.cells #[.int .u64 ((k : Int) + 1), .int .u64 (x1 : Int), .int .u64 (x2 : Int), .int .u64 (x3 : Int), .int .u64 (x4 : Int), .bool cl, .int .i64 m] 29)).cell? ⟨w3.heap.size, 3, none⟩ = some (.int .u64 (x3 : Int)) := cell_of_row _ w3.heap.size 3 _ _ (0, 0) v7
        have a4 : (w3.alloc (.cells #[.int .u64 ((k : Int) + 1), .int .u64 (x1 : Int), .int .u64 (x2 : Int), .int .u64 (x3 : Int), .int .u64 (x4 : Int), .bool cl, .int .i64 m] 29)).cell? ⟨w3.heap.size, 4, none⟩ = some (.int .u64 (x4 : Int)) := cell_of_row _ w3.heap.size 4 _ _ (0, 0) v7
        have a5 : (w3.alloc (.cells #[.int .u64 ((k : Int) + 1), .int .u64 (x1 : Int), .int .u64 (x2 : Int), .int .u64 (x3 : Int), .int .u64 (x4 : Int), .bool cl, .int .i64 m] 29)).cell? ⟨w3.heap.size, 5, none⟩ = some (.bool cl) := cell_of_row _ w3.heap.size 5 _ _ (0, 0) v7
        have a6 : (w3.alloc (.cells #[.int .u64 ((k : Int) + 1), .int .u64 (x1 : Int), .int .u64 (x2 : Int), .int .u64 (x3 : Int), .int .u64 (x4 : Int), .bool cl, .int .i64 m] 29)).cell? ⟨w3.heap.size, 6, none⟩ = some (.int .i64 m) := cell_of_row _ w3.heap.size 6 _ _ (0, 0) v7
        have p0 : (w3.alloc (.cells #[.int .u64 ((k : Int) + 1), .int .u64 (x1 : Int), .int .u64 (x2 : Int), .int .u64 (x3 : Int), .int .u64 (x4 : Int), .bool cl, .int .i64 m] 29)).cell? ⟨R11, 0, none⟩ = some (.int .u64 (y0 : Int)) := cell_of_row _ R11 0 _ _ (0, 0) v11
        have p1 : (w3.alloc (.cells #[.int .u64 ((k : Int) + 1), .int .u64 (x1 : Int), .int .u64 (x2 : Int), .int .u64 (x3 : Int), .int .u64 (x4 : Int), .bool cl, .int .i64 m] 29)).cell? ⟨R11, 1, none⟩ = some (.int .u64 (y1 : Int)) := cell_of_row _ R11 1 _ _ (0, 0) v11
        have p2 : (w3.alloc (.cells #[.int .u64 ((k : Int) + 1), .int .u64 (x1 : Int), .int .u64 (x2 : Int), .int .u64 (x3 : Int), .int .u64 (x4 : Int), .bool cl, .int .i64 m] 29)).cell? ⟨R11, 2, none⟩ = some (.int .u64 (y2 : Int)) := cell_of_row _ R11 2 _ _ (0, 0) v11
        have p3 : (w3.alloc (.cells #[.int .u64 ((k : Int) + 1), .int .u64 (x1 : Int), .int .u64 (x2 : Int), .int .u64 (x3 : Int), .int .u64 (x4 : Int), .bool cl, .int .i64 m] 29)).cell? ⟨R11, 3, none⟩ = some (.int .u64 (y3 : Int)) := cell_of_row _ R11 3 _ _ (0, 0) v11
        have p4 : (w3.alloc (.cells #[.int .u64 ((k : Int) + 1), .int .u64 (x1 : Int), .int .u64 (x2 : Int), .int .u64 (x3 : Int), .int .u64 (x4 : Int), .bool cl, .int .i64 m] 29)).cell? ⟨R11, 4, none⟩ = some (.int .u64 (y4 : Int)) := cell_of_row _ R11 4 _ _ (0, 0) v11
        have p5 : (w3.alloc (.cells #[.int .u64 ((k : Int) + 1), .int .u64 (x1 : Int), .int .u64 (x2 : Int), .int .u64 (x3 : Int), .int .u64 (x4 : Int), .bool cl, .int .i64 m] 29)).cell? ⟨R11, 5, none⟩ = some (.bool yl) := cell_of_row _ R11 5 _ _ (0, 0) v11
        have p6 : (w3.alloc (.cells #[.int .u64 ((k : Int) + 1), .int .u64 (x1 : Int), .int .u64 (x2 : Int), .int .u64 (x3 : Int), .int .u64 (x4 : Int), .bool cl, .int .i64 m] 29)).cell? ⟨R11, 6, none⟩ = some (.int .i64 ym) := cell_of_row _ R11 6 _ _ (0, 0) v11
        have f0 : (w3.alloc (.cells #[.int .u64 ((k : Int) + 1), .int .u64 (x1 : Int), .int .u64 (x2 : Int), .int .u64 (x3 : Int), .int .u64 (x4 : Int), .bool cl, .int .i64 m] 29)).frozen? ⟨R11, 0, none⟩ = false := frozen_of_row _ R11 0 _ _ v11
        have f1 : (w3.alloc (.cells #[.int .u64 ((k : Int) + 1), .int .u64 (x1 : Int), .int .u64 (x2 : Int), .int .u64 (x3 : Int), .int .u64 (x4 : Int), .bool cl, .int .i64 m] 29)).frozen? ⟨R11, 1, none⟩ = false := frozen_of_row _ R11 1 _ _ v11
        have f2 : (w3.alloc (.cells #[.int .u64 ((k : Int) + 1), .int .u64 (x1 : Int), .int .u64 (x2 : Int), .int .u64 (x3 : Int), .int .u64 (x4 : Int), .bool cl, .int .i64 m] 29)).frozen? ⟨R11, 2, none⟩ = false := frozen_of_row _ R11 2 _ _ v11
        have f3 : (w3.alloc (.cells #[.int .u64 ((k : Int) + 1), .int .u64 (x1 : Int), .int .u64 (x2 : Int), .int .u64 (x3 : Int), .int .u64 (x4 : Int), .bool cl, .int .i64 m] 29)).frozen? ⟨R11, 3, none⟩ = false := frozen_of_row _ R11 3 _ _ v11
        have f4 : (w3.alloc (.cells #[.int .u64 ((k : Int) + 1), .int .u64 (x1 : Int), .int .u64 (x2 : Int), .int .u64 (x3 : Int), .int .u64 (x4 : Int), .bool cl, .int .i64 m] 29)).frozen? ⟨R11, 4, none⟩ = false := frozen_of_row _ R11 4 _ _ v11
        have f5 : (w3.alloc (.cells #[.int .u64 ((k : Int) + 1), .int .u64 (x1 : Int), .int .u64 (x2 : Int), .int .u64 (x3 : Int), .int .u64 (x4 : Int), .bool cl, .int .i64 m] 29)).frozen? ⟨R11, 5, none⟩ = false := frozen_of_row _ R11 5 _ _ v11
        have f6 : (w3.alloc (.cells #[.int .u64 ((k : Int) + 1), .int .u64 (x1 : Int), .int .u64 (x2 : Int), .int .u64 (x3 : Int), .int .u64 (x4 : Int), .bool cl, .int .i64 m] 29)).frozen? ⟨R11, 6, none⟩ = false := frozen_of_row _ R11 6 _ _ v11
        clear v7 v11
        go_wp2_with fail
        go_roundw
        case rel =>
          have f6 := fr7 (w := (w3.alloc (.cells #[.int .u64 ((k : Int) + 1), .int .u64 (x1 : Int), .int .u64 (x2 : Int), .int .u64 (x3 : Int), .int .u64 (x4 : Int), .bool cl, .int .i64 m] 29))) (R := R11) (.int .u64 ((k : Int) + 1)) (.int .u64 (x1 : Int)) (.int .u64 (x2 : Int)) (.int .u64 (x3 : Int)) (.int .u64 (x4 : Int)) (.bool cl) (.int .i64 m)
          have g6 := DD.out.fr.trans f6 fun j hj h => (by
            have h : j = R11 := h
            have := W11.out
            omega)
          refine ⟨k + 1, _, q0, q1, by omega, by go_num, by simp, Lib.hid ⟨DD.out.keep' f6 g6 K11.out rfl, CC2.out, SQ2.out, FL2.out, fun h => absurd h (by omega), fun _ => by rw [LD2.out]; rfl, ?_, f6.heap H6.out fun h => N6.out h⟩⟩
          rw [LD2.out, show decB (some nb.norm) = nb.norm from rfl, HNV.out]
          exact set7 H11.out rfl _ _ _ _ _ _ _
        case measure => simp [intOf]; omega
      · have hkn : ¬ (k : Int) < n := by omega
        go_wp2_with fail
        have DD := Lib.hid LA.out.dl
        have CC := Lib.hid LA.out.calm
        have SQ := Lib.hid LA.out.seq
        have H6 := Lib.hid LA.out.arg
        have H11 := Lib.hid LA.out.was
        rw [HBQ.out, blkV_mk] at H6
        refine (DD.out.arm AR.out).mono ?_
        rintro e w3 ⟨rfl, d3, f3⟩
        replace DD := Lib.hid d3
        replace H6 := Lib.hid (f3.heap H6.out K6.out)
        replace H11 := Lib.hid (f3.heap H11.out K11.out)
        clear d3 f3
        have v6 := H6.out
        have a0 : w3.cell? ⟨R6, 0, none⟩ = some (.int .u64 (b0 : Int)) := cell_of_row _ R6 0 _ _ (0, 0) v6
        have a1 : w3.cell? ⟨R6, 1, none⟩ = some (.int .u64 (b1 : Int)) := cell_of_row _ R6 1 _ _ (0, 0) v6
        have a2 : w3.cell? ⟨R6, 2, none⟩ = some (.int .u64 (b2 : Int)) := cell_of_row _ R6 2 _ _ (0, 0) v6
        have a3 : w3.cell? ⟨R6, 3, none⟩ = some (.int .u64 (b3 : Int)) := cell_of_row _ R6 3 _ _ (0, 0) v6
        have a4 : w3.cell? ⟨R6, 4, none⟩ = some (.int .u64 (b4 : Int)) := cell_of_row _ R6 4 _ _ (0, 0) v6
        have a5 : w3.cell? ⟨R6, 5, none⟩ = some (.bool bl) := cell_of_row _ R6 5 _ _ (0, 0) v6
        have a6 : w3.cell? ⟨R6, 6, none⟩ = some (.int .i64 bm) := cell_of_row _ R6 6 _ _ (0, 0) v6
        clear v6
        obtain ⟨bw, hbw⟩ : ∃ x, (reads (D.armed arm) 2).spend.off = x := ⟨_, rfl⟩
        obtain ⟨bf, hbf⟩ : ∃ x, (stW (D.armed arm) bb).spend.off = x := ⟨_, rfl⟩
        have hcut := LA.out.flat.cut arm BO.out (by rw [SQ.out]; omega) pl bw bf hbw hbf
        have hsq := (seqOf_pg (D := D.armed arm) (E := D) rfl).1
        have ST := store_eq DD.out (by show 2 ≤ D.pg.length; rw [CC.out.1]; omega) (by show D.pg.length ≤ 4096; rw [CC.out.1]; omega) CC.out.2.1 bb BO.out (by rw [hsq, SQ.out]; omega) bw bf hbw hbf
        have hsb : stE bw bf = 0 ∧ stB (D.armed arm) bb bw bf = (bumped D bb).norm ∨ stE bw bf = 4 := by
          cases bw with
          | true => exact .inr rfl
          | false =>
            cases bf with
            | true => exact .inr rfl
            | false =>
              refine .inl ⟨rfl, ?_⟩
              show (bumped (D.armed arm) bb).norm = _
              unfold bumped
              rw [hsq]
        generalize stD (D.armed arm) bb bw = D2 at *
        generalize stB (D.armed arm) bb bw bf = S2 at *
        generalize stE bw bf = se at *
        obtain ⟨s0, s1, s2, s3, s4, sl, sm, hs2⟩ := blk_cases S2
        rw [hs2, blkV_mk, HBQ.out, blkV_mk] at ST
        have STH := Lib.hid ST
        have CUT := Lib.hid hcut
        have SB := Lib.hid hsb
        have HS2 := Lib.hid hs2
        clear ST hcut hsb hsq hbw hbf hs2
        go_wp2_with fail
        refine STH.out.mono ?_
        rintro e w4 ⟨rfl, d4, f4⟩
        replace DD := Lib.hid d4
        replace H6 := Lib.hid (f4.heap H6.out K6.out)
        replace H11 := Lib.hid (f4.heap H11.out K11.out)
        clear d4 f4 STH a0 a1 a2 a3 a4 a5 a6
        have fa := (Fr.refl Nob w4).alloc (.cells #[.int .u64 (s0 : Int), .int .u64 (s1 : Int), .int .u64 (s2 : Int), .int .u64 (s3 : Int), .int .u64 (s4 : Int), .bool sl, .int .i64 sm] 29)
        have hb := heap_alloc_new w4 (.cells #[.int .u64 (s0 : Int), .int .u64 (s1 : Int), .int .u64 (s2 : Int), .int .u64 (s3 : Int), .int .u64 (s4 : Int), .bool sl, .int .i64 sm] 29)
        obtain ⟨R16, hR16⟩ : ∃ R, R = w4.heap.size := ⟨_, rfl⟩
        have K16 : Hid (¬ K R16) := Lib.hid (DD.out.fresh R16 (by rw [hR16]; exact Nat.le_refl _))
        replace DD := Lib.hid (DD.out.nob fa)
        replace H6 := Lib.hid (fa.heap H6.out fun h => h)
        replace H11 := Lib.hid (fa.heap H11.out fun h => h)
        rw [← hR16] at hb
        have H16 := Lib.hid hb
        have E16 := Lib.hid hR16
        clear fa hb hR16
        go_wp2_with fail
        rw [← E16.out]
        generalize w4.alloc (.cells #[.int .u64 (s0 : Int), .int .u64 (s1 : Int), .int .u64 (s2 : Int), .int .u64 (s3 : Int), .int .u64 (s4 : Int), .bool sl, .int .i64 sm] 29) = w5 at *
        have rp := PI.out.rd.nob (F6.out.trans' DD.out.fr)
        refine (DD.out.crash rp (by rw [PI.out.len]; exact Nat.le_trans PI.out.le PI.out.max) (fun j hj => fun hK => by
          obtain ⟨P, _, _, hkk, _⟩ := DD.out
          have h1 := hkk j hK
          have h2 := PI.out.old j hj
          have h3 := F6.out.size
          omega)).mono ?_
        rintro e w6 ⟨rfl, d6, f6⟩
        replace DD := Lib.hid d6
        replace H6 := Lib.hid (f6.heap H6.out K6.out)
        replace H11 := Lib.hid (f6.heap H11.out K11.out)
        replace H16 := Lib.hid (f6.heap H16.out K16.out)
        clear d6 f6 rp
        go_wp2_with fail
        refine (DD.out.on).mono ?_
        rintro e w7 ⟨rfl, d7, f7⟩
        replace DD := Lib.hid d7
        replace H6 := Lib.hid (f7.heap H6.out K6.out)
        replace H11 := Lib.hid (f7.heap H11.out K11.out)
        replace H16 := Lib.hid (f7.heap H16.out K16.out)
        clear d7 f7
        obtain ⟨o, ho⟩ : ∃ o, loadD ((D2.crash pl).on) = o := ⟨_, rfl⟩
        have LDH := Lib.hid (load_eq DD.out (by rw [CUT.out.1]; omega) (by rw [CUT.out.1]; omega) CUT.out.2.1 o ho)
        rw [ho] at CUT
        obtain ⟨o0, o1, o2, o3, o4, ol, om, hob⟩ := blk_cases (decB o)
        rw [hob, blkV_mk] at LDH
        have HOB := Lib.hid hob
        clear ho hob
        go_wp2_with fail
        refine LDH.out.mono ?_
        rintro e w8 ⟨rfl, d8, f8⟩
        replace DD := Lib.hid d8
        replace H6 := Lib.hid (f8.heap H6.out K6.out)
        replace H11 := Lib.hid (f8.heap H11.out K11.out)
        replace H16 := Lib.hid (f8.heap H16.out K16.out)
        clear d8 f8 LDH
        rcases SB.out with ⟨rfl, hS⟩ | rfl
        · have ho := CUT.out.2.2.1 rfl
          subst ho
          have hSO : decB (some (bumped D bb).norm) = (bumped D bb).norm := rfl
          rw [← hS, HS2.out] at hSO
          rw [← hS] at HOB
          have hh : (⟨s0, s1, s2, s3, s4, sl, sm⟩ : Blk) = ⟨o0, o1, o2, o3, o4, ol, om⟩ := by rw [← HOB.out, ← HS2.out]; rfl
          injection hh with q0 q1 q2 q3 q4 q5 q6
          subst q0 q1 q2 q3 q4 q5 q6
          have HF := Lib.hid (DD.out.fr.alloc (.cells #[.int .u64 (s0 : Int), .int .u64 (s1 : Int), .int .u64 (s2 : Int), .int .u64 (s3 : Int), .int .u64 (s4 : Int), .bool sl, .int .i64 sm] 29))
          have h18 := heap_alloc_new w8 (.cells #[.int .u64 (s0 : Int), .int .u64 (s1 : Int), .int .u64 (s2 : Int), .int .u64 (s3 : Int), .int .u64 (s4 : Int), .bool sl, .int .i64 sm] 29)
          have fa := (Fr.refl Nob w8).alloc (.cells #[.int .u64 (s0 : Int), .int .u64 (s1 : Int), .int .u64 (s2 : Int), .int .u64 (s3 : Int), .int .u64 (s4 : Int), .bool sl, .int .i64 sm] 29)
          have h16 := fa.heap H16.out fun h => h
          have a0 : (w8.alloc (.cells #[.int .u64 (s0 : Int), .int .u64 (s1 : Int), .int .u64 (s2 : Int), .int .u64 (s3 : Int), .int .u64 (s4 : Int), .bool sl, .int .i64 sm] 29)).cell? ⟨R16, 0, none⟩ = some (.int .u64 (s0 : Int)) := cell_of_row _ R16 0 _ _ (0, 0) h16
          have a1 : (w8.alloc (.cells #[.int .u64 (s0 : Int), .int .u64 (s1 : Int), .int .u64 (s2 : Int), .int .u64 (s3 : Int), .int .u64 (s4 : Int), .bool sl, .int .i64 sm] 29)).cell? ⟨R16, 1, none⟩ = some (.int .u64 (s1 : Int)) := cell_of_row _ R16 1 _ _ (0, 0) h16
          have a2 : (w8.alloc (.cells #[.int .u64 (s0 : Int), .int .u64 (s1 : Int), .int .u64 (s2 : Int), .int .u64 (s3 : Int), .int .u64 (s4 : Int), .bool sl, .int .i64 sm] 29)).cell? ⟨R16, 2, none⟩ = some (.int .u64 (s2 : Int)) := cell_of_row _ R16 2 _ _ (0, 0) h16
          have a3 : (w8.alloc (.cells #[.int .u64 (s0 : Int), .int .u64 (s1 : Int), .int .u64 (s2 : Int), .int .u64 (s3 : Int), .int .u64 (s4 : Int), .bool sl, .int .i64 sm] 29)).cell? ⟨R16, 3, none⟩ = some (.int .u64 (s3 : Int)) := cell_of_row _ R16 3 _ _ (0, 0) h16
          have a4 : (w8.alloc (.cells #[.int .u64 (s0 : Int), .int .u64 (s1 : Int), .int .u64 (s2 : Int), .int .u64 (s3 : Int), .int .u64 (s4 : Int), .bool sl, .int .i64 sm] 29)).cell? ⟨R16, 4, none⟩ = some (.int .u64 (s4 : Int)) := cell_of_row _ R16 4 _ _ (0, 0) h16
          have a5 : (w8.alloc (.cells #[.int .u64 (s0 : Int), .int .u64 (s1 : Int), .int .u64 (s2 : Int), .int .u64 (s3 : Int), .int .u64 (s4 : Int), .bool sl, .int .i64 sm] 29)).cell? ⟨R16, 5, none⟩ = some (.bool sl) := cell_of_row _ R16 5 _ _ (0, 0) h16
          have a6 : (w8.alloc (.cells #[.int .u64 (s0 : Int), .int .u64 (s1 : Int), .int .u64 (s2 : Int), .int .u64 (s3 : Int), .int .u64 (s4 : Int), .bool sl, .int .i64 sm] 29)).cell? ⟨R16, 6, none⟩ = some (.int .i64 sm) := cell_of_row _ R16 6 _ _ (0, 0) h16
          have p0 : (w8.alloc (.cells #[.int .u64 (s0 : Int), .int .u64 (s1 : Int), .int .u64 (s2 : Int), .int .u64 (s3 : Int), .int .u64 (s4 : Int), .bool sl, .int .i64 sm] 29)).cell? ⟨w8.heap.size, 0, none⟩ = some (.int .u64 (s0 : Int)) := cell_of_row _ w8.heap.size 0 _ _ (0, 0) h18
          have p1 : (w8.alloc (.cells #[.int .u64 (s0 : Int), .int .u64 (s1 : Int), .int .u64 (s2 : Int), .int .u64 (s3 : Int), .int .u64 (s4 : Int), .bool sl, .int .i64 sm] 29)).cell? ⟨w8.heap.size, 1, none⟩ = some (.int .u64 (s1 : Int)) := cell_of_row _ w8.heap.size 1 _ _ (0, 0) h18
          have p2 : (w8.alloc (.cells #[.int .u64 (s0 : Int), .int .u64 (s1 : Int), .int .u64 (s2 : Int), .int .u64 (s3 : Int), .int .u64 (s4 : Int), .bool sl, .int .i64 sm] 29)).cell? ⟨w8.heap.size, 2, none⟩ = some (.int .u64 (s2 : Int)) := cell_of_row _ w8.heap.size 2 _ _ (0, 0) h18
          have p3 : (w8.alloc (.cells #[.int .u64 (s0 : Int), .int .u64 (s1 : Int), .int .u64 (s2 : Int), .int .u64 (s3 : Int), .int .u64 (s4 : Int), .bool sl, .int .i64 sm] 29)).cell? ⟨w8.heap.size, 3, none⟩ = some (.int .u64 (s3 : Int)) := cell_of_row _ w8.heap.size 3 _ _ (0, 0) h18
          have p4 : (w8.alloc (.cells #[.int .u64 (s0 : Int), .int .u64 (s1 : Int), .int .u64 (s2 : Int), .int .u64 (s3 : Int), .int .u64 (s4 : Int), .bool sl, .int .i64 sm] 29)).cell? ⟨w8.heap.size, 4, none⟩ = some (.int .u64 (s4 : Int)) := cell_of_row _ w8.heap.size 4 _ _ (0, 0) h18
          have p5 : (w8.alloc (.cells #[.int .u64 (s0 : Int), .int .u64 (s1 : Int), .int .u64 (s2 : Int), .int .u64 (s3 : Int), .int .u64 (s4 : Int), .bool sl, .int .i64 sm] 29)).cell? ⟨w8.heap.size, 5, none⟩ = some (.bool sl) := cell_of_row _ w8.heap.size 5 _ _ (0, 0) h18
          have p6 : (w8.alloc (.cells #[.int .u64 (s0 : Int), .int .u64 (s1 : Int), .int .u64 (s2 : Int), .int .u64 (s3 : Int), .int .u64 (s4 : Int), .bool sl, .int .i64 sm] 29)).cell? ⟨w8.heap.size, 6, none⟩ = some (.int .i64 sm) := cell_of_row _ w8.heap.size 6 _ _ (0, 0) h18
          have hq : ∀ w', (binOp .eql 29 (.agg #[.int .u64 (s0 : Int), .int .u64 (s1 : Int), .int .u64 (s2 : Int), .int .u64 (s3 : Int), .int .u64 (s4 : Int), .bool sl, .int .i64 sm]) (.agg #[.int .u64 (s0 : Int), .int .u64 (s1 : Int), .int .u64 (s2 : Int), .int .u64 (s3 : Int), .int .u64 (s4 : Int), .bool sl, .int .i64 sm])).run Try.prog w' = .ok (.bool true) w' := fun w' => by
            have := blk_eql ⟨s0, s1, s2, s3, s4, sl, sm⟩ ⟨s0, s1, s2, s3, s4, sl, sm⟩ w'
            rwa [decide_eq_true rfl, blkV_mk] at this
          rw [show loadE (some (bumped D bb).norm) = 0 from rfl]
          clear fa h16 h18 hSO hS
          go_wp2_with fail
          go_ret
          exact ⟨rfl, F6.out.trans' HF.out⟩
        · have hor := CUT.out.2.2.2
          obtain ⟨y0, y1, y2, y3, y4, yl, ym, hy⟩ := blk_cases (decB (loadD D))
          have hy0 : k = y0 := by
            have := SQ.out
            unfold seqOf at this
            rw [hy] at this
            exact this.symm
          subst hy0
          rw [hy, blkV_mk] at H11
          obtain ⟨mi, hmi⟩ : ∃ m : Int, m = (bb.img : Int) := ⟨_, rfl⟩
          have hnv : (bumped D bb).norm = ⟨k + 1, b1, b2, b3, b4, bl, mi⟩ := by
            rw [hmi, HBQ.out]
            unfold bumped
            rw [SQ.out]
            rfl
          have hmc : (bm < 0 ∧ mi = 0) ∨ (¬ bm < 0 ∧ 2147483647 < bm ∧ mi = 0) ∨ (¬ bm < 0 ∧ ¬ 2147483647 < bm ∧ mi = bm) := by
            have hi : bb.img = if 0 ≤ bm ∧ bm ≤ 2147483647 then bm.toNat else 0 := by rw [HBQ.out]; rfl
            rw [hmi, hi]
            split <;> omega
          have hbw : IntKind.u64.wrap ((k : Int) + 1) = (k : Int) + 1 := by rw [IntKind.wrap_u64]; omega
          have hqN : ∀ w', (binOp .eql 29 (.agg #[.int .u64 ((k : Int) + 1), .int .u64 (b1 : Int), .int .u64 (b2 : Int), .int .u64 (b3 : Int), .int .u64 (b4 : Int), .bool bl, .int .i64 mi]) (.agg #[.int .u64 ((k : Int) + 1), .int .u64 (b1 : Int), .int .u64 (b2 : Int), .int .u64 (b3 : Int), .int .u64 (b4 : Int), .bool bl, .int .i64 mi])).run Try.prog w' = .ok (.bool true) w' := fun w' => by
            have := blk_eql ⟨k + 1, b1, b2, b3, b4, bl, mi⟩ ⟨k + 1, b1, b2, b3, b4, bl, mi⟩ w'
            rwa [decide_eq_true rfl, blkV_mk] at this
          have hqK : ∀ w', (binOp .eql 29 (.agg #[.int .u64 (k : Int), .int .u64 (y1 : Int), .int .u64 (y2 : Int), .int .u64 (y3 : Int), .int .u64 (y4 : Int), .bool yl, .int .i64 ym]) (.agg #[.int .u64 (k : Int), .int .u64 (y1 : Int), .int .u64 (y2 : Int), .int .u64 (y3 : Int), .int .u64 (y4 : Int), .bool yl, .int .i64 ym])).run Try.prog w' = .ok (.bool true) w' := fun w' => by
            have := blk_eql ⟨k, y1, y2, y3, y4, yl, ym⟩ ⟨k, y1, y2, y3, y4, yl, ym⟩ w'
            rwa [decide_eq_true rfl, blkV_mk] at this
          have hqF : ∀ w', (binOp .eql 29 (.agg #[.int .u64 ((k : Int) + 1), .int .u64 (b1 : Int), .int .u64 (b2 : Int), .int .u64 (b3 : Int), .int .u64 (b4 : Int), .bool bl, .int .i64 mi]) (.agg #[.int .u64 (k : Int), .int .u64 (y1 : Int), .int .u64 (y2 : Int), .int .u64 (y3 : Int), .int .u64 (y4 : Int), .bool yl, .int .i64 ym])).run Try.prog w' = .ok (.bool false) w' := fun w' => by
            have := blk_eql ⟨k + 1, b1, b2, b3, b4, bl, mi⟩ ⟨k, y1, y2, y3, y4, yl, ym⟩ w'
            rwa [decide_eq_false (by intro h; injection h with h; omega), blkV_mk, blkV_mk] at this
          have h3 : (k = 0 ∧ o = none) ∨ (0 < k ∧ o = loadD D ∧ loadE o = 0) ∨ o = some (bumped D bb).norm := by
            rcases hor with h | h
            · by_cases hk0 : k = 0
              · exact .inl ⟨hk0, by rw [h]; exact LA.out.zero hk0⟩
              · refine .inr (.inl ⟨by omega, h, ?_⟩)
                have := LA.out.pos (by omega)
                rw [← h] at this
                cases o with
                | none => cases this
                | some x => rfl
            · exact .inr (.inr h)
          have HY := Lib.hid hy
          have HNV := Lib.hid hnv
          clear hor hy hmi hnv
          rcases h3 with ⟨hk0, rfl⟩ | ⟨hk0, ho, hle⟩ | rfl
          · rw [show loadE none = 5 from rfl, show decide (0 < k) = false from decide_eq_false (by omega)]
            have HF := Lib.hid (DD.out.fr.alloc (.cells #[.int .u64 (o0 : Int), .int .u64 (o1 : Int), .int .u64 (o2 : Int), .int .u64 (o3 : Int), .int .u64 (o4 : Int), .bool ol, .int .i64 om] 29))
            clear hqN hqK hqF hbw
            go_wp2_with fail
            go_ret
            exact ⟨rfl, F6.out.trans' HF.out⟩
          · rw [hle, show decide (0 < k) = true from decide_eq_true hk0]
            have hh : (⟨o0, o1, o2, o3, o4, ol, om⟩ : Blk) = ⟨k, y1, y2, y3, y4, yl, ym⟩ := by rw [← HOB.out, ho, HY.out]
            injection hh with q0 q1 q2 q3 q4 q5 q6
            subst q0 q1 q2 q3 q4 q5 q6
            have HF : Hid (Fr Nob w ((w8.alloc (.cells #[.int .u64 (o0 : Int), .int .u64 (o1 : Int), .int .u64 (o2 : Int), .int .u64 (o3 : Int), .int .u64 (o4 : Int), .bool ol, .int .i64 om] 29)).alloc (.cells #[.int .u64 (b0 : Int), .int .u64 (b1 : Int), .int .u64 (b2 : Int), .int .u64 (b3 : Int), .int .u64 (b4 : Int), .bool bl, .int .i64 bm] 29))) := Lib.hid ((F6.out.trans' DD.out.fr).alloc _ |>.alloc _)
            have fa := (Fr.refl Nob w8).alloc (.cells #[.int .u64 (o0 : Int), .int .u64 (o1 : Int), .int .u64 (o2 : Int), .int .u64 (o3 : Int), .int .u64 (o4 : Int), .bool ol, .int .i64 om] 29)
            have fb := (Fr.refl Nob (w8.alloc (.cells #[.int .u64 (o0 : Int), .int .u64 (o1 : Int), .int .u64 (o2 : Int), .int .u64 (o3 : Int), .int .u64 (o4 : Int), .bool ol, .int .i64 om] 29))).alloc (.cells #[.int .u64 (b0 : Int), .int .u64 (b1 : Int), .int .u64 (b2 : Int), .int .u64 (b3 : Int), .int .u64 (b4 : Int), .bool bl, .int .i64 bm] 29)
            have hsz : (w8.alloc (.cells #[.int .u64 (o0 : Int), .int .u64 (o1 : Int), .int .u64 (o2 : Int), .int .u64 (o3 : Int), .int .u64 (o4 : Int), .bool ol, .int .i64 om] 29)).heap.size = w8.heap.size + 1 := by simp
            have h18 := fb.heap (heap_alloc_new w8 (.cells #[.int .u64 (o0 : Int), .int .u64 (o1 : Int), .int .u64 (o2 : Int), .int .u64 (o3 : Int), .int .u64 (o4 : Int), .bool ol, .int .i64 om] 29)) fun h => h
            have h20 := heap_alloc_new (w8.alloc (.cells #[.int .u64 (o0 : Int), .int .u64 (o1 : Int), .int .u64 (o2 : Int), .int .u64 (o3 : Int), .int .u64 (o4 : Int), .bool ol, .int .i64 om] 29)) (.cells #[.int .u64 (b0 : Int), .int .u64 (b1 : Int), .int .u64 (b2 : Int), .int .u64 (b3 : Int), .int .u64 (b4 : Int), .bool bl, .int .i64 bm] 29)
            rw [hsz] at h20
            have h6 := fa.heap H6.out fun h => h
            have h11 := fb.heap (fa.heap H11.out fun h => h) fun h => h
            have a0 : (w8.alloc (.cells #[.int .u64 (o0 : Int), .int .u64 (o1 : Int), .int .u64 (o2 : Int), .int .u64 (o3 : Int), .int .u64 (o4 : Int), .bool ol, .int .i64 om] 29)).cell? ⟨R6, 0, none⟩ = some (.int .u64 (b0 : Int)) := cell_of_row _ R6 0 _ _ (0, 0) h6
            have a1 : (w8.alloc (.cells #[.int .u64 (o0 : Int), .int .u64 (o1 : Int), .int .u64 (o2 : Int), .int .u64 (o3 : Int), .int .u64 (o4 : Int), .bool ol, .int .i64 om] 29)).cell? ⟨R6, 1, none⟩ = some (.int .u64 (b1 : Int)) := cell_of_row _ R6 1 _ _ (0, 0) h6
            have a2 : (w8.alloc (.cells #[.int .u64 (o0 : Int), .int .u64 (o1 : Int), .int .u64 (o2 : Int), .int .u64 (o3 : Int), .int .u64 (o4 : Int), .bool ol, .int .i64 om] 29)).cell? ⟨R6, 2, none⟩ = some (.int .u64 (b2 : Int)) := cell_of_row _ R6 2 _ _ (0, 0) h6
            have a3 : (w8.alloc (.cells #[.int .u64 (o0 : Int), .int .u64 (o1 : Int), .int .u64 (o2 : Int), .int .u64 (o3 : Int), .int .u64 (o4 : Int), .bool ol, .int .i64 om] 29)).cell? ⟨R6, 3, none⟩ = some (.int .u64 (b3 : Int)) := cell_of_row _ R6 3 _ _ (0, 0) h6
            have a4 : (w8.alloc (.cells #[.int .u64 (o0 : Int), .int .u64 (o1 : Int), .int .u64 (o2 : Int), .int .u64 (o3 : Int), .int .u64 (o4 : Int), .bool ol, .int .i64 om] 29)).cell? ⟨R6, 4, none⟩ = some (.int .u64 (b4 : Int)) := cell_of_row _ R6 4 _ _ (0, 0) h6
            have a5 : (w8.alloc (.cells #[.int .u64 (o0 : Int), .int .u64 (o1 : Int), .int .u64 (o2 : Int), .int .u64 (o3 : Int), .int .u64 (o4 : Int), .bool ol, .int .i64 om] 29)).cell? ⟨R6, 5, none⟩ = some (.bool bl) := cell_of_row _ R6 5 _ _ (0, 0) h6
            have a6 : (w8.alloc (.cells #[.int .u64 (o0 : Int), .int .u64 (o1 : Int), .int .u64 (o2 : Int), .int .u64 (o3 : Int), .int .u64 (o4 : Int), .bool ol, .int .i64 om] 29)).cell? ⟨R6, 6, none⟩ = some (.int .i64 bm) := cell_of_row _ R6 6 _ _ (0, 0) h6
            have x0 : ((w8.alloc (.cells #[.int .u64 (o0 : Int), .int .u64 (o1 : Int), .int .u64 (o2 : Int), .int .u64 (o3 : Int), .int .u64 (o4 : Int), .bool ol, .int .i64 om] 29)).alloc (.cells #[.int .u64 (b0 : Int), .int .u64 (b1 : Int), .int .u64 (b2 : Int), .int .u64 (b3 : Int), .int .u64 (b4 : Int), .bool bl, .int .i64 bm] 29)).cell? ⟨w8.heap.size, 0, none⟩ = some (.int .u64 (o0 : Int)) := cell_of_row _ w8.heap.size 0 _ _ (0, 0) h18
            have x1 : ((w8.alloc (.cells #[.int .u64 (o0 : Int), .int .u64 (o1 : Int), .int .u64 (o2 : Int), .int .u64 (o3 : Int), .int .u64 (o4 : Int), .bool ol, .int .i64 om] 29)).alloc (.cells #[.int .u64 (b0 : Int), .int .u64 (b1 : Int), .int .u64 (b2 : Int), .int .u64 (b3 : Int), .int .u64 (b4 : Int), .bool bl, .int .i64 bm] 29)).cell? ⟨w8.heap.size, 1, none⟩ = some (.int .u64 (o1 : Int)) := cell_of_row _ w8.heap.size 1 _ _ (0, 0) h18
            have x2 : ((w8.alloc (.cells #[.int .u64 (o0 : Int), .int .u64 (o1 : Int), .int .u64 (o2 : Int), .int .u64 (o3 : Int), .int .u64 (o4 : Int), .bool ol, .int .i64 om] 29)).alloc (.cells #[.int .u64 (b0 : Int), .int .u64 (b1 : Int), .int .u64 (b2 : Int), .int .u64 (b3 : Int), .int .u64 (b4 : Int), .bool bl, .int .i64 bm] 29)).cell? ⟨w8.heap.size, 2, none⟩ = some (.int .u64 (o2 : Int)) := cell_of_row _ w8.heap.size 2 _ _ (0, 0) h18
            have x3 : ((w8.alloc (.cells #[.int .u64 (o0 : Int), .int .u64 (o1 : Int), .int .u64 (o2 : Int), .int .u64 (o3 : Int), .int .u64 (o4 : Int), .bool ol, .int .i64 om] 29)).alloc (.cells #[.int .u64 (b0 : Int), .int .u64 (b1 : Int), .int .u64 (b2 : Int), .int .u64 (b3 : Int), .int .u64 (b4 : Int), .bool bl, .int .i64 bm] 29)).cell? ⟨w8.heap.size, 3, none⟩ = some (.int .u64 (o3 : Int)) := cell_of_row _ w8.heap.size 3 _ _ (0, 0) h18
            have x4 : ((w8.alloc (.cells #[.int .u64 (o0 : Int), .int .u64 (o1 : Int), .int .u64 (o2 : Int), .int .u64 (o3 : Int), .int .u64 (o4 : Int), .bool ol, .int .i64 om] 29)).alloc (.cells #[.int .u64 (b0 : Int), .int .u64 (b1 : Int), .int .u64 (b2 : Int), .int .u64 (b3 : Int), .int .u64 (b4 : Int), .bool bl, .int .i64 bm] 29)).cell? ⟨w8.heap.size, 4, none⟩ = some (.int .u64 (o4 : Int)) := cell_of_row _ w8.heap.size 4 _ _ (0, 0) h18
            have x5 : ((w8.alloc (.cells #[.int .u64 (o0 : Int), .int .u64 (o1 : Int), .int .u64 (o2 : Int), .int .u64 (o3 : Int), .int .u64 (o4 : Int), .bool ol, .int .i64 om] 29)).alloc (.cells #[.int .u64 (b0 : Int), .int .u64 (b1 : Int), .int .u64 (b2 : Int), .int .u64 (b3 : Int), .int .u64 (b4 : Int), .bool bl, .int .i64 bm] 29)).cell? ⟨w8.heap.size, 5, none⟩ = some (.bool ol) := cell_of_row _ w8.heap.size 5 _ _ (0, 0) h18
            have x6 : ((w8.alloc (.cells #[.int .u64 (o0 : Int), .int .u64 (o1 : Int), .int .u64 (o2 : Int), .int .u64 (o3 : Int), .int .u64 (o4 : Int), .bool ol, .int .i64 om] 29)).alloc (.cells #[.int .u64 (b0 : Int), .int .u64 (b1 : Int), .int .u64 (b2 : Int), .int .u64 (b3 : Int), .int .u64 (b4 : Int), .bool bl, .int .i64 bm] 29)).cell? ⟨w8.heap.size, 6, none⟩ = some (.int .i64 om) := cell_of_row _ w8.heap.size 6 _ _ (0, 0) h18
            have g0 : ((w8.alloc (.cells #[.int .u64 (o0 : Int), .int .u64 (o1 : Int), .int .u64 (o2 : Int), .int .u64 (o3 : Int), .int .u64 (o4 : Int), .bool ol, .int .i64 om] 29)).alloc (.cells #[.int .u64 (b0 : Int), .int .u64 (b1 : Int), .int .u64 (b2 : Int), .int .u64 (b3 : Int), .int .u64 (b4 : Int), .bool bl, .int .i64 bm] 29)).cell? ⟨R11, 0, none⟩ = some (.int .u64 (o0 : Int)) := cell_of_row _ R11 0 _ _ (0, 0) h11
            have g1 : ((w8.alloc (.cells #[.int .u64 (o0 : Int), .int .u64 (o1 : Int), .int .u64 (o2 : Int), .int .u64 (o3 : Int), .int .u64 (o4 : Int), .bool ol, .int .i64 om] 29)).alloc (.cells #[.int .u64 (b0 : Int), .int .u64 (b1 : Int), .int .u64 (b2 : Int), .int .u64 (b3 : Int), .int .u64 (b4 : Int), .bool bl, .int .i64 bm] 29)).cell? ⟨R11, 1, none⟩ = some (.int .u64 (o1 : Int)) := cell_of_row _ R11 1 _ _ (0, 0) h11
            have g2 : ((w8.alloc (.cells #[.int .u64 (o0 : Int), .int .u64 (o1 : Int), .int .u64 (o2 : Int), .int .u64 (o3 : Int), .int .u64 (o4 : Int), .bool ol, .int .i64 om] 29)).alloc (.cells #[.int .u64 (b0 : Int), .int .u64 (b1 : Int), .int .u64 (b2 : Int), .int .u64 (b3 : Int), .int .u64 (b4 : Int), .bool bl, .int .i64 bm] 29)).cell? ⟨R11, 2, none⟩ = some (.int .u64 (o2 : Int)) := cell_of_row _ R11 2 _ _ (0, 0) h11
            have g3 : ((w8.alloc (.cells #[.int .u64 (o0 : Int), .int .u64 (o1 : Int), .int .u64 (o2 : Int), .int .u64 (o3 : Int), .int .u64 (o4 : Int), .bool ol, .int .i64 om] 29)).alloc (.cells #[.int .u64 (b0 : Int), .int .u64 (b1 : Int), .int .u64 (b2 : Int), .int .u64 (b3 : Int), .int .u64 (b4 : Int), .bool bl, .int .i64 bm] 29)).cell? ⟨R11, 3, none⟩ = some (.int .u64 (o3 : Int)) := cell_of_row _ R11 3 _ _ (0, 0) h11
            have g4 : ((w8.alloc (.cells #[.int .u64 (o0 : Int), .int .u64 (o1 : Int), .int .u64 (o2 : Int), .int .u64 (o3 : Int), .int .u64 (o4 : Int), .bool ol, .int .i64 om] 29)).alloc (.cells #[.int .u64 (b0 : Int), .int .u64 (b1 : Int), .int .u64 (b2 : Int), .int .u64 (b3 : Int), .int .u64 (b4 : Int), .bool bl, .int .i64 bm] 29)).cell? ⟨R11, 4, none⟩ = some (.int .u64 (o4 : Int)) := cell_of_row _ R11 4 _ _ (0, 0) h11
            have g5 : ((w8.alloc (.cells #[.int .u64 (o0 : Int), .int .u64 (o1 : Int), .int .u64 (o2 : Int), .int .u64 (o3 : Int), .int .u64 (o4 : Int), .bool ol, .int .i64 om] 29)).alloc (.cells #[.int .u64 (b0 : Int), .int .u64 (b1 : Int), .int .u64 (b2 : Int), .int .u64 (b3 : Int), .int .u64 (b4 : Int), .bool bl, .int .i64 bm] 29)).cell? ⟨R11, 5, none⟩ = some (.bool ol) := cell_of_row _ R11 5 _ _ (0, 0) h11
            have g6 : ((w8.alloc (.cells #[.int .u64 (o0 : Int), .int .u64 (o1 : Int), .int .u64 (o2 : Int), .int .u64 (o3 : Int), .int .u64 (o4 : Int), .bool ol, .int .i64 om] 29)).alloc (.cells #[.int .u64 (b0 : Int), .int .u64 (b1 : Int), .int .u64 (b2 : Int), .int .u64 (b3 : Int), .int .u64 (b4 : Int), .bool bl, .int .i64 bm] 29)).cell? ⟨R11, 6, none⟩ = some (.int .i64 om) := cell_of_row _ R11 6 _ _ (0, 0) h11
            have r0 : ((w8.alloc (.cells #[.int .u64 (o0 : Int), .int .u64 (o1 : Int), .int .u64 (o2 : Int), .int .u64 (o3 : Int), .int .u64 (o4 : Int), .bool ol, .int .i64 om] 29)).alloc (.cells #[.int .u64 (b0 : Int), .int .u64 (b1 : Int), .int .u64 (b2 : Int), .int .u64 (b3 : Int), .int .u64 (b4 : Int), .bool bl, .int .i64 bm] 29)).cell? ⟨(w8.heap.size + 1), 0, none⟩ = some (.int .u64 (b0 : Int)) := cell_of_row _ (w8.heap.size + 1) 0 _ _ (0, 0) h20
            have r1 : ((w8.alloc (.cells #[.int .u64 (o0 : Int), .int .u64 (o1 : Int), .int .u64 (o2 : Int), .int .u64 (o3 : Int), .int .u64 (o4 : Int), .bool ol, .int .i64 om] 29)).alloc (.cells #[.int .u64 (b0 : Int), .int .u64 (b1 : Int), .int .u64 (b2 : Int), .int .u64 (b3 : Int), .int .u64 (b4 : Int), .bool bl, .int .i64 bm] 29)).cell? ⟨(w8.heap.size + 1), 1, none⟩ = some (.int .u64 (b1 : Int)) := cell_of_row _ (w8.heap.size + 1) 1 _ _ (0, 0) h20
            have r2 : ((w8.alloc (.cells #[.int .u64 (o0 : Int), .int .u64 (o1 : Int), .int .u64 (o2 : Int), .int .u64 (o3 : Int), .int .u64 (o4 : Int), .bool ol, .int .i64 om] 29)).alloc (.cells #[.int .u64 (b0 : Int), .int .u64 (b1 : Int), .int .u64 (b2 : Int), .int .u64 (b3 : Int), .int .u64 (b4 : Int), .bool bl, .int .i64 bm] 29)).cell? ⟨(w8.heap.size + 1), 2, none⟩ = some (.int .u64 (b2 : Int)) := cell_of_row _ (w8.heap.size + 1) 2 _ _ (0, 0) h20
            have r3 : ((w8.alloc (.cells #[.int .u64 (o0 : Int), .int .u64 (o1 : Int), .int .u64 (o2 : Int), .int .u64 (o3 : Int), .int .u64 (o4 : Int), .bool ol, .int .i64 om] 29)).alloc (.cells #[.int .u64 (b0 : Int), .int .u64 (b1 : Int), .int .u64 (b2 : Int), .int .u64 (b3 : Int), .int .u64 (b4 : Int), .bool bl, .int .i64 bm] 29)).cell? ⟨(w8.heap.size + 1), 3, none⟩ = some (.int .u64 (b3 : Int)) := cell_of_row _ (w8.heap.size + 1) 3 _ _ (0, 0) h20
            have r4 : ((w8.alloc (.cells #[.int .u64 (o0 : Int), .int .u64 (o1 : Int), .int .u64 (o2 : Int), .int .u64 (o3 : Int), .int .u64 (o4 : Int), .bool ol, .int .i64 om] 29)).alloc (.cells #[.int .u64 (b0 : Int), .int .u64 (b1 : Int), .int .u64 (b2 : Int), .int .u64 (b3 : Int), .int .u64 (b4 : Int), .bool bl, .int .i64 bm] 29)).cell? ⟨(w8.heap.size + 1), 4, none⟩ = some (.int .u64 (b4 : Int)) := cell_of_row _ (w8.heap.size + 1) 4 _ _ (0, 0) h20
            have r5 : ((w8.alloc (.cells #[.int .u64 (o0 : Int), .int .u64 (o1 : Int), .int .u64 (o2 : Int), .int .u64 (o3 : Int), .int .u64 (o4 : Int), .bool ol, .int .i64 om] 29)).alloc (.cells #[.int .u64 (b0 : Int), .int .u64 (b1 : Int), .int .u64 (b2 : Int), .int .u64 (b3 : Int), .int .u64 (b4 : Int), .bool bl, .int .i64 bm] 29)).cell? ⟨(w8.heap.size + 1), 5, none⟩ = some (.bool bl) := cell_of_row _ (w8.heap.size + 1) 5 _ _ (0, 0) h20
            have r6 : ((w8.alloc (.cells #[.int .u64 (o0 : Int), .int .u64 (o1 : Int), .int .u64 (o2 : Int), .int .u64 (o3 : Int), .int .u64 (o4 : Int), .bool ol, .int .i64 om] 29)).alloc (.cells #[.int .u64 (b0 : Int), .int .u64 (b1 : Int), .int .u64 (b2 : Int), .int .u64 (b3 : Int), .int .u64 (b4 : Int), .bool bl, .int .i64 bm] 29)).cell? ⟨(w8.heap.size + 1), 6, none⟩ = some (.int .i64 bm) := cell_of_row _ (w8.heap.size + 1) 6 _ _ (0, 0) h20
            have f0 : ((w8.alloc (.cells #[.int .u64 (o0 : Int), .int .u64 (o1 : Int), .int .u64 (o2 : Int), .int .u64 (o3 : Int), .int .u64 (o4 : Int), .bool ol, .int .i64 om] 29)).alloc (.cells #[.int .u64 (b0 : Int), .int .u64 (b1 : Int), .int .u64 (b2 : Int), .int .u64 (b3 : Int), .int .u64 (b4 : Int), .bool bl, .int .i64 bm] 29)).frozen? ⟨(w8.heap.size + 1), 0, none⟩ = false := frozen_of_row _ (w8.heap.size + 1) 0 _ _ h20
            have f1 : ((w8.alloc (.cells #[.int .u64 (o0 : Int), .int .u64 (o1 : Int), .int .u64 (o2 : Int), .int .u64 (o3 : Int), .int .u64 (o4 : Int), .bool ol, .int .i64 om] 29)).alloc (.cells #[.int .u64 (b0 : Int), .int .u64 (b1 : Int), .int .u64 (b2 : Int), .int .u64 (b3 : Int), .int .u64 (b4 : Int), .bool bl, .int .i64 bm] 29)).frozen? ⟨(w8.heap.size + 1), 1, none⟩ = false := frozen_of_row _ (w8.heap.size + 1) 1 _ _ h20
            have f2 : ((w8.alloc (.cells #[.int .u64 (o0 : Int), .int .u64 (o1 : Int), .int .u64 (o2 : Int), .int .u64 (o3 : Int), .int .u64 (o4 : Int), .bool ol, .int .i64 om] 29)).alloc (.cells #[.int .u64 (b0 : Int), .int .u64 (b1 : Int), .int .u64 (b2 : Int), .int .u64 (b3 : Int), .int .u64 (b4 : Int), .bool bl, .int .i64 bm] 29)).frozen? ⟨(w8.heap.size + 1), 2, none⟩ = false := frozen_of_row _ (w8.heap.size + 1) 2 _ _ h20
            have f3 : ((w8.alloc (.cells #[.int .u64 (o0 : Int), .int .u64 (o1 : Int), .int .u64 (o2 : Int), .int .u64 (o3 : Int), .int .u64 (o4 : Int), .bool ol, .int .i64 om] 29)).alloc (.cells #[.int .u64 (b0 : Int), .int .u64 (b1 : Int), .int .u64 (b2 : Int), .int .u64 (b3 : Int), .int .u64 (b4 : Int), .bool bl, .int .i64 bm] 29)).frozen? ⟨(w8.heap.size + 1), 3, none⟩ = false := frozen_of_row _ (w8.heap.size + 1) 3 _ _ h20
            have f4 : ((w8.alloc (.cells #[.int .u64 (o0 : Int), .int .u64 (o1 : Int), .int .u64 (o2 : Int), .int .u64 (o3 : Int), .int .u64 (o4 : Int), .bool ol, .int .i64 om] 29)).alloc (.cells #[.int .u64 (b0 : Int), .int .u64 (b1 : Int), .int .u64 (b2 : Int), .int .u64 (b3 : Int), .int .u64 (b4 : Int), .bool bl, .int .i64 bm] 29)).frozen? ⟨(w8.heap.size + 1), 4, none⟩ = false := frozen_of_row _ (w8.heap.size + 1) 4 _ _ h20
            have f5 : ((w8.alloc (.cells #[.int .u64 (o0 : Int), .int .u64 (o1 : Int), .int .u64 (o2 : Int), .int .u64 (o3 : Int), .int .u64 (o4 : Int), .bool ol, .int .i64 om] 29)).alloc (.cells #[.int .u64 (b0 : Int), .int .u64 (b1 : Int), .int .u64 (b2 : Int), .int .u64 (b3 : Int), .int .u64 (b4 : Int), .bool bl, .int .i64 bm] 29)).frozen? ⟨(w8.heap.size + 1), 5, none⟩ = false := frozen_of_row _ (w8.heap.size + 1) 5 _ _ h20
            have f6 : ((w8.alloc (.cells #[.int .u64 (o0 : Int), .int .u64 (o1 : Int), .int .u64 (o2 : Int), .int .u64 (o3 : Int), .int .u64 (o4 : Int), .bool ol, .int .i64 om] 29)).alloc (.cells #[.int .u64 (b0 : Int), .int .u64 (b1 : Int), .int .u64 (b2 : Int), .int .u64 (b3 : Int), .int .u64 (b4 : Int), .bool bl, .int .i64 bm] 29)).frozen? ⟨(w8.heap.size + 1), 6, none⟩ = false := frozen_of_row _ (w8.heap.size + 1) 6 _ _ h20
            have n1 : ¬ R11 = w8.heap.size + 1 := by have := lt_of_block H11.out; omega
            have n2 : ¬ w8.heap.size + 1 = R11 := by have := lt_of_block H11.out; omega
            have W20 : Hid (w.heap.size ≤ w8.heap.size + 1) := Lib.hid (by have := (F6.out.trans' DD.out.fr).size; omega)
            clear fa fb hsz h18 h20 h6 h11
            rcases hmc with ⟨hm1, rfl⟩ | ⟨hm1, hm2, rfl⟩ | ⟨hm1, hm2, rfl⟩
            · have h11 := (((Fr.refl Nob w8).alloc (.cells #[.int .u64 (o0 : Int), .int .u64 (o1 : Int), .int .u64 (o2 : Int), .int .u64 (o3 : Int), .int .u64 (o4 : Int), .bool ol, .int .i64 om] 29)).alloc (.cells #[.int .u64 ((o0 : Int) + 1), .int .u64 (b1 : Int), .int .u64 (b2 : Int), .int .u64 (b3 : Int), .int .u64 (b4 : Int), .bool bl, .int .i64 0] 29)).heap H11.out fun h => h
              have v0 : ((w8.alloc (.cells #[.int .u64 (o0 : Int), .int .u64 (o1 : Int), .int .u64 (o2 : Int), .int .u64 (o3 : Int), .int .u64 (o4 : Int), .bool ol, .int .i64 om] 29)).alloc (.cells #[.int .u64 ((o0 : Int) + 1), .int .u64 (b1 : Int), .int .u64 (b2 : Int), .int .u64 (b3 : Int), .int .u64 (b4 : Int), .bool bl, .int .i64 0] 29)).cell? ⟨R11, 0, none⟩ = some (.int .u64 (o0 : Int)) := cell_of_row _ R11 0 _ _ (0, 0) h11
              have v1 : ((w8.alloc (.cells #[.int .u64 (o0 : Int), .int .u64 (o1 : Int), .int .u64 (o2 : Int), .int .u64 (o3 : Int), .int .u64 (o4 : Int), .bool ol, .int .i64 om] 29)).alloc (.cells #[.int .u64 ((o0 : Int) + 1), .int .u64 (b1 : Int), .int .u64 (b2 : Int), .int .u64 (b3 : Int), .int .u64 (b4 : Int), .bool bl, .int .i64 0] 29)).cell? ⟨R11, 1, none⟩ = some (.int .u64 (o1 : Int)) := cell_of_row _ R11 1 _ _ (0, 0) h11
              have v2 : ((w8.alloc (.cells #[.int .u64 (o0 : Int), .int .u64 (o1 : Int), .int .u64 (o2 : Int), .int .u64 (o3 : Int), .int .u64 (o4 : Int), .bool ol, .int .i64 om] 29)).alloc (.cells #[.int .u64 ((o0 : Int) + 1), .int .u64 (b1 : Int), .int .u64 (b2 : Int), .int .u64 (b3 : Int), .int .u64 (b4 : Int), .bool bl, .int .i64 0] 29)).cell? ⟨R11, 2, none⟩ = some (.int .u64 (o2 : Int)) := cell_of_row _ R11 2 _ _ (0, 0) h11
              have v3 : ((w8.alloc (.cells #[.int .u64 (o0 : Int), .int .u64 (o1 : Int), .int .u64 (o2 : Int), .int .u64 (o3 : Int), .int .u64 (o4 : Int), .bool ol, .int .i64 om] 29)).alloc (.cells #[.int .u64 ((o0 : Int) + 1), .int .u64 (b1 : Int), .int .u64 (b2 : Int), .int .u64 (b3 : Int), .int .u64 (b4 : Int), .bool bl, .int .i64 0] 29)).cell? ⟨R11, 3, none⟩ = some (.int .u64 (o3 : Int)) := cell_of_row _ R11 3 _ _ (0, 0) h11
              have v4 : ((w8.alloc (.cells #[.int .u64 (o0 : Int), .int .u64 (o1 : Int), .int .u64 (o2 : Int), .int .u64 (o3 : Int), .int .u64 (o4 : Int), .bool ol, .int .i64 om] 29)).alloc (.cells #[.int .u64 ((o0 : Int) + 1), .int .u64 (b1 : Int), .int .u64 (b2 : Int), .int .u64 (b3 : Int), .int .u64 (b4 : Int), .bool bl, .int .i64 0] 29)).cell? ⟨R11, 4, none⟩ = some (.int .u64 (o4 : Int)) := cell_of_row _ R11 4 _ _ (0, 0) h11
              have v5 : ((w8.alloc (.cells #[.int .u64 (o0 : Int), .int .u64 (o1 : Int), .int .u64 (o2 : Int), .int .u64 (o3 : Int), .int .u64 (o4 : Int), .bool ol, .int .i64 om] 29)).alloc (.cells #[.int .u64 ((o0 : Int) + 1), .int .u64 (b1 : Int), .int .u64 (b2 : Int), .int .u64 (b3 : Int), .int .u64 (b4 : Int), .bool bl, .int .i64 0] 29)).cell? ⟨R11, 5, none⟩ = some (.bool ol) := cell_of_row _ R11 5 _ _ (0, 0) h11
              have v6 : ((w8.alloc (.cells #[.int .u64 (o0 : Int), .int .u64 (o1 : Int), .int .u64 (o2 : Int), .int .u64 (o3 : Int), .int .u64 (o4 : Int), .bool ol, .int .i64 om] 29)).alloc (.cells #[.int .u64 ((o0 : Int) + 1), .int .u64 (b1 : Int), .int .u64 (b2 : Int), .int .u64 (b3 : Int), .int .u64 (b4 : Int), .bool bl, .int .i64 0] 29)).cell? ⟨R11, 6, none⟩ = some (.int .i64 om) := cell_of_row _ R11 6 _ _ (0, 0) h11
              clear h11
              go_wp2_with fail
              go_ret
              refine ⟨rfl, ?_⟩
              first
              | exact ((F6.out.trans' DD.out.fr).alloc _).alloc _
              | exact (HF.out.setCell ⟨w8.heap.size + 1, 0, none⟩ (fun h => absurd h (by have := W20.out; show ¬ (w8.heap.size + 1 < w.heap.size); omega)) _).setCell ⟨w8.heap.size + 1, 6, none⟩ (fun h => absurd h (by have := W20.out; show ¬ (w8.heap.size + 1 < w.heap.size); omega)) _
            · have h11 := (((Fr.refl Nob w8).alloc (.cells #[.int .u64 (o0 : Int), .int .u64 (o1 : Int), .int .u64 (o2 : Int), .int .u64 (o3 : Int), .int .u64 (o4 : Int), .bool ol, .int .i64 om] 29)).alloc (.cells #[.int .u64 ((o0 : Int) + 1), .int .u64 (b1 : Int), .int .u64 (b2 : Int), .int .u64 (b3 : Int), .int .u64 (b4 : Int), .bool bl, .int .i64 0] 29)).heap H11.out fun h => h
              have v0 : ((w8.alloc (.cells #[.int .u64 (o0 : Int), .int .u64 (o1 : Int), .int .u64 (o2 : Int), .int .u64 (o3 : Int), .int .u64 (o4 : Int), .bool ol, .int .i64 om] 29)).alloc (.cells #[.int .u64 ((o0 : Int) + 1), .int .u64 (b1 : Int), .int .u64 (b2 : Int), .int .u64 (b3 : Int), .int .u64 (b4 : Int), .bool bl, .int .i64 0] 29)).cell? ⟨R11, 0, none⟩ = some (.int .u64 (o0 : Int)) := cell_of_row _ R11 0 _ _ (0, 0) h11
              have v1 : ((w8.alloc (.cells #[.int .u64 (o0 : Int), .int .u64 (o1 : Int), .int .u64 (o2 : Int), .int .u64 (o3 : Int), .int .u64 (o4 : Int), .bool ol, .int .i64 om] 29)).alloc (.cells #[.int .u64 ((o0 : Int) + 1), .int .u64 (b1 : Int), .int .u64 (b2 : Int), .int .u64 (b3 : Int), .int .u64 (b4 : Int), .bool bl, .int .i64 0] 29)).cell? ⟨R11, 1, none⟩ = some (.int .u64 (o1 : Int)) := cell_of_row _ R11 1 _ _ (0, 0) h11
              have v2 : ((w8.alloc (.cells #[.int .u64 (o0 : Int), .int .u64 (o1 : Int), .int .u64 (o2 : Int), .int .u64 (o3 : Int), .int .u64 (o4 : Int), .bool ol, .int .i64 om] 29)).alloc (.cells #[.int .u64 ((o0 : Int) + 1), .int .u64 (b1 : Int), .int .u64 (b2 : Int), .int .u64 (b3 : Int), .int .u64 (b4 : Int), .bool bl, .int .i64 0] 29)).cell? ⟨R11, 2, none⟩ = some (.int .u64 (o2 : Int)) := cell_of_row _ R11 2 _ _ (0, 0) h11
              have v3 : ((w8.alloc (.cells #[.int .u64 (o0 : Int), .int .u64 (o1 : Int), .int .u64 (o2 : Int), .int .u64 (o3 : Int), .int .u64 (o4 : Int), .bool ol, .int .i64 om] 29)).alloc (.cells #[.int .u64 ((o0 : Int) + 1), .int .u64 (b1 : Int), .int .u64 (b2 : Int), .int .u64 (b3 : Int), .int .u64 (b4 : Int), .bool bl, .int .i64 0] 29)).cell? ⟨R11, 3, none⟩ = some (.int .u64 (o3 : Int)) := cell_of_row _ R11 3 _ _ (0, 0) h11
              have v4 : ((w8.alloc (.cells #[.int .u64 (o0 : Int), .int .u64 (o1 : Int), .int .u64 (o2 : Int), .int .u64 (o3 : Int), .int .u64 (o4 : Int), .bool ol, .int .i64 om] 29)).alloc (.cells #[.int .u64 ((o0 : Int) + 1), .int .u64 (b1 : Int), .int .u64 (b2 : Int), .int .u64 (b3 : Int), .int .u64 (b4 : Int), .bool bl, .int .i64 0] 29)).cell? ⟨R11, 4, none⟩ = some (.int .u64 (o4 : Int)) := cell_of_row _ R11 4 _ _ (0, 0) h11
              have v5 : ((w8.alloc (.cells #[.int .u64 (o0 : Int), .int .u64 (o1 : Int), .int .u64 (o2 : Int), .int .u64 (o3 : Int), .int .u64 (o4 : Int), .bool ol, .int .i64 om] 29)).alloc (.cells #[.int .u64 ((o0 : Int) + 1), .int .u64 (b1 : Int), .int .u64 (b2 : Int), .int .u64 (b3 : Int), .int .u64 (b4 : Int), .bool bl, .int .i64 0] 29)).cell? ⟨R11, 5, none⟩ = some (.bool ol) := cell_of_row _ R11 5 _ _ (0, 0) h11
              have v6 : ((w8.alloc (.cells #[.int .u64 (o0 : Int), .int .u64 (o1 : Int), .int .u64 (o2 : Int), .int .u64 (o3 : Int), .int .u64 (o4 : Int), .bool ol, .int .i64 om] 29)).alloc (.cells #[.int .u64 ((o0 : Int) + 1), .int .u64 (b1 : Int), .int .u64 (b2 : Int), .int .u64 (b3 : Int), .int .u64 (b4 : Int), .bool bl, .int .i64 0] 29)).cell? ⟨R11, 6, none⟩ = some (.int .i64 om) := cell_of_row _ R11 6 _ _ (0, 0) h11
              clear h11
              go_wp2_with fail
              go_ret
              refine ⟨rfl, ?_⟩
              first
              | exact ((F6.out.trans' DD.out.fr).alloc _).alloc _
              | exact (HF.out.setCell ⟨w8.heap.size + 1, 0, none⟩ (fun h => absurd h (by have := W20.out; show ¬ (w8.heap.size + 1 < w.heap.size); omega)) _).setCell ⟨w8.heap.size + 1, 6, none⟩ (fun h => absurd h (by have := W20.out; show ¬ (w8.heap.size + 1 < w.heap.size); omega)) _
            · have h11 := (((Fr.refl Nob w8).alloc (.cells #[.int .u64 (o0 : Int), .int .u64 (o1 : Int), .int .u64 (o2 : Int), .int .u64 (o3 : Int), .int .u64 (o4 : Int), .bool ol, .int .i64 om] 29)).alloc (.cells #[.int .u64 ((o0 : Int) + 1), .int .u64 (b1 : Int), .int .u64 (b2 : Int), .int .u64 (b3 : Int), .int .u64 (b4 : Int), .bool bl, .int .i64 mi] 29)).heap H11.out fun h => h
              have v0 : ((w8.alloc (.cells #[.int .u64 (o0 : Int), .int .u64 (o1 : Int), .int .u64 (o2 : Int), .int .u64 (o3 : Int), .int .u64 (o4 : Int), .bool ol, .int .i64 om] 29)).alloc (.cells #[.int .u64 ((o0 : Int) + 1), .int .u64 (b1 : Int), .int .u64 (b2 : Int), .int .u64 (b3 : Int), .int .u64 (b4 : Int), .bool bl, .int .i64 mi] 29)).cell? ⟨R11, 0, none⟩ = some (.int .u64 (o0 : Int)) := cell_of_row _ R11 0 _ _ (0, 0) h11
              have v1 : ((w8.alloc (.cells #[.int .u64 (o0 : Int), .int .u64 (o1 : Int), .int .u64 (o2 : Int), .int .u64 (o3 : Int), .int .u64 (o4 : Int), .bool ol, .int .i64 om] 29)).alloc (.cells #[.int .u64 ((o0 : Int) + 1), .int .u64 (b1 : Int), .int .u64 (b2 : Int), .int .u64 (b3 : Int), .int .u64 (b4 : Int), .bool bl, .int .i64 mi] 29)).cell? ⟨R11, 1, none⟩ = some (.int .u64 (o1 : Int)) := cell_of_row _ R11 1 _ _ (0, 0) h11
              have v2 : ((w8.alloc (.cells #[.int .u64 (o0 : Int), .int .u64 (o1 : Int), .int .u64 (o2 : Int), .int .u64 (o3 : Int), .int .u64 (o4 : Int), .bool ol, .int .i64 om] 29)).alloc (.cells #[.int .u64 ((o0 : Int) + 1), .int .u64 (b1 : Int), .int .u64 (b2 : Int), .int .u64 (b3 : Int), .int .u64 (b4 : Int), .bool bl, .int .i64 mi] 29)).cell? ⟨R11, 2, none⟩ = some (.int .u64 (o2 : Int)) := cell_of_row _ R11 2 _ _ (0, 0) h11
              have v3 : ((w8.alloc (.cells #[.int .u64 (o0 : Int), .int .u64 (o1 : Int), .int .u64 (o2 : Int), .int .u64 (o3 : Int), .int .u64 (o4 : Int), .bool ol, .int .i64 om] 29)).alloc (.cells #[.int .u64 ((o0 : Int) + 1), .int .u64 (b1 : Int), .int .u64 (b2 : Int), .int .u64 (b3 : Int), .int .u64 (b4 : Int), .bool bl, .int .i64 mi] 29)).cell? ⟨R11, 3, none⟩ = some (.int .u64 (o3 : Int)) := cell_of_row _ R11 3 _ _ (0, 0) h11
              have v4 : ((w8.alloc (.cells #[.int .u64 (o0 : Int), .int .u64 (o1 : Int), .int .u64 (o2 : Int), .int .u64 (o3 : Int), .int .u64 (o4 : Int), .bool ol, .int .i64 om] 29)).alloc (.cells #[.int .u64 ((o0 : Int) + 1), .int .u64 (b1 : Int), .int .u64 (b2 : Int), .int .u64 (b3 : Int), .int .u64 (b4 : Int), .bool bl, .int .i64 mi] 29)).cell? ⟨R11, 4, none⟩ = some (.int .u64 (o4 : Int)) := cell_of_row _ R11 4 _ _ (0, 0) h11
              have v5 : ((w8.alloc (.cells #[.int .u64 (o0 : Int), .int .u64 (o1 : Int), .int .u64 (o2 : Int), .int .u64 (o3 : Int), .int .u64 (o4 : Int), .bool ol, .int .i64 om] 29)).alloc (.cells #[.int .u64 ((o0 : Int) + 1), .int .u64 (b1 : Int), .int .u64 (b2 : Int), .int .u64 (b3 : Int), .int .u64 (b4 : Int), .bool bl, .int .i64 mi] 29)).cell? ⟨R11, 5, none⟩ = some (.bool ol) := cell_of_row _ R11 5 _ _ (0, 0) h11
              have v6 : ((w8.alloc (.cells #[.int .u64 (o0 : Int), .int .u64 (o1 : Int), .int .u64 (o2 : Int), .int .u64 (o3 : Int), .int .u64 (o4 : Int), .bool ol, .int .i64 om] 29)).alloc (.cells #[.int .u64 ((o0 : Int) + 1), .int .u64 (b1 : Int), .int .u64 (b2 : Int), .int .u64 (b3 : Int), .int .u64 (b4 : Int), .bool bl, .int .i64 mi] 29)).cell? ⟨R11, 6, none⟩ = some (.int .i64 om) := cell_of_row _ R11 6 _ _ (0, 0) h11
              clear h11
              go_wp2_with fail
              go_ret
              refine ⟨rfl, ?_⟩
              first
              | exact ((F6.out.trans' DD.out.fr).alloc _).alloc _
              | exact HF.out.setCell ⟨w8.heap.size + 1, 0, none⟩ (fun h => absurd h (by have := W20.out; show ¬ (w8.heap.size + 1 < w.heap.size); omega)) _
          · rw [show loadE (some (bumped D bb).norm) = 0 from rfl]
            have hh : (⟨k + 1, b1, b2, b3, b4, bl, mi⟩ : Blk) = ⟨o0, o1, o2, o3, o4, ol, om⟩ := by rw [← HOB.out, ← HNV.out]; rfl
            injection hh with q0 q1 q2 q3 q4 q5 q6
            subst q0 q1 q2 q3 q4 q5 q6
            have hcast : ((k + 1 : Nat) : Int) = (k : Int) + 1 := by omega
            rw [hcast]
            clear hcast
            by_cases hk0 : 0 < k
            · rw [show decide (0 < k) = true from decide_eq_true hk0]
              have HF : Hid (Fr Nob w ((w8.alloc (.cells #[.int .u64 ((k : Int) + 1), .int .u64 (b1 : Int), .int .u64 (b2 : Int), .int .u64 (b3 : Int), .int .u64 (b4 : Int), .bool bl, .int .i64 mi] 29)).alloc (.cells #[.int .u64 (b0 : Int), .int .u64 (b1 : Int), .int .u64 (b2 : Int), .int .u64 (b3 : Int), .int .u64 (b4 : Int), .bool bl, .int .i64 bm] 29))) := Lib.hid ((F6.out.trans' DD.out.fr).alloc _ |>.alloc _)
              have fa := (Fr.refl Nob w8).alloc (.cells #[.int .u64 ((k : Int) + 1), .int .u64 (b1 : Int), .int .u64 (b2 : Int), .int .u64 (b3 : Int), .int .u64 (b4 : Int), .bool bl, .int .i64 mi] 29)
              have fb := (Fr.refl Nob (w8.alloc (.cells #[.int .u64 ((k : Int) + 1), .int .u64 (b1 : Int), .int .u64 (b2 : Int), .int .u64 (b3 : Int), .int .u64 (b4 : Int), .bool bl, .int .i64 mi] 29))).alloc (.cells #[.int .u64 (b0 : Int), .int .u64 (b1 : Int), .int .u64 (b2 : Int), .int .u64 (b3 : Int), .int .u64 (b4 : Int), .bool bl, .int .i64 bm] 29)
              have hsz : (w8.alloc (.cells #[.int .u64 ((k : Int) + 1), .int .u64 (b1 : Int), .int .u64 (b2 : Int), .int .u64 (b3 : Int), .int .u64 (b4 : Int), .bool bl, .int .i64 mi] 29)).heap.size = w8.heap.size + 1 := by simp
              have h18 := fb.heap (heap_alloc_new w8 (.cells #[.int .u64 ((k : Int) + 1), .int .u64 (b1 : Int), .int .u64 (b2 : Int), .int .u64 (b3 : Int), .int .u64 (b4 : Int), .bool bl, .int .i64 mi] 29)) fun h => h
              have h20 := heap_alloc_new (w8.alloc (.cells #[.int .u64 ((k : Int) + 1), .int .u64 (b1 : Int), .int .u64 (b2 : Int), .int .u64 (b3 : Int), .int .u64 (b4 : Int), .bool bl, .int .i64 mi] 29)) (.cells #[.int .u64 (b0 : Int), .int .u64 (b1 : Int), .int .u64 (b2 : Int), .int .u64 (b3 : Int), .int .u64 (b4 : Int), .bool bl, .int .i64 bm] 29)
              rw [hsz] at h20
              have h6 := fa.heap H6.out fun h => h
              have h11 := fb.heap (fa.heap H11.out fun h => h) fun h => h
              have a0 : (w8.alloc (.cells #[.int .u64 ((k : Int) + 1), .int .u64 (b1 : Int), .int .u64 (b2 : Int), .int .u64 (b3 : Int), .int .u64 (b4 : Int), .bool bl, .int .i64 mi] 29)).cell? ⟨R6, 0, none⟩ = some (.int .u64 (b0 : Int)) := cell_of_row _ R6 0 _ _ (0, 0) h6
              have a1 : (w8.alloc (.cells #[.int .u64 ((k : Int) + 1), .int .u64 (b1 : Int), .int .u64 (b2 : Int), .int .u64 (b3 : Int), .int .u64 (b4 : Int), .bool bl, .int .i64 mi] 29)).cell? ⟨R6, 1, none⟩ = some (.int .u64 (b1 : Int)) := cell_of_row _ R6 1 _ _ (0, 0) h6
              have a2 : (w8.alloc (.cells #[.int .u64 ((k : Int) + 1), .int .u64 (b1 : Int), .int .u64 (b2 : Int), .int .u64 (b3 : Int), .int .u64 (b4 : Int), .bool bl, .int .i64 mi] 29)).cell? ⟨R6, 2, none⟩ = some (.int .u64 (b2 : Int)) := cell_of_row _ R6 2 _ _ (0, 0) h6
              have a3 : (w8.alloc (.cells #[.int .u64 ((k : Int) + 1), .int .u64 (b1 : Int), .int .u64 (b2 : Int), .int .u64 (b3 : Int), .int .u64 (b4 : Int), .bool bl, .int .i64 mi] 29)).cell? ⟨R6, 3, none⟩ = some (.int .u64 (b3 : Int)) := cell_of_row _ R6 3 _ _ (0, 0) h6
              have a4 : (w8.alloc (.cells #[.int .u64 ((k : Int) + 1), .int .u64 (b1 : Int), .int .u64 (b2 : Int), .int .u64 (b3 : Int), .int .u64 (b4 : Int), .bool bl, .int .i64 mi] 29)).cell? ⟨R6, 4, none⟩ = some (.int .u64 (b4 : Int)) := cell_of_row _ R6 4 _ _ (0, 0) h6
              have a5 : (w8.alloc (.cells #[.int .u64 ((k : Int) + 1), .int .u64 (b1 : Int), .int .u64 (b2 : Int), .int .u64 (b3 : Int), .int .u64 (b4 : Int), .bool bl, .int .i64 mi] 29)).cell? ⟨R6, 5, none⟩ = some (.bool bl) := cell_of_row _ R6 5 _ _ (0, 0) h6
              have a6 : (w8.alloc (.cells #[.int .u64 ((k : Int) + 1), .int .u64 (b1 : Int), .int .u64 (b2 : Int), .int .u64 (b3 : Int), .int .u64 (b4 : Int), .bool bl, .int .i64 mi] 29)).cell? ⟨R6, 6, none⟩ = some (.int .i64 bm) := cell_of_row _ R6 6 _ _ (0, 0) h6
              have x0 : ((w8.alloc (.cells #[.int .u64 ((k : Int) + 1), .int .u64 (b1 : Int), .int .u64 (b2 : Int), .int .u64 (b3 : Int), .int .u64 (b4 : Int), .bool bl, .int .i64 mi] 29)).alloc (.cells #[.int .u64 (b0 : Int), .int .u64 (b1 : Int), .int .u64 (b2 : Int), .int .u64 (b3 : Int), .int .u64 (b4 : Int), .bool bl, .int .i64 bm] 29)).cell? ⟨w8.heap.size, 0, none⟩ = some (.int .u64 ((k : Int) + 1)) := cell_of_row _ w8.heap.size 0 _ _ (0, 0) h18
              have x1 : ((w8.alloc (.cells #[.int .u64 ((k : Int) + 1), .int .u64 (b1 : Int), .int .u64 (b2 : Int), .int .u64 (b3 : Int), .int .u64 (b4 : Int), .bool bl, .int .i64 mi] 29)).alloc (.cells #[.int .u64 (b0 : Int), .int .u64 (b1 : Int), .int .u64 (b2 : Int), .int .u64 (b3 : Int), .int .u64 (b4 : Int), .bool bl, .int .i64 bm] 29)).cell? ⟨w8.heap.size, 1, none⟩ = some (.int .u64 (b1 : Int)) := cell_of_row _ w8.heap.size 1 _ _ (0, 0) h18
              have x2 : ((w8.alloc (.cells #[.int .u64 ((k : Int) + 1), .int .u64 (b1 : Int), .int .u64 (b2 : Int), .int .u64 (b3 : Int), .int .u64 (b4 : Int), .bool bl, .int .i64 mi] 29)).alloc (.cells #[.int .u64 (b0 : Int), .int .u64 (b1 : Int), .int .u64 (b2 : Int), .int .u64 (b3 : Int), .int .u64 (b4 : Int), .bool bl, .int .i64 bm] 29)).cell? ⟨w8.heap.size, 2, none⟩ = some (.int .u64 (b2 : Int)) := cell_of_row _ w8.heap.size 2 _ _ (0, 0) h18
              have x3 : ((w8.alloc (.cells #[.int .u64 ((k : Int) + 1), .int .u64 (b1 : Int), .int .u64 (b2 : Int), .int .u64 (b3 : Int), .int .u64 (b4 : Int), .bool bl, .int .i64 mi] 29)).alloc (.cells #[.int .u64 (b0 : Int), .int .u64 (b1 : Int), .int .u64 (b2 : Int), .int .u64 (b3 : Int), .int .u64 (b4 : Int), .bool bl, .int .i64 bm] 29)).cell? ⟨w8.heap.size, 3, none⟩ = some (.int .u64 (b3 : Int)) := cell_of_row _ w8.heap.size 3 _ _ (0, 0) h18
              have x4 : ((w8.alloc (.cells #[.int .u64 ((k : Int) + 1), .int .u64 (b1 : Int), .int .u64 (b2 : Int), .int .u64 (b3 : Int), .int .u64 (b4 : Int), .bool bl, .int .i64 mi] 29)).alloc (.cells #[.int .u64 (b0 : Int), .int .u64 (b1 : Int), .int .u64 (b2 : Int), .int .u64 (b3 : Int), .int .u64 (b4 : Int), .bool bl, .int .i64 bm] 29)).cell? ⟨w8.heap.size, 4, none⟩ = some (.int .u64 (b4 : Int)) := cell_of_row _ w8.heap.size 4 _ _ (0, 0) h18
              have x5 : ((w8.alloc (.cells #[.int .u64 ((k : Int) + 1), .int .u64 (b1 : Int), .int .u64 (b2 : Int), .int .u64 (b3 : Int), .int .u64 (b4 : Int), .bool bl, .int .i64 mi] 29)).alloc (.cells #[.int .u64 (b0 : Int), .int .u64 (b1 : Int), .int .u64 (b2 : Int), .int .u64 (b3 : Int), .int .u64 (b4 : Int), .bool bl, .int .i64 bm] 29)).cell? ⟨w8.heap.size, 5, none⟩ = some (.bool bl) := cell_of_row _ w8.heap.size 5 _ _ (0, 0) h18
              have x6 : ((w8.alloc (.cells #[.int .u64 ((k : Int) + 1), .int .u64 (b1 : Int), .int .u64 (b2 : Int), .int .u64 (b3 : Int), .int .u64 (b4 : Int), .bool bl, .int .i64 mi] 29)).alloc (.cells #[.int .u64 (b0 : Int), .int .u64 (b1 : Int), .int .u64 (b2 : Int), .int .u64 (b3 : Int), .int .u64 (b4 : Int), .bool bl, .int .i64 bm] 29)).cell? ⟨w8.heap.size, 6, none⟩ = some (.int .i64 mi) := cell_of_row _ w8.heap.size 6 _ _ (0, 0) h18
              have g0 : ((w8.alloc (.cells #[.int .u64 ((k : Int) + 1), .int .u64 (b1 : Int), .int .u64 (b2 : Int), .int .u64 (b3 : Int), .int .u64 (b4 : Int), .bool bl, .int .i64 mi] 29)).alloc (.cells #[.int .u64 (b0 : Int), .int .u64 (b1 : Int), .int .u64 (b2 : Int), .int .u64 (b3 : Int), .int .u64 (b4 : Int), .bool bl, .int .i64 bm] 29)).cell? ⟨R11, 0, none⟩ = some (.int .u64 (k : Int)) := cell_of_row _ R11 0 _ _ (0, 0) h11
              have g1 : ((w8.alloc (.cells #[.int .u64 ((k : Int) + 1), .int .u64 (b1 : Int), .int .u64 (b2 : Int), .int .u64 (b3 : Int), .int .u64 (b4 : Int), .bool bl, .int .i64 mi] 29)).alloc (.cells #[.int .u64 (b0 : Int), .int .u64 (b1 : Int), .int .u64 (b2 : Int), .int .u64 (b3 : Int), .int .u64 (b4 : Int), .bool bl, .int .i64 bm] 29)).cell? ⟨R11, 1, none⟩ = some (.int .u64 (y1 : Int)) := cell_of_row _ R11 1 _ _ (0, 0) h11
              have g2 : ((w8.alloc (.cells #[.int .u64 ((k : Int) + 1), .int .u64 (b1 : Int), .int .u64 (b2 : Int), .int .u64 (b3 : Int), .int .u64 (b4 : Int), .bool bl, .int .i64 mi] 29)).alloc (.cells #[.int .u64 (b0 : Int), .int .u64 (b1 : Int), .int .u64 (b2 : Int), .int .u64 (b3 : Int), .int .u64 (b4 : Int), .bool bl, .int .i64 bm] 29)).cell? ⟨R11, 2, none⟩ = some (.int .u64 (y2 : Int)) := cell_of_row _ R11 2 _ _ (0, 0) h11
              have g3 : ((w8.alloc (.cells #[.int .u64 ((k : Int) + 1), .int .u64 (b1 : Int), .int .u64 (b2 : Int), .int .u64 (b3 : Int), .int .u64 (b4 : Int), .bool bl, .int .i64 mi] 29)).alloc (.cells #[.int .u64 (b0 : Int), .int .u64 (b1 : Int), .int .u64 (b2 : Int), .int .u64 (b3 : Int), .int .u64 (b4 : Int), .bool bl, .int .i64 bm] 29)).cell? ⟨R11, 3, none⟩ = some (.int .u64 (y3 : Int)) := cell_of_row _ R11 3 _ _ (0, 0) h11
              have g4 : ((w8.alloc (.cells #[.int .u64 ((k : Int) + 1), .int .u64 (b1 : Int), .int .u64 (b2 : Int), .int .u64 (b3 : Int), .int .u64 (b4 : Int), .bool bl, .int .i64 mi] 29)).alloc (.cells #[.int .u64 (b0 : Int), .int .u64 (b1 : Int), .int .u64 (b2 : Int), .int .u64 (b3 : Int), .int .u64 (b4 : Int), .bool bl, .int .i64 bm] 29)).cell? ⟨R11, 4, none⟩ = some (.int .u64 (y4 : Int)) := cell_of_row _ R11 4 _ _ (0, 0) h11
              have g5 : ((w8.alloc (.cells #[.int .u64 ((k : Int) + 1), .int .u64 (b1 : Int), .int .u64 (b2 : Int), .int .u64 (b3 : Int), .int .u64 (b4 : Int), .bool bl, .int .i64 mi] 29)).alloc (.cells #[.int .u64 (b0 : Int), .int .u64 (b1 : Int), .int .u64 (b2 : Int), .int .u64 (b3 : Int), .int .u64 (b4 : Int), .bool bl, .int .i64 bm] 29)).cell? ⟨R11, 5, none⟩ = some (.bool yl) := cell_of_row _ R11 5 _ _ (0, 0) h11
              have g6 : ((w8.alloc (.cells #[.int .u64 ((k : Int) + 1), .int .u64 (b1 : Int), .int .u64 (b2 : Int), .int .u64 (b3 : Int), .int .u64 (b4 : Int), .bool bl, .int .i64 mi] 29)).alloc (.cells #[.int .u64 (b0 : Int), .int .u64 (b1 : Int), .int .u64 (b2 : Int), .int .u64 (b3 : Int), .int .u64 (b4 : Int), .bool bl, .int .i64 bm] 29)).cell? ⟨R11, 6, none⟩ = some (.int .i64 ym) := cell_of_row _ R11 6 _ _ (0, 0) h11
              have r0 : ((w8.alloc (.cells #[.int .u64 ((k : Int) + 1), .int .u64 (b1 : Int), .int .u64 (b2 : Int), .int .u64 (b3 : Int), .int .u64 (b4 : Int), .bool bl, .int .i64 mi] 29)).alloc (.cells #[.int .u64 (b0 : Int), .int .u64 (b1 : Int), .int .u64 (b2 : Int), .int .u64 (b3 : Int), .int .u64 (b4 : Int), .bool bl, .int .i64 bm] 29)).cell? ⟨(w8.heap.size + 1), 0, none⟩ = some (.int .u64 (b0 : Int)) := cell_of_row _ (w8.heap.size + 1) 0 _ _ (0, 0) h20
              have r1 : ((w8.alloc (.cells #[.int .u64 ((k : Int) + 1), .int .u64 (b1 : Int), .int .u64 (b2 : Int), .int .u64 (b3 : Int), .int .u64 (b4 : Int), .bool bl, .int .i64 mi] 29)).alloc (.cells #[.int .u64 (b0 : Int), .int .u64 (b1 : Int), .int .u64 (b2 : Int), .int .u64 (b3 : Int), .int .u64 (b4 : Int), .bool bl, .int .i64 bm] 29)).cell? ⟨(w8.heap.size + 1), 1, none⟩ = some (.int .u64 (b1 : Int)) := cell_of_row _ (w8.heap.size + 1) 1 _ _ (0, 0) h20
              have r2 : ((w8.alloc (.cells #[.int .u64 ((k : Int) + 1), .int .u64 (b1 : Int), .int .u64 (b2 : Int), .int .u64 (b3 : Int), .int .u64 (b4 : Int), .bool bl, .int .i64 mi] 29)).alloc (.cells #[.int .u64 (b0 : Int), .int .u64 (b1 : Int), .int .u64 (b2 : Int), .int .u64 (b3 : Int), .int .u64 (b4 : Int), .bool bl, .int .i64 bm] 29)).cell? ⟨(w8.heap.size + 1), 2, none⟩ = some (.int .u64 (b2 : Int)) := cell_of_row _ (w8.heap.size + 1) 2 _ _ (0, 0) h20
              have r3 : ((w8.alloc (.cells #[.int .u64 ((k : Int) + 1), .int .u64 (b1 : Int), .int .u64 (b2 : Int), .int .u64 (b3 : Int), .int .u64 (b4 : Int), .bool bl, .int .i64 mi] 29)).alloc (.cells #[.int .u64 (b0 : Int), .int .u64 (b1 : Int), .int .u64 (b2 : Int), .int .u64 (b3 : Int), .int .u64 (b4 : Int), .bool bl, .int .i64 bm] 29)).cell? ⟨(w8.heap.size + 1), 3, none⟩ = some (.int .u64 (b3 : Int)) := cell_of_row _ (w8.heap.size + 1) 3 _ _ (0, 0) h20
              have r4 : ((w8.alloc (.cells #[.int .u64 ((k : Int) + 1), .int .u64 (b1 : Int), .int .u64 (b2 : Int), .int .u64 (b3 : Int), .int .u64 (b4 : Int), .bool bl, .int .i64 mi] 29)).alloc (.cells #[.int .u64 (b0 : Int), .int .u64 (b1 : Int), .int .u64 (b2 : Int), .int .u64 (b3 : Int), .int .u64 (b4 : Int), .bool bl, .int .i64 bm] 29)).cell? ⟨(w8.heap.size + 1), 4, none⟩ = some (.int .u64 (b4 : Int)) := cell_of_row _ (w8.heap.size + 1) 4 _ _ (0, 0) h20
              have r5 : ((w8.alloc (.cells #[.int .u64 ((k : Int) + 1), .int .u64 (b1 : Int), .int .u64 (b2 : Int), .int .u64 (b3 : Int), .int .u64 (b4 : Int), .bool bl, .int .i64 mi] 29)).alloc (.cells #[.int .u64 (b0 : Int), .int .u64 (b1 : Int), .int .u64 (b2 : Int), .int .u64 (b3 : Int), .int .u64 (b4 : Int), .bool bl, .int .i64 bm] 29)).cell? ⟨(w8.heap.size + 1), 5, none⟩ = some (.bool bl) := cell_of_row _ (w8.heap.size + 1) 5 _ _ (0, 0) h20
              have r6 : ((w8.alloc (.cells #[.int .u64 ((k : Int) + 1), .int .u64 (b1 : Int), .int .u64 (b2 : Int), .int .u64 (b3 : Int), .int .u64 (b4 : Int), .bool bl, .int .i64 mi] 29)).alloc (.cells #[.int .u64 (b0 : Int), .int .u64 (b1 : Int), .int .u64 (b2 : Int), .int .u64 (b3 : Int), .int .u64 (b4 : Int), .bool bl, .int .i64 bm] 29)).cell? ⟨(w8.heap.size + 1), 6, none⟩ = some (.int .i64 bm) := cell_of_row _ (w8.heap.size + 1) 6 _ _ (0, 0) h20
              have f0 : ((w8.alloc (.cells #[.int .u64 ((k : Int) + 1), .int .u64 (b1 : Int), .int .u64 (b2 : Int), .int .u64 (b3 : Int), .int .u64 (b4 : Int), .bool bl, .int .i64 mi] 29)).alloc (.cells #[.int .u64 (b0 : Int), .int .u64 (b1 : Int), .int .u64 (b2 : Int), .int .u64 (b3 : Int), .int .u64 (b4 : Int), .bool bl, .int .i64 bm] 29)).frozen? ⟨(w8.heap.size + 1), 0, none⟩ = false := frozen_of_row _ (w8.heap.size + 1) 0 _ _ h20
              have f1 : ((w8.alloc (.cells #[.int .u64 ((k : Int) + 1), .int .u64 (b1 : Int), .int .u64 (b2 : Int), .int .u64 (b3 : Int), .int .u64 (b4 : Int), .bool bl, .int .i64 mi] 29)).alloc (.cells #[.int .u64 (b0 : Int), .int .u64 (b1 : Int), .int .u64 (b2 : Int), .int .u64 (b3 : Int), .int .u64 (b4 : Int), .bool bl, .int .i64 bm] 29)).frozen? ⟨(w8.heap.size + 1), 1, none⟩ = false := frozen_of_row _ (w8.heap.size + 1) 1 _ _ h20
              have f2 : ((w8.alloc (.cells #[.int .u64 ((k : Int) + 1), .int .u64 (b1 : Int), .int .u64 (b2 : Int), .int .u64 (b3 : Int), .int .u64 (b4 : Int), .bool bl, .int .i64 mi] 29)).alloc (.cells #[.int .u64 (b0 : Int), .int .u64 (b1 : Int), .int .u64 (b2 : Int), .int .u64 (b3 : Int), .int .u64 (b4 : Int), .bool bl, .int .i64 bm] 29)).frozen? ⟨(w8.heap.size + 1), 2, none⟩ = false := frozen_of_row _ (w8.heap.size + 1) 2 _ _ h20
              have f3 : ((w8.alloc (.cells #[.int .u64 ((k : Int) + 1), .int .u64 (b1 : Int), .int .u64 (b2 : Int), .int .u64 (b3 : Int), .int .u64 (b4 : Int), .bool bl, .int .i64 mi] 29)).alloc (.cells #[.int .u64 (b0 : Int), .int .u64 (b1 : Int), .int .u64 (b2 : Int), .int .u64 (b3 : Int), .int .u64 (b4 : Int), .bool bl, .int .i64 bm] 29)).frozen? ⟨(w8.heap.size + 1), 3, none⟩ = false := frozen_of_row _ (w8.heap.size + 1) 3 _ _ h20
              have f4 : ((w8.alloc (.cells #[.int .u64 ((k : Int) + 1), .int .u64 (b1 : Int), .int .u64 (b2 : Int), .int .u64 (b3 : Int), .int .u64 (b4 : Int), .bool bl, .int .i64 mi] 29)).alloc (.cells #[.int .u64 (b0 : Int), .int .u64 (b1 : Int), .int .u64 (b2 : Int), .int .u64 (b3 : Int), .int .u64 (b4 : Int), .bool bl, .int .i64 bm] 29)).frozen? ⟨(w8.heap.size + 1), 4, none⟩ = false := frozen_of_row _ (w8.heap.size + 1) 4 _ _ h20
              have f5 : ((w8.alloc (.cells #[.int .u64 ((k : Int) + 1), .int .u64 (b1 : Int), .int .u64 (b2 : Int), .int .u64 (b3 : Int), .int .u64 (b4 : Int), .bool bl, .int .i64 mi] 29)).alloc (.cells #[.int .u64 (b0 : Int), .int .u64 (b1 : Int), .int .u64 (b2 : Int), .int .u64 (b3 : Int), .int .u64 (b4 : Int), .bool bl, .int .i64 bm] 29)).frozen? ⟨(w8.heap.size + 1), 5, none⟩ = false := frozen_of_row _ (w8.heap.size + 1) 5 _ _ h20
              have f6 : ((w8.alloc (.cells #[.int .u64 ((k : Int) + 1), .int .u64 (b1 : Int), .int .u64 (b2 : Int), .int .u64 (b3 : Int), .int .u64 (b4 : Int), .bool bl, .int .i64 mi] 29)).alloc (.cells #[.int .u64 (b0 : Int), .int .u64 (b1 : Int), .int .u64 (b2 : Int), .int .u64 (b3 : Int), .int .u64 (b4 : Int), .bool bl, .int .i64 bm] 29)).frozen? ⟨(w8.heap.size + 1), 6, none⟩ = false := frozen_of_row _ (w8.heap.size + 1) 6 _ _ h20
              have n1 : ¬ R11 = w8.heap.size + 1 := by have := lt_of_block H11.out; omega
              have n2 : ¬ w8.heap.size + 1 = R11 := by have := lt_of_block H11.out; omega
              have W20 : Hid (w.heap.size ≤ w8.heap.size + 1) := Lib.hid (by have := (F6.out.trans' DD.out.fr).size; omega)
              clear fa fb hsz h18 h20 h6 h11
              rcases hmc with ⟨hm1, rfl⟩ | ⟨hm1, hm2, rfl⟩ | ⟨hm1, hm2, rfl⟩
              · have h11 := (((Fr.refl Nob w8).alloc (.cells #[.int .u64 ((k : Int) + 1), .int .u64 (b1 : Int), .int .u64 (b2 : Int), .int .u64 (b3 : Int), .int .u64 (b4 : Int), .bool bl, .int .i64 0] 29)).alloc (.cells #[.int .u64 ((k : Int) + 1), .int .u64 (b1 : Int), .int .u64 (b2 : Int), .int .u64 (b3 : Int), .int .u64 (b4 : Int), .bool bl, .int .i64 0] 29)).heap H11.out fun h => h
                have v0 : ((w8.alloc (.cells #[.int .u64 ((k : Int) + 1), .int .u64 (b1 : Int), .int .u64 (b2 : Int), .int .u64 (b3 : Int), .int .u64 (b4 : Int), .bool bl, .int .i64 0] 29)).alloc (.cells #[.int .u64 ((k : Int) + 1), .int .u64 (b1 : Int), .int .u64 (b2 : Int), .int .u64 (b3 : Int), .int .u64 (b4 : Int), .bool bl, .int .i64 0] 29)).cell? ⟨R11, 0, none⟩ = some (.int .u64 (k : Int)) := cell_of_row _ R11 0 _ _ (0, 0) h11
                have v1 : ((w8.alloc (.cells #[.int .u64 ((k : Int) + 1), .int .u64 (b1 : Int), .int .u64 (b2 : Int), .int .u64 (b3 : Int), .int .u64 (b4 : Int), .bool bl, .int .i64 0] 29)).alloc (.cells #[.int .u64 ((k : Int) + 1), .int .u64 (b1 : Int), .int .u64 (b2 : Int), .int .u64 (b3 : Int), .int .u64 (b4 : Int), .bool bl, .int .i64 0] 29)).cell? ⟨R11, 1, none⟩ = some (.int .u64 (y1 : Int)) := cell_of_row _ R11 1 _ _ (0, 0) h11
                have v2 : ((w8.alloc (.cells #[.int .u64 ((k : Int) + 1), .int .u64 (b1 : Int), .int .u64 (b2 : Int), .int .u64 (b3 : Int), .int .u64 (b4 : Int), .bool bl, .int .i64 0] 29)).alloc (.cells #[.int .u64 ((k : Int) + 1), .int .u64 (b1 : Int), .int .u64 (b2 : Int), .int .u64 (b3 : Int), .int .u64 (b4 : Int), .bool bl, .int .i64 0] 29)).cell? ⟨R11, 2, none⟩ = some (.int .u64 (y2 : Int)) := cell_of_row _ R11 2 _ _ (0, 0) h11
                have v3 : ((w8.alloc (.cells #[.int .u64 ((k : Int) + 1), .int .u64 (b1 : Int), .int .u64 (b2 : Int), .int .u64 (b3 : Int), .int .u64 (b4 : Int), .bool bl, .int .i64 0] 29)).alloc (.cells #[.int .u64 ((k : Int) + 1), .int .u64 (b1 : Int), .int .u64 (b2 : Int), .int .u64 (b3 : Int), .int .u64 (b4 : Int), .bool bl, .int .i64 0] 29)).cell? ⟨R11, 3, none⟩ = some (.int .u64 (y3 : Int)) := cell_of_row _ R11 3 _ _ (0, 0) h11
                have v4 : ((w8.alloc (.cells #[.int .u64 ((k : Int) + 1), .int .u64 (b1 : Int), .int .u64 (b2 : Int), .int .u64 (b3 : Int), .int .u64 (b4 : Int), .bool bl, .int .i64 0] 29)).alloc (.cells #[.int .u64 ((k : Int) + 1), .int .u64 (b1 : Int), .int .u64 (b2 : Int), .int .u64 (b3 : Int), .int .u64 (b4 : Int), .bool bl, .int .i64 0] 29)).cell? ⟨R11, 4, none⟩ = some (.int .u64 (y4 : Int)) := cell_of_row _ R11 4 _ _ (0, 0) h11
                have v5 : ((w8.alloc (.cells #[.int .u64 ((k : Int) + 1), .int .u64 (b1 : Int), .int .u64 (b2 : Int), .int .u64 (b3 : Int), .int .u64 (b4 : Int), .bool bl, .int .i64 0] 29)).alloc (.cells #[.int .u64 ((k : Int) + 1), .int .u64 (b1 : Int), .int .u64 (b2 : Int), .int .u64 (b3 : Int), .int .u64 (b4 : Int), .bool bl, .int .i64 0] 29)).cell? ⟨R11, 5, none⟩ = some (.bool yl) := cell_of_row _ R11 5 _ _ (0, 0) h11
                have v6 : ((w8.alloc (.cells #[.int .u64 ((k : Int) + 1), .int .u64 (b1 : Int), .int .u64 (b2 : Int), .int .u64 (b3 : Int), .int .u64 (b4 : Int), .bool bl, .int .i64 0] 29)).alloc (.cells #[.int .u64 ((k : Int) + 1), .int .u64 (b1 : Int), .int .u64 (b2 : Int), .int .u64 (b3 : Int), .int .u64 (b4 : Int), .bool bl, .int .i64 0] 29)).cell? ⟨R11, 6, none⟩ = some (.int .i64 ym) := cell_of_row _ R11 6 _ _ (0, 0) h11
                clear h11
                go_wp2_with fail
                go_ret
                refine ⟨rfl, ?_⟩
                first
                | exact ((F6.out.trans' DD.out.fr).alloc _).alloc _
                | exact (HF.out.setCell ⟨w8.heap.size + 1, 0, none⟩ (fun h => absurd h (by have := W20.out; show ¬ (w8.heap.size + 1 < w.heap.size); omega)) _).setCell ⟨w8.heap.size + 1, 6, none⟩ (fun h => absurd h (by have := W20.out; show ¬ (w8.heap.size + 1 < w.heap.size); omega)) _
              · have h11 := (((Fr.refl Nob w8).alloc (.cells #[.int .u64 ((k : Int) + 1), .int .u64 (b1 : Int), .int .u64 (b2 : Int), .int .u64 (b3 : Int), .int .u64 (b4 : Int), .bool bl, .int .i64 0] 29)).alloc (.cells #[.int .u64 ((k : Int) + 1), .int .u64 (b1 : Int), .int .u64 (b2 : Int), .int .u64 (b3 : Int), .int .u64 (b4 : Int), .bool bl, .int .i64 0] 29)).heap H11.out fun h => h
                have v0 : ((w8.alloc (.cells #[.int .u64 ((k : Int) + 1), .int .u64 (b1 : Int), .int .u64 (b2 : Int), .int .u64 (b3 : Int), .int .u64 (b4 : Int), .bool bl, .int .i64 0] 29)).alloc (.cells #[.int .u64 ((k : Int) + 1), .int .u64 (b1 : Int), .int .u64 (b2 : Int), .int .u64 (b3 : Int), .int .u64 (b4 : Int), .bool bl, .int .i64 0] 29)).cell? ⟨R11, 0, none⟩ = some (.int .u64 (k : Int)) := cell_of_row _ R11 0 _ _ (0, 0) h11
                have v1 : ((w8.alloc (.cells #[.int .u64 ((k : Int) + 1), .int .u64 (b1 : Int), .int .u64 (b2 : Int), .int .u64 (b3 : Int), .int .u64 (b4 : Int), .bool bl, .int .i64 0] 29)).alloc (.cells #[.int .u64 ((k : Int) + 1), .int .u64 (b1 : Int), .int .u64 (b2 : Int), .int .u64 (b3 : Int), .int .u64 (b4 : Int), .bool bl, .int .i64 0] 29)).cell? ⟨R11, 1, none⟩ = some (.int .u64 (y1 : Int)) := cell_of_row _ R11 1 _ _ (0, 0) h11
                have v2 : ((w8.alloc (.cells #[.int .u64 ((k : Int) + 1), .int .u64 (b1 : Int), .int .u64 (b2 : Int), .int .u64 (b3 : Int), .int .u64 (b4 : Int), .bool bl, .int .i64 0] 29)).alloc (.cells #[.int .u64 ((k : Int) + 1), .int .u64 (b1 : Int), .int .u64 (b2 : Int), .int .u64 (b3 : Int), .int .u64 (b4 : Int), .bool bl, .int .i64 0] 29)).cell? ⟨R11, 2, none⟩ = some (.int .u64 (y2 : Int)) := cell_of_row _ R11 2 _ _ (0, 0) h11
                have v3 : ((w8.alloc (.cells #[.int .u64 ((k : Int) + 1), .int .u64 (b1 : Int), .int .u64 (b2 : Int), .int .u64 (b3 : Int), .int .u64 (b4 : Int), .bool bl, .int .i64 0] 29)).alloc (.cells #[.int .u64 ((k : Int) + 1), .int .u64 (b1 : Int), .int .u64 (b2 : Int), .int .u64 (b3 : Int), .int .u64 (b4 : Int), .bool bl, .int .i64 0] 29)).cell? ⟨R11, 3, none⟩ = some (.int .u64 (y3 : Int)) := cell_of_row _ R11 3 _ _ (0, 0) h11
                have v4 : ((w8.alloc (.cells #[.int .u64 ((k : Int) + 1), .int .u64 (b1 : Int), .int .u64 (b2 : Int), .int .u64 (b3 : Int), .int .u64 (b4 : Int), .bool bl, .int .i64 0] 29)).alloc (.cells #[.int .u64 ((k : Int) + 1), .int .u64 (b1 : Int), .int .u64 (b2 : Int), .int .u64 (b3 : Int), .int .u64 (b4 : Int), .bool bl, .int .i64 0] 29)).cell? ⟨R11, 4, none⟩ = some (.int .u64 (y4 : Int)) := cell_of_row _ R11 4 _ _ (0, 0) h11
                have v5 : ((w8.alloc (.cells #[.int .u64 ((k : Int) + 1), .int .u64 (b1 : Int), .int .u64 (b2 : Int), .int .u64 (b3 : Int), .int .u64 (b4 : Int), .bool bl, .int .i64 0] 29)).alloc (.cells #[.int .u64 ((k : Int) + 1), .int .u64 (b1 : Int), .int .u64 (b2 : Int), .int .u64 (b3 : Int), .int .u64 (b4 : Int), .bool bl, .int .i64 0] 29)).cell? ⟨R11, 5, none⟩ = some (.bool yl) := cell_of_row _ R11 5 _ _ (0, 0) h11
                have v6 : ((w8.alloc (.cells #[.int .u64 ((k : Int) + 1), .int .u64 (b1 : Int), .int .u64 (b2 : Int), .int .u64 (b3 : Int), .int .u64 (b4 : Int), .bool bl, .int .i64 0] 29)).alloc (.cells #[.int .u64 ((k : Int) + 1), .int .u64 (b1 : Int), .int .u64 (b2 : Int), .int .u64 (b3 : Int), .int .u64 (b4 : Int), .bool bl, .int .i64 0] 29)).cell? ⟨R11, 6, none⟩ = some (.int .i64 ym) := cell_of_row _ R11 6 _ _ (0, 0) h11
                clear h11
                go_wp2_with fail
                go_ret
                refine ⟨rfl, ?_⟩
                first
                | exact ((F6.out.trans' DD.out.fr).alloc _).alloc _
                | exact (HF.out.setCell ⟨w8.heap.size + 1, 0, none⟩ (fun h => absurd h (by have := W20.out; show ¬ (w8.heap.size + 1 < w.heap.size); omega)) _).setCell ⟨w8.heap.size + 1, 6, none⟩ (fun h => absurd h (by have := W20.out; show ¬ (w8.heap.size + 1 < w.heap.size); omega)) _
              · have h11 := (((Fr.refl Nob w8).alloc (.cells #[.int .u64 ((k : Int) + 1), .int .u64 (b1 : Int), .int .u64 (b2 : Int), .int .u64 (b3 : Int), .int .u64 (b4 : Int), .bool bl, .int .i64 mi] 29)).alloc (.cells #[.int .u64 ((k : Int) + 1), .int .u64 (b1 : Int), .int .u64 (b2 : Int), .int .u64 (b3 : Int), .int .u64 (b4 : Int), .bool bl, .int .i64 mi] 29)).heap H11.out fun h => h
                have v0 : ((w8.alloc (.cells #[.int .u64 ((k : Int) + 1), .int .u64 (b1 : Int), .int .u64 (b2 : Int), .int .u64 (b3 : Int), .int .u64 (b4 : Int), .bool bl, .int .i64 mi] 29)).alloc (.cells #[.int .u64 ((k : Int) + 1), .int .u64 (b1 : Int), .int .u64 (b2 : Int), .int .u64 (b3 : Int), .int .u64 (b4 : Int), .bool bl, .int .i64 mi] 29)).cell? ⟨R11, 0, none⟩ = some (.int .u64 (k : Int)) := cell_of_row _ R11 0 _ _ (0, 0) h11
                have v1 : ((w8.alloc (.cells #[.int .u64 ((k : Int) + 1), .int .u64 (b1 : Int), .int .u64 (b2 : Int), .int .u64 (b3 : Int), .int .u64 (b4 : Int), .bool bl, .int .i64 mi] 29)).alloc (.cells #[.int .u64 ((k : Int) + 1), .int .u64 (b1 : Int), .int .u64 (b2 : Int), .int .u64 (b3 : Int), .int .u64 (b4 : Int), .bool bl, .int .i64 mi] 29)).cell? ⟨R11, 1, none⟩ = some (.int .u64 (y1 : Int)) := cell_of_row _ R11 1 _ _ (0, 0) h11
                have v2 : ((w8.alloc (.cells #[.int .u64 ((k : Int) + 1), .int .u64 (b1 : Int), .int .u64 (b2 : Int), .int .u64 (b3 : Int), .int .u64 (b4 : Int), .bool bl, .int .i64 mi] 29)).alloc (.cells #[.int .u64 ((k : Int) + 1), .int .u64 (b1 : Int), .int .u64 (b2 : Int), .int .u64 (b3 : Int), .int .u64 (b4 : Int), .bool bl, .int .i64 mi] 29)).cell? ⟨R11, 2, none⟩ = some (.int .u64 (y2 : Int)) := cell_of_row _ R11 2 _ _ (0, 0) h11
                have v3 : ((w8.alloc (.cells #[.int .u64 ((k : Int) + 1), .int .u64 (b1 : Int), .int .u64 (b2 : Int), .int .u64 (b3 : Int), .int .u64 (b4 : Int), .bool bl, .int .i64 mi] 29)).alloc (.cells #[.int .u64 ((k : Int) + 1), .int .u64 (b1 : Int), .int .u64 (b2 : Int), .int .u64 (b3 : Int), .int .u64 (b4 : Int), .bool bl, .int .i64 mi] 29)).cell? ⟨R11, 3, none⟩ = some (.int .u64 (y3 : Int)) := cell_of_row _ R11 3 _ _ (0, 0) h11
                have v4 : ((w8.alloc (.cells #[.int .u64 ((k : Int) + 1), .int .u64 (b1 : Int), .int .u64 (b2 : Int), .int .u64 (b3 : Int), .int .u64 (b4 : Int), .bool bl, .int .i64 mi] 29)).alloc (.cells #[.int .u64 ((k : Int) + 1), .int .u64 (b1 : Int), .int .u64 (b2 : Int), .int .u64 (b3 : Int), .int .u64 (b4 : Int), .bool bl, .int .i64 mi] 29)).cell? ⟨R11, 4, none⟩ = some (.int .u64 (y4 : Int)) := cell_of_row _ R11 4 _ _ (0, 0) h11
                have v5 : ((w8.alloc (.cells #[.int .u64 ((k : Int) + 1), .int .u64 (b1 : Int), .int .u64 (b2 : Int), .int .u64 (b3 : Int), .int .u64 (b4 : Int), .bool bl, .int .i64 mi] 29)).alloc (.cells #[.int .u64 ((k : Int) + 1), .int .u64 (b1 : Int), .int .u64 (b2 : Int), .int .u64 (b3 : Int), .int .u64 (b4 : Int), .bool bl, .int .i64 mi] 29)).cell? ⟨R11, 5, none⟩ = some (.bool yl) := cell_of_row _ R11 5 _ _ (0, 0) h11
                have v6 : ((w8.alloc (.cells #[.int .u64 ((k : Int) + 1), .int .u64 (b1 : Int), .int .u64 (b2 : Int), .int .u64 (b3 : Int), .int .u64 (b4 : Int), .bool bl, .int .i64 mi] 29)).alloc (.cells #[.int .u64 ((k : Int) + 1), .int .u64 (b1 : Int), .int .u64 (b2 : Int), .int .u64 (b3 : Int), .int .u64 (b4 : Int), .bool bl, .int .i64 mi] 29)).cell? ⟨R11, 6, none⟩ = some (.int .i64 ym) := cell_of_row _ R11 6 _ _ (0, 0) h11
                clear h11
                go_wp2_with fail
                go_ret
                refine ⟨rfl, ?_⟩
                first
                | exact ((F6.out.trans' DD.out.fr).alloc _).alloc _
                | exact HF.out.setCell ⟨w8.heap.size + 1, 0, none⟩ (fun h => absurd h (by have := W20.out; show ¬ (w8.heap.size + 1 < w.heap.size); omega)) _
            · rw [show decide (0 < k) = false from decide_eq_false hk0]
              have HF : Hid (Fr Nob w ((w8.alloc (.cells #[.int .u64 ((k : Int) + 1), .int .u64 (b1 : Int), .int .u64 (b2 : Int), .int .u64 (b3 : Int), .int .u64 (b4 : Int), .bool bl, .int .i64 mi] 29)).alloc (.cells #[.int .u64 (b0 : Int), .int .u64 (b1 : Int), .int .u64 (b2 : Int), .int .u64 (b3 : Int), .int .u64 (b4 : Int), .bool bl, .int .i64 bm] 29))) := Lib.hid ((F6.out.trans' DD.out.fr).alloc _ |>.alloc _)
              have fa := (Fr.refl Nob w8).alloc (.cells #[.int .u64 ((k : Int) + 1), .int .u64 (b1 : Int), .int .u64 (b2 : Int), .int .u64 (b3 : Int), .int .u64 (b4 : Int), .bool bl, .int .i64 mi] 29)
              have fb := (Fr.refl Nob (w8.alloc (.cells #[.int .u64 ((k : Int) + 1), .int .u64 (b1 : Int), .int .u64 (b2 : Int), .int .u64 (b3 : Int), .int .u64 (b4 : Int), .bool bl, .int .i64 mi] 29))).alloc (.cells #[.int .u64 (b0 : Int), .int .u64 (b1 : Int), .int .u64 (b2 : Int), .int .u64 (b3 : Int), .int .u64 (b4 : Int), .bool bl, .int .i64 bm] 29)
              have hsz : (w8.alloc (.cells #[.int .u64 ((k : Int) + 1), .int .u64 (b1 : Int), .int .u64 (b2 : Int), .int .u64 (b3 : Int), .int .u64 (b4 : Int), .bool bl, .int .i64 mi] 29)).heap.size = w8.heap.size + 1 := by simp
              have h18 := fb.heap (heap_alloc_new w8 (.cells #[.int .u64 ((k : Int) + 1), .int .u64 (b1 : Int), .int .u64 (b2 : Int), .int .u64 (b3 : Int), .int .u64 (b4 : Int), .bool bl, .int .i64 mi] 29)) fun h => h
              have h20 := heap_alloc_new (w8.alloc (.cells #[.int .u64 ((k : Int) + 1), .int .u64 (b1 : Int), .int .u64 (b2 : Int), .int .u64 (b3 : Int), .int .u64 (b4 : Int), .bool bl, .int .i64 mi] 29)) (.cells #[.int .u64 (b0 : Int), .int .u64 (b1 : Int), .int .u64 (b2 : Int), .int .u64 (b3 : Int), .int .u64 (b4 : Int), .bool bl, .int .i64 bm] 29)
              rw [hsz] at h20
              have h6 := fa.heap H6.out fun h => h
              have h11 := fb.heap (fa.heap H11.out fun h => h) fun h => h
              have a0 : (w8.alloc (.cells #[.int .u64 ((k : Int) + 1), .int .u64 (b1 : Int), .int .u64 (b2 : Int), .int .u64 (b3 : Int), .int .u64 (b4 : Int), .bool bl, .int .i64 mi] 29)).cell? ⟨R6, 0, none⟩ = some (.int .u64 (b0 : Int)) := cell_of_row _ R6 0 _ _ (0, 0) h6
              have a1 : (w8.alloc (.cells #[.int .u64 ((k : Int) + 1), .int .u64 (b1 : Int), .int .u64 (b2 : Int), .int .u64 (b3 : Int), .int .u64 (b4 : Int), .bool bl, .int .i64 mi] 29)).cell? ⟨R6, 1, none⟩ = some (.int .u64 (b1 : Int)) := cell_of_row _ R6 1 _ _ (0, 0) h6
              have a2 : (w8.alloc (.cells #[.int .u64 ((k : Int) + 1), .int .u64 (b1 : Int), .int .u64 (b2 : Int), .int .u64 (b3 : Int), .int .u64 (b4 : Int), .bool bl, .int .i64 mi] 29)).cell? ⟨R6, 2, none⟩ = some (.int .u64 (b2 : Int)) := cell_of_row _ R6 2 _ _ (0, 0) h6
              have a3 : (w8.alloc (.cells #[.int .u64 ((k : Int) + 1), .int .u64 (b1 : Int), .int .u64 (b2 : Int), .int .u64 (b3 : Int), .int .u64 (b4 : Int), .bool bl, .int .i64 mi] 29)).cell? ⟨R6, 3, none⟩ = some (.int .u64 (b3 : Int)) := cell_of_row _ R6 3 _ _ (0, 0) h6
              have a4 : (w8.alloc (.cells #[.int .u64 ((k : Int) + 1), .int .u64 (b1 : Int), .int .u64 (b2 : Int), .int .u64 (b3 : Int), .int .u64 (b4 : Int), .bool bl, .int .i64 mi] 29)).cell? ⟨R6, 4, none⟩ = some (.int .u64 (b4 : Int)) := cell_of_row _ R6 4 _ _ (0, 0) h6
              have a5 : (w8.alloc (.cells #[.int .u64 ((k : Int) + 1), .int .u64 (b1 : Int), .int .u64 (b2 : Int), .int .u64 (b3 : Int), .int .u64 (b4 : Int), .bool bl, .int .i64 mi] 29)).cell? ⟨R6, 5, none⟩ = some (.bool bl) := cell_of_row _ R6 5 _ _ (0, 0) h6
              have a6 : (w8.alloc (.cells #[.int .u64 ((k : Int) + 1), .int .u64 (b1 : Int), .int .u64 (b2 : Int), .int .u64 (b3 : Int), .int .u64 (b4 : Int), .bool bl, .int .i64 mi] 29)).cell? ⟨R6, 6, none⟩ = some (.int .i64 bm) := cell_of_row _ R6 6 _ _ (0, 0) h6
              have x0 : ((w8.alloc (.cells #[.int .u64 ((k : Int) + 1), .int .u64 (b1 : Int), .int .u64 (b2 : Int), .int .u64 (b3 : Int), .int .u64 (b4 : Int), .bool bl, .int .i64 mi] 29)).alloc (.cells #[.int .u64 (b0 : Int), .int .u64 (b1 : Int), .int .u64 (b2 : Int), .int .u64 (b3 : Int), .int .u64 (b4 : Int), .bool bl, .int .i64 bm] 29)).cell? ⟨w8.heap.size, 0, none⟩ = some (.int .u64 ((k : Int) + 1)) := cell_of_row _ w8.heap.size 0 _ _ (0, 0) h18
              have x1 : ((w8.alloc (.cells #[.int .u64 ((k : Int) + 1), .int .u64 (b1 : Int), .int .u64 (b2 : Int), .int .u64 (b3 : Int), .int .u64 (b4 : Int), .bool bl, .int .i64 mi] 29)).alloc (.cells #[.int .u64 (b0 : Int), .int .u64 (b1 : Int), .int .u64 (b2 : Int), .int .u64 (b3 : Int), .int .u64 (b4 : Int), .bool bl, .int .i64 bm] 29)).cell? ⟨w8.heap.size, 1, none⟩ = some (.int .u64 (b1 : Int)) := cell_of_row _ w8.heap.size 1 _ _ (0, 0) h18
              have x2 : ((w8.alloc (.cells #[.int .u64 ((k : Int) + 1), .int .u64 (b1 : Int), .int .u64 (b2 : Int), .int .u64 (b3 : Int), .int .u64 (b4 : Int), .bool bl, .int .i64 mi] 29)).alloc (.cells #[.int .u64 (b0 : Int), .int .u64 (b1 : Int), .int .u64 (b2 : Int), .int .u64 (b3 : Int), .int .u64 (b4 : Int), .bool bl, .int .i64 bm] 29)).cell? ⟨w8.heap.size, 2, none⟩ = some (.int .u64 (b2 : Int)) := cell_of_row _ w8.heap.size 2 _ _ (0, 0) h18
              have x3 : ((w8.alloc (.cells #[.int .u64 ((k : Int) + 1), .int .u64 (b1 : Int), .int .u64 (b2 : Int), .int .u64 (b3 : Int), .int .u64 (b4 : Int), .bool bl, .int .i64 mi] 29)).alloc (.cells #[.int .u64 (b0 : Int), .int .u64 (b1 : Int), .int .u64 (b2 : Int), .int .u64 (b3 : Int), .int .u64 (b4 : Int), .bool bl, .int .i64 bm] 29)).cell? ⟨w8.heap.size, 3, none⟩ = some (.int .u64 (b3 : Int)) := cell_of_row _ w8.heap.size 3 _ _ (0, 0) h18
              have x4 : ((w8.alloc (.cells #[.int .u64 ((k : Int) + 1), .int .u64 (b1 : Int), .int .u64 (b2 : Int), .int .u64 (b3 : Int), .int .u64 (b4 : Int), .bool bl, .int .i64 mi] 29)).alloc (.cells #[.int .u64 (b0 : Int), .int .u64 (b1 : Int), .int .u64 (b2 : Int), .int .u64 (b3 : Int), .int .u64 (b4 : Int), .bool bl, .int .i64 bm] 29)).cell? ⟨w8.heap.size, 4, none⟩ = some (.int .u64 (b4 : Int)) := cell_of_row _ w8.heap.size 4 _ _ (0, 0) h18
              have x5 : ((w8.alloc (.cells #[.int .u64 ((k : Int) + 1), .int .u64 (b1 : Int), .int .u64 (b2 : Int), .int .u64 (b3 : Int), .int .u64 (b4 : Int), .bool bl, .int .i64 mi] 29)).alloc (.cells #[.int .u64 (b0 : Int), .int .u64 (b1 : Int), .int .u64 (b2 : Int), .int .u64 (b3 : Int), .int .u64 (b4 : Int), .bool bl, .int .i64 bm] 29)).cell? ⟨w8.heap.size, 5, none⟩ = some (.bool bl) := cell_of_row _ w8.heap.size 5 _ _ (0, 0) h18
              have x6 : ((w8.alloc (.cells #[.int .u64 ((k : Int) + 1), .int .u64 (b1 : Int), .int .u64 (b2 : Int), .int .u64 (b3 : Int), .int .u64 (b4 : Int), .bool bl, .int .i64 mi] 29)).alloc (.cells #[.int .u64 (b0 : Int), .int .u64 (b1 : Int), .int .u64 (b2 : Int), .int .u64 (b3 : Int), .int .u64 (b4 : Int), .bool bl, .int .i64 bm] 29)).cell? ⟨w8.heap.size, 6, none⟩ = some (.int .i64 mi) := cell_of_row _ w8.heap.size 6 _ _ (0, 0) h18
              have g0 : ((w8.alloc (.cells #[.int .u64 ((k : Int) + 1), .int .u64 (b1 : Int), .int .u64 (b2 : Int), .int .u64 (b3 : Int), .int .u64 (b4 : Int), .bool bl, .int .i64 mi] 29)).alloc (.cells #[.int .u64 (b0 : Int), .int .u64 (b1 : Int), .int .u64 (b2 : Int), .int .u64 (b3 : Int), .int .u64 (b4 : Int), .bool bl, .int .i64 bm] 29)).cell? ⟨R11, 0, none⟩ = some (.int .u64 (k : Int)) := cell_of_row _ R11 0 _ _ (0, 0) h11
              have g1 : ((w8.alloc (.cells #[.int .u64 ((k : Int) + 1), .int .u64 (b1 : Int), .int .u64 (b2 : Int), .int .u64 (b3 : Int), .int .u64 (b4 : Int), .bool bl, .int .i64 mi] 29)).alloc (.cells #[.int .u64 (b0 : Int), .int .u64 (b1 : Int), .int .u64 (b2 : Int), .int .u64 (b3 : Int), .int .u64 (b4 : Int), .bool bl, .int .i64 bm] 29)).cell? ⟨R11, 1, none⟩ = some (.int .u64 (y1 : Int)) := cell_of_row _ R11 1 _ _ (0, 0) h11
              have g2 : ((w8.alloc (.cells #[.int .u64 ((k : Int) + 1), .int .u64 (b1 : Int), .int .u64 (b2 : Int), .int .u64 (b3 : Int), .int .u64 (b4 : Int), .bool bl, .int .i64 mi] 29)).alloc (.cells #[.int .u64 (b0 : Int), .int .u64 (b1 : Int), .int .u64 (b2 : Int), .int .u64 (b3 : Int), .int .u64 (b4 : Int), .bool bl, .int .i64 bm] 29)).cell? ⟨R11, 2, none⟩ = some (.int .u64 (y2 : Int)) := cell_of_row _ R11 2 _ _ (0, 0) h11
              have g3 : ((w8.alloc (.cells #[.int .u64 ((k : Int) + 1), .int .u64 (b1 : Int), .int .u64 (b2 : Int), .int .u64 (b3 : Int), .int .u64 (b4 : Int), .bool bl, .int .i64 mi] 29)).alloc (.cells #[.int .u64 (b0 : Int), .int .u64 (b1 : Int), .int .u64 (b2 : Int), .int .u64 (b3 : Int), .int .u64 (b4 : Int), .bool bl, .int .i64 bm] 29)).cell? ⟨R11, 3, none⟩ = some (.int .u64 (y3 : Int)) := cell_of_row _ R11 3 _ _ (0, 0) h11
              have g4 : ((w8.alloc (.cells #[.int .u64 ((k : Int) + 1), .int .u64 (b1 : Int), .int .u64 (b2 : Int), .int .u64 (b3 : Int), .int .u64 (b4 : Int), .bool bl, .int .i64 mi] 29)).alloc (.cells #[.int .u64 (b0 : Int), .int .u64 (b1 : Int), .int .u64 (b2 : Int), .int .u64 (b3 : Int), .int .u64 (b4 : Int), .bool bl, .int .i64 bm] 29)).cell? ⟨R11, 4, none⟩ = some (.int .u64 (y4 : Int)) := cell_of_row _ R11 4 _ _ (0, 0) h11
              have g5 : ((w8.alloc (.cells #[.int .u64 ((k : Int) + 1), .int .u64 (b1 : Int), .int .u64 (b2 : Int), .int .u64 (b3 : Int), .int .u64 (b4 : Int), .bool bl, .int .i64 mi] 29)).alloc (.cells #[.int .u64 (b0 : Int), .int .u64 (b1 : Int), .int .u64 (b2 : Int), .int .u64 (b3 : Int), .int .u64 (b4 : Int), .bool bl, .int .i64 bm] 29)).cell? ⟨R11, 5, none⟩ = some (.bool yl) := cell_of_row _ R11 5 _ _ (0, 0) h11
              have g6 : ((w8.alloc (.cells #[.int .u64 ((k : Int) + 1), .int .u64 (b1 : Int), .int .u64 (b2 : Int), .int .u64 (b3 : Int), .int .u64 (b4 : Int), .bool bl, .int .i64 mi] 29)).alloc (.cells #[.int .u64 (b0 : Int), .int .u64 (b1 : Int), .int .u64 (b2 : Int), .int .u64 (b3 : Int), .int .u64 (b4 : Int), .bool bl, .int .i64 bm] 29)).cell? ⟨R11, 6, none⟩ = some (.int .i64 ym) := cell_of_row _ R11 6 _ _ (0, 0) h11
              have r0 : ((w8.alloc (.cells #[.int .u64 ((k : Int) + 1), .int .u64 (b1 : Int), .int .u64 (b2 : Int), .int .u64 (b3 : Int), .int .u64 (b4 : Int), .bool bl, .int .i64 mi] 29)).alloc (.cells #[.int .u64 (b0 : Int), .int .u64 (b1 : Int), .int .u64 (b2 : Int), .int .u64 (b3 : Int), .int .u64 (b4 : Int), .bool bl, .int .i64 bm] 29)).cell? ⟨(w8.heap.size + 1), 0, none⟩ = some (.int .u64 (b0 : Int)) := cell_of_row _ (w8.heap.size + 1) 0 _ _ (0, 0) h20
              have r1 : ((w8.alloc (.cells #[.int .u64 ((k : Int) + 1), .int .u64 (b1 : Int), .int .u64 (b2 : Int), .int .u64 (b3 : Int), .int .u64 (b4 : Int), .bool bl, .int .i64 mi] 29)).alloc (.cells #[.int .u64 (b0 : Int), .int .u64 (b1 : Int), .int .u64 (b2 : Int), .int .u64 (b3 : Int), .int .u64 (b4 : Int), .bool bl, .int .i64 bm] 29)).cell? ⟨(w8.heap.size + 1), 1, none⟩ = some (.int .u64 (b1 : Int)) := cell_of_row _ (w8.heap.size + 1) 1 _ _ (0, 0) h20
              have r2 : ((w8.alloc (.cells #[.int .u64 ((k : Int) + 1), .int .u64 (b1 : Int), .int .u64 (b2 : Int), .int .u64 (b3 : Int), .int .u64 (b4 : Int), .bool bl, .int .i64 mi] 29)).alloc (.cells #[.int .u64 (b0 : Int), .int .u64 (b1 : Int), .int .u64 (b2 : Int), .int .u64 (b3 : Int), .int .u64 (b4 : Int), .bool bl, .int .i64 bm] 29)).cell? ⟨(w8.heap.size + 1), 2, none⟩ = some (.int .u64 (b2 : Int)) := cell_of_row _ (w8.heap.size + 1) 2 _ _ (0, 0) h20
              have r3 : ((w8.alloc (.cells #[.int .u64 ((k : Int) + 1), .int .u64 (b1 : Int), .int .u64 (b2 : Int), .int .u64 (b3 : Int), .int .u64 (b4 : Int), .bool bl, .int .i64 mi] 29)).alloc (.cells #[.int .u64 (b0 : Int), .int .u64 (b1 : Int), .int .u64 (b2 : Int), .int .u64 (b3 : Int), .int .u64 (b4 : Int), .bool bl, .int .i64 bm] 29)).cell? ⟨(w8.heap.size + 1), 3, none⟩ = some (.int .u64 (b3 : Int)) := cell_of_row _ (w8.heap.size + 1) 3 _ _ (0, 0) h20
              have r4 : ((w8.alloc (.cells #[.int .u64 ((k : Int) + 1), .int .u64 (b1 : Int), .int .u64 (b2 : Int), .int .u64 (b3 : Int), .int .u64 (b4 : Int), .bool bl, .int .i64 mi] 29)).alloc (.cells #[.int .u64 (b0 : Int), .int .u64 (b1 : Int), .int .u64 (b2 : Int), .int .u64 (b3 : Int), .int .u64 (b4 : Int), .bool bl, .int .i64 bm] 29)).cell? ⟨(w8.heap.size + 1), 4, none⟩ = some (.int .u64 (b4 : Int)) := cell_of_row _ (w8.heap.size + 1) 4 _ _ (0, 0) h20
              have r5 : ((w8.alloc (.cells #[.int .u64 ((k : Int) + 1), .int .u64 (b1 : Int), .int .u64 (b2 : Int), .int .u64 (b3 : Int), .int .u64 (b4 : Int), .bool bl, .int .i64 mi] 29)).alloc (.cells #[.int .u64 (b0 : Int), .int .u64 (b1 : Int), .int .u64 (b2 : Int), .int .u64 (b3 : Int), .int .u64 (b4 : Int), .bool bl, .int .i64 bm] 29)).cell? ⟨(w8.heap.size + 1), 5, none⟩ = some (.bool bl) := cell_of_row _ (w8.heap.size + 1) 5 _ _ (0, 0) h20
              have r6 : ((w8.alloc (.cells #[.int .u64 ((k : Int) + 1), .int .u64 (b1 : Int), .int .u64 (b2 : Int), .int .u64 (b3 : Int), .int .u64 (b4 : Int), .bool bl, .int .i64 mi] 29)).alloc (.cells #[.int .u64 (b0 : Int), .int .u64 (b1 : Int), .int .u64 (b2 : Int), .int .u64 (b3 : Int), .int .u64 (b4 : Int), .bool bl, .int .i64 bm] 29)).cell? ⟨(w8.heap.size + 1), 6, none⟩ = some (.int .i64 bm) := cell_of_row _ (w8.heap.size + 1) 6 _ _ (0, 0) h20
              have f0 : ((w8.alloc (.cells #[.int .u64 ((k : Int) + 1), .int .u64 (b1 : Int), .int .u64 (b2 : Int), .int .u64 (b3 : Int), .int .u64 (b4 : Int), .bool bl, .int .i64 mi] 29)).alloc (.cells #[.int .u64 (b0 : Int), .int .u64 (b1 : Int), .int .u64 (b2 : Int), .int .u64 (b3 : Int), .int .u64 (b4 : Int), .bool bl, .int .i64 bm] 29)).frozen? ⟨(w8.heap.size + 1), 0, none⟩ = false := frozen_of_row _ (w8.heap.size + 1) 0 _ _ h20
              have f1 : ((w8.alloc (.cells #[.int .u64 ((k : Int) + 1), .int .u64 (b1 : Int), .int .u64 (b2 : Int), .int .u64 (b3 : Int), .int .u64 (b4 : Int), .bool bl, .int .i64 mi] 29)).alloc (.cells #[.int .u64 (b0 : Int), .int .u64 (b1 : Int), .int .u64 (b2 : Int), .int .u64 (b3 : Int), .int .u64 (b4 : Int), .bool bl, .int .i64 bm] 29)).frozen? ⟨(w8.heap.size + 1), 1, none⟩ = false := frozen_of_row _ (w8.heap.size + 1) 1 _ _ h20
              have f2 : ((w8.alloc (.cells #[.int .u64 ((k : Int) + 1), .int .u64 (b1 : Int), .int .u64 (b2 : Int), .int .u64 (b3 : Int), .int .u64 (b4 : Int), .bool bl, .int .i64 mi] 29)).alloc (.cells #[.int .u64 (b0 : Int), .int .u64 (b1 : Int), .int .u64 (b2 : Int), .int .u64 (b3 : Int), .int .u64 (b4 : Int), .bool bl, .int .i64 bm] 29)).frozen? ⟨(w8.heap.size + 1), 2, none⟩ = false := frozen_of_row _ (w8.heap.size + 1) 2 _ _ h20
              have f3 : ((w8.alloc (.cells #[.int .u64 ((k : Int) + 1), .int .u64 (b1 : Int), .int .u64 (b2 : Int), .int .u64 (b3 : Int), .int .u64 (b4 : Int), .bool bl, .int .i64 mi] 29)).alloc (.cells #[.int .u64 (b0 : Int), .int .u64 (b1 : Int), .int .u64 (b2 : Int), .int .u64 (b3 : Int), .int .u64 (b4 : Int), .bool bl, .int .i64 bm] 29)).frozen? ⟨(w8.heap.size + 1), 3, none⟩ = false := frozen_of_row _ (w8.heap.size + 1) 3 _ _ h20
              have f4 : ((w8.alloc (.cells #[.int .u64 ((k : Int) + 1), .int .u64 (b1 : Int), .int .u64 (b2 : Int), .int .u64 (b3 : Int), .int .u64 (b4 : Int), .bool bl, .int .i64 mi] 29)).alloc (.cells #[.int .u64 (b0 : Int), .int .u64 (b1 : Int), .int .u64 (b2 : Int), .int .u64 (b3 : Int), .int .u64 (b4 : Int), .bool bl, .int .i64 bm] 29)).frozen? ⟨(w8.heap.size + 1), 4, none⟩ = false := frozen_of_row _ (w8.heap.size + 1) 4 _ _ h20
              have f5 : ((w8.alloc (.cells #[.int .u64 ((k : Int) + 1), .int .u64 (b1 : Int), .int .u64 (b2 : Int), .int .u64 (b3 : Int), .int .u64 (b4 : Int), .bool bl, .int .i64 mi] 29)).alloc (.cells #[.int .u64 (b0 : Int), .int .u64 (b1 : Int), .int .u64 (b2 : Int), .int .u64 (b3 : Int), .int .u64 (b4 : Int), .bool bl, .int .i64 bm] 29)).frozen? ⟨(w8.heap.size + 1), 5, none⟩ = false := frozen_of_row _ (w8.heap.size + 1) 5 _ _ h20
              have f6 : ((w8.alloc (.cells #[.int .u64 ((k : Int) + 1), .int .u64 (b1 : Int), .int .u64 (b2 : Int), .int .u64 (b3 : Int), .int .u64 (b4 : Int), .bool bl, .int .i64 mi] 29)).alloc (.cells #[.int .u64 (b0 : Int), .int .u64 (b1 : Int), .int .u64 (b2 : Int), .int .u64 (b3 : Int), .int .u64 (b4 : Int), .bool bl, .int .i64 bm] 29)).frozen? ⟨(w8.heap.size + 1), 6, none⟩ = false := frozen_of_row _ (w8.heap.size + 1) 6 _ _ h20
              have n1 : ¬ R11 = w8.heap.size + 1 := by have := lt_of_block H11.out; omega
              have n2 : ¬ w8.heap.size + 1 = R11 := by have := lt_of_block H11.out; omega
              have W20 : Hid (w.heap.size ≤ w8.heap.size + 1) := Lib.hid (by have := (F6.out.trans' DD.out.fr).size; omega)
              clear fa fb hsz h18 h20 h6 h11
              rcases hmc with ⟨hm1, rfl⟩ | ⟨hm1, hm2, rfl⟩ | ⟨hm1, hm2, rfl⟩
              · have h11 := (((Fr.refl Nob w8).alloc (.cells #[.int .u64 ((k : Int) + 1), .int .u64 (b1 : Int), .int .u64 (b2 : Int), .int .u64 (b3 : Int), .int .u64 (b4 : Int), .bool bl, .int .i64 0] 29)).alloc (.cells #[.int .u64 ((k : Int) + 1), .int .u64 (b1 : Int), .int .u64 (b2 : Int), .int .u64 (b3 : Int), .int .u64 (b4 : Int), .bool bl, .int .i64 0] 29)).heap H11.out fun h => h
                have v0 : ((w8.alloc (.cells #[.int .u64 ((k : Int) + 1), .int .u64 (b1 : Int), .int .u64 (b2 : Int), .int .u64 (b3 : Int), .int .u64 (b4 : Int), .bool bl, .int .i64 0] 29)).alloc (.cells #[.int .u64 ((k : Int) + 1), .int .u64 (b1 : Int), .int .u64 (b2 : Int), .int .u64 (b3 : Int), .int .u64 (b4 : Int), .bool bl, .int .i64 0] 29)).cell? ⟨R11, 0, none⟩ = some (.int .u64 (k : Int)) := cell_of_row _ R11 0 _ _ (0, 0) h11
                have v1 : ((w8.alloc (.cells #[.int .u64 ((k : Int) + 1), .int .u64 (b1 : Int), .int .u64 (b2 : Int), .int .u64 (b3 : Int), .int .u64 (b4 : Int), .bool bl, .int .i64 0] 29)).alloc (.cells #[.int .u64 ((k : Int) + 1), .int .u64 (b1 : Int), .int .u64 (b2 : Int), .int .u64 (b3 : Int), .int .u64 (b4 : Int), .bool bl, .int .i64 0] 29)).cell? ⟨R11, 1, none⟩ = some (.int .u64 (y1 : Int)) := cell_of_row _ R11 1 _ _ (0, 0) h11
                have v2 : ((w8.alloc (.cells #[.int .u64 ((k : Int) + 1), .int .u64 (b1 : Int), .int .u64 (b2 : Int), .int .u64 (b3 : Int), .int .u64 (b4 : Int), .bool bl, .int .i64 0] 29)).alloc (.cells #[.int .u64 ((k : Int) + 1), .int .u64 (b1 : Int), .int .u64 (b2 : Int), .int .u64 (b3 : Int), .int .u64 (b4 : Int), .bool bl, .int .i64 0] 29)).cell? ⟨R11, 2, none⟩ = some (.int .u64 (y2 : Int)) := cell_of_row _ R11 2 _ _ (0, 0) h11
                have v3 : ((w8.alloc (.cells #[.int .u64 ((k : Int) + 1), .int .u64 (b1 : Int), .int .u64 (b2 : Int), .int .u64 (b3 : Int), .int .u64 (b4 : Int), .bool bl, .int .i64 0] 29)).alloc (.cells #[.int .u64 ((k : Int) + 1), .int .u64 (b1 : Int), .int .u64 (b2 : Int), .int .u64 (b3 : Int), .int .u64 (b4 : Int), .bool bl, .int .i64 0] 29)).cell? ⟨R11, 3, none⟩ = some (.int .u64 (y3 : Int)) := cell_of_row _ R11 3 _ _ (0, 0) h11
                have v4 : ((w8.alloc (.cells #[.int .u64 ((k : Int) + 1), .int .u64 (b1 : Int), .int .u64 (b2 : Int), .int .u64 (b3 : Int), .int .u64 (b4 : Int), .bool bl, .int .i64 0] 29)).alloc (.cells #[.int .u64 ((k : Int) + 1), .int .u64 (b1 : Int), .int .u64 (b2 : Int), .int .u64 (b3 : Int), .int .u64 (b4 : Int), .bool bl, .int .i64 0] 29)).cell? ⟨R11, 4, none⟩ = some (.int .u64 (y4 : Int)) := cell_of_row _ R11 4 _ _ (0, 0) h11
                have v5 : ((w8.alloc (.cells #[.int .u64 ((k : Int) + 1), .int .u64 (b1 : Int), .int .u64 (b2 : Int), .int .u64 (b3 : Int), .int .u64 (b4 : Int), .bool bl, .int .i64 0] 29)).alloc (.cells #[.int .u64 ((k : Int) + 1), .int .u64 (b1 : Int), .int .u64 (b2 : Int), .int .u64 (b3 : Int), .int .u64 (b4 : Int), .bool bl, .int .i64 0] 29)).cell? ⟨R11, 5, none⟩ = some (.bool yl) := cell_of_row _ R11 5 _ _ (0, 0) h11
                have v6 : ((w8.alloc (.cells #[.int .u64 ((k : Int) + 1), .int .u64 (b1 : Int), .int .u64 (b2 : Int), .int .u64 (b3 : Int), .int .u64 (b4 : Int), .bool bl, .int .i64 0] 29)).alloc (.cells #[.int .u64 ((k : Int) + 1), .int .u64 (b1 : Int), .int .u64 (b2 : Int), .int .u64 (b3 : Int), .int .u64 (b4 : Int), .bool bl, .int .i64 0] 29)).cell? ⟨R11, 6, none⟩ = some (.int .i64 ym) := cell_of_row _ R11 6 _ _ (0, 0) h11
                clear h11
                go_wp2_with fail
                go_ret
                refine ⟨rfl, ?_⟩
                first
                | exact ((F6.out.trans' DD.out.fr).alloc _).alloc _
                | exact (HF.out.setCell ⟨w8.heap.size + 1, 0, none⟩ (fun h => absurd h (by have := W20.out; show ¬ (w8.heap.size + 1 < w.heap.size); omega)) _).setCell ⟨w8.heap.size + 1, 6, none⟩ (fun h => absurd h (by have := W20.out; show ¬ (w8.heap.size + 1 < w.heap.size); omega)) _
              · have h11 := (((Fr.refl Nob w8).alloc (.cells #[.int .u64 ((k : Int) + 1), .int .u64 (b1 : Int), .int .u64 (b2 : Int), .int .u64 (b3 : Int), .int .u64 (b4 : Int), .bool bl, .int .i64 0] 29)).alloc (.cells #[.int .u64 ((k : Int) + 1), .int .u64 (b1 : Int), .int .u64 (b2 : Int), .int .u64 (b3 : Int), .int .u64 (b4 : Int), .bool bl, .int .i64 0] 29)).heap H11.out fun h => h
                have v0 : ((w8.alloc (.cells #[.int .u64 ((k : Int) + 1), .int .u64 (b1 : Int), .int .u64 (b2 : Int), .int .u64 (b3 : Int), .int .u64 (b4 : Int), .bool bl, .int .i64 0] 29)).alloc (.cells #[.int .u64 ((k : Int) + 1), .int .u64 (b1 : Int), .int .u64 (b2 : Int), .int .u64 (b3 : Int), .int .u64 (b4 : Int), .bool bl, .int .i64 0] 29)).cell? ⟨R11, 0, none⟩ = some (.int .u64 (k : Int)) := cell_of_row _ R11 0 _ _ (0, 0) h11
                have v1 : ((w8.alloc (.cells #[.int .u64 ((k : Int) + 1), .int .u64 (b1 : Int), .int .u64 (b2 : Int), .int .u64 (b3 : Int), .int .u64 (b4 : Int), .bool bl, .int .i64 0] 29)).alloc (.cells #[.int .u64 ((k : Int) + 1), .int .u64 (b1 : Int), .int .u64 (b2 : Int), .int .u64 (b3 : Int), .int .u64 (b4 : Int), .bool bl, .int .i64 0] 29)).cell? ⟨R11, 1, none⟩ = some (.int .u64 (y1 : Int)) := cell_of_row _ R11 1 _ _ (0, 0) h11
                have v2 : ((w8.alloc (.cells #[.int .u64 ((k : Int) + 1), .int .u64 (b1 : Int), .int .u64 (b2 : Int), .int .u64 (b3 : Int), .int .u64 (b4 : Int), .bool bl, .int .i64 0] 29)).alloc (.cells #[.int .u64 ((k : Int) + 1), .int .u64 (b1 : Int), .int .u64 (b2 : Int), .int .u64 (b3 : Int), .int .u64 (b4 : Int), .bool bl, .int .i64 0] 29)).cell? ⟨R11, 2, none⟩ = some (.int .u64 (y2 : Int)) := cell_of_row _ R11 2 _ _ (0, 0) h11
                have v3 : ((w8.alloc (.cells #[.int .u64 ((k : Int) + 1), .int .u64 (b1 : Int), .int .u64 (b2 : Int), .int .u64 (b3 : Int), .int .u64 (b4 : Int), .bool bl, .int .i64 0] 29)).alloc (.cells #[.int .u64 ((k : Int) + 1), .int .u64 (b1 : Int), .int .u64 (b2 : Int), .int .u64 (b3 : Int), .int .u64 (b4 : Int), .bool bl, .int .i64 0] 29)).cell? ⟨R11, 3, none⟩ = some (.int .u64 (y3 : Int)) := cell_of_row _ R11 3 _ _ (0, 0) h11
                have v4 : ((w8.alloc (.cells #[.int .u64 ((k : Int) + 1), .int .u64 (b1 : Int), .int .u64 (b2 : Int), .int .u64 (b3 : Int), .int .u64 (b4 : Int), .bool bl, .int .i64 0] 29)).alloc (.cells #[.int .u64 ((k : Int) + 1), .int .u64 (b1 : Int), .int .u64 (b2 : Int), .int .u64 (b3 : Int), .int .u64 (b4 : Int), .bool bl, .int .i64 0] 29)).cell? ⟨R11, 4, none⟩ = some (.int .u64 (y4 : Int)) := cell_of_row _ R11 4 _ _ (0, 0) h11
                have v5 : ((w8.alloc (.cells #[.int .u64 ((k : Int) + 1), .int .u64 (b1 : Int), .int .u64 (b2 : Int), .int .u64 (b3 : Int), .int .u64 (b4 : Int), .bool bl, .int .i64 0] 29)).alloc (.cells #[.int .u64 ((k : Int) + 1), .int .u64 (b1 : Int), .int .u64 (b2 : Int), .int .u64 (b3 : Int), .int .u64 (b4 : Int), .bool bl, .int .i64 0] 29)).cell? ⟨R11, 5, none⟩ = some (.bool yl) := cell_of_row _ R11 5 _ _ (0, 0) h11
                have v6 : ((w8.alloc (.cells #[.int .u64 ((k : Int) + 1), .int .u64 (b1 : Int), .int .u64 (b2 : Int), .int .u64 (b3 : Int), .int .u64 (b4 : Int), .bool bl, .int .i64 0] 29)).alloc (.cells #[.int .u64 ((k : Int) + 1), .int .u64 (b1 : Int), .int .u64 (b2 : Int), .int .u64 (b3 : Int), .int .u64 (b4 : Int), .bool bl, .int .i64 0] 29)).cell? ⟨R11, 6, none⟩ = some (.int .i64 ym) := cell_of_row _ R11 6 _ _ (0, 0) h11
                clear h11
                go_wp2_with fail
                go_ret
                refine ⟨rfl, ?_⟩
                first
                | exact ((F6.out.trans' DD.out.fr).alloc _).alloc _
                | exact (HF.out.setCell ⟨w8.heap.size + 1, 0, none⟩ (fun h => absurd h (by have := W20.out; show ¬ (w8.heap.size + 1 < w.heap.size); omega)) _).setCell ⟨w8.heap.size + 1, 6, none⟩ (fun h => absurd h (by have := W20.out; show ¬ (w8.heap.size + 1 < w.heap.size); omega)) _
              · have h11 := (((Fr.refl Nob w8).alloc (.cells #[.int .u64 ((k : Int) + 1), .int .u64 (b1 : Int), .int .u64 (b2 : Int), .int .u64 (b3 : Int), .int .u64 (b4 : Int), .bool bl, .int .i64 mi] 29)).alloc (.cells #[.int .u64 ((k : Int) + 1), .int .u64 (b1 : Int), .int .u64 (b2 : Int), .int .u64 (b3 : Int), .int .u64 (b4 : Int), .bool bl, .int .i64 mi] 29)).heap H11.out fun h => h
                have v0 : ((w8.alloc (.cells #[.int .u64 ((k : Int) + 1), .int .u64 (b1 : Int), .int .u64 (b2 : Int), .int .u64 (b3 : Int), .int .u64 (b4 : Int), .bool bl, .int .i64 mi] 29)).alloc (.cells #[.int .u64 ((k : Int) + 1), .int .u64 (b1 : Int), .int .u64 (b2 : Int), .int .u64 (b3 : Int), .int .u64 (b4 : Int), .bool bl, .int .i64 mi] 29)).cell? ⟨R11, 0, none⟩ = some (.int .u64 (k : Int)) := cell_of_row _ R11 0 _ _ (0, 0) h11
                have v1 : ((w8.alloc (.cells #[.int .u64 ((k : Int) + 1), .int .u64 (b1 : Int), .int .u64 (b2 : Int), .int .u64 (b3 : Int), .int .u64 (b4 : Int), .bool bl, .int .i64 mi] 29)).alloc (.cells #[.int .u64 ((k : Int) + 1), .int .u64 (b1 : Int), .int .u64 (b2 : Int), .int .u64 (b3 : Int), .int .u64 (b4 : Int), .bool bl, .int .i64 mi] 29)).cell? ⟨R11, 1, none⟩ = some (.int .u64 (y1 : Int)) := cell_of_row _ R11 1 _ _ (0, 0) h11
                have v2 : ((w8.alloc (.cells #[.int .u64 ((k : Int) + 1), .int .u64 (b1 : Int), .int .u64 (b2 : Int), .int .u64 (b3 : Int), .int .u64 (b4 : Int), .bool bl, .int .i64 mi] 29)).alloc (.cells #[.int .u64 ((k : Int) + 1), .int .u64 (b1 : Int), .int .u64 (b2 : Int), .int .u64 (b3 : Int), .int .u64 (b4 : Int), .bool bl, .int .i64 mi] 29)).cell? ⟨R11, 2, none⟩ = some (.int .u64 (y2 : Int)) := cell_of_row _ R11 2 _ _ (0, 0) h11
                have v3 : ((w8.alloc (.cells #[.int .u64 ((k : Int) + 1), .int .u64 (b1 : Int), .int .u64 (b2 : Int), .int .u64 (b3 : Int), .int .u64 (b4 : Int), .bool bl, .int .i64 mi] 29)).alloc (.cells #[.int .u64 ((k : Int) + 1), .int .u64 (b1 : Int), .int .u64 (b2 : Int), .int .u64 (b3 : Int), .int .u64 (b4 : Int), .bool bl, .int .i64 mi] 29)).cell? ⟨R11, 3, none⟩ = some (.int .u64 (y3 : Int)) := cell_of_row _ R11 3 _ _ (0, 0) h11
                have v4 : ((w8.alloc (.cells #[.int .u64 ((k : Int) + 1), .int .u64 (b1 : Int), .int .u64 (b2 : Int), .int .u64 (b3 : Int), .int .u64 (b4 : Int), .bool bl, .int .i64 mi] 29)).alloc (.cells #[.int .u64 ((k : Int) + 1), .int .u64 (b1 : Int), .int .u64 (b2 : Int), .int .u64 (b3 : Int), .int .u64 (b4 : Int), .bool bl, .int .i64 mi] 29)).cell? ⟨R11, 4, none⟩ = some (.int .u64 (y4 : Int)) := cell_of_row _ R11 4 _ _ (0, 0) h11
                have v5 : ((w8.alloc (.cells #[.int .u64 ((k : Int) + 1), .int .u64 (b1 : Int), .int .u64 (b2 : Int), .int .u64 (b3 : Int), .int .u64 (b4 : Int), .bool bl, .int .i64 mi] 29)).alloc (.cells #[.int .u64 ((k : Int) + 1), .int .u64 (b1 : Int), .int .u64 (b2 : Int), .int .u64 (b3 : Int), .int .u64 (b4 : Int), .bool bl, .int .i64 mi] 29)).cell? ⟨R11, 5, none⟩ = some (.bool yl) := cell_of_row _ R11 5 _ _ (0, 0) h11
                have v6 : ((w8.alloc (.cells #[.int .u64 ((k : Int) + 1), .int .u64 (b1 : Int), .int .u64 (b2 : Int), .int .u64 (b3 : Int), .int .u64 (b4 : Int), .bool bl, .int .i64 mi] 29)).alloc (.cells #[.int .u64 ((k : Int) + 1), .int .u64 (b1 : Int), .int .u64 (b2 : Int), .int .u64 (b3 : Int), .int .u64 (b4 : Int), .bool bl, .int .i64 mi] 29)).cell? ⟨R11, 6, none⟩ = some (.int .i64 ym) := cell_of_row _ R11 6 _ _ (0, 0) h11
                clear h11
                go_wp2_with fail
                go_ret
                refine ⟨rfl, ?_⟩
                first
                | exact ((F6.out.trans' DD.out.fr).alloc _).alloc _
                | exact HF.out.setCell ⟨w8.heap.size + 1, 0, none⟩ (fun h => absurd h (by have := W20.out; show ¬ (w8.heap.size + 1 < w.heap.size); omega)) _
  · have hn10 : (10 : Int) < n := by omega
    go_enter Try.func19, Try.ntmps19
    go_wp2_with fail
    generalize w.alloc (.cells #[.int .u64 (b0 : Int), .int .u64 (b1 : Int), .int .u64 (b2 : Int), .int .u64 (b3 : Int), .int .u64 (b4 : Int), .bool bl, .int .i64 bm] 29) = W at *
    refine (awake5_eq W).mono ?_
    rintro e w0 ⟨rfl, f0⟩
    have F0 := Lib.hid (F6.out.trans' f0)
    clear f0
    go_wp2_with fail
    go_ret
    exact ⟨rfl, F0.out⟩

end Go.Proofs.Ytpdljgjofebgpaa
