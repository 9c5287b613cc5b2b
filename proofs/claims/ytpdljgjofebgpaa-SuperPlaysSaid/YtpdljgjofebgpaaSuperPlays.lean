/-
  Law 5: SuperPlays, walked. (Printed by gen/splays.py.)
-/
import Derived.Test.YtpdljgjofebgpaaPlaysP
import Derived.Test.YtpdljgjofebgpaaPuts
import Derived.Test.YtpdljgjofebgpaaCrash5
namespace Go.Proofs.Ytpdljgjofebgpaa
open Go.RowKit Go.ChangeShapes Go.WideShapes Go.Deep

theorem PutRow.cell {w w' : World} {A : Option Addr} {n : Nat} {z : Nat → PutV} {l : Nat → List UInt8} (h : PutRow w A n z l) (f : Fr Nob w w') {i : Nat} (hi : i < n) :
    ∃ b o, A = some ⟨b, o, none⟩ ∧ w'.cell? ⟨b, o + i * 10, none⟩ = (putV (z i))[0]? ∧ ∀ j, j < 10 → w'.cell? ⟨b, o + i * 10 + j, none⟩ = (putV (z i))[j]? := by
  obtain ⟨b, o, hA, hb, hc⟩ := (h.rows.keep f) (by omega)
  have k := (hc i hi).2
  exact ⟨b, o, hA, k 0 (by omega), k⟩

set_option maxRecDepth 100000 in
set_option maxHeartbeats 8000000 in
theorem superPlays_main (A : Option Addr) (n cap : Nat) (z : Nat → PutV) (l : Nat → List UInt8) (w : World) (hz : PutRow w A n z l) (hn : n ≤ 30) :
    Calls Try.prog 20 #[.slice A n cap] w fun e w' => e = .returned (.bool true) ∧ Fr Nob w w' := by
  have ZZ := Lib.hid hz
  have e1 : ¬ (30 : Int) < (n : Int) := by omega
  clear hz
  go_enter Try.func20, Try.ntmps20
  go_wp2_with fail
  refine (awake5_eq w).mono ?_
  rintro e w0 ⟨rfl, f0⟩
  have F0 := Lib.hid f0
  clear f0
  go_wp2_with fail
  refine (DL.new (n := 3) F0.out (by omega) (by omega)).mono ?_
  rintro e w1 ⟨q, K, rfl, d, _, _⟩
  have D1 := Lib.hid d
  have NW : Hid (Calls Try.prog 40 #[.int .i64 3] w1 _) := Lib.hid (refNew_eq (w := w1) (n := 3) (by omega) (by omega))
  clear d
  go_wp2_with fail
  refine NW.out.mono ?_
  rintro e w2 ⟨u, M, rfl, rf, f2, hM⟩
  have T2 : Hid (PL w w2 q K u (Dv.new 3) (Dv.new 3) []) := Lib.hid ⟨M, ⟨D1.out.more f2 fun k hk => .inr ⟨hM k hk, rf.lt k hk⟩, rf, fun k hk hkk => by
    have := D1.out.klt k hkk
    have := hM k hk
    omega, fun k hk => by
    have := D1.out.fr.size
    have := hM k hk
    omega⟩, fun p hp => by simp at hp⟩
  have L2 : Hid ((Dv.new 3).pg.length = 3) := Lib.hid rfl
  have Q2 : Hid ((Dv.new 3).off = false) := Lib.hid rfl
  clear rf f2 hM NW
  go_wp2_with fail
  go_loopw [6] (fun i wr => ∃ (k : Nat) (D : Dv), k ≤ n ∧ i = .int .i64 k ∧ Hid (PL w wr q K u D D []) ∧ Hid (D.pg.length = 3) ∧ Hid (D.off = false)) (fun i _ => n - (intOf i).toNat)
  case atStart => exact ⟨0, _, Nat.zero_le _, rfl, T2, L2, Q2⟩
  case round =>
    clear T2 L2 Q2
    obtain ⟨k, D, hk, rfl, P0, L0, Q0⟩ := hrel
    by_cases hlt : k < n
    · have hki : (k : Int) < (n : Int) := by omega
      obtain ⟨b, o, rfl, hc0, hc⟩ := ZZ.out.cell P0.out.fr hlt
      obtain ⟨hw1, hok, hrb, hold, hmx⟩ := ZZ.out.el k hlt
      obtain ⟨⟨arm, bk, ⟨pa, pn, pc⟩, cr⟩, hzk⟩ : ∃ p, p = z k := ⟨_, rfl⟩
      rw [← hzk] at hc0 hc hw1 hok hrb hold hmx
      simp only at hw1 hok hrb hold hmx
      obtain ⟨x0, x1, x2, x3, x4, cl, im, rfl⟩ := blk_cases bk
      have c0 : wr.cell? ⟨b, o + k * 10, none⟩ = some (.int .i64 arm) := hc0
      have c1 : wr.cell? ⟨b, o + k * 10 + 1, none⟩ = some (.int .u64 (x0 : Int)) := hc 1 (by omega)
      have c2 : wr.cell? ⟨b, o + k * 10 + 2, none⟩ = some (.int .u64 (x1 : Int)) := hc 2 (by omega)
      have c3 : wr.cell? ⟨b, o + k * 10 + 3, none⟩ = some (.int .u64 (x2 : Int)) := hc 3 (by omega)
      have c4 : wr.cell? ⟨b, o + k * 10 + 4, none⟩ = some (.int .u64 (x3 : Int)) := hc 4 (by omega)
      have c5 : wr.cell? ⟨b, o + k * 10 + 5, none⟩ = some (.int .u64 (x4 : Int)) := hc 5 (by omega)
      have c6 : wr.cell? ⟨b, o + k * 10 + 6, none⟩ = some (.bool cl) := hc 6 (by omega)
      have c7 : wr.cell? ⟨b, o + k * 10 + 7, none⟩ = some (.int .i64 im) := hc 7 (by omega)
      have c8 : wr.cell? ⟨b, o + k * 10 + 8, none⟩ = some (.slice pa pn pc) := hc 8 (by omega)
      have c9 : wr.cell? ⟨b, o + k * 10 + 9, none⟩ = some (.bool cr) := hc 9 (by omega)
      have WF := Lib.hid hw1
      have OK := Lib.hid hok
      have RB : Hid (RdB w (.slice pa pn pc) (l k)) := Lib.hid hrb
      have HOLD : Hid (0 < pn → ∀ j, (Value.slice pa pn pc).ownBlock = some j → j < w.heap.size) := Lib.hid hold
      have HMX := Lib.hid hmx
      have hX1 := heap_alloc_new wr (.cells #[.int .i64 arm, .int .u64 (x0 : Int), .int .u64 (x1 : Int), .int .u64 (x2 : Int), .int .u64 (x3 : Int), .int .u64 (x4 : Int), .bool cl, .int .i64 im, .slice pa pn pc, .bool cr] 88)
      have fX := (Fr.refl Nob wr).alloc (.cells #[.int .i64 arm, .int .u64 (x0 : Int), .int .u64 (x1 : Int), .int .u64 (x2 : Int), .int .u64 (x3 : Int), .int .u64 (x4 : Int), .bool cl, .int .i64 im, .slice pa pn pc, .bool cr] 88)
      obtain ⟨X, hX⟩ : ∃ X, X = wr.heap.size := ⟨_, rfl⟩
      rw [← hX] at hX1
      have P1 := Lib.hid (P0.out.more fX (B := X) (by omega) hX1)
      clear hc0 hc hw1 hok hrb hold hmx hzk hX1 fX P0
      go_upto_region 11 with fail
      rw [← hX]
      clear hX c0 c1 c2 c3 c4 c5 c6 c7 c8 c9
      generalize wr.alloc (.cells #[.int .i64 arm, .int .u64 (x0 : Int), .int .u64 (x1 : Int), .int .u64 (x2 : Int), .int .u64 (x3 : Int), .int .u64 (x4 : Int), .bool cl, .int .i64 im, .slice pa pn pc, .bool cr] 88) = w3 at *
      have p0 : w3.cell? ⟨X, 0, none⟩ = some (.int .i64 arm) := cell_of_row _ X 0 _ _ (0, 0) (P1.out.at_ (B := X) (o := Obj.cells #[.int .i64 arm, .int .u64 (x0 : Int), .int .u64 (x1 : Int), .int .u64 (x2 : Int), .int .u64 (x3 : Int), .int .u64 (x4 : Int), .bool cl, .int .i64 im, .slice pa pn pc, .bool cr] 88 (0, 0)) (by simp))
      have AR := Lib.hid (P1.out.dev (F := fun e _ => e = .returned (.tuple #[])) fun N d => d.arm WF.out)
      go_wp2_with fail
      refine AR.out.mono ?_
      rintro e w4 ⟨rfl, g4⟩
      have P4 := Lib.hid g4
      clear g4 AR P1 p0
      have p0 : w4.cell? ⟨X, 0, none⟩ = some (.int .i64 arm) := cell_of_row _ X 0 _ _ (0, 0) (P4.out.at_ (B := X) (o := Obj.cells #[.int .i64 arm, .int .u64 (x0 : Int), .int .u64 (x1 : Int), .int .u64 (x2 : Int), .int .u64 (x3 : Int), .int .u64 (x4 : Int), .bool cl, .int .i64 im, .slice pa pn pc, .bool cr] 88 (0, 0)) (by simp))
      have AR := Lib.hid (P4.out.rf (F := fun e _ => e = .returned (.tuple #[])) fun M _ r => refArm_eq r WF.out)
      go_wp2_with fail
      refine AR.out.mono ?_
      rintro e w5 ⟨rfl, g5⟩
      have P5 := Lib.hid g5
      clear g5 AR P4 p0
      have L5 : Hid ((D.armed arm).pg.length = 3) := Lib.hid L0.out
      have Q5 : Hid ((D.armed arm).off = false) := Lib.hid Q0.out
      generalize D.armed arm = D5 at *
      obtain ⟨⟨rb, re, D6⟩, hres⟩ : ∃ p, p = stRes D5 ⟨x0, x1, x2, x3, x4, cl, im⟩ := ⟨_, rfl⟩
      have L6 : Hid (D6.pg.length = 3) := Lib.hid (by
        have h := stRes_len D5 ⟨x0, x1, x2, x3, x4, cl, im⟩
        rw [← hres] at h
        exact h.trans L5.out)
      obtain ⟨r0, r1, r2, r3, r4, rl, rm, rfl⟩ := blk_cases rb
      have p1 : w5.cell? ⟨X, 1, none⟩ = some (.int .u64 (x0 : Int)) := cell_of_row _ X 1 _ _ (0, 0) (P5.out.at_ (B := X) (o := Obj.cells #[.int .i64 arm, .int .u64 (x0 : Int), .int .u64 (x1 : Int), .int .u64 (x2 : Int), .int .u64 (x3 : Int), .int .u64 (x4 : Int), .bool cl, .int .i64 im, .slice pa pn pc, .bool cr] 88 (0, 0)) (by simp))
      have p2 : w5.cell? ⟨X, 2, none⟩ = some (.int .u64 (x1 : Int)) := cell_of_row _ X 2 _ _ (0, 0) (P5.out.at_ (B := X) (o := Obj.cells #[.int .i64 arm, .int .u64 (x0 : Int), .int .u64 (x1 : Int), .int .u64 (x2 : Int), .int .u64 (x3 : Int), .int .u64 (x4 : Int), .bool cl, .int .i64 im, .slice pa pn pc, .bool cr] 88 (0, 0)) (by simp))
      have p3 : w5.cell? ⟨X, 3, none⟩ = some (.int .u64 (x2 : Int)) := cell_of_row _ X 3 _ _ (0, 0) (P5.out.at_ (B := X) (o := Obj.cells #[.int .i64 arm, .int .u64 (x0 : Int), .int .u64 (x1 : Int), .int .u64 (x2 : Int), .int .u64 (x3 : Int), .int .u64 (x4 : Int), .bool cl, .int .i64 im, .slice pa pn pc, .bool cr] 88 (0, 0)) (by simp))
      have p4 : w5.cell? ⟨X, 4, none⟩ = some (.int .u64 (x3 : Int)) := cell_of_row _ X 4 _ _ (0, 0) (P5.out.at_ (B := X) (o := Obj.cells #[.int .i64 arm, .int .u64 (x0 : Int), .int .u64 (x1 : Int), .int .u64 (x2 : Int), .int .u64 (x3 : Int), .int .u64 (x4 : Int), .bool cl, .int .i64 im, .slice pa pn pc, .bool cr] 88 (0, 0)) (by simp))
      have p5 : w5.cell? ⟨X, 5, none⟩ = some (.int .u64 (x4 : Int)) := cell_of_row _ X 5 _ _ (0, 0) (P5.out.at_ (B := X) (o := Obj.cells #[.int .i64 arm, .int .u64 (x0 : Int), .int .u64 (x1 : Int), .int .u64 (x2 : Int), .int .u64 (x3 : Int), .int .u64 (x4 : Int), .bool cl, .int .i64 im, .slice pa pn pc, .bool cr] 88 (0, 0)) (by simp))
      have p6 : w5.cell? ⟨X, 6, none⟩ = some (.bool cl) := cell_of_row _ X 6 _ _ (0, 0) (P5.out.at_ (B := X) (o := Obj.cells #[.int .i64 arm, .int .u64 (x0 : Int), .int .u64 (x1 : Int), .int .u64 (x2 : Int), .int .u64 (x3 : Int), .int .u64 (x4 : Int), .bool cl, .int .i64 im, .slice pa pn pc, .bool cr] 88 (0, 0)) (by simp))
      have p7 : w5.cell? ⟨X, 7, none⟩ = some (.int .i64 im) := cell_of_row _ X 7 _ _ (0, 0) (P5.out.at_ (B := X) (o := Obj.cells #[.int .i64 arm, .int .u64 (x0 : Int), .int .u64 (x1 : Int), .int .u64 (x2 : Int), .int .u64 (x3 : Int), .int .u64 (x4 : Int), .bool cl, .int .i64 im, .slice pa pn pc, .bool cr] 88 (0, 0)) (by simp))
      have ST := Lib.hid (P5.out.store (by rw [L5.out]; omega) (by rw [L5.out]; omega) Q5.out ⟨x0, x1, x2, x3, x4, cl, im⟩ OK.out)
      rw [← hres, blkV_mk, blkV_mk] at ST
      have PGL := Lib.hid (P5.out.pglen)
      have HRES := Lib.hid hres
      clear hres
      go_wp2_with fail
      refine ST.out.mono ?_
      rintro e w6 ⟨rfl, g6⟩
      have h8 := heap_alloc_new w6 (.cells #[.int .u64 (r0 : Int), .int .u64 (r1 : Int), .int .u64 (r2 : Int), .int .u64 (r3 : Int), .int .u64 (r4 : Int), .bool rl, .int .i64 rm] 29)
      have f8 := (Fr.refl Nob w6).alloc (.cells #[.int .u64 (r0 : Int), .int .u64 (r1 : Int), .int .u64 (r2 : Int), .int .u64 (r3 : Int), .int .u64 (r4 : Int), .bool rl, .int .i64 rm] 29)
      obtain ⟨B8, hB8⟩ : ∃ X, X = w6.heap.size := ⟨_, rfl⟩
      rw [← hB8] at h8
      have P6 := Lib.hid (g6.more f8 (B := B8) (by omega) h8)
      clear g6 ST P5 h8 f8 p1 p2 p3 p4 p5 p6 p7
      go_upto_region 14 with fail
      rw [← hB8]
      clear hB8
      generalize w6.alloc (.cells #[.int .u64 (r0 : Int), .int .u64 (r1 : Int), .int .u64 (r2 : Int), .int .u64 (r3 : Int), .int .u64 (r4 : Int), .bool rl, .int .i64 rm] 29) = w7 at *
      have p1 : w7.cell? ⟨X, 1, none⟩ = some (.int .u64 (x0 : Int)) := cell_of_row _ X 1 _ _ (0, 0) (P6.out.at_ (B := X) (o := Obj.cells #[.int .i64 arm, .int .u64 (x0 : Int), .int .u64 (x1 : Int), .int .u64 (x2 : Int), .int .u64 (x3 : Int), .int .u64 (x4 : Int), .bool cl, .int .i64 im, .slice pa pn pc, .bool cr] 88 (0, 0)) (by simp))
      have p2 : w7.cell? ⟨X, 2, none⟩ = some (.int .u64 (x1 : Int)) := cell_of_row _ X 2 _ _ (0, 0) (P6.out.at_ (B := X) (o := Obj.cells #[.int .i64 arm, .int .u64 (x0 : Int), .int .u64 (x1 : Int), .int .u64 (x2 : Int), .int .u64 (x3 : Int), .int .u64 (x4 : Int), .bool cl, .int .i64 im, .slice pa pn pc, .bool cr] 88 (0, 0)) (by simp))
      have p3 : w7.cell? ⟨X, 3, none⟩ = some (.int .u64 (x2 : Int)) := cell_of_row _ X 3 _ _ (0, 0) (P6.out.at_ (B := X) (o := Obj.cells #[.int .i64 arm, .int .u64 (x0 : Int), .int .u64 (x1 : Int), .int .u64 (x2 : Int), .int .u64 (x3 : Int), .int .u64 (x4 : Int), .bool cl, .int .i64 im, .slice pa pn pc, .bool cr] 88 (0, 0)) (by simp))
      have p4 : w7.cell? ⟨X, 4, none⟩ = some (.int .u64 (x3 : Int)) := cell_of_row _ X 4 _ _ (0, 0) (P6.out.at_ (B := X) (o := Obj.cells #[.int .i64 arm, .int .u64 (x0 : Int), .int .u64 (x1 : Int), .int .u64 (x2 : Int), .int .u64 (x3 : Int), .int .u64 (x4 : Int), .bool cl, .int .i64 im, .slice pa pn pc, .bool cr] 88 (0, 0)) (by simp))
      have p5 : w7.cell? ⟨X, 5, none⟩ = some (.int .u64 (x4 : Int)) := cell_of_row _ X 5 _ _ (0, 0) (P6.out.at_ (B := X) (o := Obj.cells #[.int .i64 arm, .int .u64 (x0 : Int), .int .u64 (x1 : Int), .int .u64 (x2 : Int), .int .u64 (x3 : Int), .int .u64 (x4 : Int), .bool cl, .int .i64 im, .slice pa pn pc, .bool cr] 88 (0, 0)) (by simp))
      have p6 : w7.cell? ⟨X, 6, none⟩ = some (.bool cl) := cell_of_row _ X 6 _ _ (0, 0) (P6.out.at_ (B := X) (o := Obj.cells #[.int .i64 arm, .int .u64 (x0 : Int), .int .u64 (x1 : Int), .int .u64 (x2 : Int), .int .u64 (x3 : Int), .int .u64 (x4 : Int), .bool cl, .int .i64 im, .slice pa pn pc, .bool cr] 88 (0, 0)) (by simp))
      have p7 : w7.cell? ⟨X, 7, none⟩ = some (.int .i64 im) := cell_of_row _ X 7 _ _ (0, 0) (P6.out.at_ (B := X) (o := Obj.cells #[.int .i64 arm, .int .u64 (x0 : Int), .int .u64 (x1 : Int), .int .u64 (x2 : Int), .int .u64 (x3 : Int), .int .u64 (x4 : Int), .bool cl, .int .i64 im, .slice pa pn pc, .bool cr] 88 (0, 0)) (by simp))
      have OWN : Hid (∀ w, Calls Try.prog 30 #[.agg #[.int .u64 (x0 : Int), .int .u64 (x1 : Int), .int .u64 (x2 : Int), .int .u64 (x3 : Int), .int .u64 (x4 : Int), .bool cl, .int .i64 im]] w fun e w' => e = .returned (.agg #[.int .u64 (x0 : Int), .int .u64 (x1 : Int), .int .u64 (x2 : Int), .int .u64 (x3 : Int), .int .u64 (x4 : Int), .bool cl, .int .i64 im]) ∧ Fr Nob w w') := Lib.hid fun w => by
        have h := own_eq (w := w) ⟨x0, x1, x2, x3, x4, cl, im⟩
        rw [blkV_mk] at h
        exact h
      have OWR : Hid (∀ w, Calls Try.prog 30 #[.agg #[.int .u64 (r0 : Int), .int .u64 (r1 : Int), .int .u64 (r2 : Int), .int .u64 (r3 : Int), .int .u64 (r4 : Int), .bool rl, .int .i64 rm]] w fun e w' => e = .returned (.agg #[.int .u64 (r0 : Int), .int .u64 (r1 : Int), .int .u64 (r2 : Int), .int .u64 (r3 : Int), .int .u64 (r4 : Int), .bool rl, .int .i64 rm]) ∧ Fr Nob w w') := Lib.hid fun w => by
        have h := own_eq (w := w) ⟨r0, r1, r2, r3, r4, rl, rm⟩
        rw [blkV_mk] at h
        exact h
      go_wp2_with fail
      refine (OWN.out w7).mono ?_
      rintro e w8 ⟨rfl, f8⟩
      have P8 := Lib.hid (P6.out.nob f8)
      have ST := Lib.hid (P8.out.rstore (by rw [L5.out]; omega) Q5.out PGL.out ⟨x0, x1, x2, x3, x4, cl, im⟩)
      rw [← HRES.out, blkV_mk, blkV_mk] at ST
      clear f8 P6 p1 p2 p3 p4 p5 p6 p7 OWN PGL HRES
      go_wp2_with fail
      refine ST.out.mono ?_
      rintro e w9 ⟨rfl, g9⟩
      have h10 := heap_alloc_new w9 (.cells #[.int .u64 (r0 : Int), .int .u64 (r1 : Int), .int .u64 (r2 : Int), .int .u64 (r3 : Int), .int .u64 (r4 : Int), .bool rl, .int .i64 rm] 37)
      have f10 := (Fr.refl Nob w9).alloc (.cells #[.int .u64 (r0 : Int), .int .u64 (r1 : Int), .int .u64 (r2 : Int), .int .u64 (r3 : Int), .int .u64 (r4 : Int), .bool rl, .int .i64 rm] 37)
      obtain ⟨B10, hB10⟩ : ∃ X, X = w9.heap.size := ⟨_, rfl⟩
      rw [← hB10] at h10
      have P10 := Lib.hid (g9.more f10 (B := B10) (by omega) h10)
      have NE : Hid (B8 ≠ B10 ∧ B10 ≠ X ∧ B8 ≠ X) := Lib.hid (by
        have a8 := lt_of_block (g9.at_ (B := B8) (o := Obj.cells #[.int .u64 (r0 : Int), .int .u64 (r1 : Int), .int .u64 (r2 : Int), .int .u64 (r3 : Int), .int .u64 (r4 : Int), .bool rl, .int .i64 rm] 29 (0, 0)) (by simp))
        have aX := lt_of_block (g9.at_ (B := X) (o := Obj.cells #[.int .i64 arm, .int .u64 (x0 : Int), .int .u64 (x1 : Int), .int .u64 (x2 : Int), .int .u64 (x3 : Int), .int .u64 (x4 : Int), .bool cl, .int .i64 im, .slice pa pn pc, .bool cr] 88 (0, 0)) (by simp))
        refine ⟨by omega, by omega, fun e => ?_⟩
        have k8 := g9.at_ (B := B8) (o := Obj.cells #[.int .u64 (r0 : Int), .int .u64 (r1 : Int), .int .u64 (r2 : Int), .int .u64 (r3 : Int), .int .u64 (r4 : Int), .bool rl, .int .i64 rm] 29 (0, 0)) (by simp)
        have kX := g9.at_ (B := X) (o := Obj.cells #[.int .i64 arm, .int .u64 (x0 : Int), .int .u64 (x1 : Int), .int .u64 (x2 : Int), .int .u64 (x3 : Int), .int .u64 (x4 : Int), .bool cl, .int .i64 im, .slice pa pn pc, .bool cr] 88 (0, 0)) (by simp)
        rw [e, kX] at k8
        injection k8 with k8
        injection k8 with _ k8
        exact absurd k8 (by decide))
      clear g9 ST P8 h10 f10 L5 Q5 Q0 L0
      go_upto_region 15 with fail
      rw [← hB10]
      clear hB10
      generalize w9.alloc (.cells #[.int .u64 (r0 : Int), .int .u64 (r1 : Int), .int .u64 (r2 : Int), .int .u64 (r3 : Int), .int .u64 (r4 : Int), .bool rl, .int .i64 rm] 37) = w10 at *
      have hqr : ∀ w', (binOp .neq 37 (.agg #[.int .u64 (r0 : Int), .int .u64 (r1 : Int), .int .u64 (r2 : Int), .int .u64 (r3 : Int), .int .u64 (r4 : Int), .bool rl, .int .i64 rm]) (.agg #[.int .u64 (r0 : Int), .int .u64 (r1 : Int), .int .u64 (r2 : Int), .int .u64 (r3 : Int), .int .u64 (r4 : Int), .bool rl, .int .i64 rm])).run Try.prog w' = .ok (.bool false) w' := fun w' => by
        have h := blk4_neqS ⟨r0, r1, r2, r3, r4, rl, rm⟩ w'
        rw [blkV_mk] at h
        exact h
      go_cut [63] (fun t W => t = .bool false ∧ Hid (Fr Nob w10 W))
      case first =>
        have Q := Lib.hid (Fr.refl Nob w10)
        have c0 : w10.cell? ⟨B8, 0, none⟩ = some (.int .u64 (r0 : Int)) := cell_of_row _ B8 0 _ _ (0, 0) (P10.out.at_ (B := B8) (o := Obj.cells #[.int .u64 (r0 : Int), .int .u64 (r1 : Int), .int .u64 (r2 : Int), .int .u64 (r3 : Int), .int .u64 (r4 : Int), .bool rl, .int .i64 rm] 29 (0, 0)) (by simp))
        have c1 : w10.cell? ⟨B8, 1, none⟩ = some (.int .u64 (r1 : Int)) := cell_of_row _ B8 1 _ _ (0, 0) (P10.out.at_ (B := B8) (o := Obj.cells #[.int .u64 (r0 : Int), .int .u64 (r1 : Int), .int .u64 (r2 : Int), .int .u64 (r3 : Int), .int .u64 (r4 : Int), .bool rl, .int .i64 rm] 29 (0, 0)) (by simp))
        have c2 : w10.cell? ⟨B8, 2, none⟩ = some (.int .u64 (r2 : Int)) := cell_of_row _ B8 2 _ _ (0, 0) (P10.out.at_ (B := B8) (o := Obj.cells #[.int .u64 (r0 : Int), .int .u64 (r1 : Int), .int .u64 (r2 : Int), .int .u64 (r3 : Int), .int .u64 (r4 : Int), .bool rl, .int .i64 rm] 29 (0, 0)) (by simp))
        have c3 : w10.cell? ⟨B8, 3, none⟩ = some (.int .u64 (r3 : Int)) := cell_of_row _ B8 3 _ _ (0, 0) (P10.out.at_ (B := B8) (o := Obj.cells #[.int .u64 (r0 : Int), .int .u64 (r1 : Int), .int .u64 (r2 : Int), .int .u64 (r3 : Int), .int .u64 (r4 : Int), .bool rl, .int .i64 rm] 29 (0, 0)) (by simp))
        have c4 : w10.cell? ⟨B8, 4, none⟩ = some (.int .u64 (r4 : Int)) := cell_of_row _ B8 4 _ _ (0, 0) (P10.out.at_ (B := B8) (o := Obj.cells #[.int .u64 (r0 : Int), .int .u64 (r1 : Int), .int .u64 (r2 : Int), .int .u64 (r3 : Int), .int .u64 (r4 : Int), .bool rl, .int .i64 rm] 29 (0, 0)) (by simp))
        have c5 : w10.cell? ⟨B8, 5, none⟩ = some (.bool rl) := cell_of_row _ B8 5 _ _ (0, 0) (P10.out.at_ (B := B8) (o := Obj.cells #[.int .u64 (r0 : Int), .int .u64 (r1 : Int), .int .u64 (r2 : Int), .int .u64 (r3 : Int), .int .u64 (r4 : Int), .bool rl, .int .i64 rm] 29 (0, 0)) (by simp))
        have c6 : w10.cell? ⟨B8, 6, none⟩ = some (.int .i64 rm) := cell_of_row _ B8 6 _ _ (0, 0) (P10.out.at_ (B := B8) (o := Obj.cells #[.int .u64 (r0 : Int), .int .u64 (r1 : Int), .int .u64 (r2 : Int), .int .u64 (r3 : Int), .int .u64 (r4 : Int), .bool rl, .int .i64 rm] 29 (0, 0)) (by simp))
        have a0 : w10.cell? ⟨B10, 0, none⟩ = some (.int .u64 (r0 : Int)) := cell_of_row _ B10 0 _ _ (0, 0) (P10.out.at_ (B := B10) (o := Obj.cells #[.int .u64 (r0 : Int), .int .u64 (r1 : Int), .int .u64 (r2 : Int), .int .u64 (r3 : Int), .int .u64 (r4 : Int), .bool rl, .int .i64 rm] 37 (0, 0)) (by simp))
        have a1 : w10.cell? ⟨B10, 1, none⟩ = some (.int .u64 (r1 : Int)) := cell_of_row _ B10 1 _ _ (0, 0) (P10.out.at_ (B := B10) (o := Obj.cells #[.int .u64 (r0 : Int), .int .u64 (r1 : Int), .int .u64 (r2 : Int), .int .u64 (r3 : Int), .int .u64 (r4 : Int), .bool rl, .int .i64 rm] 37 (0, 0)) (by simp))
        have a2 : w10.cell? ⟨B10, 2, none⟩ = some (.int .u64 (r2 : Int)) := cell_of_row _ B10 2 _ _ (0, 0) (P10.out.at_ (B := B10) (o := Obj.cells #[.int .u64 (r0 : Int), .int .u64 (r1 : Int), .int .u64 (r2 : Int), .int .u64 (r3 : Int), .int .u64 (r4 : Int), .bool rl, .int .i64 rm] 37 (0, 0)) (by simp))
        have a3 : w10.cell? ⟨B10, 3, none⟩ = some (.int .u64 (r3 : Int)) := cell_of_row _ B10 3 _ _ (0, 0) (P10.out.at_ (B := B10) (o := Obj.cells #[.int .u64 (r0 : Int), .int .u64 (r1 : Int), .int .u64 (r2 : Int), .int .u64 (r3 : Int), .int .u64 (r4 : Int), .bool rl, .int .i64 rm] 37 (0, 0)) (by simp))
        have a4 : w10.cell? ⟨B10, 4, none⟩ = some (.int .u64 (r4 : Int)) := cell_of_row _ B10 4 _ _ (0, 0) (P10.out.at_ (B := B10) (o := Obj.cells #[.int .u64 (r0 : Int), .int .u64 (r1 : Int), .int .u64 (r2 : Int), .int .u64 (r3 : Int), .int .u64 (r4 : Int), .bool rl, .int .i64 rm] 37 (0, 0)) (by simp))
        have a5 : w10.cell? ⟨B10, 5, none⟩ = some (.bool rl) := cell_of_row _ B10 5 _ _ (0, 0) (P10.out.at_ (B := B10) (o := Obj.cells #[.int .u64 (r0 : Int), .int .u64 (r1 : Int), .int .u64 (r2 : Int), .int .u64 (r3 : Int), .int .u64 (r4 : Int), .bool rl, .int .i64 rm] 37 (0, 0)) (by simp))
        have a6 : w10.cell? ⟨B10, 6, none⟩ = some (.int .i64 rm) := cell_of_row _ B10 6 _ _ (0, 0) (P10.out.at_ (B := B10) (o := Obj.cells #[.int .u64 (r0 : Int), .int .u64 (r1 : Int), .int .u64 (r2 : Int), .int .u64 (r3 : Int), .int .u64 (r4 : Int), .bool rl, .int .i64 rm] 37 (0, 0)) (by simp))
        go_region_held3 (fun w' => w'.cell? ⟨B8, 0, none⟩ = some (.int .u64 (r0 : Int)) ∧ w'.cell? ⟨B8, 1, none⟩ = some (.int .u64 (r1 : Int)) ∧ w'.cell? ⟨B8, 2, none⟩ = some (.int .u64 (r2 : Int)) ∧ w'.cell? ⟨B8, 3, none⟩ = some (.int .u64 (r3 : Int)) ∧ w'.cell? ⟨B8, 4, none⟩ = some (.int .u64 (r4 : Int)) ∧ w'.cell? ⟨B8, 5, none⟩ = some (.bool rl) ∧ w'.cell? ⟨B8, 6, none⟩ = some (.int .i64 rm) ∧ w'.cell? ⟨B10, 0, none⟩ = some (.int .u64 (r0 : Int)) ∧ w'.cell? ⟨B10, 1, none⟩ = some (.int .u64 (r1 : Int)) ∧ w'.cell? ⟨B10, 2, none⟩ = some (.int .u64 (r2 : Int)) ∧ w'.cell? ⟨B10, 3, none⟩ = some (.int .u64 (r3 : Int)) ∧ w'.cell? ⟨B10, 4, none⟩ = some (.int .u64 (r4 : Int)) ∧ w'.cell? ⟨B10, 5, none⟩ = some (.bool rl) ∧ w'.cell? ⟨B10, 6, none⟩ = some (.int .i64 rm))
          (first | go_keep | exact ⟨c0, c1, c2, c3, c4, c5, c6, a0, a1, a2, a3, a4, a5, a6⟩ | exact ⟨by assumption, by assumption, by assumption, by assumption, by assumption, by assumption, by assumption, by assumption, by assumption, by assumption, by assumption, by assumption, by assumption, by assumption⟩)
          (first
          | (go_at_call 30; (with_reducible refine (OWR.out _).mono ?_); rintro e w11 ⟨rfl, f11⟩; have y0 : w11.cell? ⟨B8, 0, none⟩ = some (.int .u64 (r0 : Int)) := f11.cell (by assumption) (fun h => h); have y1 : w11.cell? ⟨B8, 1, none⟩ = some (.int .u64 (r1 : Int)) := f11.cell (by assumption) (fun h => h); have y2 : w11.cell? ⟨B8, 2, none⟩ = some (.int .u64 (r2 : Int)) := f11.cell (by assumption) (fun h => h); have y3 : w11.cell? ⟨B8, 3, none⟩ = some (.int .u64 (r3 : Int)) := f11.cell (by assumption) (fun h => h); have y4 : w11.cell? ⟨B8, 4, none⟩ = some (.int .u64 (r4 : Int)) := f11.cell (by assumption) (fun h => h); have y5 : w11.cell? ⟨B8, 5, none⟩ = some (.bool rl) := f11.cell (by assumption) (fun h => h); have y6 : w11.cell? ⟨B8, 6, none⟩ = some (.int .i64 rm) := f11.cell (by assumption) (fun h => h); have z0 : w11.cell? ⟨B10, 0, none⟩ = some (.int .u64 (r0 : Int)) := f11.cell (by assumption) (fun h => h); have z1 : w11.cell? ⟨B10, 1, none⟩ = some (.int .u64 (r1 : Int)) := f11.cell (by assumption) (fun h => h); have z2 : w11.cell? ⟨B10, 2, none⟩ = some (.int .u64 (r2 : Int)) := f11.cell (by assumption) (fun h => h); have z3 : w11.cell? ⟨B10, 3, none⟩ = some (.int .u64 (r3 : Int)) := f11.cell (by assumption) (fun h => h); have z4 : w11.cell? ⟨B10, 4, none⟩ = some (.int .u64 (r4 : Int)) := f11.cell (by assumption) (fun h => h); have z5 : w11.cell? ⟨B10, 5, none⟩ = some (.bool rl) := f11.cell (by assumption) (fun h => h); have z6 : w11.cell? ⟨B10, 6, none⟩ = some (.int .i64 rm) := f11.cell (by assumption) (fun h => h); have Q : Hid (Fr Nob w10 w11) := Lib.hid (by first | exact Q.out.trans' f11 | exact Q.out.drew.trans' f11); clear f11))
        all_goals
          go_wp2_with fail
          go_meet
          exact ⟨by first | rfl | simp, Q⟩
      case rest =>
        obtain ⟨rfl, f12⟩ := hcut
        have P12 := Lib.hid (P10.out.nob f12.out)
        generalize wc = w12 at *
        clear f12 P10 OWR hqr
        have p9 : w12.cell? ⟨X, 9, none⟩ = some (.bool cr) := cell_of_row _ X 9 _ _ (0, 0) (P12.out.at_ (B := X) (o := Obj.cells #[.int .i64 arm, .int .u64 (x0 : Int), .int .u64 (x1 : Int), .int .u64 (x2 : Int), .int .u64 (x3 : Int), .int .u64 (x4 : Int), .bool cl, .int .i64 im, .slice pa pn pc, .bool cr] 88 (0, 0)) (by simp))
        go_upto_region 17 with fail
        obtain ⟨co, hco⟩ : ∃ co, co = (cr || D6.off) := ⟨_, rfl⟩
        have HCO := Lib.hid hco
        clear hco
        go_cut [70] (fun t W => t = .bool co ∧ W = w12)
        case first =>
          obtain ⟨M, tw, _⟩ := P12.out
          have PW := Lib.hid tw.dl.power
          clear tw
          cases hcr : cr with
          | true =>
            have hc := HCO.out
            rw [hcr] at p9 hc
            have E := Lib.hid hc
            clear hcr hc
            go_wp2_with fail
            go_meet
            exact ⟨by rw [E.out]; rfl, rfl⟩
          | false =>
            have hc := HCO.out
            rw [hcr] at p9 hc
            have E := Lib.hid hc
            clear hcr hc
            go_wp2_with fail
            refine PW.out.mono ?_
            rintro e _ ⟨rfl, rfl⟩
            go_wp2_with fail
            go_meet
            exact ⟨by rw [E.out]; simp, rfl⟩
        case rest =>
          obtain ⟨rfl, rfl⟩ := hcut
          clear p9
          go_upto_if 70 with fail
          go_cut [] (fun W => ∃ D7, Hid (PL w W q K u D7 D7 [(B10, Obj.cells #[.int .u64 (r0 : Int), .int .u64 (r1 : Int), .int .u64 (r2 : Int), .int .u64 (r3 : Int), .int .u64 (r4 : Int), .bool rl, .int .i64 rm] 37 (0, 0)), (B8, Obj.cells #[.int .u64 (r0 : Int), .int .u64 (r1 : Int), .int .u64 (r2 : Int), .int .u64 (r3 : Int), .int .u64 (r4 : Int), .bool rl, .int .i64 rm] 29 (0, 0))]) ∧ Hid (D7.pg.length = 3) ∧ Hid (D7.off = false))
          case first =>
            cases hb : co with
            | true =>
              have p8 : wc.cell? ⟨X, 8, none⟩ = some (.slice pa pn pc) := cell_of_row _ X 8 _ _ (0, 0) (P12.out.at_ (B := X) (o := Obj.cells #[.int .i64 arm, .int .u64 (x0 : Int), .int .u64 (x1 : Int), .int .u64 (x2 : Int), .int .u64 (x3 : Int), .int .u64 (x4 : Int), .bool cl, .int .i64 im, .slice pa pn pc, .bool cr] 88 (0, 0)) (by simp))
              have CR := Lib.hid (P12.out.dev (F := fun e _ => e = .returned (.tuple #[])) fun N d => d.crash5 (RB.out.nob P12.out.fr) (by
                have h := RB.out
                obtain ⟨_, _, he, _⟩ := h
                simp only [Value.slice.injEq] at he
                have := HMX.out
                omega) fun h0 j hj hk => by
                have h := RB.out
                obtain ⟨_, _, he, _⟩ := h
                simp only [Value.slice.injEq] at he
                have := HOLD.out (by omega) j hj
                have := d.kle j hk
                omega)
              clear hb
              go_wp2_with fail
              refine CR.out.mono ?_
              rintro e w14 ⟨rfl, g14⟩
              have P14 := Lib.hid g14
              clear g14 CR p8
              have p8 : w14.cell? ⟨X, 8, none⟩ = some (.slice pa pn pc) := cell_of_row _ X 8 _ _ (0, 0) (P14.out.at_ (B := X) (o := Obj.cells #[.int .i64 arm, .int .u64 (x0 : Int), .int .u64 (x1 : Int), .int .u64 (x2 : Int), .int .u64 (x3 : Int), .int .u64 (x4 : Int), .bool cl, .int .i64 im, .slice pa pn pc, .bool cr] 88 (0, 0)) (by simp))
              have CR := Lib.hid (P14.out.rf (F := fun e _ => e = .returned (.tuple #[])) fun M hM r => refCrash_eq r (RB.out.nob P14.out.fr) (fun h0 j hj hk => by
                have := HOLD.out h0 j hj
                have := hM j hk
                omega) HMX.out)
              go_wp2_with fail
              refine CR.out.mono ?_
              rintro e w15 ⟨rfl, g15⟩
              have P15 := Lib.hid g15
              have ON := Lib.hid (P15.out.dev (F := fun e _ => e = .returned (.tuple #[])) fun N d => d.on)
              clear g15 CR p8 P14
              go_wp2_with fail
              refine ON.out.mono ?_
              rintro e w16 ⟨rfl, g16⟩
              have P16 := Lib.hid g16
              have ON := Lib.hid (P16.out.rf (F := fun e _ => e = .returned (.tuple #[])) fun M _ r => refOn_eq r)
              clear g16 ON P15
              have ON := Lib.hid (P16.out.rf (F := fun e _ => e = .returned (.tuple #[])) fun M _ r => refOn_eq r)
              go_wp2_with fail
              refine ON.out.mono ?_
              rintro e w17 ⟨rfl, g17⟩
              have P17 := Lib.hid (g17.less (S' := [(B10, Obj.cells #[.int .u64 (r0 : Int), .int .u64 (r1 : Int), .int .u64 (r2 : Int), .int .u64 (r3 : Int), .int .u64 (r4 : Int), .bool rl, .int .i64 rm] 37 (0, 0)), (B8, Obj.cells #[.int .u64 (r0 : Int), .int .u64 (r1 : Int), .int .u64 (r2 : Int), .int .u64 (r3 : Int), .int .u64 (r4 : Int), .bool rl, .int .i64 rm] 29 (0, 0))]) fun p hp => by
                simp only [List.mem_cons, List.not_mem_nil, or_false] at hp ⊢
                rcases hp with h | h
                · exact .inl h
                · exact .inr (.inl h))
              have L17 : Hid ((D6.crash (l k)).on.pg.length = 3) := Lib.hid (by
                show (settled (settled D6.pg (l k)) []).length = 3
                rw [settled_len, settled_len]
                exact L6.out)
              clear g17 ON P16
              go_wp2_with fail
              go_meet
              exact ⟨_, P17, L17, Lib.hid rfl⟩
            | false =>
              have Q6 : Hid (D6.off = false) := Lib.hid (by
                have h := HCO.out
                rw [hb] at h
                cases hc : D6.off with
                | false => rfl
                | true => rw [hc] at h; simp at h)
              have P13 := Lib.hid (P12.out.less (S' := [(B10, Obj.cells #[.int .u64 (r0 : Int), .int .u64 (r1 : Int), .int .u64 (r2 : Int), .int .u64 (r3 : Int), .int .u64 (r4 : Int), .bool rl, .int .i64 rm] 37 (0, 0)), (B8, Obj.cells #[.int .u64 (r0 : Int), .int .u64 (r1 : Int), .int .u64 (r2 : Int), .int .u64 (r3 : Int), .int .u64 (r4 : Int), .bool rl, .int .i64 rm] 29 (0, 0))]) fun p hp => by
                simp only [List.mem_cons, List.not_mem_nil, or_false] at hp ⊢
                rcases hp with h | h
                · exact .inl h
                · exact .inr (.inl h))
              clear hb
              go_wp2_with fail
              go_meet
              exact ⟨_, P13, L6, Q6⟩
          case rest =>
            obtain ⟨D7, P7, L7, Q7⟩ := hcut
            generalize wc = w18 at *
            clear P12 L6 HCO RB HOLD HMX WF OK
            obtain ⟨ob, hob⟩ : ∃ ob, loadD D7 = ob := ⟨_, rfl⟩
            obtain ⟨t0, t1, t2, t3, t4, tl, tm, ht⟩ := blk_cases (decB ob)
            have LD := Lib.hid (P7.out.dev (F := fun e _ => e = .returned (.tuple #[.agg #[.int .u64 (t0 : Int), .int .u64 (t1 : Int), .int .u64 (t2 : Int), .int .u64 (t3 : Int), .int .u64 (t4 : Int), .bool tl, .int .i64 tm], .int .i64 (loadE ob)])) fun N d => by
              have h := load_eq d (by rw [L7.out]; omega) (by rw [L7.out]; omega) Q7.out ob hob
              rw [ht, blkV_mk] at h
              exact h)
            have c0 : w18.cell? ⟨B8, 0, none⟩ = some (.int .u64 (r0 : Int)) := cell_of_row _ B8 0 _ _ (0, 0) (P7.out.at_ (B := B8) (o := Obj.cells #[.int .u64 (r0 : Int), .int .u64 (r1 : Int), .int .u64 (r2 : Int), .int .u64 (r3 : Int), .int .u64 (r4 : Int), .bool rl, .int .i64 rm] 29 (0, 0)) (by simp))
            have c1 : w18.cell? ⟨B8, 1, none⟩ = some (.int .u64 (r1 : Int)) := cell_of_row _ B8 1 _ _ (0, 0) (P7.out.at_ (B := B8) (o := Obj.cells #[.int .u64 (r0 : Int), .int .u64 (r1 : Int), .int .u64 (r2 : Int), .int .u64 (r3 : Int), .int .u64 (r4 : Int), .bool rl, .int .i64 rm] 29 (0, 0)) (by simp))
            have c2 : w18.cell? ⟨B8, 2, none⟩ = some (.int .u64 (r2 : Int)) := cell_of_row _ B8 2 _ _ (0, 0) (P7.out.at_ (B := B8) (o := Obj.cells #[.int .u64 (r0 : Int), .int .u64 (r1 : Int), .int .u64 (r2 : Int), .int .u64 (r3 : Int), .int .u64 (r4 : Int), .bool rl, .int .i64 rm] 29 (0, 0)) (by simp))
            have c3 : w18.cell? ⟨B8, 3, none⟩ = some (.int .u64 (r3 : Int)) := cell_of_row _ B8 3 _ _ (0, 0) (P7.out.at_ (B := B8) (o := Obj.cells #[.int .u64 (r0 : Int), .int .u64 (r1 : Int), .int .u64 (r2 : Int), .int .u64 (r3 : Int), .int .u64 (r4 : Int), .bool rl, .int .i64 rm] 29 (0, 0)) (by simp))
            have c4 : w18.cell? ⟨B8, 4, none⟩ = some (.int .u64 (r4 : Int)) := cell_of_row _ B8 4 _ _ (0, 0) (P7.out.at_ (B := B8) (o := Obj.cells #[.int .u64 (r0 : Int), .int .u64 (r1 : Int), .int .u64 (r2 : Int), .int .u64 (r3 : Int), .int .u64 (r4 : Int), .bool rl, .int .i64 rm] 29 (0, 0)) (by simp))
            have c5 : w18.cell? ⟨B8, 5, none⟩ = some (.bool rl) := cell_of_row _ B8 5 _ _ (0, 0) (P7.out.at_ (B := B8) (o := Obj.cells #[.int .u64 (r0 : Int), .int .u64 (r1 : Int), .int .u64 (r2 : Int), .int .u64 (r3 : Int), .int .u64 (r4 : Int), .bool rl, .int .i64 rm] 29 (0, 0)) (by simp))
            have c6 : w18.cell? ⟨B8, 6, none⟩ = some (.int .i64 rm) := cell_of_row _ B8 6 _ _ (0, 0) (P7.out.at_ (B := B8) (o := Obj.cells #[.int .u64 (r0 : Int), .int .u64 (r1 : Int), .int .u64 (r2 : Int), .int .u64 (r3 : Int), .int .u64 (r4 : Int), .bool rl, .int .i64 rm] 29 (0, 0)) (by simp))
            have RL : Hid (∀ w', PL w w' q K u (reads D7 2) D7 [(B10, Obj.cells #[.int .u64 (r0 : Int), .int .u64 (r1 : Int), .int .u64 (r2 : Int), .int .u64 (r3 : Int), .int .u64 (r4 : Int), .bool rl, .int .i64 rm] 37 (0, 0)), (B8, Obj.cells #[.int .u64 (t0 : Int), .int .u64 (t1 : Int), .int .u64 (t2 : Int), .int .u64 (t3 : Int), .int .u64 (t4 : Int), .bool tl, .int .i64 tm] 29 (0, 0))] → Calls Try.prog 59 #[.pointer (some ⟨u, 0, none⟩)] w' fun e w'' => e = .returned (.tuple #[.agg #[.int .u64 (t0 : Int), .int .u64 (t1 : Int), .int .u64 (t2 : Int), .int .u64 (t3 : Int), .int .u64 (t4 : Int), .bool tl, .int .i64 tm], .int .i64 (loadE ob)]) ∧ PL w w'' q K u (reads D7 2) (reads D7 2) [(B10, Obj.cells #[.int .u64 (r0 : Int), .int .u64 (r1 : Int), .int .u64 (r2 : Int), .int .u64 (r3 : Int), .int .u64 (r4 : Int), .bool rl, .int .i64 rm] 37 (0, 0)), (B8, Obj.cells #[.int .u64 (t0 : Int), .int .u64 (t1 : Int), .int .u64 (t2 : Int), .int .u64 (t3 : Int), .int .u64 (t4 : Int), .bool tl, .int .i64 tm] 29 (0, 0))]) := Lib.hid fun w' p => by
              refine p.rf (F := fun e _ => e = .returned (.tuple #[.agg #[.int .u64 (t0 : Int), .int .u64 (t1 : Int), .int .u64 (t2 : Int), .int .u64 (t3 : Int), .int .u64 (t4 : Int), .bool tl, .int .i64 tm], .int .i64 (loadE ob)])) fun M _ r => ?_
              have hp := p.pglen
              rw [reads_pg] at hp
              have h := refLoad_eq r (by rw [L7.out]; omega) Q7.out (fun i hi => by
                have := hp i hi
                rw [reads_now] at this
                exact this) ob hob
              rw [ht, blkV_mk] at h
              refine h.mono ?_
              rintro e w'' ⟨h1, h2, h3⟩
              exact ⟨h1, M, h2, h3, fun _ h => .inl h⟩
            clear hob c0 c1 c2 c3 c4 c5 c6
            go_wp2_with fail
            refine LD.out.mono ?_
            rintro e w19 ⟨rfl, g19⟩
            have P19 := Lib.hid g19
            clear g19 LD P7
            have H19 := Lib.hid (P19.out.at_ (B := B8) (o := Obj.cells #[.int .u64 (r0 : Int), .int .u64 (r1 : Int), .int .u64 (r2 : Int), .int .u64 (r3 : Int), .int .u64 (r4 : Int), .bool rl, .int .i64 rm] 29 (0, 0)) (by simp))
            have c0 : w19.cell? ⟨B8, 0, none⟩ = some (.int .u64 (r0 : Int)) := cell_of_row _ B8 0 _ _ (0, 0) H19.out
            have c1 : w19.cell? ⟨B8, 1, none⟩ = some (.int .u64 (r1 : Int)) := cell_of_row _ B8 1 _ _ (0, 0) H19.out
            have c2 : w19.cell? ⟨B8, 2, none⟩ = some (.int .u64 (r2 : Int)) := cell_of_row _ B8 2 _ _ (0, 0) H19.out
            have c3 : w19.cell? ⟨B8, 3, none⟩ = some (.int .u64 (r3 : Int)) := cell_of_row _ B8 3 _ _ (0, 0) H19.out
            have c4 : w19.cell? ⟨B8, 4, none⟩ = some (.int .u64 (r4 : Int)) := cell_of_row _ B8 4 _ _ (0, 0) H19.out
            have c5 : w19.cell? ⟨B8, 5, none⟩ = some (.bool rl) := cell_of_row _ B8 5 _ _ (0, 0) H19.out
            have c6 : w19.cell? ⟨B8, 6, none⟩ = some (.int .i64 rm) := cell_of_row _ B8 6 _ _ (0, 0) H19.out
            have z0 := frozen_of_row w19 B8 0 _ _ H19.out
            have z1 := frozen_of_row w19 B8 1 _ _ H19.out
            have z2 := frozen_of_row w19 B8 2 _ _ H19.out
            have z3 := frozen_of_row w19 B8 3 _ _ H19.out
            have z4 := frozen_of_row w19 B8 4 _ _ H19.out
            have z5 := frozen_of_row w19 B8 5 _ _ H19.out
            have z6 := frozen_of_row w19 B8 6 _ _ H19.out
            have P20 : Hid (PL w (((((((w19.setCell ⟨B8, 0, none⟩ (.int .u64 (t0 : Int))).setCell ⟨B8, 1, none⟩ (.int .u64 (t1 : Int))).setCell ⟨B8, 2, none⟩ (.int .u64 (t2 : Int))).setCell ⟨B8, 3, none⟩ (.int .u64 (t3 : Int))).setCell ⟨B8, 4, none⟩ (.int .u64 (t4 : Int))).setCell ⟨B8, 5, none⟩ (.bool tl)).setCell ⟨B8, 6, none⟩ (.int .i64 tm)) q K u (reads D7 2) D7 [(B10, Obj.cells #[.int .u64 (r0 : Int), .int .u64 (r1 : Int), .int .u64 (r2 : Int), .int .u64 (r3 : Int), .int .u64 (r4 : Int), .bool rl, .int .i64 rm] 37 (0, 0)), (B8, Obj.cells #[.int .u64 (t0 : Int), .int .u64 (t1 : Int), .int .u64 (t2 : Int), .int .u64 (t3 : Int), .int .u64 (t4 : Int), .bool tl, .int .i64 tm] 29 (0, 0))]) := Lib.hid (P19.out.turn (B := B8) (c := #[.int .u64 (r0 : Int), .int .u64 (r1 : Int), .int .u64 (r2 : Int), .int .u64 (r3 : Int), .int .u64 (r4 : Int), .bool rl, .int .i64 rm]) (t := 29) (by simp) (by decide) (by decide) (fr7 _ _ _ _ _ _ _) (set7 H19.out (by rfl) _ _ _ _ _ _ _) fun p hp => by
              simp only [List.mem_cons, List.not_mem_nil, or_false] at hp ⊢
              rcases hp with h | h
              · refine .inr ⟨.inl h, ?_⟩
                rw [h]
                exact fun e => NE.out.1 (Eq.symm e)
              · exact .inl h)
            go_upto_region 23 with fail
            clear c0 c1 c2 c3 c4 c5 c6 z0 z1 z2 z3 z4 z5 z6 H19 P19
            generalize (((((((w19.setCell ⟨B8, 0, none⟩ (.int .u64 (t0 : Int))).setCell ⟨B8, 1, none⟩ (.int .u64 (t1 : Int))).setCell ⟨B8, 2, none⟩ (.int .u64 (t2 : Int))).setCell ⟨B8, 3, none⟩ (.int .u64 (t3 : Int))).setCell ⟨B8, 4, none⟩ (.int .u64 (t4 : Int))).setCell ⟨B8, 5, none⟩ (.bool tl)).setCell ⟨B8, 6, none⟩ (.int .i64 tm)) = w20 at *
            go_wp2_with fail
            refine (RL.out w20 P20.out).mono ?_
            rintro e w21 ⟨rfl, g21⟩
            have P21 := Lib.hid g21
            clear g21 RL P20
            have H21 := Lib.hid (P21.out.at_ (B := B10) (o := Obj.cells #[.int .u64 (r0 : Int), .int .u64 (r1 : Int), .int .u64 (r2 : Int), .int .u64 (r3 : Int), .int .u64 (r4 : Int), .bool rl, .int .i64 rm] 37 (0, 0)) (by simp))
            have c0 : w21.cell? ⟨B10, 0, none⟩ = some (.int .u64 (r0 : Int)) := cell_of_row _ B10 0 _ _ (0, 0) H21.out
            have c1 : w21.cell? ⟨B10, 1, none⟩ = some (.int .u64 (r1 : Int)) := cell_of_row _ B10 1 _ _ (0, 0) H21.out
            have c2 : w21.cell? ⟨B10, 2, none⟩ = some (.int .u64 (r2 : Int)) := cell_of_row _ B10 2 _ _ (0, 0) H21.out
            have c3 : w21.cell? ⟨B10, 3, none⟩ = some (.int .u64 (r3 : Int)) := cell_of_row _ B10 3 _ _ (0, 0) H21.out
            have c4 : w21.cell? ⟨B10, 4, none⟩ = some (.int .u64 (r4 : Int)) := cell_of_row _ B10 4 _ _ (0, 0) H21.out
            have c5 : w21.cell? ⟨B10, 5, none⟩ = some (.bool rl) := cell_of_row _ B10 5 _ _ (0, 0) H21.out
            have c6 : w21.cell? ⟨B10, 6, none⟩ = some (.int .i64 rm) := cell_of_row _ B10 6 _ _ (0, 0) H21.out
            have z0 := frozen_of_row w21 B10 0 _ _ H21.out
            have z1 := frozen_of_row w21 B10 1 _ _ H21.out
            have z2 := frozen_of_row w21 B10 2 _ _ H21.out
            have z3 := frozen_of_row w21 B10 3 _ _ H21.out
            have z4 := frozen_of_row w21 B10 4 _ _ H21.out
            have z5 := frozen_of_row w21 B10 5 _ _ H21.out
            have z6 := frozen_of_row w21 B10 6 _ _ H21.out
            have P22 : Hid (PL w (((((((w21.setCell ⟨B10, 0, none⟩ (.int .u64 (t0 : Int))).setCell ⟨B10, 1, none⟩ (.int .u64 (t1 : Int))).setCell ⟨B10, 2, none⟩ (.int .u64 (t2 : Int))).setCell ⟨B10, 3, none⟩ (.int .u64 (t3 : Int))).setCell ⟨B10, 4, none⟩ (.int .u64 (t4 : Int))).setCell ⟨B10, 5, none⟩ (.bool tl)).setCell ⟨B10, 6, none⟩ (.int .i64 tm)) q K u (reads D7 2) (reads D7 2) [(B10, Obj.cells #[.int .u64 (t0 : Int), .int .u64 (t1 : Int), .int .u64 (t2 : Int), .int .u64 (t3 : Int), .int .u64 (t4 : Int), .bool tl, .int .i64 tm] 37 (0, 0)), (B8, Obj.cells #[.int .u64 (t0 : Int), .int .u64 (t1 : Int), .int .u64 (t2 : Int), .int .u64 (t3 : Int), .int .u64 (t4 : Int), .bool tl, .int .i64 tm] 29 (0, 0))]) := Lib.hid (P21.out.turn (B := B10) (c := #[.int .u64 (r0 : Int), .int .u64 (r1 : Int), .int .u64 (r2 : Int), .int .u64 (r3 : Int), .int .u64 (r4 : Int), .bool rl, .int .i64 rm]) (t := 37) (by simp) (by decide) (by decide) (fr7 _ _ _ _ _ _ _) (set7 H21.out (by rfl) _ _ _ _ _ _ _) fun p hp => by
              simp only [List.mem_cons, List.not_mem_nil, or_false] at hp ⊢
              rcases hp with h | h
              · exact .inl h
              · refine .inr ⟨.inr h, ?_⟩
                rw [h]
                exact NE.out.1)
            go_upto_region 24 with fail
            clear c0 c1 c2 c3 c4 c5 c6 z0 z1 z2 z3 z4 z5 z6 H21 P21
            generalize (((((((w21.setCell ⟨B10, 0, none⟩ (.int .u64 (t0 : Int))).setCell ⟨B10, 1, none⟩ (.int .u64 (t1 : Int))).setCell ⟨B10, 2, none⟩ (.int .u64 (t2 : Int))).setCell ⟨B10, 3, none⟩ (.int .u64 (t3 : Int))).setCell ⟨B10, 4, none⟩ (.int .u64 (t4 : Int))).setCell ⟨B10, 5, none⟩ (.bool tl)).setCell ⟨B10, 6, none⟩ (.int .i64 tm)) = w22 at *
            have hqt : ∀ w', (binOp .neq 37 (.agg #[.int .u64 (t0 : Int), .int .u64 (t1 : Int), .int .u64 (t2 : Int), .int .u64 (t3 : Int), .int .u64 (t4 : Int), .bool tl, .int .i64 tm]) (.agg #[.int .u64 (t0 : Int), .int .u64 (t1 : Int), .int .u64 (t2 : Int), .int .u64 (t3 : Int), .int .u64 (t4 : Int), .bool tl, .int .i64 tm])).run Try.prog w' = .ok (.bool false) w' := fun w' => by
              have h := blk4_neqS ⟨t0, t1, t2, t3, t4, tl, tm⟩ w'
              rw [blkV_mk] at h
              exact h
            have OWT : Hid (∀ w, Calls Try.prog 30 #[.agg #[.int .u64 (t0 : Int), .int .u64 (t1 : Int), .int .u64 (t2 : Int), .int .u64 (t3 : Int), .int .u64 (t4 : Int), .bool tl, .int .i64 tm]] w fun e w' => e = .returned (.agg #[.int .u64 (t0 : Int), .int .u64 (t1 : Int), .int .u64 (t2 : Int), .int .u64 (t3 : Int), .int .u64 (t4 : Int), .bool tl, .int .i64 tm]) ∧ Fr Nob w w') := Lib.hid fun w => by
              have h := own_eq (w := w) ⟨t0, t1, t2, t3, t4, tl, tm⟩
              rw [blkV_mk] at h
              exact h
            have LR : Hid ((reads D7 2).pg.length = 3) := Lib.hid (by rw [reads_pg]; exact L7.out)
            have QR : Hid ((reads D7 2).off = false) := Lib.hid Q7.out
            generalize loadE ob = el at *
            clear ht
            go_cut [107] (fun t W => t = .bool false ∧ ∃ D9, Hid (PL w W q K u D9 D9 []) ∧ Hid (D9.pg.length = 3) ∧ Hid (D9.off = false))
            case first =>
              have Q := Lib.hid (Fr.refl Nob w22)
              have c0 : w22.cell? ⟨B8, 0, none⟩ = some (.int .u64 (t0 : Int)) := cell_of_row _ B8 0 _ _ (0, 0) (P22.out.at_ (B := B8) (o := Obj.cells #[.int .u64 (t0 : Int), .int .u64 (t1 : Int), .int .u64 (t2 : Int), .int .u64 (t3 : Int), .int .u64 (t4 : Int), .bool tl, .int .i64 tm] 29 (0, 0)) (by simp))
              have c1 : w22.cell? ⟨B8, 1, none⟩ = some (.int .u64 (t1 : Int)) := cell_of_row _ B8 1 _ _ (0, 0) (P22.out.at_ (B := B8) (o := Obj.cells #[.int .u64 (t0 : Int), .int .u64 (t1 : Int), .int .u64 (t2 : Int), .int .u64 (t3 : Int), .int .u64 (t4 : Int), .bool tl, .int .i64 tm] 29 (0, 0)) (by simp))
              have c2 : w22.cell? ⟨B8, 2, none⟩ = some (.int .u64 (t2 : Int)) := cell_of_row _ B8 2 _ _ (0, 0) (P22.out.at_ (B := B8) (o := Obj.cells #[.int .u64 (t0 : Int), .int .u64 (t1 : Int), .int .u64 (t2 : Int), .int .u64 (t3 : Int), .int .u64 (t4 : Int), .bool tl, .int .i64 tm] 29 (0, 0)) (by simp))
              have c3 : w22.cell? ⟨B8, 3, none⟩ = some (.int .u64 (t3 : Int)) := cell_of_row _ B8 3 _ _ (0, 0) (P22.out.at_ (B := B8) (o := Obj.cells #[.int .u64 (t0 : Int), .int .u64 (t1 : Int), .int .u64 (t2 : Int), .int .u64 (t3 : Int), .int .u64 (t4 : Int), .bool tl, .int .i64 tm] 29 (0, 0)) (by simp))
              have c4 : w22.cell? ⟨B8, 4, none⟩ = some (.int .u64 (t4 : Int)) := cell_of_row _ B8 4 _ _ (0, 0) (P22.out.at_ (B := B8) (o := Obj.cells #[.int .u64 (t0 : Int), .int .u64 (t1 : Int), .int .u64 (t2 : Int), .int .u64 (t3 : Int), .int .u64 (t4 : Int), .bool tl, .int .i64 tm] 29 (0, 0)) (by simp))
              have c5 : w22.cell? ⟨B8, 5, none⟩ = some (.bool tl) := cell_of_row _ B8 5 _ _ (0, 0) (P22.out.at_ (B := B8) (o := Obj.cells #[.int .u64 (t0 : Int), .int .u64 (t1 : Int), .int .u64 (t2 : Int), .int .u64 (t3 : Int), .int .u64 (t4 : Int), .bool tl, .int .i64 tm] 29 (0, 0)) (by simp))
              have c6 : w22.cell? ⟨B8, 6, none⟩ = some (.int .i64 tm) := cell_of_row _ B8 6 _ _ (0, 0) (P22.out.at_ (B := B8) (o := Obj.cells #[.int .u64 (t0 : Int), .int .u64 (t1 : Int), .int .u64 (t2 : Int), .int .u64 (t3 : Int), .int .u64 (t4 : Int), .bool tl, .int .i64 tm] 29 (0, 0)) (by simp))
              have a0 : w22.cell? ⟨B10, 0, none⟩ = some (.int .u64 (t0 : Int)) := cell_of_row _ B10 0 _ _ (0, 0) (P22.out.at_ (B := B10) (o := Obj.cells #[.int .u64 (t0 : Int), .int .u64 (t1 : Int), .int .u64 (t2 : Int), .int .u64 (t3 : Int), .int .u64 (t4 : Int), .bool tl, .int .i64 tm] 37 (0, 0)) (by simp))
              have a1 : w22.cell? ⟨B10, 1, none⟩ = some (.int .u64 (t1 : Int)) := cell_of_row _ B10 1 _ _ (0, 0) (P22.out.at_ (B := B10) (o := Obj.cells #[.int .u64 (t0 : Int), .int .u64 (t1 : Int), .int .u64 (t2 : Int), .int .u64 (t3 : Int), .int .u64 (t4 : Int), .bool tl, .int .i64 tm] 37 (0, 0)) (by simp))
              have a2 : w22.cell? ⟨B10, 2, none⟩ = some (.int .u64 (t2 : Int)) := cell_of_row _ B10 2 _ _ (0, 0) (P22.out.at_ (B := B10) (o := Obj.cells #[.int .u64 (t0 : Int), .int .u64 (t1 : Int), .int .u64 (t2 : Int), .int .u64 (t3 : Int), .int .u64 (t4 : Int), .bool tl, .int .i64 tm] 37 (0, 0)) (by simp))
              have a3 : w22.cell? ⟨B10, 3, none⟩ = some (.int .u64 (t3 : Int)) := cell_of_row _ B10 3 _ _ (0, 0) (P22.out.at_ (B := B10) (o := Obj.cells #[.int .u64 (t0 : Int), .int .u64 (t1 : Int), .int .u64 (t2 : Int), .int .u64 (t3 : Int), .int .u64 (t4 : Int), .bool tl, .int .i64 tm] 37 (0, 0)) (by simp))
              have a4 : w22.cell? ⟨B10, 4, none⟩ = some (.int .u64 (t4 : Int)) := cell_of_row _ B10 4 _ _ (0, 0) (P22.out.at_ (B := B10) (o := Obj.cells #[.int .u64 (t0 : Int), .int .u64 (t1 : Int), .int .u64 (t2 : Int), .int .u64 (t3 : Int), .int .u64 (t4 : Int), .bool tl, .int .i64 tm] 37 (0, 0)) (by simp))
              have a5 : w22.cell? ⟨B10, 5, none⟩ = some (.bool tl) := cell_of_row _ B10 5 _ _ (0, 0) (P22.out.at_ (B := B10) (o := Obj.cells #[.int .u64 (t0 : Int), .int .u64 (t1 : Int), .int .u64 (t2 : Int), .int .u64 (t3 : Int), .int .u64 (t4 : Int), .bool tl, .int .i64 tm] 37 (0, 0)) (by simp))
              have a6 : w22.cell? ⟨B10, 6, none⟩ = some (.int .i64 tm) := cell_of_row _ B10 6 _ _ (0, 0) (P22.out.at_ (B := B10) (o := Obj.cells #[.int .u64 (t0 : Int), .int .u64 (t1 : Int), .int .u64 (t2 : Int), .int .u64 (t3 : Int), .int .u64 (t4 : Int), .bool tl, .int .i64 tm] 37 (0, 0)) (by simp))
              go_region_held3 (fun w' => w'.cell? ⟨B8, 0, none⟩ = some (.int .u64 (t0 : Int)) ∧ w'.cell? ⟨B8, 1, none⟩ = some (.int .u64 (t1 : Int)) ∧ w'.cell? ⟨B8, 2, none⟩ = some (.int .u64 (t2 : Int)) ∧ w'.cell? ⟨B8, 3, none⟩ = some (.int .u64 (t3 : Int)) ∧ w'.cell? ⟨B8, 4, none⟩ = some (.int .u64 (t4 : Int)) ∧ w'.cell? ⟨B8, 5, none⟩ = some (.bool tl) ∧ w'.cell? ⟨B8, 6, none⟩ = some (.int .i64 tm) ∧ w'.cell? ⟨B10, 0, none⟩ = some (.int .u64 (t0 : Int)) ∧ w'.cell? ⟨B10, 1, none⟩ = some (.int .u64 (t1 : Int)) ∧ w'.cell? ⟨B10, 2, none⟩ = some (.int .u64 (t2 : Int)) ∧ w'.cell? ⟨B10, 3, none⟩ = some (.int .u64 (t3 : Int)) ∧ w'.cell? ⟨B10, 4, none⟩ = some (.int .u64 (t4 : Int)) ∧ w'.cell? ⟨B10, 5, none⟩ = some (.bool tl) ∧ w'.cell? ⟨B10, 6, none⟩ = some (.int .i64 tm))
                (first | go_keep | exact ⟨c0, c1, c2, c3, c4, c5, c6, a0, a1, a2, a3, a4, a5, a6⟩ | exact ⟨by assumption, by assumption, by assumption, by assumption, by assumption, by assumption, by assumption, by assumption, by assumption, by assumption, by assumption, by assumption, by assumption, by assumption⟩)
                (first
                | (go_at_call 30; (with_reducible refine (OWT.out _).mono ?_); rintro e w23 ⟨rfl, f23⟩; have y0 : w23.cell? ⟨B8, 0, none⟩ = some (.int .u64 (t0 : Int)) := f23.cell (by assumption) (fun h => h); have y1 : w23.cell? ⟨B8, 1, none⟩ = some (.int .u64 (t1 : Int)) := f23.cell (by assumption) (fun h => h); have y2 : w23.cell? ⟨B8, 2, none⟩ = some (.int .u64 (t2 : Int)) := f23.cell (by assumption) (fun h => h); have y3 : w23.cell? ⟨B8, 3, none⟩ = some (.int .u64 (t3 : Int)) := f23.cell (by assumption) (fun h => h); have y4 : w23.cell? ⟨B8, 4, none⟩ = some (.int .u64 (t4 : Int)) := f23.cell (by assumption) (fun h => h); have y5 : w23.cell? ⟨B8, 5, none⟩ = some (.bool tl) := f23.cell (by assumption) (fun h => h); have y6 : w23.cell? ⟨B8, 6, none⟩ = some (.int .i64 tm) := f23.cell (by assumption) (fun h => h); have z0 : w23.cell? ⟨B10, 0, none⟩ = some (.int .u64 (t0 : Int)) := f23.cell (by assumption) (fun h => h); have z1 : w23.cell? ⟨B10, 1, none⟩ = some (.int .u64 (t1 : Int)) := f23.cell (by assumption) (fun h => h); have z2 : w23.cell? ⟨B10, 2, none⟩ = some (.int .u64 (t2 : Int)) := f23.cell (by assumption) (fun h => h); have z3 : w23.cell? ⟨B10, 3, none⟩ = some (.int .u64 (t3 : Int)) := f23.cell (by assumption) (fun h => h); have z4 : w23.cell? ⟨B10, 4, none⟩ = some (.int .u64 (t4 : Int)) := f23.cell (by assumption) (fun h => h); have z5 : w23.cell? ⟨B10, 5, none⟩ = some (.bool tl) := f23.cell (by assumption) (fun h => h); have z6 : w23.cell? ⟨B10, 6, none⟩ = some (.int .i64 tm) := f23.cell (by assumption) (fun h => h); have Q : Hid (Fr Nob w22 w23) := Lib.hid (by first | exact Q.out.trans' f23 | exact Q.out.drew.trans' f23); clear f23)
                | (go_at_call 60; (with_reducible refine ((P22.out.nob Q.out).alike).mono ?_); rintro e w24 ⟨rfl, D9, g24, pg9, of9⟩; have hb8 := g24.at_ (B := B8) (o := Obj.cells #[.int .u64 (t0 : Int), .int .u64 (t1 : Int), .int .u64 (t2 : Int), .int .u64 (t3 : Int), .int .u64 (t4 : Int), .bool tl, .int .i64 tm] 29 (0, 0)) (by simp); have hb10 := g24.at_ (B := B10) (o := Obj.cells #[.int .u64 (t0 : Int), .int .u64 (t1 : Int), .int .u64 (t2 : Int), .int .u64 (t3 : Int), .int .u64 (t4 : Int), .bool tl, .int .i64 tm] 37 (0, 0)) (by simp); have k0 : w24.cell? ⟨B8, 0, none⟩ = some (.int .u64 (t0 : Int)) := cell_of_row _ B8 0 _ _ (0, 0) hb8; have k1 : w24.cell? ⟨B8, 1, none⟩ = some (.int .u64 (t1 : Int)) := cell_of_row _ B8 1 _ _ (0, 0) hb8; have k2 : w24.cell? ⟨B8, 2, none⟩ = some (.int .u64 (t2 : Int)) := cell_of_row _ B8 2 _ _ (0, 0) hb8; have k3 : w24.cell? ⟨B8, 3, none⟩ = some (.int .u64 (t3 : Int)) := cell_of_row _ B8 3 _ _ (0, 0) hb8; have k4 : w24.cell? ⟨B8, 4, none⟩ = some (.int .u64 (t4 : Int)) := cell_of_row _ B8 4 _ _ (0, 0) hb8; have k5 : w24.cell? ⟨B8, 5, none⟩ = some (.bool tl) := cell_of_row _ B8 5 _ _ (0, 0) hb8; have k6 : w24.cell? ⟨B8, 6, none⟩ = some (.int .i64 tm) := cell_of_row _ B8 6 _ _ (0, 0) hb8; have l0 : w24.cell? ⟨B10, 0, none⟩ = some (.int .u64 (t0 : Int)) := cell_of_row _ B10 0 _ _ (0, 0) hb10; have l1 : w24.cell? ⟨B10, 1, none⟩ = some (.int .u64 (t1 : Int)) := cell_of_row _ B10 1 _ _ (0, 0) hb10; have l2 : w24.cell? ⟨B10, 2, none⟩ = some (.int .u64 (t2 : Int)) := cell_of_row _ B10 2 _ _ (0, 0) hb10; have l3 : w24.cell? ⟨B10, 3, none⟩ = some (.int .u64 (t3 : Int)) := cell_of_row _ B10 3 _ _ (0, 0) hb10; have l4 : w24.cell? ⟨B10, 4, none⟩ = some (.int .u64 (t4 : Int)) := cell_of_row _ B10 4 _ _ (0, 0) hb10; have l5 : w24.cell? ⟨B10, 5, none⟩ = some (.bool tl) := cell_of_row _ B10 5 _ _ (0, 0) hb10; have l6 : w24.cell? ⟨B10, 6, none⟩ = some (.int .i64 tm) := cell_of_row _ B10 6 _ _ (0, 0) hb10; have G24 := Lib.hid g24; have PG9 := Lib.hid pg9; have OF9 := Lib.hid of9; clear g24 pg9 of9 hb8 hb10))
              all_goals
                go_wp2_with fail
                go_meet
                exact ⟨by first | rfl | simp, D9, Lib.hid (G24.out.less fun p hp => by simp at hp), Lib.hid (by rw [PG9.out]; exact LR.out), Lib.hid (by rw [OF9.out]; exact QR.out)⟩
            case rest =>
              obtain ⟨rfl, D9, P9, L9, Q9⟩ := hcut
              clear P22 OWT hqt LR QR
              go_wp2_with fail
              go_roundw
              case rel => exact ⟨k + 1, D9, by omega, by go_num, P9, L9, Q9⟩
              case measure => simp [intOf]; omega
    · have : k = n := by omega
      subst this
      go_wp2_with fail
      go_ret
      exact ⟨rfl, P0.out.fr⟩

set_option maxRecDepth 100000 in
set_option maxHeartbeats 4000000 in
theorem superPlays_walk (A : Option Addr) (n cap : Nat) (zl : (Nat → PutV) × (Nat → List UInt8)) (w : World) (hz : PutRow w A n zl.1 zl.2) :
    Calls Try.prog 20 #[.slice A n cap] w fun e w' => e = .returned (.bool true) ∧ Fr Nob w w' := by
  by_cases hn : n ≤ 30
  · exact superPlays_main A n cap zl.1 zl.2 w hz hn
  · have e1 : (30 : Int) < (n : Int) := by omega
    clear hn hz
    go_enter Try.func20, Try.ntmps20
    go_wp2_with fail
    refine (awake5_eq w).mono ?_
    rintro e w0 ⟨rfl, f0⟩
    have F0 := Lib.hid f0
    clear f0
    go_wp2_with fail
    go_ret
    exact ⟨rfl, F0.out⟩

end Go.Proofs.Ytpdljgjofebgpaa
