/-
  The law SlabMoves, walked: a page whose chunks are all free is handed on to another class.
-/
import Derived.Test.YtamcnieneelmmaaSlabAgain
import Derived.Deep.LoopGhost
namespace Go.Proofs.Ytamcnieneelmmaa
open Go.RowKit

set_option maxHeartbeats 6400000 in
set_option maxRecDepth 100000 in
theorem slabMoves_in (m : Nat) (c d : Int) (w : World) (hm1 : 1 ≤ m) (hm2 : m ≤ 12) (c0 : 0 ≤ c) (c6 : c < 6) (d0 : 0 ≤ d) (d6 : d < 6) (hne : (c == d) = false) :
    Calls Try.prog 8 #[.int .i64 m, .int .i64 c, .int .i64 d] w fun e w' => e = .returned (.bool true) ∧ Fr Nob w w' := by
  have hcs := chunksOf_pos c c0 c6
  have hds := chunksOf_pos d d0 d6
  have hdp := chunkOf_pos d d0 d6
  obtain ⟨A, hA⟩ : ∃ A, A = m * (chunksOf c).toNat := ⟨_, rfl⟩
  obtain ⟨D, hD⟩ : ∃ D, D = m * (chunksOf d).toNat := ⟨_, rfl⟩
  have hA1 : A ≤ 768 := by rw [hA]; exact Nat.le_trans (Nat.mul_le_mul hm2 (show (chunksOf c).toNat ≤ 64 by omega)) (by omega)
  have hD1 : D ≤ 768 := by rw [hD]; exact Nat.le_trans (Nat.mul_le_mul hm2 (show (chunksOf d).toNat ≤ 64 by omega)) (by omega)
  have HA := Lib.hid hA
  have HD := Lib.hid hD
  clear hA hD
  go_enter Try.func8, Try.ntmps8
  go_wp2_with fail
  refine (awake_ok w).mono ?_
  rintro e w0 ⟨rfl, f0⟩
  have f0 := Lib.hid f0
  go_wp2_with fail
  refine (new_eq _ m (by omega) (by omega)).mono ?_
  rintro e w1 ⟨p, b, rfl, s1, f1, hp, hb, -⟩
  have f1 := Lib.hid (f0.out.nob_new f1.out)
  have hb' : w.heap.size ≤ b := by have := f0.out.size; omega
  rw [runS_new c m] at s1
  go_wp2_with fail
  go_loopg [9] (A + 1) (fun gk l wr => ∃ (k : Nat), k ≤ A ∧ gk = A + 1 - k ∧ Hid (SlabAt wr p b (runS Pg.new c m k)) ∧ Hid (Fr Nob w wr) ∧ Hid (wr.ownsRow w.heap.size 3 1 l k (chunkRow c k)))
  case atStart => exact ⟨0, Nat.zero_le _, rfl, s1, f1, World.ownsRow_nil _ _ _ _⟩
  case round =>
    clear s1 f1
    obtain ⟨k, hk, rfl, s1, f1, o1⟩ := hrel
    by_cases hfit : k < A
    · obtain ⟨t1, t2, t3⟩ := run_take (m := m) (n := k) c0 c6 (emp_new c c0) (by rw [← HA.out]; exact hfit)
      have T1 := Lib.hid t1
      have T2 := Lib.hid t2
      have T3 := Lib.hid t3
      clear t1 t2 t3
      have hne := Lib.hid (slab_own_ne s1.out o1.out)
      go_wp2_with fail
      refine (take_eq _ p b _ c (chunkNo c k) 0 s1.out T2.out T3.out).mono ?_
      rintro e w2 ⟨rfl, s2, f2⟩
      have o2 := Lib.hid (f2.out.ownsRow o1.out (fun i hi e => hne.out.2 (by rw [hi]; exact congrArg some e)))
      have f2 := Lib.hid (f1.out.one_new f2.out hb')
      rw [T1.out] at s2
      have hsz : w.heap.size ≤ w2.heap.size := f2.out.size
      go_wp2_with (with_reducible refine wpList_app (o := ⟨some 65, _, _, _, _, _⟩) rfl (.tmp 62) (.tmp 64) 35 rfl 3 #[.int .i64 0] 1 8 Try.underlying35 int_info rfl (by omega) w.heap.size u9 k (chunkRow c k) rfl (o2.out.alloc _) ⟨w2.heap.size, 0, none⟩ 1 1 [.int .i64 (chunkNo c k)] rfl rfl (new_one w2 _ _) (by simp [Value.oneCell']) (by omega) (by omega) (by simp; omega) ?_)
      intro v' w3 o3 f3 h3
      have s3 := Lib.hid ((s2.out.keep ((Fr.refl Nob w2).alloc (.cells #[.int .i64 (chunkNo c k)] 3)) (fun h => h) (fun h => h)).keep f3.out hne.out.1 hne.out.2)
      have f3' := Lib.hid ((f2.out.alloc (.cells #[.int .i64 (chunkNo c k)] 3)).trans f3.out (fun i hi e => ownsRow_base o2.out i hi e))
      rw [chunkRow_succ] at o3
      go_wp2_with fail
      go_roundg (A - k)
      case measure => omega
      case rel => exact ⟨k + 1, by omega, by omega, s3, f3', o3⟩
    · have hkA : k = A := by omega
      subst hkA
      have ⟨t1, t2, t3⟩ := run_full (e0 := Pg.new) (m := m) (n := k) c0 c6 c0 c6 (by rw [← HA.out]; exact Nat.le_refl _)
      have ⟨y1, y2, y3⟩ := run_full (e0 := Pg.new) (m := m) (n := k) c0 c6 d0 d6 (by rw [← HA.out]; exact Nat.le_refl _)
      have T1 := Lib.hid t1
      have T2 := Lib.hid t2
      have T3 := Lib.hid t3
      have Y1 := Lib.hid y1
      have Y2 := Lib.hid y2
      have Y3 := Lib.hid y3
      clear t1 t2 t3 y1 y2 y3
      have hneb := Lib.hid (slab_own_ne s1.out o1.out)
      go_wp2_with fail
      refine (take_eq _ p b _ c 0 7 s1.out T2.out T3.out).mono ?_
      rintro e w2 ⟨rfl, s2, f2⟩
      have o2 := Lib.hid (f2.out.ownsRow o1.out (fun i hi e => hneb.out.2 (by rw [hi]; exact congrArg some e)))
      have f2 := Lib.hid (f1.out.one_new f2.out hb')
      rw [T1.out] at s2
      go_wp2_with fail
      refine (take_eq _ p b _ d 0 7 s2.out Y2.out Y3.out).mono ?_
      rintro e w3 ⟨rfl, s3, f3⟩
      have o3 := Lib.hid (f3.out.ownsRow o2.out (fun i hi e => hneb.out.2 (by rw [hi]; exact congrArg some e)))
      have f3 := Lib.hid (f2.out.one_new f3.out hb')
      rw [Y1.out] at s3
      rw [HA.out, back_begin c0 c6] at s3
      have hk1 : 1 ≤ k := by rw [HA.out]; exact Nat.mul_pos (by omega) (by omega)
      obtain ⟨g, cap, rfl, hgb, hgl⟩ := o1.out.form hk1
      clear s1 s2 f1 f2 o1 o2
      go_wp2_with fail
      go_loopw [14] (fun i wr => ∃ (f : Nat), f ≤ k ∧ i = .int .i64 f ∧ Hid (SlabAt wr p b (backS c m f)) ∧ Hid (Fr Nob w wr) ∧ Hid (wr.ownsRow w.heap.size 3 1 (.slice (some ⟨g, 0, none⟩) k cap) k (chunkRow c k))) (fun i _ => k - (intOf i).toNat)
      case atStart => exact ⟨0, Nat.zero_le _, rfl, s3, f3, o3⟩
      case round =>
        clear s3 f3 o3
        obtain ⟨f, hf, rfl, s3, f3, o3⟩ := hrel
        by_cases hlt : f < k
        · have hc := o3.out.cells rfl f _ (chunkRow_get c k f hlt)
          rw [show ((⟨g, 0, none⟩ : Addr).add f) = ⟨g, f, none⟩ by rw [Addr.add_lit, Nat.zero_add]] at hc
          have hbd := chunkNo_bd (m := m) (j := f) c0 c6 (by omega) (by rw [← HA.out]; exact hlt)
          have ⟨t1, t2⟩ := back_free (m := m) (f := f) c0 c6 (by rw [← HA.out]; exact hlt)
          have T1 := Lib.hid t1
          have T2 := Lib.hid t2
          clear t1 t2
          go_wp2_with fail
          refine (free_eq _ p b _ _ 0 (by omega) s3.out (by rw [T1.out]; rfl)).mono ?_
          rintro e w4 ⟨rfl, s4, f4⟩
          have o4 := Lib.hid (f4.out.ownsRow o3.out (fun i hi e => hneb.out.2 (by rw [hi]; exact congrArg some e)))
          have f4 := Lib.hid (f3.out.one_new f4.out hb')
          rw [T2.out] at s4
          go_wp2_with fail
          go_roundw
          case rel => exact ⟨f + 1, by omega, by go_num, s4, f4, o4⟩
          case measure => simp [intOf]; omega
        · have hfk : f = k := by omega
          rw [hfk, HA.out, back_end c0 c6 d] at s3
          have he : Emp ⟨c, fun _ => false, 0⟩ d := ⟨rfl, rfl, by simpa using hne⟩
          have He := Lib.hid he
          clear hfk he
          go_wp2_with fail
          go_loopg [15] (D + 1) (fun gk n wr => ∃ (j : Nat), j ≤ D ∧ gk = D + 1 - j ∧ n = .int .i64 j ∧ Hid (SlabAt wr p b (runS ⟨c, fun _ => false, 0⟩ d m j)) ∧ Hid (Fr Nob w wr))
          case atStart => exact ⟨0, Nat.zero_le _, rfl, rfl, s3, f3⟩
          case round =>
            clear s3 f3 o3
            obtain ⟨j, hj, rfl, rfl, s3, f3⟩ := hrel
            by_cases hjD : j < D
            · obtain ⟨t1, t2, t3⟩ := run_take (m := m) (n := j) d0 d6 He.out (by rw [← HD.out]; exact hjD)
              have T1 := Lib.hid t1
              have T2 := Lib.hid t2
              have T3 := Lib.hid t3
              clear t1 t2 t3
              go_wp2_with fail
              refine (take_eq _ p b _ d _ 0 s3.out T2.out T3.out).mono ?_
              rintro e w4 ⟨rfl, s4, f4⟩
              have f4 := Lib.hid (f3.out.one_new f4.out hb')
              rw [T1.out] at s4
              go_wp2_with fail
              go_roundg (D - j)
              case measure => omega
              case rel => exact ⟨j + 1, by omega, by omega, by go_num, s4, f4⟩
            · have hjj : j = D := by omega
              have ⟨t1, t2, t3⟩ := run_full (e0 := ⟨c, fun _ => false, 0⟩) (m := m) (n := j) d0 d6 d0 d6 (by rw [← HD.out]; omega)
              have P1 := run_pages (e0 := ⟨c, fun _ => false, 0⟩) (m := m) (n := j) d0 d6 (by rw [← HD.out]; omega) c (by omega)
              have P2 := run_pages (e0 := ⟨c, fun _ => false, 0⟩) (m := m) (n := j) d0 d6 (by rw [← HD.out]; omega) d (by omega)
              rw [if_neg (by simpa using hne)] at P1
              rw [if_pos rfl] at P2
              have hq : ((j : Int) == (m : Int) * (4096 / chunkOf d)) = true := by
                rw [chunksOf_div d d0 d6, beq_iff_eq, hjj, HD.out]
                have : ((chunksOf d).toNat : Int) = chunksOf d := by omega
                rw [Int.natCast_mul, this]
              have hq1 : 0 ≤ (m : Int) * (4096 / chunkOf d) ∧ (m : Int) * (4096 / chunkOf d) ≤ 768 := by
                have := beq_iff_eq.1 hq
                omega
              have T1 := Lib.hid t1
              have T2 := Lib.hid t2
              have T3 := Lib.hid t3
              have P1 := Lib.hid P1
              have P2 := Lib.hid P2
              have hq2 : 0 ≤ 4096 / chunkOf d ∧ 4096 / chunkOf d ≤ 64 := by rw [chunksOf_div d d0 d6]; omega
              clear t1 t2 t3 hjj
              go_wp2_with fail
              refine (take_eq _ p b _ d _ 7 s3.out T2.out T3.out).mono ?_
              rintro e w4 ⟨rfl, s4, f4⟩
              have f4 := Lib.hid (f3.out.one_new f4.out hb')
              rw [T1.out] at s4
              go_wp2_with fail
              refine (chunk_in _ _ d0 d6).mono ?_
              rintro e w' ⟨rfl, rfl⟩
              go_wp2_with fail
              refine (pages_eq _ p b _ c 0 s4.out (by rw [P1.out]; rfl)).mono ?_
              rintro e w5 ⟨rfl, s5, f5⟩
              have f5 := Lib.hid (f4.out.nob_new f5.out)
              go_wp2_with fail
              refine (pages_eq _ p b _ d m s5.out (by rw [P2.out])).mono ?_
              rintro e w6 ⟨rfl, s6, f6⟩
              have f6 := Lib.hid (f5.out.nob_new f6.out)
              go_wp2_with fail
              go_ret
              exact ⟨rfl, f6.out⟩

set_option maxHeartbeats 3200000 in
set_option maxRecDepth 100000 in
theorem slabMoves_walk (m c d : Int) (w : World) (_hm : (Lit.int .i64 m).wf = true) (_hc : (Lit.int .i64 c).wf = true) (_hd : (Lit.int .i64 d).wf = true) :
    Calls Try.prog 8 #[.int .i64 m, .int .i64 c, .int .i64 d] w fun e w' => e = .returned (.bool true) ∧ Fr Nob w w' := by
  by_cases hin : ¬ m < 1 ∧ ¬ 12 < m ∧ ¬ c < 0 ∧ ¬ 5 < c ∧ ¬ d < 0 ∧ ¬ 5 < d ∧ ¬ (c == d) = true
  · obtain ⟨h1, h2, h3, h4, h5, h6, h7⟩ := hin
    obtain ⟨m, rfl⟩ := Int.eq_ofNat_of_zero_le (show 0 ≤ m by omega)
    exact slabMoves_in m c d w (by omega) (by omega) (by omega) (by omega) (by omega) (by omega) (by simpa using h7)
  · have hor := first_bad hin
    clear hin _hm _hc _hd
    rcases hor with h | ⟨h1, h⟩ | ⟨h1, h2, h⟩ | ⟨h1, h2, h3, h⟩ | ⟨h1, h2, h3, h4, h⟩ | ⟨h1, h2, h3, h4, h5, h⟩ | ⟨h1, h2, h3, h4, h5, h6, h⟩
    all_goals
      go_enter Try.func8, Try.ntmps8
      go_wp2_with fail
      refine (awake_ok w).mono ?_
      rintro e w0 ⟨rfl, f0⟩
      have f0 := Lib.hid f0
      go_wp2_with fail
      go_ret
      exact ⟨rfl, f0.out⟩

end Go.Proofs.Ytamcnieneelmmaa
