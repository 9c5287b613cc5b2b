/-
  The law SlabFits, walked: a class is the least whose chunks hold so many bytes; a page of it has as many as fit into 4096.
-/
import Derived.Test.YtamcnieneelmmaaSlabP
namespace Go.Proofs.Ytamcnieneelmmaa
open Go.RowKit

theorem classOf_out {x : Int} (h : x < 0 ∨ 2048 < x) : classOf x = -1 := by
  unfold classOf
  rcases h with h | h
  · rw [if_neg (by omega)]
  · rw [if_pos (by omega), if_neg (by omega), if_neg (by omega), if_neg (by omega), if_neg (by omega), if_neg (by omega), if_neg (by omega)]
theorem classOf_in {x : Int} (h0 : 0 ≤ x) (h1 : x ≤ 2048) : 0 ≤ classOf x ∧ classOf x < 6 ∧ x ≤ chunkOf (classOf x) ∧ (0 < classOf x → chunkOf (classOf x - 1) < x) := by
  obtain ⟨c0, c1, c2, c3, c4, c5⟩ := chunkOf_lit
  have key : ∀ c : Int, classOf x = c → 0 ≤ c → c < 6 → x ≤ chunkOf c → (0 < c → chunkOf (c - 1) < x) → 0 ≤ classOf x ∧ classOf x < 6 ∧ x ≤ chunkOf (classOf x) ∧ (0 < classOf x → chunkOf (classOf x - 1) < x) := by
    intro c h a1 a2 a3 a4; rw [h]; exact ⟨a1, a2, a3, a4⟩
  by_cases a0 : x ≤ 64
  · exact key 0 (by unfold classOf; rw [if_pos h0, if_pos a0]) (by omega) (by omega) (by omega) (by omega)
  by_cases a1 : x ≤ 128
  · exact key 1 (by unfold classOf; rw [if_pos h0, if_neg a0, if_pos a1]) (by omega) (by omega) (by omega) (fun _ => by show chunkOf 0 < x; omega)
  by_cases a2 : x ≤ 256
  · exact key 2 (by unfold classOf; rw [if_pos h0, if_neg a0, if_neg a1, if_pos a2]) (by omega) (by omega) (by omega) (fun _ => by show chunkOf 1 < x; omega)
  by_cases a3 : x ≤ 512
  · exact key 3 (by unfold classOf; rw [if_pos h0, if_neg a0, if_neg a1, if_neg a2, if_pos a3]) (by omega) (by omega) (by omega) (fun _ => by show chunkOf 2 < x; omega)
  by_cases a4 : x ≤ 1024
  · exact key 4 (by unfold classOf; rw [if_pos h0, if_neg a0, if_neg a1, if_neg a2, if_neg a3, if_pos a4]) (by omega) (by omega) (by omega) (fun _ => by show chunkOf 3 < x; omega)
  · exact key 5 (by unfold classOf; rw [if_pos h0, if_neg a0, if_neg a1, if_neg a2, if_neg a3, if_neg a4, if_pos h1]) (by omega) (by omega) (by omega) (fun _ => by show chunkOf 4 < x; omega)

theorem one_run {c : Int} {k : Nat} (h0 : 0 ≤ c) (h6 : c < 6) (hk : k < (chunksOf c).toNat) :
    takeS (runS Pg.new c 1 k) c = runS Pg.new c 1 (k + 1) ∧ takeN (runS Pg.new c 1 k) c = k ∧ takeE (runS Pg.new c 1 k) c = 0 := by
  obtain ⟨t1, t2, t3⟩ := run_take (m := 1) (n := k) h0 h6 (emp_new c h0) (by omega)
  rw [Nat.div_eq_of_lt hk, Nat.mod_eq_of_lt hk] at t2
  exact ⟨t1, by rw [t2]; omega, t3⟩

set_option maxHeartbeats 3200000 in
set_option maxRecDepth 100000 in
theorem slabFits_walk (x : Int) (w : World) (_hx : (Lit.int .i64 x).wf = true) :
    Calls Try.prog 6 #[.int .i64 x] w fun e w' => e = .returned (.bool true) ∧ Fr Nob w w' := by

  by_cases hin : 0 ≤ x ∧ x ≤ 2048
  · obtain ⟨h0, h1⟩ := hin
    obtain ⟨c0, c6, cx, cl⟩ := classOf_in h0 h1
    have hcp := chunkOf_pos _ c0 c6
    have hcs := chunksOf_pos _ c0 c6
    have hdiv := chunksOf_div _ c0 c6
    generalize hc : classOf x = c at *
    have HC := Lib.hid hc
    have HD := Lib.hid hdiv
    have cl' := Lib.hid cl
    clear hc hdiv cl
    have end_ : ∀ (Q : Prop), (0 < c → chunkOf (c - 1) < x → Q) → (¬ 0 < c → Q) → Q := fun Q a b => by
      by_cases h : 0 < c
      · exact a h (cl'.out h)
      · exact b h
    refine end_ _ (fun hpos hlow => ?_) (fun hpos => ?_)
    all_goals
      clear end_
      go_enter Try.func6, Try.ntmps6
      go_wp2_with fail
      refine (awake_ok w).mono ?_
      rintro e w0 ⟨rfl, f0⟩
      have f0 := Lib.hid f0
      go_wp2_with fail
      refine (class_ok _ _).mono ?_
      rintro e w' ⟨rfl, rfl⟩
      rw [HC.out]
      go_wp2_with (go_at_call 15; refine (chunk_any _ _).mono ?_; rintro e w' ⟨rfl, rfl⟩)
      refine (new_eq _ 1 (by omega) (by omega)).mono ?_
      rintro e w1 ⟨p, b, rfl, s1, f1, hp, hb, -⟩
      have f1 := Lib.hid (f0.out.nob_new f1.out)
      have hb' : w.heap.size ≤ b := by have := f0.out.size; omega
      rw [show List.replicate 1 Pg.new = runS Pg.new c 1 0 from runS_new c 1] at s1
      go_wp2_with fail
      go_loopw [6, 7, 8] (fun i _ _ wr => ∃ (k : Nat), k ≤ (chunksOf c).toNat ∧ i = .int .i64 k ∧ Hid (SlabAt wr p b (runS Pg.new c 1 k)) ∧ Hid (Fr Nob w wr)) (fun i _ _ _ => (chunksOf c).toNat - (intOf i).toNat)
      case atStart => exact ⟨0, Nat.zero_le _, rfl, s1, f1⟩
      case round =>
        clear s1 f1
        obtain ⟨k, hk, rfl, s1, f1⟩ := hrel
        go_wp2_with fail
        refine (chunk_in _ _ c0 c6).mono ?_
        rintro e w' ⟨rfl, rfl⟩
        by_cases hlt : k < (chunksOf c).toNat
        · obtain ⟨t1, t2, t3⟩ := one_run c0 c6 hlt
          have T1 := Lib.hid t1
          have T2 := Lib.hid t2
          have T3 := Lib.hid t3
          clear t1 t2 t3
          have hq : (k : Int) < 4096 / chunkOf c := by rw [HD.out]; omega
          go_wp2_with fail
          refine (take_eq _ p b _ c k 0 s1.out T2.out T3.out).mono ?_
          rintro e w2 ⟨rfl, s2, f2⟩
          have f2 := Lib.hid (f1.out.one_new f2.out hb')
          rw [T1.out] at s2
          go_wp2_with fail
          go_roundw
          case rel => exact ⟨k + 1, by omega, by go_num, s2, f2⟩
          case measure => simp [intOf]; omega
        · have hkk : k = (chunksOf c).toNat := by omega
          have hq : ¬ (k : Int) < 4096 / chunkOf c := by rw [HD.out]; omega
          have ⟨_, t2, t3⟩ := run_full (e0 := Pg.new) (m := 1) (n := k) c0 c6 c0 c6 (by omega)
          have T2 := Lib.hid t2
          have T3 := Lib.hid t3
          clear t2 t3 hkk
          go_wp2_with fail
          refine (take_eq _ p b _ c 0 7 s1.out T2.out T3.out).mono ?_
          rintro e w2 ⟨rfl, s2, f2⟩
          have f2 := Lib.hid (f1.out.one_new f2.out hb')
          go_wp2_with fail
          go_ret
          exact ⟨rfl, f2.out⟩
  · have hcl := classOf_out (x := x) (by omega)
    have HC := Lib.hid hcl
    clear hcl
    have hor : x < 0 ∨ 2048 < x := by omega
    clear hin
    rcases hor with hor | hor
    all_goals
      go_enter Try.func6, Try.ntmps6
      go_wp2_with fail
      refine (awake_ok w).mono ?_
      rintro e w0 ⟨rfl, f0⟩
      have f0 := Lib.hid f0
      go_wp2_with fail
      refine (class_ok _ _).mono ?_
      rintro e w' ⟨rfl, rfl⟩
      rw [HC.out]
      go_wp2_with fail
      go_ret
      exact ⟨rfl, f0.out⟩

end Go.Proofs.Ytamcnieneelmmaa
