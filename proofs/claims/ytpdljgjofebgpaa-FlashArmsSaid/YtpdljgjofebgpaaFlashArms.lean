/-
  Law 3: FlashArms, walked.
-/
import Derived.Test.YtpdljgjofebgpaaFlashAw
namespace Go.Proofs.Ytpdljgjofebgpaa
open Go.RowKit

theorem some_byte (w : World) {n : Nat} (h : n < 256) : RdB (w.alloc (.cells #[.int .u8 (n : Int)] 5)) (.slice (some ⟨w.heap.size, 0, none⟩) 1 1) [UInt8.ofNat n] := by
  have h1 := one_byte w (UInt8.ofNat n)
  have h2 : (UInt8.ofNat n).toNat = n := by simp; omega
  rw [h2] at h1
  exact h1

theorem count_true (w : World) : Calls Try.prog 45 #[.bool true] w fun e w' => e = .returned (.int .i64 1) ∧ w = w' := by
  go_enter Try.func45, Try.ntmps45
  go_wp2_with fail
  go_ret
  exact ⟨rfl, rfl⟩
theorem count_false (w : World) : Calls Try.prog 45 #[.bool false] w fun e w' => e = .returned (.int .i64 0) ∧ w = w' := by
  go_enter Try.func45, Try.ntmps45
  go_wp2_with fail
  go_ret
  exact ⟨rfl, rfl⟩

/-- Behind c writes of a device that was armed with n. -/
def Armed (n c : Int) (p : Nat) (D : Dv) : Prop := D.pg.length = p ∧ ((c < n ∧ D.off = false ∧ D.arm = n - c ∧ D.loss = 0) ∨ (n ≤ c ∧ D.off = true ∧ D.loss = 1))

theorem Armed.step {n c : Int} {p : Nat} {D : Dv} (h : Armed n c p D) (i : Nat) (x : Pg) : D.spend.off = decide (n ≤ c + 1) ∧ Armed n (c + 1) p (D.change i x) := by
  obtain ⟨hl, h⟩ := h
  have hl2 : (D.change i x).pg.length = p := by rw [change_len]; exact hl
  rcases h with ⟨h1, h2, h3, h4⟩ | ⟨h1, h2, h3⟩
  · by_cases hone : D.arm = 1
    · have e := spend_last h2 hone
      have ho : D.spend.off = true := by rw [e]
      refine ⟨by rw [ho]; symm; rw [decide_eq_true_iff]; omega, hl2, .inr ⟨by omega, ?_⟩⟩
      have hc : D.change i x = D.spend := by unfold Dv.change; rw [if_pos ho]
      rw [hc, e]
      refine ⟨rfl, ?_⟩
      show wrap64 (D.loss + 1) = 1
      rw [h4]
      exact wrap01
    · have e := spend_more h2 (by omega)
      have ho : D.spend.off = false := by rw [e]; exact h2
      refine ⟨by rw [ho]; symm; rw [decide_eq_false_iff_not]; omega, hl2, .inl ⟨by omega, ?_⟩⟩
      have hc : D.change i x = D.spend.put i x := by unfold Dv.change; rw [if_neg (by simp [ho])]
      rw [hc, e]
      exact ⟨h2, by show D.arm - 1 = _; omega, h4⟩
  · have e := spend_off h2
    have ho : D.spend.off = true := by rw [e]; exact h2
    have hc : D.change i x = D.spend := by unfold Dv.change; rw [if_pos ho]
    refine ⟨by rw [ho]; symm; rw [decide_eq_true_iff]; omega, hl2, .inr ⟨by omega, ?_⟩⟩
    rw [hc, e]
    exact ⟨h2, h3⟩

set_option maxRecDepth 100000 in
set_option maxHeartbeats 1000000 in
theorem flashArms_in (p : Nat) (n m : Int) (w : World) (hp : 1 ≤ p) (hp2 : p ≤ 20) (hn : 1 ≤ n) (hn2 : n ≤ 40) (hm : 0 ≤ m) (hm2 : m ≤ 60) :
    Calls Try.prog 12 #[.int .i64 p, .int .i64 n, .int .i64 m] w fun e w' => e = .returned (.bool true) ∧ Fr Nob w w' := by
  have t1 : ¬ (p : Int) < 1 := by omega
  have t2 : ¬ 20 < (p : Int) := by omega
  have t3 : ¬ n < 1 := by omega
  have t4 : ¬ 40 < n := by omega
  have t5 : ¬ m < 0 := by omega
  have t6 : ¬ 60 < m := by omega
  go_enter Try.func12, Try.ntmps12
  go_wp2_with fail
  refine (awake3_eq w).mono ?_
  rintro e w0 ⟨rfl, f0⟩
  have F0 := Lib.hid f0
  clear f0
  go_wp2_with fail
  refine (DL.new (n := p) F0.out (by omega) (by omega)).mono ?_
  rintro e w1 ⟨q, K, rfl, d, _, _⟩
  have D := Lib.hid d
  clear d
  go_wp2_with fail
  refine (D.out.arm (WalkArith.wf_i64 (by omega))).mono ?_
  rintro e w2 ⟨rfl, d, _⟩
  have A : Armed n 0 p ((Dv.new p).armed n) := ⟨by simp [Dv.armed, Dv.new], .inl ⟨by omega, rfl, by unfold Dv.armed; rw [if_neg (by omega)]; show n = n - 0; omega, rfl⟩⟩
  generalize (Dv.new p).armed n = E at d A
  have D2 := Lib.hid d
  have AA := Lib.hid A
  clear d A D
  go_wp2_with fail
  go_loopw [9] (fun i wr => ∃ c : Nat, (c : Int) ≤ m ∧ i = .int .i64 (c + 1) ∧ Hid (∃ E, DL w wr q K Nob E ∧ Armed n c p E)) (fun i _ => (m + 1 - Lib.intOf i).toNat)
  case atStart => exact ⟨0, by omega, rfl, Lib.hid ⟨E, D2.out, AA.out⟩⟩
  case round =>
    clear D2 AA
    obtain ⟨c, hc, rfl, h⟩ := hrel
    obtain ⟨E, d, a⟩ := h.out
    have D := Lib.hid d
    have A := Lib.hid a
    clear h d a
    by_cases hlt : (c : Int) < m
    · have hle : (c : Int) + 1 ≤ m := by omega
      have hw : IntKind.u8.wrap ((c : Int) + 1) = (c : Int) + 1 := by rw [IntKind.wrap_u8]; omega
      go_wp2_with fail
      have him : (c + 1) % p < E.pg.length := by rw [A.out.1]; exact Nat.mod_lt _ (by omega)
      rw [show ((c : Int) + 1) % (p : Int) = (((c + 1) % p : Nat) : Int) from by simp, show ((c : Int) + 1) = ((c + 1 : Nat) : Int) from by omega]
      have d := D.out.nob ((Fr.refl Nob wr).alloc (.cells #[.int .u8 ((c + 1 : Nat) : Int)] 5))
      have hs := A.out.step ((c + 1) % p) (.whole (pad [UInt8.ofNat (c + 1)]))
      by_cases hcn : (c : Int) + 1 < n
      · have hb : E.spend.off = false := by rw [hs.1, decide_eq_false_iff_not]; omega
        have HS := Lib.hid hs.2
        have HB := Lib.hid hb
        clear hs hb
        refine (d.write him (some_byte wr (by omega)) (by show 1 ≤ 384; omega) false HB.out).mono ?_
        rintro e w5 ⟨rfl, d, _⟩
        rw [errOff_false, show (((c + 1 : Nat) : Int)) = (c : Int) + 1 from by omega]
        have DD := Lib.hid d
        clear d
        go_wp2_with fail
        go_roundw
        case rel => exact ⟨c + 1, by omega, by go_num, Lib.hid ⟨_, DD.out, HS.out⟩⟩
        case measure => simp [Lib.intOf]; omega
      · have hb : E.spend.off = true := by rw [hs.1, decide_eq_true_iff]; omega
        have HS := Lib.hid hs.2
        have HB := Lib.hid hb
        clear hs hb
        refine (d.write him (some_byte wr (by omega)) (by show 1 ≤ 384; omega) true HB.out).mono ?_
        rintro e w5 ⟨rfl, d, _⟩
        rw [errOff_true, show (((c + 1 : Nat) : Int)) = (c : Int) + 1 from by omega]
        have DD := Lib.hid d
        clear d
        go_wp2_with fail
        go_roundw
        case rel => exact ⟨c + 1, by omega, by go_num, Lib.hid ⟨_, DD.out, HS.out⟩⟩
        case measure => simp [Lib.intOf]; omega
    · have hcm : (c : Int) = m := by omega
      have hle : ¬ (c : Int) + 1 ≤ m := by omega
      go_wp2_with fail
      refine (D.out.power).mono ?_
      rintro e w' ⟨rfl, rfl⟩
      obtain ⟨_, a⟩ := A.out
      rcases a with ⟨h1, h2, _, h3⟩ | ⟨h1, h2, h3⟩
      · rw [h2]
        have H3 := Lib.hid h3
        have hmn : m < n := by omega
        have hd1 : decide (m < n) = true := by rw [decide_eq_true_iff]; omega
        have hd2 : decide (n ≤ m) = false := by rw [decide_eq_false_iff_not]; omega
        clear h2 h3
        go_wp2_with fail
        refine (D.out.losses).mono ?_
        rintro e w' ⟨rfl, rfl⟩
        rw [H3.out]
        go_wp2_with fail
        refine (count_false wr).mono ?_
        rintro e w' ⟨rfl, rfl⟩
        go_wp2_with fail
        go_ret
        exact ⟨rfl, D.out.fr⟩
      · rw [h2]
        have H3 := Lib.hid h3
        have hmn : ¬ m < n := by omega
        have hd1 : decide (m < n) = false := by rw [decide_eq_false_iff_not]; omega
        have hd2 : decide (n ≤ m) = true := by rw [decide_eq_true_iff]; omega
        clear h2 h3
        go_wp2_with fail
        refine (D.out.losses).mono ?_
        rintro e w' ⟨rfl, rfl⟩
        rw [H3.out]
        go_wp2_with fail
        refine (count_true wr).mono ?_
        rintro e w' ⟨rfl, rfl⟩
        go_wp2_with fail
        go_ret
        exact ⟨rfl, D.out.fr⟩

set_option maxRecDepth 100000 in
theorem flashArms_walk (p n m : Int) (w : World) (_ : (Lit.int .i64 p).wf = true) (_ : (Lit.int .i64 n).wf = true) (_ : (Lit.int .i64 m).wf = true) :
    Calls Try.prog 12 #[.int .i64 p, .int .i64 n, .int .i64 m] w fun e w' => e = .returned (.bool true) ∧ Fr Nob w w' := by
  by_cases h : (1 ≤ p ∧ p ≤ 20) ∧ (1 ≤ n ∧ n ≤ 40) ∧ 0 ≤ m ∧ m ≤ 60
  · obtain ⟨k, rfl⟩ := Int.eq_ofNat_of_zero_le (a := p) (by omega)
    exact flashArms_in k n m w (by omega) (by omega) (by omega) (by omega) (by omega) (by omega)
  · have hg : (decide (p < 1) || decide (20 < p) || decide (n < 1) || decide (40 < n) || decide (m < 0) || decide (60 < m)) = true := by
      simp only [Bool.or_eq_true, decide_eq_true_eq]
      omega
    clear h
    go_enter Try.func12, Try.ntmps12
    go_wp2_with fail
    refine (awake3_eq w).mono ?_
    rintro e w0 ⟨rfl, f0⟩
    have F0 := Lib.hid f0
    clear f0
    go_wp2_with fail
    all_goals
      go_ret
      exact ⟨rfl, F0.out⟩

end Go.Proofs.Ytpdljgjofebgpaa
