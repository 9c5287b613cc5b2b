/-
  The law TableSets, walked.
-/
import Derived.Test.YtefjcjmdmnfbhaaTabM
namespace Go.Proofs.Ytefjcjmdmnfbhaa
open Go.RowKit

set_option maxHeartbeats 16000000 in
set_option maxRecDepth 100000 in
theorem tableSets_walk (key : ByteArray) (va vb : Int) (A : Option Addr) (n cap : Nat) (l : List TAct) (w : World) (hks : key.size ≤ maxLen) (_ : (Lit.int .i64 va).wf = true) (_ : (Lit.int .i64 vb).wf = true) (hl : InA w A n cap l) :
    Calls Try.prog 7 #[.string key, .int .i64 va, .int .i64 vb, .slice A n cap] w fun e w' => e = .returned (.bool true) ∧ Fr Nob w w' := by
  have HL := Lib.hid hl
  have hkz : key.size < 9223372036854775808 := Nat.lt_of_le_of_lt hks (by decide)
  clear hl hks
  by_cases hn : 60 < n
  · have hn' : (60 : Int) < (n : Int) := by omega
    go_enter Try.func7, Try.ntmps7
    go_wp2_with fail
    refine (awake_ok w).mono ?_
    rintro e w0 ⟨rfl, f0⟩
    have f0 := Lib.hid f0
    go_wp2_with fail
    go_ret
    exact ⟨rfl, f0.out⟩
  have hn' : ¬ (60 : Int) < (n : Int) := by omega
  go_enter Try.func7, Try.ntmps7
  go_wp2_with fail
  refine (awake_ok w).mono ?_
  rintro e w0 ⟨rfl, f0⟩
  have f0 := Lib.hid f0
  go_wp2_with fail
  refine (DT.new f0.out 2 (by omega) (by omega) (by decide +kernel)).mono ?_
  rintro e w1 ⟨t, rfl, s1, f1⟩
  clear f0 f1
  go_wp2_with fail
  refine (s1.out.set key va hkz (Nat.zero_le _)).mono ?_
  rintro e w2 ⟨rfl, s2, f2⟩
  rw [decide_eq_true (show key ∉ keysM (newK 2).m from fun h => by cases h)]
  have hm0 : (setK (newK 2) key va).m.length ≤ 1 := setK_len ..
  have hk0 : Hid (key ∈ keysM (setK (newK 2) key va).m) := Lib.hid ((set_keys ..).2 (.inl rfl))
  clear f2 s1
  generalize setK (newK 2) key va = S0 at *
  go_wp2_with fail
  go_loopw [11] (fun i wr => ∃ (k : Nat) (S : KT), k ≤ n ∧ i = .int .i64 k ∧ Hid (DT w wr t S) ∧ S.m.length ≤ k + 1 ∧ Hid (key ∈ keysM S.m)) (fun i _ => n - (intOf i).toNat)
  case atStart => exact ⟨0, S0, Nat.zero_le _, rfl, s2, hm0, hk0⟩
  case round =>
    clear s2 hm0 hk0
    obtain ⟨k, S, hk, rfl, s, hm, hkm⟩ := hrel
    by_cases hlt : k < n
    · obtain ⟨g, o, x, rfl, hx, ⟨x0, x1, x2⟩, hxs⟩ := HL.out.cell s.out.fr hlt
      clear hx
      by_cases hxk : x.key = key
      · rw [hxk] at x2
        go_wp2_with fail
        go_roundw
        case rel => exact ⟨k + 1, S, by omega, by go_num, s, by omega, hkm⟩
        case measure => simp [intOf]; omega
      · have hne := str_ne hxk
        have HXK := Lib.hid hxk
        by_cases hop : x.op = 1
        · rw [hop] at x0
          have hkm2 : Hid (key ∈ keysM (delK S x.key).m) := Lib.hid ((del_keys ..).2 ⟨fun h => hxk h.symm, hkm.out⟩)
          have hm2 := delK_len S x.key
          clear hxk hop
          go_wp2_with fail
          refine (s.out.del x.key hxs (by omega)).mono ?_
          rintro e w3 ⟨rfl, s3, f3⟩
          clear f3
          generalize delK S x.key = S3 at *
          go_wp2_with fail
          go_roundw
          case rel => exact ⟨k + 1, S3, by omega, by go_num, s3, by omega, hkm2⟩
          case measure => simp [intOf]; omega
        · have hop2 : (x.op == 1) = false := beq_eq_false_iff_ne.2 hop
          have hkm2 : Hid (key ∈ keysM (setK S x.key x.v).m) := Lib.hid ((set_keys ..).2 (.inr hkm.out))
          have hm2 := setK_len S x.key x.v
          have ss := Lib.hid (s.out.nob ((Fr.refl Nob wr).drew))
          clear hxk hop
          go_wp2_with fail
          go_region_law (first
            | (go_simp; go_at_call 16; refine (ss.out.set x.key x.v hxs (by omega)).mono ?_; rintro e w3 ⟨rfl, s3, f3⟩; clear f3))
          all_goals
            generalize setK S x.key x.v = S3 at *
            go_wp2_with fail
            go_roundw
            case rel => exact ⟨k + 1, S3, by omega, by go_num, s3, by omega, hkm2⟩
            case measure => simp [intOf]; omega
    · have : k = n := by omega
      subst this
      go_wp2_with fail
      refine s.out.len.mono ?_
      rintro e _ ⟨rfl, rfl⟩
      have hl1 := Lib.hid (set_len_old (v := vb) hkm.out)
      obtain ⟨mm, hmm⟩ : ∃ mm, mm = S.m.length := ⟨_, rfl⟩
      rw [← hmm] at hl1 hm ⊢
      have HMM := Lib.hid hmm
      clear hmm
      go_wp2_with fail
      refine (s.out.set key vb hkz (by rw [← HMM.out]; omega)).mono ?_
      rintro e w3 ⟨rfl, s3, f3⟩
      rw [decide_eq_false (fun h => h hkm.out)]
      have hg : Hid (getV (setK S key vb).m key = vb ∧ getB (setK S key vb).m key = true) := Lib.hid (by
        unfold getV getB
        rw [getP_set, if_pos rfl]
        exact ⟨rfl, rfl⟩)
      have hk3 : Hid (key ∈ keysM (setK S key vb).m) := Lib.hid ((set_keys ..).2 (.inl rfl))
      clear f3 s hkm HMM
      generalize setK S key vb = S3 at *
      go_wp2_with fail
      refine s3.out.len.mono ?_
      rintro e _ ⟨rfl, rfl⟩
      rw [hl1.out]
      go_wp2_with fail
      refine (s3.out.get key hkz).mono ?_
      rintro e w4 ⟨rfl, q, rfl⟩
      rw [hg.out.1, hg.out.2]
      have s4 := Lib.hid (s3.out.nob ((Fr.refl Nob w3).drewN q))
      clear s3 hg
      generalize w3.drewN q = w4 at *
      go_wp2_with fail
      have hm3 : S3.m.length ≤ 1000000 := by rw [hl1.out]; omega
      refine (s4.out.del key hkz hm3).mono ?_
      rintro e w5 ⟨rfl, s5, f5⟩
      rw [decide_eq_true hk3.out]
      have hl5 := del_len s4.out.ok hk3.out
      rw [hl1.out] at hl5
      have hk5 : Hid (key ∉ keysM (delK S3 key).m) := Lib.hid fun h => ((del_keys ..).1 h).1 rfl
      have hg5 : Hid (getV (delK S3 key).m key = 0 ∧ getB (delK S3 key).m key = false) := Lib.hid (by
        unfold getV getB
        rw [getP_delK, if_pos rfl]
        exact ⟨rfl, rfl⟩)
      clear s4 f5 hl1 hk3 hm3
      generalize delK S3 key = S5 at *
      have hl6 : ((S5.m.length : Nat) : Int) = (mm : Int) - 1 := by omega
      clear hl5
      go_wp2_with fail
      refine s5.out.len.mono ?_
      rintro e _ ⟨rfl, rfl⟩
      rw [hl6]
      go_wp2_with fail
      refine (s5.out.get key hkz).mono ?_
      rintro e w6 ⟨rfl, q, rfl⟩
      rw [hg5.out.1, hg5.out.2]
      have s6 := Lib.hid (s5.out.nob ((Fr.refl Nob w5).drewN q))
      clear s5 hg5
      generalize w5.drewN q = w6 at *
      go_wp2_with fail
      refine (s6.out.del key hkz (by omega)).mono ?_
      rintro e w7 ⟨rfl, s7, f7⟩
      rw [decide_eq_false hk5.out]
      go_wp2_with fail
      go_ret
      exact ⟨rfl, s7.out.fr⟩
end Go.Proofs.Ytefjcjmdmnfbhaa
