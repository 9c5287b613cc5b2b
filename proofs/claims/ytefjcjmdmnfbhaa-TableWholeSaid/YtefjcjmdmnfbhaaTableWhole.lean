/-
  The law TableWhole, walked.
-/
import Derived.Test.YtefjcjmdmnfbhaaTabMp
namespace Go.Proofs.Ytefjcjmdmnfbhaa
open Go.RowKit

theorem move_left (S : KT) : (moveK S).left = S.left - 1 := by
  unfold moveK
  split
  next h => show S.left = _; omega
  · rfl
theorem del_left (S : KT) (k : ByteArray) : (delK S k).left = S.left - 1 := by
  unfold delK
  split
  · exact move_left S
  · exact move_left S
theorem sz15 : (⟨#[0, 32, 110, 111, 110, 101, 32, 111, 102, 32, 116, 104, 101, 115, 101]⟩ : ByteArray).size < 9223372036854775808 := by show 15 < _; omega
theorem flat_take_le {α : Type _} (l : List (List α)) (k : Nat) : ((l.take k).flatten).length ≤ l.flatten.length := by
  have h1 := congrArg (fun l : List (List α) => l.flatten.length) (List.take_append_drop k l)
  simp only [List.flatten_append, List.length_append] at h1
  omega

def flatN (l : List (List ByteArray)) (j : Nat) : Nat := ((l.take j).flatten).length

set_option maxHeartbeats 16000000 in
set_option maxRecDepth 100000 in
theorem tableWhole_walk (A : Option Addr) (n cap : Nat) (l : List ByteArray) (w : World) (hl : InS w A n cap l) :
    Calls Try.prog 6 #[.slice A n cap] w fun e w' => e = .returned (.bool true) ∧ Fr Nob w w' := by
  have HL := Lib.hid hl
  clear hl
  by_cases hn : 150 < n
  · have hn' : (150 : Int) < (n : Int) := by omega
    go_enter Try.func6, Try.ntmps6
    go_wp2_with fail
    refine (awake_ok w).mono ?_
    rintro e w0 ⟨rfl, f0⟩
    have f0 := Lib.hid f0
    go_wp2_with fail
    go_ret
    exact ⟨rfl, f0.out⟩
  have hn' : ¬ (150 : Int) < (n : Int) := by omega
  go_enter Try.func6, Try.ntmps6
  go_wp2_with fail
  refine (awake_ok w).mono ?_
  rintro e w0 ⟨rfl, f0⟩
  have f0 := Lib.hid f0
  go_wp2_with fail
  refine (DT.new f0.out 1 (by omega) (by omega) (by decide +kernel)).mono ?_
  rintro e w1 ⟨t, rfl, s1, f1⟩
  clear f0 f1
  go_wp2_with fail
  go_loopw [5] (fun i wr => ∃ (k : Nat) (S : KT), k ≤ n ∧ i = .int .i64 k ∧ Hid (DT w wr t S) ∧ S.m.length ≤ k) (fun i _ => n - (intOf i).toNat)
  case atStart => exact ⟨0, newK 1, Nat.zero_le _, rfl, s1, Nat.le_refl _⟩
  case round =>
    clear s1
    obtain ⟨k, S, hk, rfl, s, hm⟩ := hrel
    by_cases hlt : k < n
    · obtain ⟨g, o, x, rfl, hx, x0, hxs⟩ := HL.out.cell s.out.fr hlt
      clear hx
      have hm2 := setK_len S x k
      go_wp2_with fail
      refine (s.out.set x k hxs (by omega)).mono ?_
      rintro e w3 ⟨rfl, s3, f3⟩
      clear f3
      generalize setK S x k = S3 at *
      go_wp2_with fail
      go_roundw
      case rel => exact ⟨k + 1, S3, by omega, by go_num, s3, by omega⟩
      case measure => simp [intOf]; omega
    · have : k = n := by omega
      subst this
      go_wp2_with fail
      go_loopg [6] S.left (fun g _ wr => ∃ S : KT, Hid (DT w wr t S) ∧ S.left = g ∧ S.m.length ≤ k)
      case atStart => exact ⟨S, s, rfl, hm⟩
      case round =>
        clear s hm
        obtain ⟨S, s, rfl, hm⟩ := hrel
        have hle := s.out.ok.le
        have hol := s.out.ok.olds
        by_cases h0 : S.left = 0
        · have hold := s.out.ok.nil h0
          have hsum := s.out.ok.len
          rw [hold, List.flatten_nil, List.length_nil, Nat.add_zero] at hsum
          have HS := Lib.hid hsum
          have hbg := s.out.ok.big
          clear hold hsum hle hol
          go_wp2_with fail
          refine s.out.left.mono ?_
          rintro e _ ⟨rfl, rfl⟩
          rw [h0]
          clear h0
          go_wp2_with fail
          go_loopw [8, 7] (fun i c wr => ∃ j : Nat, j ≤ S.now.length ∧ i = .int .i64 j ∧ c = .int .i64 (flatN S.now j : Nat) ∧ Hid (DT w wr t S)) (fun i _ _ => S.now.length - (intOf i).toNat)
          case atStart => exact ⟨0, Nat.zero_le _, rfl, rfl, s⟩
          case round =>
            clear s
            obtain ⟨j, hj, rfl, rfl, s⟩ := hrel
            obtain ⟨nn, hnn⟩ : ∃ nn, nn = S.now.length := ⟨_, rfl⟩
            have HNN := Lib.hid hnn
            rw [← hnn] at hj hbg
            clear hnn
            by_cases hjn : j < nn
            · have hfs := Lib.hid (flat_snoc (l := S.now) (j := j) (by rw [← HNN.out]; exact hjn))
              have hft := Lib.hid (flat_take_le S.now (j + 1))
              have hlc : (S.now.getD j []).length ≤ 1000 := by
                have h1 := chain_len (l := S.now) (i := j)
                have := HS.out
                omega
              have hlt2 : flatN S.now j ≤ 1000 := by
                have h1 : flatN S.now j ≤ S.now.flatten.length := flat_take_le S.now j
                have := HS.out
                omega
              have hnx : Hid (flatN S.now (j + 1) = flatN S.now j + (S.now.getD j []).length) := Lib.hid (by unfold flatN; rw [hfs.out, List.length_append])
              go_wp2_with fail
              refine s.out.buckets.mono ?_
              rintro e _ ⟨rfl, rfl⟩
              rw [← HNN.out]
              go_wp2_with fail
              refine (s.out.chain (i := j) (by rw [← HNN.out]; exact hjn) (by omega)).mono ?_
              rintro e w5 ⟨v, rfl, o, f⟩
              obtain ⟨a1, c1, rfl, _, _, _⟩ := own_shape o.out
              have s5 := Lib.hid (s.out.nob f.out)
              clear o f s hfs hft
              generalize (S.now.getD j []).length = lc at *
              generalize flatN S.now j = lt at *
              go_wp2_with fail
              go_roundw
              case rel => exact ⟨j + 1, by rw [← HNN.out]; omega, by go_num, by rw [hnx.out]; go_num, s5⟩
              case measure => rw [← HNN.out]; simp [intOf]; omega
            · have hjn2 : j = nn := by omega
              have hsl : Hid (flatN S.now j = S.m.length) := Lib.hid (by unfold flatN; rw [hjn2, HNN.out, List.take_length, HS.out])
              subst hjn2
              rw [hsl.out]
              go_wp2_with fail
              refine s.out.buckets.mono ?_
              rintro e _ ⟨rfl, rfl⟩
              rw [← HNN.out]
              go_wp2_with fail
              refine s.out.len.mono ?_
              rintro e _ ⟨rfl, rfl⟩
              go_wp2_with fail
              go_ret
              exact ⟨rfl, s.out.fr⟩
        · have hdl := del_left S ⟨#[0, 32, 110, 111, 110, 101, 32, 111, 102, 32, 116, 104, 101, 115, 101]⟩
          have hdm := delK_len S ⟨#[0, 32, 110, 111, 110, 101, 32, 111, 102, 32, 116, 104, 101, 115, 101]⟩
          have hl1 : 0 < S.left := by omega
          have hl2 : S.left ≤ 65536 := by omega
          obtain ⟨lf, hlf⟩ : ∃ lf, lf = S.left := ⟨_, rfl⟩
          rw [← hlf] at hdl hl1 hl2
          have HLF := Lib.hid hlf
          have HDL := Lib.hid hdl
          clear hlf hdl hle hol h0
          go_wp2_with fail
          refine s.out.left.mono ?_
          rintro e _ ⟨rfl, rfl⟩
          rw [← HLF.out]
          go_wp2_with fail
          refine s.out.left.mono ?_
          rintro e _ ⟨rfl, rfl⟩
          rw [← HLF.out]
          go_wp2_with fail
          refine (s.out.del _ sz15 (by omega)).mono ?_
          rintro e w3 ⟨rfl, s3, f3⟩
          clear f3
          generalize delK S ⟨#[0, 32, 110, 111, 110, 101, 32, 111, 102, 32, 116, 104, 101, 115, 101]⟩ = S3 at *
          go_wp2_with fail
          refine s3.out.left.mono ?_
          rintro e _ ⟨rfl, rfl⟩
          have hl3 : ((S3.left : Nat) : Int) = (lf : Int) - 1 := by have := HDL.out; omega
          rw [hl3]
          clear hl3
          go_wp2_with fail
          go_roundg S3.left
          case measure => have := HDL.out; have := HLF.out; omega
          case rel => exact ⟨S3, s3, rfl, by omega⟩
end Go.Proofs.Ytefjcjmdmnfbhaa
