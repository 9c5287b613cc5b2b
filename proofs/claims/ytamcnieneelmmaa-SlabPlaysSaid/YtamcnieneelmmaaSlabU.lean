/-
  The reference's Take, walked.
-/
import Derived.Test.YtamcnieneelmmaaSlabT
namespace Go.Proofs.Ytamcnieneelmmaa
open Go.RowKit

section
variable {w : World} {u go gt cgo cgt : Nat} {tb : Nat → Value} {S : List Pg} {K : Nat → Prop}

set_option maxHeartbeats 3200000 in
set_option maxRecDepth 100000 in
theorem refTake_ok (s : RSl w u go gt cgo cgt tb S) (hK : ∀ k, K k ↔ RSOwn u go gt tb S.length k) {c : Int} (h0 : 0 ≤ c) (h6 : c < 6) :
    Calls Try.prog 19 #[.pointer (some ⟨u, 0, none⟩), .int .i64 c] w (RTake w u K S c) := by
  have hl := s.len
  have HS := Lib.hid s
  have HK := Lib.hid hK
  obtain ⟨cu0, cu1, cr⟩ := s.cells
  have CR := Lib.hid cr
  obtain ⟨m, hm⟩ : ∃ m : Nat, chunksOf c = (m : Int) := ⟨(chunksOf c).toNat, by have := chunksOf_pos c h0 h6; omega⟩
  have hm64 := chunksOf_pos c h0 h6
  rw [hm] at hm64
  have HM := Lib.hid hm
  have mb : ∀ w, _ := run_makeB (n := m) (by omega)
  have sh : (64 : Int) / 2 ^ c.toNat = (m : Int) := by
    rw [← hm]
    unfold chunksOf
    rw [if_pos ⟨h0, h6⟩]
  clear cr hK s hm
  go_enter Try.func19, Try.ntmps19
  go_wp2_with fail
  go_loop [5, 6] (fun i _ => ∃ k : Nat, k ≤ S.length ∧ i = .int .i64 k ∧ Hid (NoFit (fits1 c) S k)) (fun i _ => S.length - (intOf i).toNat)
  case atStart => exact ⟨0, Nat.zero_le _, rfl, Lib.hid (NoFit.zero _ _)⟩
  case round =>
    obtain ⟨k, hk, rfl, hno⟩ := hrel
    by_cases hlt : k < S.length
    · obtain ⟨cg, ct⟩ := CR.out k hlt
      by_cases hA : (S[k].cls == c) = true
      · obtain ⟨a, cap, hv, hle, hbs⟩ := HS.out.page hlt
        rw [hv] at ct
        have HV := Lib.hid hv
        have HB := Lib.hid hbs
        clear hv hbs
        obtain ⟨lp, hlp⟩ : ∃ lp, lp = lenP S[k] := ⟨_, rfl⟩
        rw [← hlp] at ct hle
        have HLP := Lib.hid hlp
        clear hlp
        have HC := Lib.hid (show S[k].cls = c by simpa using hA)
        go_wp2_with fail
        go_loop [6] (fun i => ∃ j : Nat, j ≤ lp ∧ i = .int .i64 j ∧ Hid (∀ r, r < j → S[k].tk r = true)) (fun i => lp - (intOf i).toNat)
        case atStart => exact ⟨0, Nat.zero_le _, rfl, Lib.hid fun r hr => absurd hr (Nat.not_lt_zero _)⟩
        case round =>
          obtain ⟨j, hj, rfl, hall⟩ := hrel
          by_cases hjl : j < lp
          · obtain ⟨g, rfl, hb, hf⟩ := HB.out j (by rw [← HLP.out]; exact hjl)
            cases htk : S[k].tk j
            · rw [htk] at hb
              obtain ⟨f1, f2⟩ := fits1_iff HS.out h0 hlt HC.out (by rw [← HLP.out]; exact hjl) htk hall.out
              have hend := Lib.hid (rtake_end1 HS.out HK.out h0 h6 hlt f1 (fun j hj => hno.out j hj (by omega)) f2 HV.out)
              clear htk f1 f2
              go_wp2_with fail
              go_ret
              exact hend.out
            · rw [htk] at hb
              have hall' : Hid (∀ r, r < j + 1 → S[k].tk r = true) := Lib.hid fun r hr => by
                by_cases e : r = j
                · rw [e]; exact htk
                · exact hall.out r (by omega)
              clear htk hall
              go_wp2_with fail
              go_round
              case rel => exact ⟨j + 1, by omega, by go_num, hall'⟩
              case measure => simp [intOf]; omega
          · have hno' := Lib.hid (hno.out.succ hlt (fits1_not HS.out hlt fun _ r hr => hall.out r (by rw [← HLP.out] at hr; omega)))
            clear hno hall
            go_wp2_with fail
            go_round
            case rel => exact ⟨k + 1, by omega, by go_num, hno'⟩
            case measure => simp [intOf]; omega
      · have hA' : (S[k].cls == c) = false := by simpa using hA
        have hno' := Lib.hid (hno.out.succ hlt (fits1_no hA'))
        clear hA hno
        go_wp2_with fail
        go_loop [6] (fun i => i = .int .i64 0) (fun i => 0)
        case atStart => rfl
        case round =>
          subst hrel
          go_wp2_with fail
          go_round
          case rel => exact ⟨k + 1, by omega, by go_num, hno'⟩
          case measure => simp [intOf]; omega
    · have hn1 := Lib.hid (hno.out.all' hk (by omega))
      clear hno
      go_wp2_with fail
      go_loop [7, 8] (fun i _ => ∃ t : Nat, t ≤ 2 ∧ i = .int .i64 t ∧ Hid (1 ≤ t → ∀ j (hj : j < S.length), fits2 S[j] = false) ∧ Hid (2 ≤ t → ∀ j (hj : j < S.length), fits3 S[j] = false)) (fun i _ => 2 - (intOf i).toNat)
      case atStart => exact ⟨0, Nat.zero_le _, rfl, Lib.hid fun h => by omega, Lib.hid fun h => by omega⟩
      case round =>
        clear hlt hk
        obtain ⟨t, ht, rfl, hn2, hn3⟩ := hrel
        by_cases ht0 : t = 0
        · subst ht0
          go_wp2_with fail
          go_loop [8] (fun i => ∃ k : Nat, k ≤ S.length ∧ i = .int .i64 k ∧ Hid (NoFit fits2 S k)) (fun i => S.length - (intOf i).toNat)
          case atStart => exact ⟨0, Nat.zero_le _, rfl, Lib.hid (NoFit.zero _ _)⟩
          case round =>
            obtain ⟨k, hk, rfl, hno⟩ := hrel
            by_cases hlt : k < S.length
            · obtain ⟨cg, ct⟩ := CR.out k hlt
              by_cases hA : (S[k].cls == -1) = true
              · have hu : S[k].us = 0 := by
                  rcases HS.out.cls_ hlt with h | h
                  · exact h.2.2
                  · have : S[k].cls = -1 := by simpa using hA
                    omega
                have hend := Lib.hid (rtake_end2 HS.out HK.out h0 h6 hlt (slot2 hlt hn1.out hA fun j hj => hno.out j hj (by omega)) hu (m := m) (by rw [HM.out]; rfl))
                clear hu hno
                have fg := (HS.out.free k).1
                obtain ⟨z1, d1, d2, d3, x1, x2, x3, d4, d5, d6, d7⟩ := turn_facts HS.out hlt (m := m) (by omega) (c := c) (W2 := (((w.setCell ⟨go, k, none⟩ (.int .i64 c)).alloc (.cells (madeCells #[.bool false] m) 4)).setCell ⟨gt, k, none⟩ (.slice (some ⟨w.heap.size, 0, none⟩) m m)).drew) rfl rfl rfl
                go_wp2_with fail
                go_region
                go_wp2_with fail
                go_ret
                exact hend.out
              · have hA' : (S[k].cls == -1) = false := by simpa using hA
                have hno' := Lib.hid (hno.out.succ hlt hA')
                clear hA hno
                go_wp2_with fail
                go_round
                case rel => exact ⟨k + 1, by omega, by go_num, hno'⟩
                case measure => simp [intOf]; omega
            · have hx2 : Hid (1 ≤ 0 + 1 → ∀ j (hj : j < S.length), fits2 S[j] = false) := Lib.hid fun _ => hno.out.all' hk (by omega)
              clear hno
              go_wp2_with fail
              go_round
              case rel => exact ⟨1, by omega, rfl, hx2, Lib.hid fun h => by omega⟩
              case measure => simp [intOf]
        · by_cases ht1 : t = 1
          · subst ht1
            go_wp2_with fail
            go_loop [8] (fun i => ∃ k : Nat, k ≤ S.length ∧ i = .int .i64 k ∧ Hid (NoFit fits3 S k)) (fun i => S.length - (intOf i).toNat)
            case atStart => exact ⟨0, Nat.zero_le _, rfl, Lib.hid (NoFit.zero _ _)⟩
            case round =>
              obtain ⟨k, hk, rfl, hno⟩ := hrel
              by_cases hlt : k < S.length
              · obtain ⟨cg, ct⟩ := CR.out k hlt
                have hge : 0 ≤ S[k].cls := by
                  rcases HS.out.cls_ hlt with h | h
                  · have := hn2.out (Nat.le_refl _) k hlt
                    simp [fits2, h.1] at this
                  · exact h.1
                obtain ⟨us, hus⟩ : ∃ us, S[k].us = us := ⟨_, rfl⟩
                have HU := Lib.hid hus
                by_cases hA : (us == 0) = true
                · have hu0 : S[k].us = 0 := by rw [hus]; simpa using hA
                  have hend := Lib.hid (rtake_end2 HS.out HK.out h0 h6 hlt (slot3 hlt hn1.out (hn2.out (Nat.le_refl _)) (by unfold fits3; rw [hu0]; rfl) fun j hj => hno.out j hj (by omega)) hu0 (m := m) (by rw [HM.out]; rfl))
                  clear hu0 hno hus
                  have fg := (HS.out.free k).1
                  obtain ⟨z1, d1, d2, d3, x1, x2, x3, d4, d5, d6, d7⟩ := turn_facts HS.out hlt (m := m) (by omega) (c := c) (W2 := (((w.setCell ⟨go, k, none⟩ (.int .i64 c)).alloc (.cells (madeCells #[.bool false] m) 4)).setCell ⟨gt, k, none⟩ (.slice (some ⟨w.heap.size, 0, none⟩) m m)).drew) rfl rfl rfl
                  go_wp2_with (refine (refUsed_ok HS.out hlt HU.out).mono ?_; rintro e w' ⟨rfl, rfl⟩)
                  go_region
                  go_wp2_with fail
                  go_ret
                  exact hend.out
                · have hA' : (S[k].us == 0) = false := by rw [hus]; simpa using hA
                  have hno' := Lib.hid (hno.out.succ hlt hA')
                  have hA'' : (us == 0) = false := by simpa using hA
                  clear hA hno hA' hus
                  go_wp2_with (refine (refUsed_ok HS.out hlt HU.out).mono ?_; rintro e w' ⟨rfl, rfl⟩)
                  go_round
                  case rel => exact ⟨k + 1, by omega, by go_num, hno'⟩
                  case measure => simp [intOf]; omega
              · have hx2 : Hid (2 ≤ 1 + 1 → ∀ j (hj : j < S.length), fits3 S[j] = false) := Lib.hid fun _ => hno.out.all' hk (by omega)
                have hx1 : Hid (1 ≤ 1 + 1 → ∀ j (hj : j < S.length), fits2 S[j] = false) := Lib.hid fun _ => hn2.out (Nat.le_refl _)
                clear hno hn2
                go_wp2_with fail
                go_round
                case rel => exact ⟨2, by omega, rfl, hx1, hx2⟩
                case measure => simp [intOf]
          · have hf := refN_full (S := S) (c := c) (by simp [inCls, h0, h6]) (slot0 hn1.out (hn2.out (by omega)) (hn3.out (by omega)))
            have hend : Hid (RTake w u K S c (.returned (.int .i64 (-1))) w) := Lib.hid ⟨by rw [hf.1], Lib.hid ⟨K, by rw [hf.2]; exact ⟨go, gt, cgo, cgt, tb, HS.out, HK.out⟩, Fr.refl _ _, fun k hk => .inl hk⟩⟩
            clear hf
            go_wp2_with fail
            go_ret
            exact hend.out
end
end Go.Proofs.Ytamcnieneelmmaa
