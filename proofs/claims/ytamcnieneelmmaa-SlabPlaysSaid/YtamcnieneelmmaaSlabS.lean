/-
  Contracts of the reference's Used, Class (of a chunk), Free, Class (of a size).
-/
import Derived.Test.YtamcnieneelmmaaSlabR
namespace Go.Proofs.Ytamcnieneelmmaa
open Go.RowKit

section
variable {w : World} {u go gt cgo cgt : Nat} {tb : Nat → Value} {S : List Pg} {K : Nat → Prop}

theorem cnt_step (tk : Nat → Bool) (k : Nat) : (tk k = true → cnt tk (k + 1) = cnt tk k + 1) ∧ (tk k = false → cnt tk (k + 1) = cnt tk k) := by
  refine ⟨fun h => ?_, fun h => ?_⟩
  · show cnt tk k + _ = _; rw [h]; rfl
  · show cnt tk k + _ = _; rw [h]; rfl

set_option maxHeartbeats 1600000 in
set_option maxRecDepth 100000 in
theorem refUsed_ok (s : RSl w u go gt cgo cgt tb S) {i : Nat} (hi : i < S.length) {r : Int} (hr : S[i].us = r) :
    Calls Try.prog 21 #[.pointer (some ⟨u, 0, none⟩), .int .i64 i] w fun e w' => e = .returned (.int .i64 r) ∧ w = w' := by
  have hl := s.len
  obtain ⟨cu0, cu1, cr⟩ := s.cells
  obtain ⟨cg, ct⟩ := cr i hi
  obtain ⟨a, cap, hv, hle, hk⟩ := s.page hi
  rw [hv] at ct
  have hc := Lib.hid (((ok_of_mem s.ok hi).count).trans hr)
  have HK := Lib.hid hk
  have hst := Lib.hid (cnt_step S[i].tk)
  have hbd := Lib.hid (cnt_le S[i].tk)
  clear hk hv cr s hr cg cu0
  generalize lenP S[i] = m at *
  generalize S[i].tk = tk at *
  generalize S.length = n at *
  go_enter Try.func21, Try.ntmps21
  go_wp2_with fail
  go_loop [5, 6] (fun n i => ∃ k : Nat, k ≤ m ∧ i = .int .i64 k ∧ n = .int .i64 (cnt tk k)) (fun _ i => m - (intOf i).toNat)
  case atStart => exact ⟨0, Nat.zero_le _, rfl, rfl⟩
  case round =>
    obtain ⟨k, hkm, rfl, rfl⟩ := hrel
    have hcb := hbd.out k
    by_cases hlt : k < m
    · obtain ⟨g, rfl, hb, hf⟩ := HK.out k hlt
      cases hx : tk k
      · rw [hx] at hb
        have hs := Lib.hid ((hst.out k).2 hx)
        clear hx
        go_wp2_with fail
        go_round
        case rel => exact ⟨k + 1, by omega, by go_num, by rw [hs.out]⟩
        case measure => simp [intOf]; omega
      · rw [hx] at hb
        have hs := Lib.hid ((hst.out k).1 hx)
        clear hx
        go_wp2_with fail
        go_round
        case rel => exact ⟨k + 1, by omega, by go_num, by rw [hs.out]; go_num⟩
        case measure => simp [intOf]; omega
    · have he : k = m := by omega
      subst he
      have hc' := hc
      go_wp2_with fail
      go_ret
      exact ⟨ret_int hc'.out, rfl⟩

theorem isTaken_no0 {x : Int} (h : x < 0) : isTaken S x = false := by unfold isTaken; rw [decide_eq_false (by omega)]; simp
theorem isTaken_no1 {x : Int} (h : ¬ x / 64 < S.length) : isTaken S x = false := by unfold isTaken; rw [decide_eq_false h]; simp
theorem isTaken_at {x : Int} {i k : Nat} (h : x = 64 * (i : Int) + (k : Int)) (hk : k < 64) (hi : i < S.length) : isTaken S x = S[i].tk k ∧ ofS S x = (if S[i].tk k then S[i].cls else -1) := by
  have e1 : (x / 64).toNat = i := by omega
  have e2 : (x % 64).toNat = k := by omega
  have e : isTaken S x = S[i].tk k := by
    unfold isTaken
    rw [decide_eq_true (by omega), decide_eq_true (by omega), e1, e2, getD_of hi]
    simp
  refine ⟨e, ?_⟩
  unfold ofS
  rw [e, e1, getD_of hi]
theorem ofS_no {x : Int} (h : isTaken S x = false) : ofS S x = -1 := by unfold ofS; rw [h]; rfl

set_option maxHeartbeats 1600000 in
set_option maxRecDepth 100000 in
theorem refOf_ok (s : RSl w u go gt cgo cgt tb S) {x r : Int} (hx63 : x ≤ 9223372036854775807) (hr : ofS S x = r) :
    Calls Try.prog 28 #[.pointer (some ⟨u, 0, none⟩), .int .i64 x] w fun e w' => e = .returned (.int .i64 r) ∧ w = w' := by
  have hl := s.len
  obtain ⟨cu0, cu1, cr⟩ := s.cells
  by_cases h0 : 0 ≤ x
  · by_cases h1 : x / 64 < S.length
    · obtain ⟨i, hi'⟩ : ∃ i : Nat, x / 64 = (i : Int) := ⟨(x / 64).toNat, by omega⟩
      obtain ⟨k, hk'⟩ : ∃ k : Nat, x % 64 = (k : Int) := ⟨(x % 64).toNat, by omega⟩
      have hi : i < S.length := by omega
      have hk64 : k < 64 := by omega
      have hxe : x = 64 * (i : Int) + (k : Int) := by omega
      obtain ⟨t1, t2⟩ := isTaken_at hxe hk64 hi
      obtain ⟨cg, ct⟩ := cr i hi
      obtain ⟨a, cap, hv, hle, hk⟩ := s.page hi
      rw [hv] at ct
      have hpast := (ok_of_mem s.ok hi).past (k := k)
      have hi'' : x.tdiv 64 = (i : Int) := by rw [Int.tdiv_eq_ediv_of_nonneg h0]; exact hi'
      have hk'' : x.tmod 64 = (k : Int) := by rw [Int.tmod_eq_emod_of_nonneg h0]; exact hk'
      by_cases hkl : k < lenP S[i]
      · obtain ⟨g, rfl, hb, hf⟩ := hk k hkl
        cases htk : S[i].tk k
        · rw [htk] at hb t2
          have hR := Lib.hid (t2.symm.trans hr)
          clear t1 t2 htk hpast hk hr hxe cr s hv
          generalize lenP S[i] = m at *
          generalize S[i].cls = cc at *
          generalize S.length = n at *
          go_enter Try.func28, Try.ntmps28
          go_wp2_with fail
          go_ret
          exact ⟨ret_int hR.out, rfl⟩
        · rw [htk] at hb t2
          have hR := Lib.hid (t2.symm.trans hr)
          clear t1 t2 htk hpast hk hr hxe cr s hv
          generalize lenP S[i] = m at *
          generalize S[i].cls = cc at *
          generalize S.length = n at *
          go_enter Try.func28, Try.ntmps28
          go_wp2_with fail
          go_ret
          exact ⟨ret_int hR.out, rfl⟩
      · rw [hpast (by omega)] at t2
        have hR := Lib.hid (t2.symm.trans hr)
        clear t1 t2 hpast hk hr hxe cr s hv
        generalize lenP S[i] = m at *
        generalize S[i].cls = cc at *
        generalize S.length = n at *
        go_enter Try.func28, Try.ntmps28
        go_wp2_with fail
        go_ret
        exact ⟨ret_int hR.out, rfl⟩
    · have hR := Lib.hid ((ofS_no (isTaken_no1 h1)).symm.trans hr)
      clear cr s hr
      generalize S.length = n at *
      go_enter Try.func28, Try.ntmps28
      go_wp2_with fail
      go_ret
      exact ⟨ret_int hR.out, rfl⟩
  · have hR := Lib.hid ((ofS_no (isTaken_no0 (by omega))).symm.trans hr)
    clear cr s hr
    go_enter Try.func28, Try.ntmps28
    go_wp2_with fail
    go_ret
    exact ⟨ret_int hR.out, rfl⟩

set_option maxHeartbeats 1600000 in
set_option maxRecDepth 100000 in
theorem refFree_ok (s : RSAt w u K S) {x : Int} (hx63 : x ≤ 9223372036854775807) {r : Bool} (hr : isTaken S x = r) :
    Calls Try.prog 20 #[.pointer (some ⟨u, 0, none⟩), .int .i64 x] w fun e w' => e = .returned (.bool r) ∧ Hid (RSAt w' u K (freeS S x)) ∧ Hid (Fr K w w') := by
  obtain ⟨go, gt, cgo, cgt, tb, s, hK⟩ := s
  cases r
  · have e1 := ofS_no hr
    have e2 : freeS S x = S := by unfold freeS; rw [hr]; rfl
    rw [e2]
    have H := Lib.hid (show RSAt w u K S from ⟨go, gt, cgo, cgt, tb, s, hK⟩)
    have HS := Lib.hid s
    have E1 := Lib.hid e1
    clear s hK e1 e2 hr
    go_enter Try.func20, Try.ntmps20
    go_wp2_with (go_at_call 28; refine (refOf_ok HS.out hx63 E1.out).mono ?_; rintro e w' ⟨rfl, rfl⟩)
    go_ret
    exact ⟨rfl, H, Lib.hid (Fr.refl _ _)⟩
  · obtain ⟨h0, h1, h2⟩ := isTaken_parts hr
    obtain ⟨i, hi'⟩ : ∃ i : Nat, x / 64 = (i : Int) := ⟨(x / 64).toNat, by omega⟩
    obtain ⟨k, hk'⟩ : ∃ k : Nat, x % 64 = (k : Int) := ⟨(x % 64).toNat, by omega⟩
    have hi : i < S.length := by omega
    have hk64 : k < 64 := by omega
    have hxe : x = 64 * (i : Int) + (k : Int) := by omega
    obtain ⟨t1, t2⟩ := isTaken_at hxe hk64 hi
    have htk : S[i].tk k = true := t1.symm.trans hr
    rw [htk, if_pos rfl] at t2
    obtain ⟨cu0, cu1, cr⟩ := s.cells
    obtain ⟨cg, ct⟩ := cr i hi
    obtain ⟨a, cap, hv, hle, hk⟩ := s.page hi
    have hok := ok_of_mem s.ok hi
    obtain ⟨f1, f2, f3, f4⟩ := hok.free_ htk
    have hkl : k < lenP S[i] := by
      rcases Nat.lt_or_ge k (lenP S[i]) with h | h
      · exact h
      · rw [hok.past h] at htk; cases htk
    obtain ⟨g, rfl, hb, hf⟩ := hk k hkl
    have e2 : freeS S x = S.set i ⟨S[i].cls, upd S[i].tk k false, S[i].us - 1⟩ := by
      unfold freeS
      rw [hr, if_pos rfl, show (x / 64).toNat = i by omega, show (x % 64).toNat = k by omega, getD_of hi]
    rw [e2]
    have hn := s.set_tk (k := k) hi hv false f1 rfl rfl hkl
    have HR := Lib.hid (show RSAt (w.setCell ⟨g, k, none⟩ (.bool false)) u K (S.set i ⟨S[i].cls, upd S[i].tk k false, S[i].us - 1⟩) from ⟨go, gt, cgo, cgt, tb, hn, by rw [List.length_set]; exact hK⟩)
    have HF := Lib.hid ((Fr.refl K w).setCell ⟨g, k, none⟩ (fun _ => (hK g).2 (.inr (.inr (.inr ⟨i, hi, by rw [hv]; rfl⟩)))) (.bool false))
    have HS := Lib.hid s
    have E1 := Lib.hid t2
    have hl := s.len
    have hi'' : x.tdiv 64 = (i : Int) := by rw [Int.tdiv_eq_ediv_of_nonneg h0]; exact hi'
    have hk'' : x.tmod 64 = (k : Int) := by rw [Int.tmod_eq_emod_of_nonneg h0]; exact hk'
    rw [hv] at ct
    clear s hK t1 t2 hr htk e2 hn f1 f2 hok hk cr hv h2 hxe
    generalize hcc : S[i].cls = cc at *
    have HC := Lib.hid hcc
    clear hcc
    go_enter Try.func20, Try.ntmps20
    go_wp2_with (go_at_call 28; refine (refOf_ok HS.out hx63 E1.out).mono ?_; rintro e w' ⟨rfl, rfl⟩)
    go_ret
    exact ⟨rfl, HR, HF⟩
end

set_option maxHeartbeats 1600000 in
theorem refClass_ok (x : Int) (w : World) :
    Calls Try.prog 24 #[.int .i64 x] w fun e w' => e = .returned (.int .i64 (classOf x)) ∧ w = w' := by
  go_enter Try.func24, Try.ntmps24
  go_wp2_with fail
  go_loop [3] (fun i => ∃ (k : Nat), k ≤ 6 ∧ i = .int .i64 k ∧ Hid (0 ≤ x → ∀ j : Nat, j < k → chunkOf j < x)) (fun i => 6 - (intOf i).toNat)
  case atStart => exact ⟨0, by omega, rfl, fun _ j hj => by omega⟩
  case round =>
    obtain ⟨k, hk, rfl, hno⟩ := hrel
    by_cases hlt : k < 6
    · have hcw := chunkOf_wrap (k : Int) (by omega) (by omega)
      rw [Int.toNat_natCast] at hcw
      by_cases h0 : 0 ≤ x
      · by_cases hx : x ≤ chunkOf k
        · have hend := Lib.hid (classOf_hit hlt h0 (hno.out h0) hx)
          go_wp2_with fail
          go_ret
          exact ⟨ret_int hend.out.symm, rfl⟩
        · have hno' : Hid (0 ≤ x → ∀ j : Nat, j < k + 1 → chunkOf j < x) := fun h j hj => by
            by_cases e : j = k
            · subst e; omega
            · exact hno.out h j (by omega)
          clear hno
          go_wp2_with fail
          go_round
          case rel => exact ⟨k + 1, by omega, by go_num, hno'⟩
          case measure => simp [intOf]; omega
      · have hno' : Hid (0 ≤ x → ∀ j : Nat, j < k + 1 → chunkOf j < x) := fun h => absurd h h0
        clear hno
        go_wp2_with fail
        go_round
        case rel => exact ⟨k + 1, by omega, by go_num, hno'⟩
        case measure => simp [intOf]; omega
    · have hend : classOf x = -1 := classOf_miss fun h j hj => hno.out h j (by omega)
      have hend' := Lib.hid hend
      clear hend
      go_wp2_with fail
      go_ret
      exact ⟨ret_int hend'.out.symm, rfl⟩

end Go.Proofs.Ytamcnieneelmmaa
