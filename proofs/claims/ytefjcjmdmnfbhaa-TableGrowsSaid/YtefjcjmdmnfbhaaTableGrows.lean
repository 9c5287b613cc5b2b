/-
  The law TableGrows, walked.
-/
import Derived.Test.YtefjcjmdmnfbhaaTabIn
namespace Go.Proofs.Ytefjcjmdmnfbhaa
open Go.RowKit

theorem move_now (S : KT) : (moveK S).now.length = S.now.length ∧ (moveK S).left = S.left - 1 := by
  unfold moveK
  split
  next h => exact ⟨rfl, by omega⟩
  · exact ⟨fold_len _ _, rfl⟩
theorem put_now (S : KT) (k : ByteArray) : (putK S k).now.length = S.now.length ∧ (putK S k).left = S.left := by
  unfold putK
  split
  · exact ⟨rfl, rfl⟩
  · exact ⟨pushK_len _ _, rfl⟩
theorem set_now_old {S : KT} {k : ByteArray} {v : Int} (h : k ∈ keysM S.m) : (setK S k v).now.length = S.now.length ∧ (setK S k v).left = S.left - 1 ∧ (setK S k v).m.length = S.m.length := by
  have h1 : setK S k v = { moveK S with m := updP (moveK S).m k v } := by unfold setK; rw [if_pos (by rw [moveK_m]; exact h)]
  rw [h1]
  refine ⟨(move_now S).1, (move_now S).2, ?_⟩
  show (updP (moveK S).m k v).length = _
  rw [moveK_m]
  exact List.length_map ..
theorem set_now_new {S : KT} {k : ByteArray} {v : Int} (h : k ∉ keysM S.m) (hb : S.m.length < 10000) :
    (setK S k v).m.length = S.m.length + 1 ∧ (3 * S.now.length < 2 * (S.m.length + 1) ∧ S.left - 1 = 0 → (setK S k v).now.length = 2 * S.now.length ∧ (setK S k v).left = S.now.length) ∧
      (¬ (3 * S.now.length < 2 * (S.m.length + 1) ∧ S.left - 1 = 0) → (setK S k v).now.length = S.now.length ∧ (setK S k v).left = S.left - 1) := by
  have h1 : setK S k v = growK { putK (moveK S) k with m := (moveK S).m ++ [(k, v)] } := by unfold setK; rw [if_neg (by rw [moveK_m]; exact h)]
  have hm : ((moveK S).m ++ [(k, v)]).length = S.m.length + 1 := by rw [moveK_m, List.length_append]; rfl
  have hp := put_now (moveK S) k
  rw [(move_now S).1, (move_now S).2] at hp
  have hg : growK { putK (moveK S) k with m := (moveK S).m ++ [(k, v)] } = if 3 * S.now.length < 2 * (S.m.length + 1) ∧ S.left - 1 = 0 ∧ S.now.length < 65536 then { putK (moveK S) k with m := (moveK S).m ++ [(k, v)], old := (putK (moveK S) k).now, left := (putK (moveK S) k).now.length, now := List.replicate (2 * (putK (moveK S) k).now.length) [] } else { putK (moveK S) k with m := (moveK S).m ++ [(k, v)] } := by
    unfold growK
    show (if 3 * (putK (moveK S) k).now.length < 2 * ((moveK S).m ++ [(k, v)]).length ∧ (putK (moveK S) k).left = 0 ∧ (putK (moveK S) k).now.length < 65536 then _ else _) = _
    rw [hp.1, hp.2, hm]
  refine ⟨?_, fun hc => ?_, fun hc => ?_⟩
  · rw [h1, growK_m]
    exact hm
  · rw [h1, hg, if_pos ⟨hc.1, hc.2, by omega⟩]
    refine ⟨?_, hp.1⟩
    show (List.replicate (2 * (putK (moveK S) k).now.length) []).length = _
    rw [List.length_replicate, hp.1]
  · rw [h1, hg, if_neg (fun h => hc ⟨h.1, h.2.1⟩)]
    exact hp

theorem new_cases (n : Int) : (n < 1 ∨ 1024 < n ∨ ((1 ≤ n ∧ n ≤ 1024) ∧ bits .and .i64 n (n - 1) ≠ 0)) ∨ ∃ k : Nat, n = (k : Int) ∧ 1 ≤ k ∧ k ≤ 1024 ∧ bits .and .i64 (k : Int) ((k : Int) - 1) = 0 := by
  by_cases h1 : n < 1
  · exact .inl (.inl h1)
  by_cases h2 : 1024 < n
  · exact .inl (.inr (.inl h2))
  by_cases h3 : bits .and .i64 n (n - 1) = 0
  · have : n = (n.toNat : Int) := by omega
    rw [this] at h3
    exact .inr ⟨n.toNat, this, by omega, by omega, h3⟩
  · exact .inl (.inr (.inr ⟨⟨by omega, by omega⟩, h3⟩))

set_option maxHeartbeats 16000000 in
set_option maxRecDepth 100000 in
theorem tableGrows_walk (bk : Int) (A : Option Addr) (n cap : Nat) (l : List ByteArray) (w : World) (hb : (Lit.int .i64 bk).wf = true) (hl : InS w A n cap l) :
    Calls Try.prog 9 #[.int .i64 bk, .slice A n cap] w fun e w' => e = .returned (.bool true) ∧ Fr Nob w w' := by
  have HL := Lib.hid hl
  clear hl
  rcases new_cases bk with hbad | ⟨k0, rfl, hk1, hk2, hk3⟩
  · go_enter Try.func9, Try.ntmps9
    go_wp2_with fail
    refine (awake_ok w).mono ?_
    rintro e w0 ⟨rfl, f0⟩
    have f0 := Lib.hid f0
    have HB := Lib.hid hbad
    clear hbad
    go_wp2_with fail
    refine (new_bad bk w0 HB.out).mono ?_
    rintro e _ ⟨rfl, rfl⟩
    go_wp2_with fail
    go_ret
    exact ⟨rfl, f0.out⟩
  by_cases hn : 120 < n
  · have hn' : (120 : Int) < (n : Int) := by omega
    have HK3 := Lib.hid hk3
    clear hk3
    go_enter Try.func9, Try.ntmps9
    go_wp2_with fail
    refine (awake_ok w).mono ?_
    rintro e w0 ⟨rfl, f0⟩
    have f0 := Lib.hid f0
    go_wp2_with fail
    refine (DT.new f0.out k0 hk1 hk2 HK3.out).mono ?_
    rintro e w1 ⟨t, rfl, s1, f1⟩
    clear f0 f1
    go_wp2_with fail
    go_ret
    exact ⟨rfl, s1.out.fr⟩
  have hn' : ¬ (120 : Int) < (n : Int) := by omega
  have HK3 := Lib.hid hk3
  clear hk3 hb
  go_enter Try.func9, Try.ntmps9
  go_wp2_with fail
  refine (awake_ok w).mono ?_
  rintro e w0 ⟨rfl, f0⟩
  have f0 := Lib.hid f0
  go_wp2_with fail
  refine (DT.new f0.out k0 hk1 hk2 HK3.out).mono ?_
  rintro e w1 ⟨t, rfl, s1, f1⟩
  clear f0 f1
  go_wp2_with fail
  have hm0 : (newK k0).m.length ≤ 0 := Nat.le_refl _
  have hb0 : (newK k0).now.length ≤ 131072 := by show (List.replicate k0 []).length ≤ _; rw [List.length_replicate]; omega
  go_loopw [7, 8, 9, 10, 11] (fun i _ _ _ _ wr => ∃ (k : Nat) (S : KT), k ≤ n ∧ i = .int .i64 k ∧ Hid (DT w wr t S) ∧ S.m.length ≤ k) (fun i _ _ _ _ _ => n - (intOf i).toNat)
  case atStart => exact ⟨0, newK k0, Nat.zero_le _, rfl, s1, hm0⟩
  case round =>
    clear s1 hm0 hb0
    obtain ⟨k, S, hk, rfl, s, hm⟩ := hrel
    by_cases hlt : k < n
    · have hsb := s.out.ok.big
      have hso := s.out.ok.olds
      have hsl := s.out.ok.le
      obtain ⟨g, o, x, rfl, hx, hc, hxs⟩ := HL.out.cell s.out.fr hlt
      clear hx
      have hmb : S.m.length ≤ 1000000 := by omega
      have hnn : S.now.length ≤ 131072 := hsb
      have hll : S.left ≤ 65536 := by omega
      have old := Lib.hid (fun h => set_now_old (S := S) (k := x) (v := (k : Int)) h)
      have new := Lib.hid (fun h => set_now_new (S := S) (k := x) (v := (k : Int)) h (by omega))
      clear hsb hso hsl
      obtain ⟨nn, hnn2⟩ : ∃ nn, nn = S.now.length := ⟨_, rfl⟩
      obtain ⟨lf, hlf2⟩ : ∃ lf, lf = S.left := ⟨_, rfl⟩
      obtain ⟨mm, hmm2⟩ : ∃ mm, mm = S.m.length := ⟨_, rfl⟩
      rw [← hnn2, ← hlf2, ← hmm2] at new
      rw [← hnn2, ← hlf2, ← hmm2] at old
      rw [← hnn2] at hnn
      rw [← hlf2] at hll
      rw [← hmm2] at hm
      have HN := Lib.hid hnn2
      have HF := Lib.hid hlf2
      clear hnn2 hlf2 hmm2
      obtain ⟨lf', hlf'⟩ : ∃ lf' : Nat, lf' = lf - 1 := ⟨_, rfl⟩
      have HLF := Lib.hid hlf'
      go_wp2_with fail
      refine s.out.buckets.mono ?_
      rintro e _ ⟨rfl, rfl⟩
      rw [← HN.out]
      go_wp2_with fail
      refine s.out.left.mono ?_
      rintro e _ ⟨rfl, rfl⟩
      rw [← HF.out]
      by_cases hl0 : 0 < lf
      · have hl1 : (lf : Int) - 1 = (lf' : Int) := by omega
        clear hlf'
        go_wp2_with fail
        refine (s.out.set x k hxs hmb).mono ?_
        rintro e w2 ⟨rfl, s2, f2⟩
        clear f2
        by_cases hxk : x ∈ keysM S.m
        · obtain ⟨q1, q2, q3⟩ := old.out hxk
          rw [decide_eq_false (fun h => h hxk)]
          rw [← HLF.out] at q2
          generalize setK S x k = S2 at *
          go_wp2_with fail
          refine s2.out.buckets.mono ?_
          rintro e _ ⟨rfl, rfl⟩
          rw [q1]
          go_wp2_with fail
          refine s2.out.left.mono ?_
          rintro e _ ⟨rfl, rfl⟩
          rw [q2]
          go_wp2_with fail
          go_roundw
          case rel => exact ⟨k + 1, S2, by omega, by go_num, s2, by omega⟩
          case measure => simp [intOf]; omega
        · obtain ⟨q1, q2, q3⟩ := new.out hxk
          rw [decide_eq_true hxk]
          rw [← HLF.out] at q2 q3
          generalize setK S x k = S2 at *
          have Q2 := Lib.hid q2
          have Q3 := Lib.hid q3
          clear q2 q3 old new
          have hq1 : ((S2.m.length : Nat) : Int) = (mm : Int) + 1 := by omega
          go_wp2_with fail
          refine s2.out.len.mono ?_
          rintro e _ ⟨rfl, rfl⟩
          rw [hq1]
          by_cases c1 : 3 * nn < 2 * (mm + 1)
          · have d1 : (3 * (nn : Int) < 2 * ((mm : Int) + 1)) := by omega
            by_cases c2 : lf' = 0
            · obtain ⟨r1, r2⟩ := Q2.out ⟨c1, c2⟩
              have r1' : ((S2.now.length : Nat) : Int) = 2 * (nn : Int) := by omega
              clear Q2 Q3 r1
              have d2 : ((lf' : Int) = 0) := by omega
              go_wp2_with fail
              refine s2.out.buckets.mono ?_
              rintro e _ ⟨rfl, rfl⟩
              rw [r1']
              clear r1'
              go_wp2_with fail
              refine s2.out.left.mono ?_
              rintro e _ ⟨rfl, rfl⟩
              rw [r2]
              clear r2
              go_wp2_with fail
              go_roundw
              case rel => exact ⟨k + 1, S2, by omega, by go_num, s2, by omega⟩
              case measure => simp [intOf]; omega
            · obtain ⟨r1, r2⟩ := Q3.out (fun h => c2 h.2)
              have r1' : ((S2.now.length : Nat) : Int) = (nn : Int) := by omega
              clear Q2 Q3 r1
              have d2 : ((lf' : Int) == 0) = false := beq_eq_false_iff_ne.2 (by omega)
              go_wp2_with fail
              refine s2.out.buckets.mono ?_
              rintro e _ ⟨rfl, rfl⟩
              rw [r1']
              clear r1'
              go_wp2_with fail
              refine s2.out.left.mono ?_
              rintro e _ ⟨rfl, rfl⟩
              rw [r2]
              clear r2
              go_wp2_with fail
              go_roundw
              case rel => exact ⟨k + 1, S2, by omega, by go_num, s2, by omega⟩
              case measure => simp [intOf]; omega
          · have d1 : ¬ (3 * (nn : Int) < 2 * ((mm : Int) + 1)) := by omega
            obtain ⟨r1, r2⟩ := Q3.out (fun h => c1 h.1)
            have r1' : ((S2.now.length : Nat) : Int) = (nn : Int) := by omega
            clear Q2 Q3 r1
            go_wp2_with fail
            refine s2.out.buckets.mono ?_
            rintro e _ ⟨rfl, rfl⟩
            rw [r1']
            clear r1'
            go_wp2_with fail
            refine s2.out.left.mono ?_
            rintro e _ ⟨rfl, rfl⟩
            rw [r2]
            clear r2
            go_wp2_with fail
            go_roundw
            case rel => exact ⟨k + 1, S2, by omega, by go_num, s2, by omega⟩
            case measure => simp [intOf]; omega
      · have hl1 : lf = 0 := by omega
        have hl2 : lf' = 0 := by omega
        subst hl1 hl2
        go_wp2_with fail
        refine (s.out.set x k hxs hmb).mono ?_
        rintro e w2 ⟨rfl, s2, f2⟩
        clear f2
        by_cases hxk : x ∈ keysM S.m
        · obtain ⟨q1, q2, q3⟩ := old.out hxk
          rw [decide_eq_false (fun h => h hxk)]
          simp only [Nat.zero_sub] at q2
          generalize setK S x k = S2 at *
          go_wp2_with fail
          refine s2.out.buckets.mono ?_
          rintro e _ ⟨rfl, rfl⟩
          rw [q1]
          go_wp2_with fail
          refine s2.out.left.mono ?_
          rintro e _ ⟨rfl, rfl⟩
          rw [q2]
          go_wp2_with fail
          go_roundw
          case rel => exact ⟨k + 1, S2, by omega, by go_num, s2, by omega⟩
          case measure => simp [intOf]; omega
        · obtain ⟨q1, q2, q3⟩ := new.out hxk
          rw [decide_eq_true hxk]
          simp only [Nat.zero_sub] at q2 q3
          generalize setK S x k = S2 at *
          have Q2 := Lib.hid q2
          have Q3 := Lib.hid q3
          clear q2 q3 old new
          have hq1 : ((S2.m.length : Nat) : Int) = (mm : Int) + 1 := by omega
          go_wp2_with fail
          refine s2.out.len.mono ?_
          rintro e _ ⟨rfl, rfl⟩
          rw [hq1]
          by_cases c1 : 3 * nn < 2 * (mm + 1)
          · have d1 : (3 * (nn : Int) < 2 * ((mm : Int) + 1)) := by omega
            by_cases c2 : (0 : Nat) = 0
            · obtain ⟨r1, r2⟩ := Q2.out ⟨c1, by first | exact trivial | exact c2⟩
              have r1' : ((S2.now.length : Nat) : Int) = 2 * (nn : Int) := by omega
              clear Q2 Q3 r1
              go_wp2_with fail
              refine s2.out.buckets.mono ?_
              rintro e _ ⟨rfl, rfl⟩
              rw [r1']
              clear r1'
              go_wp2_with fail
              refine s2.out.left.mono ?_
              rintro e _ ⟨rfl, rfl⟩
              rw [r2]
              clear r2
              go_wp2_with fail
              go_roundw
              case rel => exact ⟨k + 1, S2, by omega, by go_num, s2, by omega⟩
              case measure => simp [intOf]; omega
            · exact absurd rfl c2
          · have d1 : ¬ (3 * (nn : Int) < 2 * ((mm : Int) + 1)) := by omega
            obtain ⟨r1, r2⟩ := Q3.out (fun h => c1 h.1)
            have r1' : ((S2.now.length : Nat) : Int) = (nn : Int) := by omega
            clear Q2 Q3 r1
            go_wp2_with fail
            refine s2.out.buckets.mono ?_
            rintro e _ ⟨rfl, rfl⟩
            rw [r1']
            clear r1'
            go_wp2_with fail
            refine s2.out.left.mono ?_
            rintro e _ ⟨rfl, rfl⟩
            rw [r2]
            clear r2
            go_wp2_with fail
            go_roundw
            case rel => exact ⟨k + 1, S2, by omega, by go_num, s2, by omega⟩
            case measure => simp [intOf]; omega
    · have : k = n := by omega
      subst this
      go_wp2_with fail
      go_ret
      exact ⟨rfl, s.out.fr⟩
end Go.Proofs.Ytefjcjmdmnfbhaa
