/-
  Law 3: FlashCopies, walked.
-/
import Derived.Test.YtpdljgjofebgpaaRefO
import Derived.Test.YtpdljgjofebgpaaActs3
namespace Go.Proofs.Ytpdljgjofebgpaa
open Go.RowKit Go.ChangeShapes Go.WideShapes Go.Deep

/-- A []Act that came in is there at a later world too. -/
theorem ActRow.later {w w' : World} {A : Option Addr} {n : Nat} {z : Nat → Int × Int × Option Addr × Nat × Nat} {l : Nat → List UInt8} (h : ActRow w A n z l) (f : Fr Nob w w') : ActRow w' A n z l :=
  ⟨h.rows.keep f, fun i hi => by
    obtain ⟨a, b, c, d⟩ := h.el i hi
    exact ⟨a, b.nob f, fun h0 k hk => Nat.lt_of_lt_of_le (c h0 k hk) f.size, d⟩⟩

/-- A device and a reference of the call's own lie still beside a walk on the ones that they were copied from. -/
theorem Two.aside {W w0 w1 w2 : World} {q u q2 u2 : Nat} {K M K2 M2 : Nat → Prop} {D E D2 E2 : Dv} (a : Two W w0 q K u M D E) (b : Two w0 w1 q2 K2 u2 M2 D2 E2) (f : Fr (fun k => K k ∨ M k) w1 w2) : Two W w2 q2 K2 u2 M2 D2 E2 := by
  have hs0 := a.dl.fr.size
  have hs := b.dl.fr.size
  have hK : ∀ k, K k → W.heap.size ≤ k ∧ k < w0.heap.size := fun k h => ⟨a.dl.kle k h, a.dl.klt k h⟩
  have hM : ∀ k, M k → W.heap.size ≤ k ∧ k < w0.heap.size := fun k h => ⟨a.low k h, a.rf.lt k h⟩
  have kin : ∀ k, K k ∨ M k → NoPg w1 k := fun k h => by
    have a1 := a.nob b.dl.fr
    rcases h with h | h
    · exact a1.dl.kinds k h
    · exact a1.rf.kinds k h
  have kle := b.dl.kle
  have low := b.low
  have fW : Fr Nob W w2 := (a.dl.fr.trans' b.dl.fr).trans f fun k hk h => by
    rcases h with h | h
    · have := hK k h
      omega
    · have := hM k h
      omega
  obtain ⟨P, s, f0, h1, h2, h3⟩ := b.dl.avoid kin
  have d2 : DL W w2 q2 K2 (fun k => M2 k ∨ (K k ∨ M k)) D2 := ⟨P, s.keep f (fun k hk h => by
    have := kle k hk
    rcases h with h | h
    · have := hK k h
      omega
    · have := hM k h
      omega) (fun k hk h => h3 k hk (.inr h)), fW, fun k hk => Nat.le_trans hs0 (kle k hk), fun k hk => Nat.lt_of_lt_of_le (h2 k hk) f.size, h3⟩
  exact ⟨d2.less fun k h => .inl h, b.rf.keep f fun k hk h => by
    have := low k hk
    rcases h with h | h
    · have := hK k h
      omega
    · have := hM k h
      omega, b.ap, fun k hk => Nat.le_trans hs0 (low k hk)⟩

set_option maxRecDepth 100000 in
set_option maxHeartbeats 8000000 in
theorem flashCopies_main (pages : Nat) (A : Option Addr) (n cap : Nat) (z : Nat → Int × Int × Option Addr × Nat × Nat) (l : Nat → List UInt8) (B : Option Addr) (m capb : Nat) (y : Nat → Int × Int × Option Addr × Nat × Nat) (r : Nat → List UInt8)
    (w : World) (hz : ActRow w A n z l) (hy : ActRow w B m y r) (h1 : 1 ≤ pages) (h20 : pages ≤ 12) (hln : n ≤ 30) (hlm : m ≤ 30) :
    Calls Try.prog 13 #[.int .i64 pages, .slice A n cap, .slice B m capb] w fun e w' => e = .returned (.bool true) ∧ Fr Nob w w' := by
  have Z := Lib.hid hz
  have Y := Lib.hid hy
  have e1 : ¬ (pages : Int) < 1 := by omega
  have e2 : ¬ (12 : Int) < (pages : Int) := by omega
  have e6 : ¬ (30 : Int) < (n : Int) := by omega
  have e7 : ¬ (30 : Int) < (m : Int) := by omega
  clear hz hy
  go_enter Try.func13, Try.ntmps13
  go_wp2_with fail
  refine (awake3_eq w).mono ?_
  rintro e w0 ⟨rfl, f0⟩
  have F0 := Lib.hid f0
  clear f0
  go_wp2_with fail
  refine (DL.new (n := pages) F0.out (by omega) (by omega)).mono ?_
  rintro e w1 ⟨q, K, rfl, d, _, _⟩
  have D1 := Lib.hid d
  have NW := Lib.hid (refNew_eq (w := w1) (n := pages) (by omega) (by omega))
  clear d
  go_wp2_with fail
  refine NW.out.mono ?_
  rintro e w2 ⟨u, M, rfl, rf, f2, hM⟩
  have T2 : Hid (Two w w2 q K u M (Dv.new pages) (Dv.new pages)) := Lib.hid ⟨D1.out.more f2 fun k hk => .inr ⟨hM k hk, rf.lt k hk⟩, rf, fun k hk hkk => by
    have := D1.out.klt k hkk
    have := hM k hk
    omega, fun k hk => by
    have := D1.out.fr.size
    have := hM k hk
    omega⟩
  clear rf f2 hM NW
  go_wp2_with fail
  go_loopw [10] (fun i wr => ∃ (k : Nat) (M' : Nat → Prop) (D : Dv), k ≤ n ∧ i = .int .i64 k ∧ Hid (Two w wr q K u M' D D)) (fun i _ => n - (intOf i).toNat)
  case atStart => exact ⟨0, M, _, Nat.zero_le _, rfl, T2⟩
  case round =>
    clear T2
    obtain ⟨k, M', D, hk, rfl, T3⟩ := hrel
    by_cases hlt : k < n
    · have hki : (k : Int) < (n : Int) := by omega
      obtain ⟨b, o, rfl, c0, c1, c2⟩ := Z.out.cell T3.out.dl.fr hlt
      obtain ⟨x1, x2, x3, x4⟩ := Z.out.el k hlt
      have BO := Lib.hid (both_eq T3.out (z k).1 (z k).2.1 x1 _ _ _ _ x2 x3 x4)
      clear x1 x2 x3 x4
      generalize (z k).1 = v0 at *
      generalize (z k).2.1 = v1 at *
      generalize (z k).2.2.1 = v2 at *
      generalize (z k).2.2.2.1 = v3 at *
      generalize (z k).2.2.2.2 = v4 at *
      go_wp2_with fail
      refine BO.out.mono ?_
      rintro e w5 ⟨r5, M5, rfl, t5⟩
      have T5 := Lib.hid t5
      clear t5 BO c0 c1 c2
      go_wp2_with fail
      go_roundw
      case rel => exact ⟨k + 1, M5, _, by omega, by go_num, T5⟩
      case measure => simp [intOf]; omega
    · have : k = n := by omega
      subst this
      have CP := Lib.hid T3.out.dl.copy
      go_wp2_with fail
      refine CP.out.mono ?_
      rintro e w5 ⟨q2, K2, rfl, d5, _, f5, hK2⟩
      have T5 := Lib.hid (T3.out.nob f5)
      have D5 := Lib.hid d5
      have F5 := Lib.hid f5
      have HK2 := Lib.hid hK2
      have RC := Lib.hid (refCopy_eq T5.out.rf)
      clear d5 f5 CP T5 hK2
      go_wp2_with fail
      refine RC.out.mono ?_
      rintro e w6 ⟨u2, M2, rfl, r6, f6, hM2⟩
      have hs5 := F5.out.size
      have T6 : Hid (Two wr w6 q2 K2 u2 M2 D D) := Lib.hid ⟨by
        have d6 := D5.out.more (N' := M2) f6 fun k hk => .inr ⟨hM2 k hk, r6.lt k hk⟩
        obtain ⟨P, s, _, _, h2, h3⟩ := d6
        exact ⟨P, s, F5.out.trans' f6, HK2.out, h2, h3⟩, r6, fun k hk hkk => by
        have := D5.out.klt k hkk
        have := hM2 k hk
        omega, fun k hk => by
        have := hM2 k hk
        omega⟩
      have Y2 := Lib.hid (Y.out.later T3.out.dl.fr)
      clear r6 f6 hM2 RC hs5 D5 F5 HK2 Y
      go_wp2_with fail
      go_loopw [13] (fun i wq => ∃ (k : Nat) (M' : Nat → Prop) (D' : Dv), k ≤ m ∧ i = .int .i64 k ∧ Hid (Two wr wq q2 K2 u2 M' D' D')) (fun i _ => m - (intOf i).toNat)
      case atStart => exact ⟨0, _, _, Nat.zero_le _, rfl, T6⟩
      case round =>
        clear T6
        obtain ⟨k2, M8, D8, hk2, rfl, T8⟩ := hrel
        by_cases hlt2 : k2 < m
        · have hki : (k2 : Int) < (m : Int) := by omega
          obtain ⟨b, o, rfl, c0, c1, c2⟩ := Y2.out.cell T8.out.dl.fr hlt2
          obtain ⟨x1, x2, x3, x4⟩ := Y2.out.el k2 hlt2
          have BO := Lib.hid (both_eq T8.out (y k2).1 (y k2).2.1 x1 _ _ _ _ x2 x3 x4)
          clear x1 x2 x3 x4
          generalize (y k2).1 = v0 at *
          generalize (y k2).2.1 = v1 at *
          generalize (y k2).2.2.1 = v2 at *
          generalize (y k2).2.2.2.1 = v3 at *
          generalize (y k2).2.2.2.2 = v4 at *
          go_wp2_with fail
          refine BO.out.mono ?_
          rintro e w9 ⟨r9, M9, rfl, t9⟩
          have T9 := Lib.hid t9
          clear t9 BO c0 c1 c2
          go_wp2_with fail
          go_roundw
          case rel => exact ⟨k2 + 1, M9, _, by omega, by go_num, T9⟩
          case measure => simp [intOf]; omega
        · have : k2 = m := by omega
          subst this
          have AL := Lib.hid (alike_eq (T3.out.nob T8.out.dl.fr))
          go_wp2_with fail
          refine AL.out.mono ?_
          rintro e w9 ⟨rfl, f9⟩
          have T9 := Lib.hid (T3.out.aside T8.out f9)
          have AL2 := Lib.hid (alike_eq T9.out)
          clear f9 AL T8 T3
          go_wp2_with fail
          refine AL2.out.mono ?_
          rintro e w10 ⟨rfl, f10⟩
          have F10 : Hid (Fr Nob w w10) := Lib.hid (T9.out.dl.fr.trans f10 fun k hk h => by
            rcases h with h | h
            · have := T9.out.dl.kle k h
              omega
            · have := T9.out.low k h
              omega)
          clear f10 AL2 T9
          go_wp2_with fail
          go_ret
          exact ⟨rfl, F10.out⟩

set_option maxRecDepth 100000 in
set_option maxHeartbeats 4000000 in
theorem flashCopies_walk (p : Int) (A : Option Addr) (n cap : Nat) (zl : (Nat → Int × Int × Option Addr × Nat × Nat) × (Nat → List UInt8)) (B : Option Addr) (m capb : Nat) (yr : (Nat → Int × Int × Option Addr × Nat × Nat) × (Nat → List UInt8))
    (w : World) (_ : (Lit.int .i64 p).wf = true) (hz : ActRow w A n zl.1 zl.2) (hy : ActRow w B m yr.1 yr.2) :
    Calls Try.prog 13 #[.int .i64 p, .slice A n cap, .slice B m capb] w fun e w' => e = .returned (.bool true) ∧ Fr Nob w w' := by
  by_cases h : (1 ≤ p ∧ p ≤ 12) ∧ (n ≤ 30 ∧ m ≤ 30)
  · obtain ⟨k, rfl⟩ := Int.eq_ofNat_of_zero_le (a := p) (by omega)
    exact flashCopies_main k A n cap zl.1 zl.2 B m capb yr.1 yr.2 w hz hy (by omega) (by omega) (by omega) (by omega)
  · have hg : (decide (p < 1) || decide (12 < p) || decide ((30 : Int) < (n : Int)) || decide ((30 : Int) < (m : Int))) = true := by
      simp only [Bool.or_eq_true, decide_eq_true_eq]
      omega
    clear h hz hy
    go_enter Try.func13, Try.ntmps13
    go_wp2_with fail
    refine (awake3_eq w).mono ?_
    rintro e w0 ⟨rfl, f0⟩
    have F0 := Lib.hid f0
    clear f0
    go_wp2_with fail
    all_goals
      go_ret
      exact ⟨rfl, F0.out⟩

end Go.Proofs.Ytpdljgjofebgpaa
