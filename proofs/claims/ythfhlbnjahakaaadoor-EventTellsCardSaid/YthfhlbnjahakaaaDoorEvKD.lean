/-
  event: the reference's rune1 and Key at any string; the two agree.
-/
import Derived.Test.YthfhlbnjahakaaaDoorEvKC
namespace Go.Proofs.YthfhlbnjahakaaaDoor
open Go.RowKit

/-- What the reference's rune1 tells. -/
def runeR (s : ByteArray) : Int × Nat := if okR s 0 then (((Utf8.decode s 0).1 : Int), (Utf8.decode s 0).2) else (-1, 1)

theorem decode0 (s : ByteArray) : Utf8.decode s 0 = Lib.decodeN s.size (s.get! 0).toNat (s.get! 1).toNat (s.get! 2).toNat (s.get! 3).toNat := by
  rw [Lib.decode_at, Nat.sub_zero, Nat.zero_add, Nat.zero_add, Nat.zero_add]
def pairR (d : Nat × Nat) : Int × Nat := if d.1 = 65533 ∧ d.2 = 1 then (-1, 1) else ((d.1 : Int), d.2)
theorem runeR_eq (s : ByteArray) : runeR s = pairR (Lib.decodeN s.size (s.get! 0).toNat (s.get! 1).toNat (s.get! 2).toNat (s.get! 3).toNat) := by
  unfold runeR pairR okR
  rw [← decode0]
  by_cases h1 : (Utf8.decode s 0).1 = 65533
  · by_cases h2 : (Utf8.decode s 0).2 = 1
    · simp [h1, h2]
    · simp [h1, h2]
  · simp [h1]
theorem pairR_bad : pairR (65533, 1) = (-1, 1) := rfl
theorem pairR_ok (v n : Nat) (h : 2 ≤ n) : pairR (v, n) = ((v : Int), n) := by
  unfold pairR; rw [if_neg (by omega)]
theorem tail2 (n b0 b1 b2 b3 : Nat) (s : ByteArray) (hn : s.size = n) (h0 : 194 ≤ b0) (h1 : b0 < 224) (e1 : (s.get! 1).toNat = b1) : tailR s 2 128 (b0 % 32) = pairR (Lib.decodeN n b0 b1 b2 b3) := by
  have q0 : ¬ b0 < 128 := by omega
  have q1 : b0 / 32 = 6 := by omega
  have q2 : ¬ b0 / 16 = 14 := by omega
  have q3 : ¬ b0 / 8 = 30 := by omega
  simp only [tailR, hn, Lib.decodeN, contF, e1, q0, q1, q2, q3, if_false, true_and, false_and, Nat.reduceSub]
  by_cases c1 : n < 2
  · rw [if_pos c1, if_neg (by omega), pairR_bad]
  · rw [if_neg c1]
    by_cases c2 : b1 / 64 = 2
    · rw [if_pos c2, if_pos ⟨by omega, c2⟩, if_pos (by omega), pairR_ok _ _ (by omega)]
      simp only [fitR]
      rw [if_neg (by omega)]
    · rw [if_neg c2, if_neg (by omega), pairR_bad]
theorem tail3 (n b0 b1 b2 b3 : Nat) (s : ByteArray) (hn : s.size = n) (h0 : 224 ≤ b0) (h1 : b0 < 240) (e1 : (s.get! 1).toNat = b1) (e2 : (s.get! 2).toNat = b2) : tailR s 3 2048 (b0 % 16) = pairR (Lib.decodeN n b0 b1 b2 b3) := by
  have q0 : ¬ b0 < 128 := by omega
  have q1 : ¬ b0 / 32 = 6 := by omega
  have q2 : b0 / 16 = 14 := by omega
  have q3 : ¬ b0 / 8 = 30 := by omega
  simp only [tailR, hn, Lib.decodeN, contF, e1, e2, q0, q1, q2, q3, if_false, true_and, false_and, Nat.reduceSub, Nat.reduceAdd]
  by_cases c1 : n < 3
  · rw [if_pos c1, if_neg (by omega), pairR_bad]
  · rw [if_neg c1]
    by_cases c2 : b1 / 64 = 2
    · rw [if_pos c2]
      by_cases c3 : b2 / 64 = 2
      · rw [if_pos c3, if_pos ⟨⟨by omega, c2⟩, by omega, c3⟩]
        simp only [fitR]
        have ev : (b0 % 16 * 64 + b1 % 64) * 64 + b2 % 64 = b0 % 16 * 4096 + b1 % 64 * 64 + b2 % 64 := by omega
        rw [ev]
        obtain ⟨v, hv⟩ : ∃ v, b0 % 16 * 4096 + b1 % 64 * 64 + b2 % 64 = v := ⟨_, rfl⟩
        rw [hv]
        by_cases c4 : v < 2048 ∨ 1114111 < v ∨ 55296 ≤ v ∧ v < 57344
        · rw [if_pos c4, if_neg (by omega), pairR_bad]
        · rw [if_neg c4, if_pos (by omega), pairR_ok _ _ (by omega)]
      · rw [if_neg c3, if_neg (by omega), pairR_bad]
    · rw [if_neg c2, if_neg (by omega), pairR_bad]
theorem tail4 (n b0 b1 b2 b3 : Nat) (s : ByteArray) (hn : s.size = n) (h0 : 240 ≤ b0) (h1 : b0 < 245) (e1 : (s.get! 1).toNat = b1) (e2 : (s.get! 2).toNat = b2) (e3 : (s.get! 3).toNat = b3) : tailR s 4 65536 (b0 % 8) = pairR (Lib.decodeN n b0 b1 b2 b3) := by
  have q0 : ¬ b0 < 128 := by omega
  have q1 : ¬ b0 / 32 = 6 := by omega
  have q2 : ¬ b0 / 16 = 14 := by omega
  have q3 : b0 / 8 = 30 := by omega
  simp only [tailR, hn, Lib.decodeN, contF, e1, e2, e3, q0, q1, q2, q3, if_false, true_and, false_and, Nat.reduceSub, Nat.reduceAdd]
  by_cases c1 : n < 4
  · rw [if_pos c1, if_neg (by omega), pairR_bad]
  · rw [if_neg c1]
    by_cases c2 : b1 / 64 = 2
    · rw [if_pos c2]
      by_cases c3 : b2 / 64 = 2
      · rw [if_pos c3]
        by_cases c5 : b3 / 64 = 2
        · rw [if_pos c5, if_pos ⟨⟨by omega, c2⟩, ⟨by omega, c3⟩, by omega, c5⟩]
          simp only [fitR]
          have ev : ((b0 % 8 * 64 + b1 % 64) * 64 + b2 % 64) * 64 + b3 % 64 = b0 % 8 * 262144 + b1 % 64 * 4096 + b2 % 64 * 64 + b3 % 64 := by omega
          rw [ev]
          obtain ⟨v, hv⟩ : ∃ v, b0 % 8 * 262144 + b1 % 64 * 4096 + b2 % 64 * 64 + b3 % 64 = v := ⟨_, rfl⟩
          rw [hv]
          by_cases c4 : v < 65536 ∨ 1114111 < v ∨ 55296 ≤ v ∧ v < 57344
          · rw [if_pos c4, if_neg (by omega), pairR_bad]
          · rw [if_neg c4, if_pos (by omega), pairR_ok _ _ (by omega)]
        · rw [if_neg c5, if_neg (by omega), pairR_bad]
      · rw [if_neg c3, if_neg (by omega), pairR_bad]
    · rw [if_neg c2, if_neg (by omega), pairR_bad]
theorem tail0 (n b0 b1 b2 b3 : Nat) (h : 128 ≤ b0 ∧ b0 < 194 ∨ 245 ≤ b0 ∧ b0 < 256) : pairR (Lib.decodeN n b0 b1 b2 b3) = (-1, 1) := by
  have q0 : ¬ b0 < 128 := by omega
  have q2 : ¬ b0 / 16 = 14 := by omega
  simp only [Lib.decodeN, q0, q2, if_false, false_and]
  by_cases c1 : b0 / 32 = 6 ∧ 1 < n ∧ b1 / 64 = 2
  · rw [if_pos c1, if_neg (by omega), pairR_bad]
  · rw [if_neg c1]
    by_cases c2 : b0 / 8 = 30 ∧ (1 < n ∧ b1 / 64 = 2) ∧ (2 < n ∧ b2 / 64 = 2) ∧ 3 < n ∧ b3 / 64 = 2
    · rw [if_pos c2, if_neg (by omega), pairR_bad]
    · rw [if_neg c2, pairR_bad]

set_option maxHeartbeats 4000000 in
set_option maxRecDepth 100000 in
theorem rune1_eq {w : World} (s : ByteArray) (hs : s.size ≤ 1000000000) (h0 : 0 < s.size) :
    Calls Tryd.prog 29 #[.string s] w fun e w' => e = .returned (.tuple #[.int .i64 (runeR s).1, .int .i64 ((runeR s).2 : Nat)]) ∧ Hid (w' = w) := by
  obtain ⟨a, ha⟩ : ∃ a, (s.get! 0).toNat = a := ⟨_, rfl⟩
  have hlt : a < 256 := by have := (s.get! 0).toNat_lt; omega
  have hs0 : (s[0]'h0).toNat = a := by rw [← ha, Utf8W.get!_of_lt s 0 h0]
  have hr := runeR_eq s
  rw [ha] at hr
  by_cases c1 : a < 128
  · have e : runeR s = ((a : Int), 1) := by
      rw [hr]
      unfold Lib.decodeN pairR
      rw [if_pos c1, if_neg (by simp only; omega)]
    rw [e]
    have c1' : (a : Int) < 128 := by omega
    clear hr e ha
    go_enter Tryd.func29, Tryd.ntmps29
    go_wp2_with fail
    go_ret2
    exact ⟨rfl, Lib.hid rfl⟩
  by_cases c2 : 194 ≤ a ∧ a < 224
  · rw [hr, ← tail2 s.size a _ _ _ s rfl c2.1 c2.2 rfl]
    exact rune1_2 s a hs h0 ha c2.1 c2.2
  by_cases c3 : 224 ≤ a ∧ a < 240
  · rw [hr, ← tail3 s.size a _ _ _ s rfl c3.1 c3.2 rfl rfl]
    exact rune1_3 s a hs h0 ha c3.1 c3.2
  by_cases c4 : 240 ≤ a ∧ a < 245
  · rw [hr, ← tail4 s.size a _ _ _ s rfl c4.1 c4.2 rfl rfl rfl]
    exact rune1_4 s a hs h0 ha c4.1 c4.2
  rw [hr, tail0 _ _ _ _ _ (by omega)]
  have d1 : ¬ (a : Int) < 128 := by omega
  clear hr ha
  by_cases c5 : a < 194
  · have d2 : ¬ (194 : Int) ≤ (a : Int) := by omega
    have d3 : ¬ (224 : Int) ≤ (a : Int) := by omega
    have d4 : ¬ (240 : Int) ≤ (a : Int) := by omega
    go_enter Tryd.func29, Tryd.ntmps29
    go_wp2_with fail
    go_ret2
    exact ⟨rfl, Lib.hid rfl⟩
  · have d2 : (245 : Int) ≤ (a : Int) := by omega
    go_enter Tryd.func29, Tryd.ntmps29
    go_wp2_with fail
    go_ret2
    exact ⟨rfl, Lib.hid rfl⟩

theorem width_le (n b0 b1 b2 b3 : Nat) (h : 0 < n) : (Lib.decodeN n b0 b1 b2 b3).2 ≤ n := by
  unfold Lib.decodeN
  repeat' split
  all_goals simp only
  all_goals omega
theorem okR_tail (s : ByteArray) (pos : Nat) : okR (s.extract pos s.size) 0 = okR s pos := by
  unfold okR
  rw [Lib.tail_decode, Nat.add_zero]
theorem keyL_tail (s : ByteArray) (p : Nat) : ∀ g q, keyL (s.extract p s.size) g q = keyL s g (p + q)
  | 0, _ => rfl
  | g + 1, q => by
    unfold keyL okR
    rw [Lib.tail_size, Lib.tail_decode, keyL_tail s p g]
    by_cases h : p + q < s.size
    · rw [if_pos (by omega), if_pos h, Nat.add_assoc]
    · rw [if_neg (by omega), if_neg h]

set_option maxHeartbeats 4000000 in
set_option maxRecDepth 100000 in
theorem rkey_eq {w : World} (s : ByteArray) (hs : s.size ≤ 9223372036854775807) :
    Calls Tryd.prog 17 #[.string s] w fun e w' => e = .returned (.bool (keyB s)) ∧ Hid (w' = w) := by
  by_cases h1 : s.size < 1
  · have e : keyB s = false := by
      have : decide (1 ≤ s.size) = false := decide_eq_false (by omega)
      simp [keyB, this]
    have h1' : (s.size : Int) < 1 := by omega
    rw [e]
    go_enter Tryd.func17, Tryd.ntmps17
    go_wp2_with fail
    go_ret
    exact ⟨rfl, Lib.hid rfl⟩
  by_cases h2 : 250 < s.size
  · have e : keyB s = false := by
      have : decide (s.size ≤ 250) = false := decide_eq_false (by omega)
      simp [keyB, this]
    have h1' : ¬ (s.size : Int) < 1 := by omega
    have h2' : (250 : Int) < (s.size : Int) := by omega
    rw [e]
    go_enter Tryd.func17, Tryd.ntmps17
    go_wp2_with fail
    go_ret
    exact ⟨rfl, Lib.hid rfl⟩
  replace hs : s.size ≤ 1000000000 := by omega
  have e : keyB s = keyL s s.size 0 := by
    have h1' : decide (1 ≤ s.size) = true := decide_eq_true (by omega)
    have h2' : decide (s.size ≤ 250) = true := decide_eq_true (by omega)
    simp [keyB, h1', h2']
  rw [e]
  have h1' : ¬ (s.size : Int) < 1 := by omega
  have h2' : ¬ (250 : Int) < (s.size : Int) := by omega
  obtain ⟨Y, hY⟩ : ∃ Y, keyL s s.size 0 = Y := ⟨_, rfl⟩
  rw [hY]
  clear e h1 h2
  go_enter Tryd.func17, Tryd.ntmps17
  go_wp2_with fail
  go_loopg [0, 3, 4] s.size (fun gf x _ _ wx => ∃ t : ByteArray, x = .string t ∧ Hid (keyL t gf 0 = Y) ∧ t.size ≤ gf ∧ t.size ≤ 1000000000 ∧ wx = w)
  case atStart => exact ⟨s, rfl, Lib.hid hY, Nat.le_refl _, hs, rfl⟩
  case round =>
    obtain ⟨t, rfl, hleft, hfu, htb, rfl⟩ := hrel
    clear hY hs h1' h2'
    by_cases hps : 0 < t.size
    · obtain ⟨g', rfl⟩ : ∃ g', gk = g' + 1 := ⟨gk - 1, by omega⟩
      have hps1 : (0 : Int) < (t.size : Int) := by omega
      have cS := rune1_eq (w := wr) t htb hps
      have hwd := Lib.decode_width_pos t 0 hps
      have hl2 := hleft.out
      unfold keyL at hl2
      rw [if_pos hps, Nat.zero_add] at hl2
      unfold runeR at cS
      have hK9 : (Utf8.decode t 0).2 ≤ t.size := by
        rw [decode0]
        exact width_le _ _ _ _ _ hps
      obtain ⟨O, hO⟩ : ∃ O, okR t 0 = O := ⟨_, rfl⟩
      have htl := fun K => keyL_tail t K g' 0
      obtain ⟨R, hR⟩ : ∃ R, (Utf8.decode t 0).1 = R := ⟨_, rfl⟩
      obtain ⟨K, hK⟩ : ∃ K, (Utf8.decode t 0).2 = K := ⟨_, rfl⟩
      simp only [hO, hR, hK] at hl2 cS hwd hK9
      have hl3 := Lib.hid hl2
      have htz := Lib.hid (Lib.tail_size t K)
      have htl := Lib.hid (htl K)
      have hfu' := Lib.hid hfu
      have hKi : (K : Int) ≤ (t.size : Int) := by omega
      clear hl2 hleft hO hR hK hfu
      cases O
      · have hY : Y = false := by have := hl3.out; simpa using this.symm
        subst hY
        simp only [Bool.false_eq_true, if_false] at cS
        go_wp2_with (go_at_call 29; refine cS.mono ?_; rintro e W' ⟨rfl, hbc⟩)
        go_ret
        exact ⟨rfl, hbc⟩
      simp only [if_true] at cS
      by_cases g1 : R ≤ 32
      · have hY : Y = false := by have := hl3.out; simp [badR, g1] at this; first | exact this | exact this.symm
        subst hY
        have g1' : (R : Int) ≤ 32 := by omega
        go_wp2_with (go_at_call 29; refine cS.mono ?_; rintro e W' ⟨rfl, hbc⟩)
        go_ret
        exact ⟨rfl, hbc⟩
      have g1' : ¬ (R : Int) ≤ 32 := by omega
      by_cases g2 : 127 ≤ R
      · have g2' : (127 : Int) ≤ (R : Int) := by omega
        by_cases g3 : R ≤ 160
        · have g3' : (R : Int) ≤ 160 := by omega
          have hY : Y = false := by have := hl3.out; simp [badR, g2, g3] at this; first | exact this | exact this.symm
          subst hY
          go_wp2_with (go_at_call 29; refine cS.mono ?_; rintro e W' ⟨rfl, hbc⟩)
          go_ret
          exact ⟨rfl, hbc⟩
        have g3' : ¬ (R : Int) ≤ 160 := by omega
        by_cases g4 : R = 8232
        · subst g4
          have hY : Y = false := by have := hl3.out; simp [badR] at this; first | exact this | exact this.symm
          subst hY
          go_wp2_with (go_at_call 29; refine cS.mono ?_; rintro e W' ⟨rfl, hbc⟩)
          go_ret
          exact ⟨rfl, hbc⟩
        have g4' : ((R : Int) == 8232) = false := by simpa using (by omega : ¬ (R : Int) = 8232)
        by_cases g5 : R = 8233
        · subst g5
          have hY : Y = false := by have := hl3.out; simp [badR] at this; first | exact this | exact this.symm
          subst hY
          go_wp2_with (go_at_call 29; refine cS.mono ?_; rintro e W' ⟨rfl, hbc⟩)
          go_ret
          exact ⟨rfl, hbc⟩
        have g5' : ((R : Int) == 8233) = false := by simpa using (by omega : ¬ (R : Int) = 8233)
        go_wp2_with (go_at_call 29; refine cS.mono ?_; rintro e W' ⟨rfl, hbc⟩)
        go_roundg g'
        case measure => omega
        case rel => exact ⟨_, rfl, Lib.hid (by rw [htl.out]; have := hl3.out; simp [badR, g1, g3, g4, g5] at this; exact this), by have := htz.out; have := hfu'.out; omega, by have := htz.out; omega, hbc.out⟩
      · have g2' : ¬ (127 : Int) ≤ (R : Int) := by omega
        have q1 : ¬ R = 8232 := by omega
        have q2 : ¬ R = 8233 := by omega
        have g4' : ((R : Int) == 8232) = false := by simpa using (by omega : ¬ (R : Int) = 8232)
        have g5' : ((R : Int) == 8233) = false := by simpa using (by omega : ¬ (R : Int) = 8233)
        go_wp2_with (go_at_call 29; refine cS.mono ?_; rintro e W' ⟨rfl, hbc⟩)
        go_roundg g'
        case measure => omega
        case rel => exact ⟨_, rfl, Lib.hid (by rw [htl.out]; have := hl3.out; simp [badR, g1, g2, q1, q2] at this; exact this), by have := htz.out; have := hfu'.out; omega, by have := htz.out; omega, hbc.out⟩
    · have hY2 : Y = true := by rw [← hleft.out]; exact keyL_end t gk 0 hps
      subst hY2
      have hz : ¬ (0 : Int) < (t.size : Int) := by omega
      go_wp2_with fail
      go_ret
      exact ⟨rfl, Lib.hid rfl⟩
end Go.Proofs.YthfhlbnjahakaaaDoor
