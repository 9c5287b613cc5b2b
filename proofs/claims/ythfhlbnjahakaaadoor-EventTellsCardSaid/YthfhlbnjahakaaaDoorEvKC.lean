/-
  event: the reference's rune1 (printed by gen/evkc.py).
-/
import Derived.Test.YthfhlbnjahakaaaDoorEvKB
import Derived.Laws.BitsLemmas
import Derived.Shelf.Unicode.DecodeAny
namespace Go.Proofs.YthfhlbnjahakaaaDoor
open Go.RowKit

theorem b_and192 : ∀ x : Fin 256, bits .and .u8 ((x.val : Nat) : Int) 192 = ((x.val / 64 * 64 : Nat) : Int) := by decide +kernel
theorem b_and63 : ∀ x : Fin 256, bits .and .u8 ((x.val : Nat) : Int) 63 = ((x.val % 64 : Nat) : Int) := by decide +kernel
theorem b_and31 : ∀ x : Fin 256, bits .and .i64 ((x.val : Nat) : Int) 31 = ((x.val % 32 : Nat) : Int) := by decide +kernel
theorem b_and15 : ∀ x : Fin 256, bits .and .i64 ((x.val : Nat) : Int) 15 = ((x.val % 16 : Nat) : Int) := by decide +kernel
theorem b_and7 : ∀ x : Fin 256, bits .and .i64 ((x.val : Nat) : Int) 7 = ((x.val % 8 : Nat) : Int) := by decide +kernel
theorem wraps_i64' (n : Int) (h₀ : 0 ≤ n) (h₁ : n < 2 ^ 63) : IntKind.i64.wrap n = n := by rw [IntKind.wrap_i64]; omega
theorem b_or6 (v b : Nat) (hv : v < 1000000000) (hb : b < 64) : bits .or .i64 ((v : Int) * 64) (b : Int) = ((v * 64 + b : Nat) : Int) := by
  rw [bits_join .i64 63 (by decide) wraps_i64' 6 ((v : Int) * 64) (b : Int) (by omega) (by omega) (by omega) (by omega) (by omega) (by omega)]
  omega

/-- The bytes behind the first: all are of the form 10......; what they make of v. -/
def contF (s : ByteArray) : Nat → Nat → Nat → Option Nat
  | 0, _, v => some v
  | k + 1, i, v => if (s.get! i).toNat / 64 = 2 then contF s k (i + 1) (v * 64 + (s.get! i).toNat % 64) else none
def fitR (lo v n : Nat) : Int × Nat := if v < lo ∨ 1114111 < v ∨ 55296 ≤ v ∧ v < 57344 then (-1, 1) else ((v : Int), n)
def tailR (s : ByteArray) (n lo v : Nat) : Int × Nat :=
  if s.size < n then (-1, 1) else match contF s (n - 1) 1 v with
    | none => (-1, 1)
    | some v => fitR lo v n

set_option maxHeartbeats 8000000 in
set_option maxRecDepth 100000 in
theorem rune1_2 {w : World} (s : ByteArray) (a : Nat) (hs : s.size ≤ 1000000000) (h0 : 0 < s.size) (ha : (s.get! 0).toNat = a) (hl : 194 ≤ a) (hh : a < 224) :
    Calls Tryd.prog 29 #[.string s] w fun e w' => e = .returned (.tuple #[.int .i64 (tailR s 2 128 (a % 32)).1, .int .i64 ((tailR s 2 128 (a % 32)).2 : Nat)]) ∧ Hid (w' = w) := by
  have hs0 : (s[0]'h0).toNat = a := by rw [← ha, Utf8W.get!_of_lt s 0 h0]
  have hand := b_and31 ⟨a, by omega⟩
  simp only at hand
  have hl1 : (194 : Int) ≤ (a : Int) := by omega
  have hh1 : (a : Int) < 224 := by omega
  have ha1 : ¬ (a : Int) < 128 := by omega
  by_cases hn : s.size < 2
  · have e : tailR s 2 128 (a % 32) = (-1, 1) := by unfold tailR; rw [if_pos hn]
    rw [e]
    have hn1 : (s.size : Int) < 2 := by omega
    go_enter Tryd.func29, Tryd.ntmps29
    go_wp2_with fail
    go_ret2
    exact ⟨rfl, Lib.hid rfl⟩
  have hn1 : ¬ (s.size : Int) < 2 := by omega
  obtain ⟨Y, hY⟩ : ∃ Y, tailR s 2 128 (a % 32) = Y := ⟨_, rfl⟩
  rw [hY]
  obtain ⟨v0, hv0⟩ : ∃ v0, a % 32 = v0 := ⟨_, rfl⟩
  have hv1 : v0 < 32 := by omega
  rw [hv0] at hY hand
  have hY0 : Hid ((match contF s (2 - 1) 1 v0 with | none => (-1, 1) | some v => fitR 128 v 2) = Y) := Lib.hid (by rw [← hY]; unfold tailR; rw [if_neg hn])
  have HV := Lib.hid hv1
  have HN := Lib.hid hn
  clear hY hv0 hv1 hn ha hl hh
  go_enter Tryd.func29, Tryd.ntmps29
  go_wp2_with fail
  go_loopg [7, 8] (2 - 1) (fun gf x i wx => ∃ v : Nat, i = .int .i64 ((2 - gf : Nat) : Int) ∧ x = .int .i64 (v : Int) ∧ Hid (v < 2 ^ (5 + 6 * (2 - 1 - gf))) ∧ gf ≤ 2 - 1 ∧ Hid ((match contF s gf (2 - gf) v with | none => (-1, 1) | some v => fitR 128 v 2) = Y) ∧ wx = w)
  case atStart => exact ⟨v0, rfl, rfl, HV, Nat.le_refl _, hY0, rfl⟩
  case round =>
    obtain ⟨v, rfl, rfl, hv, hgk, hr, rfl⟩ := hrel
    cases gk with
    | zero =>
      have hr2 : fitR 128 v 2 = Y := hr.out
      unfold fitR at hr2
      clear hr hv hY0 HV hand
      have hz : 2 - 0 = 2 := rfl
      rw [hz]
      by_cases c1 : v < 128
      · rw [if_pos (Or.inl c1)] at hr2
        subst hr2
        have d1 : (v : Int) < 128 := by omega
        go_wp2_with fail
        go_ret2
        exact ⟨rfl, Lib.hid rfl⟩
      have d1 : ¬ (v : Int) < 128 := by omega
      by_cases c2 : 1114111 < v
      · rw [if_pos (Or.inr (Or.inl c2))] at hr2
        subst hr2
        have d2 : (1114111 : Int) < (v : Int) := by omega
        go_wp2_with fail
        go_ret2
        exact ⟨rfl, Lib.hid rfl⟩
      have d2 : ¬ (1114111 : Int) < (v : Int) := by omega
      by_cases c3 : 55296 ≤ v
      · have d3 : (55296 : Int) ≤ (v : Int) := by omega
        by_cases c4 : v < 57344
        · rw [if_pos (Or.inr (Or.inr ⟨c3, c4⟩))] at hr2
          subst hr2
          have d4 : (v : Int) < 57344 := by omega
          go_wp2_with fail
          go_ret2
          exact ⟨rfl, Lib.hid rfl⟩
        have d4 : ¬ (v : Int) < 57344 := by omega
        rw [if_neg (by omega)] at hr2
        subst hr2
        go_wp2_with fail
        go_ret2
        exact ⟨rfl, Lib.hid rfl⟩
      have d3 : ¬ (55296 : Int) ≤ (v : Int) := by omega
      rw [if_neg (by omega)] at hr2
      subst hr2
      go_wp2_with fail
      go_ret2
      exact ⟨rfl, Lib.hid rfl⟩
    | succ k =>
      obtain ⟨i, hi⟩ : ∃ i, 2 - (k + 1) = i := ⟨_, rfl⟩
      have hi1 : i < 2 := by omega
      have hi2 : (i : Int) < 2 := by omega
      have hi3 : i < s.size := by have := HN.out; omega
      have hi5 : (i : Int) < (s.size : Int) := by omega
      have hi4 : 2 - k = i + 1 := by omega
      have hi6 : (((i + 1 : Nat)) : Int) = (i : Int) + 1 := by omega
      obtain ⟨b, hb⟩ : ∃ b, (s.get! i).toNat = b := ⟨_, rfl⟩
      have hb0 : b < 256 := by have := (s.get! i).toNat_lt; omega
      have hsi : ∀ h : i < s.size, (s[i]'h).toNat = b := fun h => by rw [← hb, Utf8W.get!_of_lt s i h]
      have q1 := b_and192 ⟨b, hb0⟩
      have q2 := b_and63 ⟨b, hb0⟩
      simp only at q1 q2
      rw [hi] at hr ⊢
      have hr2 := hr.out
      unfold contF at hr2
      rw [hb] at hr2
      have hv2 : v < 1000000 := Nat.lt_of_lt_of_le hv.out (Nat.le_trans (Nat.pow_le_pow_right (by decide) (by omega : 5 + 6 * (2 - 1 - (k + 1)) ≤ 5 + 6 * 2)) (by decide))
      have hv3 : v * 64 + b % 64 < 2 ^ (5 + 6 * (2 - 1 - k)) := by
        have e : 2 - 1 - k = (2 - 1 - (k + 1)) + 1 := by omega
        have e2 : 2 ^ (5 + 6 * (2 - 1 - k)) = 2 ^ (5 + 6 * (2 - 1 - (k + 1))) * 64 := by rw [e, Nat.mul_add, ← Nat.add_assoc, Nat.pow_add]
        have := hv.out
        rw [e2]
        omega
      by_cases c : b / 64 = 2
      · rw [if_pos c] at hr2
        have q1' : bits .and .u8 (b : Int) 192 = 128 := by rw [q1, c]; rfl
        have q3 : bits .or .i64 ((v : Int) * 64) ((b : Int) % 64) = ((v * 64 + b % 64 : Nat) : Int) := b_or6 v (b % 64) (by omega) (by omega)
        have HR := Lib.hid hr2
        have H4 := Lib.hid hi4
        have H6 := Lib.hid hi6
        have H3 := Lib.hid hv3
        have HGK : Hid (k ≤ 2 - 1) := Lib.hid (by omega)
        have w2 : IntKind.i64.wrap ((v : Int) * 64) = (v : Int) * 64 := by rw [IntKind.wrap_i64]; omega
        have w3 : IntKind.i64.wrap ((i : Int) + 1) = (i : Int) + 1 := by rw [IntKind.wrap_i64]; omega
        have Q3 := Lib.hid q3
        have W2 := Lib.hid w2
        have H64 := Lib.hid hv2
        clear hr hr2 hi4 hi6 hv3 hv q1 hb c hY0 HV hand hi hgk w2 q3
        go_wp2_with fail
        go_roundg k
        case measure => omega
        case rel =>
          exact ⟨v * 64 + b % 64, by rw [H4.out, H6.out], by rw [← Q3.out], H3, HGK.out, by rw [H4.out]; exact HR, rfl⟩
      · rw [if_neg c] at hr2
        have hr3 : ((-1, 1) : Int × Nat) = Y := hr2
        subst hr3
        have q1' : ((bits .and .u8 (b : Int) 192) == 128) = false := by rw [q1]; simpa using (by omega : ¬ ((b / 64 * 64 : Nat) : Int) = 128)
        clear hr hr2 hi4 hi6 hv3 hv q1 hb c hY0 HV hand hi hgk
        go_wp2_with fail
        go_ret2
        exact ⟨rfl, Lib.hid rfl⟩

set_option maxHeartbeats 8000000 in
set_option maxRecDepth 100000 in
theorem rune1_3 {w : World} (s : ByteArray) (a : Nat) (hs : s.size ≤ 1000000000) (h0 : 0 < s.size) (ha : (s.get! 0).toNat = a) (hl : 224 ≤ a) (hh : a < 240) :
    Calls Tryd.prog 29 #[.string s] w fun e w' => e = .returned (.tuple #[.int .i64 (tailR s 3 2048 (a % 16)).1, .int .i64 ((tailR s 3 2048 (a % 16)).2 : Nat)]) ∧ Hid (w' = w) := by
  have hs0 : (s[0]'h0).toNat = a := by rw [← ha, Utf8W.get!_of_lt s 0 h0]
  have hand := b_and15 ⟨a, by omega⟩
  simp only at hand
  have hl1 : (224 : Int) ≤ (a : Int) := by omega
  have hh1 : (a : Int) < 240 := by omega
  have ha1 : ¬ (a : Int) < 128 := by omega
  have na : ¬ (a : Int) < 224 := by omega
  by_cases hn : s.size < 3
  · have e : tailR s 3 2048 (a % 16) = (-1, 1) := by unfold tailR; rw [if_pos hn]
    rw [e]
    have hn1 : (s.size : Int) < 3 := by omega
    go_enter Tryd.func29, Tryd.ntmps29
    go_wp2_with fail
    go_ret2
    exact ⟨rfl, Lib.hid rfl⟩
  have hn1 : ¬ (s.size : Int) < 3 := by omega
  obtain ⟨Y, hY⟩ : ∃ Y, tailR s 3 2048 (a % 16) = Y := ⟨_, rfl⟩
  rw [hY]
  obtain ⟨v0, hv0⟩ : ∃ v0, a % 16 = v0 := ⟨_, rfl⟩
  have hv1 : v0 < 32 := by omega
  rw [hv0] at hY hand
  have hY0 : Hid ((match contF s (3 - 1) 1 v0 with | none => (-1, 1) | some v => fitR 2048 v 3) = Y) := Lib.hid (by rw [← hY]; unfold tailR; rw [if_neg hn])
  have HV := Lib.hid hv1
  have HN := Lib.hid hn
  clear hY hv0 hv1 hn ha hl hh
  go_enter Tryd.func29, Tryd.ntmps29
  go_wp2_with fail
  go_loopg [7, 8] (3 - 1) (fun gf x i wx => ∃ v : Nat, i = .int .i64 ((3 - gf : Nat) : Int) ∧ x = .int .i64 (v : Int) ∧ Hid (v < 2 ^ (5 + 6 * (3 - 1 - gf))) ∧ gf ≤ 3 - 1 ∧ Hid ((match contF s gf (3 - gf) v with | none => (-1, 1) | some v => fitR 2048 v 3) = Y) ∧ wx = w)
  case atStart => exact ⟨v0, rfl, rfl, HV, Nat.le_refl _, hY0, rfl⟩
  case round =>
    obtain ⟨v, rfl, rfl, hv, hgk, hr, rfl⟩ := hrel
    cases gk with
    | zero =>
      have hr2 : fitR 2048 v 3 = Y := hr.out
      unfold fitR at hr2
      clear hr hv hY0 HV hand
      have hz : 3 - 0 = 3 := rfl
      rw [hz]
      by_cases c1 : v < 2048
      · rw [if_pos (Or.inl c1)] at hr2
        subst hr2
        have d1 : (v : Int) < 2048 := by omega
        go_wp2_with fail
        go_ret2
        exact ⟨rfl, Lib.hid rfl⟩
      have d1 : ¬ (v : Int) < 2048 := by omega
      by_cases c2 : 1114111 < v
      · rw [if_pos (Or.inr (Or.inl c2))] at hr2
        subst hr2
        have d2 : (1114111 : Int) < (v : Int) := by omega
        go_wp2_with fail
        go_ret2
        exact ⟨rfl, Lib.hid rfl⟩
      have d2 : ¬ (1114111 : Int) < (v : Int) := by omega
      by_cases c3 : 55296 ≤ v
      · have d3 : (55296 : Int) ≤ (v : Int) := by omega
        by_cases c4 : v < 57344
        · rw [if_pos (Or.inr (Or.inr ⟨c3, c4⟩))] at hr2
          subst hr2
          have d4 : (v : Int) < 57344 := by omega
          go_wp2_with fail
          go_ret2
          exact ⟨rfl, Lib.hid rfl⟩
        have d4 : ¬ (v : Int) < 57344 := by omega
        rw [if_neg (by omega)] at hr2
        subst hr2
        go_wp2_with fail
        go_ret2
        exact ⟨rfl, Lib.hid rfl⟩
      have d3 : ¬ (55296 : Int) ≤ (v : Int) := by omega
      rw [if_neg (by omega)] at hr2
      subst hr2
      go_wp2_with fail
      go_ret2
      exact ⟨rfl, Lib.hid rfl⟩
    | succ k =>
      obtain ⟨i, hi⟩ : ∃ i, 3 - (k + 1) = i := ⟨_, rfl⟩
      have hi1 : i < 3 := by omega
      have hi2 : (i : Int) < 3 := by omega
      have hi3 : i < s.size := by have := HN.out; omega
      have hi5 : (i : Int) < (s.size : Int) := by omega
      have hi4 : 3 - k = i + 1 := by omega
      have hi6 : (((i + 1 : Nat)) : Int) = (i : Int) + 1 := by omega
      obtain ⟨b, hb⟩ : ∃ b, (s.get! i).toNat = b := ⟨_, rfl⟩
      have hb0 : b < 256 := by have := (s.get! i).toNat_lt; omega
      have hsi : ∀ h : i < s.size, (s[i]'h).toNat = b := fun h => by rw [← hb, Utf8W.get!_of_lt s i h]
      have q1 := b_and192 ⟨b, hb0⟩
      have q2 := b_and63 ⟨b, hb0⟩
      simp only at q1 q2
      rw [hi] at hr ⊢
      have hr2 := hr.out
      unfold contF at hr2
      rw [hb] at hr2
      have hv2 : v < 1000000 := Nat.lt_of_lt_of_le hv.out (Nat.le_trans (Nat.pow_le_pow_right (by decide) (by omega : 5 + 6 * (3 - 1 - (k + 1)) ≤ 5 + 6 * 2)) (by decide))
      have hv3 : v * 64 + b % 64 < 2 ^ (5 + 6 * (3 - 1 - k)) := by
        have e : 3 - 1 - k = (3 - 1 - (k + 1)) + 1 := by omega
        have e2 : 2 ^ (5 + 6 * (3 - 1 - k)) = 2 ^ (5 + 6 * (3 - 1 - (k + 1))) * 64 := by rw [e, Nat.mul_add, ← Nat.add_assoc, Nat.pow_add]
        have := hv.out
        rw [e2]
        omega
      by_cases c : b / 64 = 2
      · rw [if_pos c] at hr2
        have q1' : bits .and .u8 (b : Int) 192 = 128 := by rw [q1, c]; rfl
        have q3 : bits .or .i64 ((v : Int) * 64) ((b : Int) % 64) = ((v * 64 + b % 64 : Nat) : Int) := b_or6 v (b % 64) (by omega) (by omega)
        have HR := Lib.hid hr2
        have H4 := Lib.hid hi4
        have H6 := Lib.hid hi6
        have H3 := Lib.hid hv3
        have HGK : Hid (k ≤ 3 - 1) := Lib.hid (by omega)
        have w2 : IntKind.i64.wrap ((v : Int) * 64) = (v : Int) * 64 := by rw [IntKind.wrap_i64]; omega
        have w3 : IntKind.i64.wrap ((i : Int) + 1) = (i : Int) + 1 := by rw [IntKind.wrap_i64]; omega
        have Q3 := Lib.hid q3
        have W2 := Lib.hid w2
        have H64 := Lib.hid hv2
        clear hr hr2 hi4 hi6 hv3 hv q1 hb c hY0 HV hand hi hgk w2 q3
        go_wp2_with fail
        go_roundg k
        case measure => omega
        case rel =>
          exact ⟨v * 64 + b % 64, by rw [H4.out, H6.out], by rw [← Q3.out], H3, HGK.out, by rw [H4.out]; exact HR, rfl⟩
      · rw [if_neg c] at hr2
        have hr3 : ((-1, 1) : Int × Nat) = Y := hr2
        subst hr3
        have q1' : ((bits .and .u8 (b : Int) 192) == 128) = false := by rw [q1]; simpa using (by omega : ¬ ((b / 64 * 64 : Nat) : Int) = 128)
        clear hr hr2 hi4 hi6 hv3 hv q1 hb c hY0 HV hand hi hgk
        go_wp2_with fail
        go_ret2
        exact ⟨rfl, Lib.hid rfl⟩

set_option maxHeartbeats 8000000 in
set_option maxRecDepth 100000 in
theorem rune1_4 {w : World} (s : ByteArray) (a : Nat) (hs : s.size ≤ 1000000000) (h0 : 0 < s.size) (ha : (s.get! 0).toNat = a) (hl : 240 ≤ a) (hh : a < 245) :
    Calls Tryd.prog 29 #[.string s] w fun e w' => e = .returned (.tuple #[.int .i64 (tailR s 4 65536 (a % 8)).1, .int .i64 ((tailR s 4 65536 (a % 8)).2 : Nat)]) ∧ Hid (w' = w) := by
  have hs0 : (s[0]'h0).toNat = a := by rw [← ha, Utf8W.get!_of_lt s 0 h0]
  have hand := b_and7 ⟨a, by omega⟩
  simp only at hand
  have hl1 : (240 : Int) ≤ (a : Int) := by omega
  have hh1 : (a : Int) < 245 := by omega
  have ha1 : ¬ (a : Int) < 128 := by omega
  have na : ¬ (a : Int) < 224 := by omega
  have nb : ¬ (a : Int) < 240 := by omega
  by_cases hn : s.size < 4
  · have e : tailR s 4 65536 (a % 8) = (-1, 1) := by unfold tailR; rw [if_pos hn]
    rw [e]
    have hn1 : (s.size : Int) < 4 := by omega
    go_enter Tryd.func29, Tryd.ntmps29
    go_wp2_with fail
    go_ret2
    exact ⟨rfl, Lib.hid rfl⟩
  have hn1 : ¬ (s.size : Int) < 4 := by omega
  obtain ⟨Y, hY⟩ : ∃ Y, tailR s 4 65536 (a % 8) = Y := ⟨_, rfl⟩
  rw [hY]
  obtain ⟨v0, hv0⟩ : ∃ v0, a % 8 = v0 := ⟨_, rfl⟩
  have hv1 : v0 < 32 := by omega
  rw [hv0] at hY hand
  have hY0 : Hid ((match contF s (4 - 1) 1 v0 with | none => (-1, 1) | some v => fitR 65536 v 4) = Y) := Lib.hid (by rw [← hY]; unfold tailR; rw [if_neg hn])
  have HV := Lib.hid hv1
  have HN := Lib.hid hn
  clear hY hv0 hv1 hn ha hl hh
  go_enter Tryd.func29, Tryd.ntmps29
  go_wp2_with fail
  go_loopg [7, 8] (4 - 1) (fun gf x i wx => ∃ v : Nat, i = .int .i64 ((4 - gf : Nat) : Int) ∧ x = .int .i64 (v : Int) ∧ Hid (v < 2 ^ (5 + 6 * (4 - 1 - gf))) ∧ gf ≤ 4 - 1 ∧ Hid ((match contF s gf (4 - gf) v with | none => (-1, 1) | some v => fitR 65536 v 4) = Y) ∧ wx = w)
  case atStart => exact ⟨v0, rfl, rfl, HV, Nat.le_refl _, hY0, rfl⟩
  case round =>
    obtain ⟨v, rfl, rfl, hv, hgk, hr, rfl⟩ := hrel
    cases gk with
    | zero =>
      have hr2 : fitR 65536 v 4 = Y := hr.out
      unfold fitR at hr2
      clear hr hv hY0 HV hand
      have hz : 4 - 0 = 4 := rfl
      rw [hz]
      by_cases c1 : v < 65536
      · rw [if_pos (Or.inl c1)] at hr2
        subst hr2
        have d1 : (v : Int) < 65536 := by omega
        go_wp2_with fail
        go_ret2
        exact ⟨rfl, Lib.hid rfl⟩
      have d1 : ¬ (v : Int) < 65536 := by omega
      by_cases c2 : 1114111 < v
      · rw [if_pos (Or.inr (Or.inl c2))] at hr2
        subst hr2
        have d2 : (1114111 : Int) < (v : Int) := by omega
        go_wp2_with fail
        go_ret2
        exact ⟨rfl, Lib.hid rfl⟩
      have d2 : ¬ (1114111 : Int) < (v : Int) := by omega
      by_cases c3 : 55296 ≤ v
      · have d3 : (55296 : Int) ≤ (v : Int) := by omega
        by_cases c4 : v < 57344
        · rw [if_pos (Or.inr (Or.inr ⟨c3, c4⟩))] at hr2
          subst hr2
          have d4 : (v : Int) < 57344 := by omega
          go_wp2_with fail
          go_ret2
          exact ⟨rfl, Lib.hid rfl⟩
        have d4 : ¬ (v : Int) < 57344 := by omega
        rw [if_neg (by omega)] at hr2
        subst hr2
        go_wp2_with fail
        go_ret2
        exact ⟨rfl, Lib.hid rfl⟩
      have d3 : ¬ (55296 : Int) ≤ (v : Int) := by omega
      rw [if_neg (by omega)] at hr2
      subst hr2
      go_wp2_with fail
      go_ret2
      exact ⟨rfl, Lib.hid rfl⟩
    | succ k =>
      obtain ⟨i, hi⟩ : ∃ i, 4 - (k + 1) = i := ⟨_, rfl⟩
      have hi1 : i < 4 := by omega
      have hi2 : (i : Int) < 4 := by omega
      have hi3 : i < s.size := by have := HN.out; omega
      have hi5 : (i : Int) < (s.size : Int) := by omega
      have hi4 : 4 - k = i + 1 := by omega
      have hi6 : (((i + 1 : Nat)) : Int) = (i : Int) + 1 := by omega
      obtain ⟨b, hb⟩ : ∃ b, (s.get! i).toNat = b := ⟨_, rfl⟩
      have hb0 : b < 256 := by have := (s.get! i).toNat_lt; omega
      have hsi : ∀ h : i < s.size, (s[i]'h).toNat = b := fun h => by rw [← hb, Utf8W.get!_of_lt s i h]
      have q1 := b_and192 ⟨b, hb0⟩
      have q2 := b_and63 ⟨b, hb0⟩
      simp only at q1 q2
      rw [hi] at hr ⊢
      have hr2 := hr.out
      unfold contF at hr2
      rw [hb] at hr2
      have hv2 : v < 1000000 := Nat.lt_of_lt_of_le hv.out (Nat.le_trans (Nat.pow_le_pow_right (by decide) (by omega : 5 + 6 * (4 - 1 - (k + 1)) ≤ 5 + 6 * 2)) (by decide))
      have hv3 : v * 64 + b % 64 < 2 ^ (5 + 6 * (4 - 1 - k)) := by
        have e : 4 - 1 - k = (4 - 1 - (k + 1)) + 1 := by omega
        have e2 : 2 ^ (5 + 6 * (4 - 1 - k)) = 2 ^ (5 + 6 * (4 - 1 - (k + 1))) * 64 := by rw [e, Nat.mul_add, ← Nat.add_assoc, Nat.pow_add]
        have := hv.out
        rw [e2]
        omega
      by_cases c : b / 64 = 2
      · rw [if_pos c] at hr2
        have q1' : bits .and .u8 (b : Int) 192 = 128 := by rw [q1, c]; rfl
        have q3 : bits .or .i64 ((v : Int) * 64) ((b : Int) % 64) = ((v * 64 + b % 64 : Nat) : Int) := b_or6 v (b % 64) (by omega) (by omega)
        have HR := Lib.hid hr2
        have H4 := Lib.hid hi4
        have H6 := Lib.hid hi6
        have H3 := Lib.hid hv3
        have HGK : Hid (k ≤ 4 - 1) := Lib.hid (by omega)
        have w2 : IntKind.i64.wrap ((v : Int) * 64) = (v : Int) * 64 := by rw [IntKind.wrap_i64]; omega
        have w3 : IntKind.i64.wrap ((i : Int) + 1) = (i : Int) + 1 := by rw [IntKind.wrap_i64]; omega
        have Q3 := Lib.hid q3
        have W2 := Lib.hid w2
        have H64 := Lib.hid hv2
        clear hr hr2 hi4 hi6 hv3 hv q1 hb c hY0 HV hand hi hgk w2 q3
        go_wp2_with fail
        go_roundg k
        case measure => omega
        case rel =>
          exact ⟨v * 64 + b % 64, by rw [H4.out, H6.out], by rw [← Q3.out], H3, HGK.out, by rw [H4.out]; exact HR, rfl⟩
      · rw [if_neg c] at hr2
        have hr3 : ((-1, 1) : Int × Nat) = Y := hr2
        subst hr3
        have q1' : ((bits .and .u8 (b : Int) 192) == 128) = false := by rw [q1]; simpa using (by omega : ¬ ((b / 64 * 64 : Nat) : Int) = 128)
        clear hr hr2 hi4 hi6 hv3 hv q1 hb c hY0 HV hand hi hgk
        go_wp2_with fail
        go_ret2
        exact ⟨rfl, Lib.hid rfl⟩
end Go.Proofs.YthfhlbnjahakaaaDoor
