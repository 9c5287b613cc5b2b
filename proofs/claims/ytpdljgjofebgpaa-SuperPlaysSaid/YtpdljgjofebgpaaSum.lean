/-
  sum: what Crc computes; the numbers of bytes.
-/
import Derived.Test.YtpdljgjofebgpaaBytes
import Derived.Laws.BitsAllLaws
import Derived.Laws.Bits64
import Derived.Outline
namespace Go.Proofs.Ytpdljgjofebgpaa
open Go.RowKit

def crcBit (c : Nat) : Nat := if c % 2 = 1 then (c / 2) ^^^ 2197175160 else c / 2
def crcBits : Nat → Nat → Nat
  | 0, c => c
  | n + 1, c => crcBit (crcBits n c)
def crcByte (c : Nat) (x : UInt8) : Nat := crcBits 8 (c ^^^ x.toNat)
def crcTo (c : Nat) (l : List UInt8) : Nat := l.foldl crcByte c
def crcL (l : List UInt8) : Nat := crcTo 4294967295 l ^^^ 4294967295

theorem xor_lt32 {a b : Nat} (ha : a < 4294967296) (hb : b < 4294967296) : a ^^^ b < 4294967296 := Nat.xor_lt_two_pow (n := 32) ha hb
theorem crcBit_lt {c : Nat} (h : c < 4294967296) : crcBit c < 4294967296 := by
  unfold crcBit
  split
  · exact xor_lt32 (by omega) (by omega)
  · omega
theorem crcBits_lt {c : Nat} (h : c < 4294967296) : ∀ n, crcBits n c < 4294967296
  | 0 => h
  | n + 1 => crcBit_lt (crcBits_lt h n)
theorem crcByte_lt {c : Nat} (h : c < 4294967296) (x : UInt8) : crcByte c x < 4294967296 := crcBits_lt (xor_lt32 h (by have := x.toNat_lt; omega)) 8
theorem crcTo_lt {c : Nat} (h : c < 4294967296) (l : List UInt8) : crcTo c l < 4294967296 := by
  induction l generalizing c with
  | nil => exact h
  | cons x l ih => exact ih (crcByte_lt h x)
theorem crcL_lt (l : List UInt8) : crcL l < 4294967296 := xor_lt32 (crcTo_lt (by omega) l) (by omega)
theorem crcTo_snoc (c : Nat) (l : List UInt8) (x : UInt8) : crcTo c (l ++ [x]) = crcByte (crcTo c l) x := by unfold crcTo; rw [List.foldl_append]; rfl

theorem take_snoc' {l : List UInt8} {j : Nat} (hj : j < l.length) : l.take (j + 1) = l.take j ++ [l.getD j 0] := by
  rw [List.take_add_one, List.getElem?_eq_getElem hj, List.getD_eq_getElem?_getD, List.getElem?_eq_getElem hj]
  rfl

set_option maxHeartbeats 1000000 in
theorem more_eq {w : World} {v : Value} {bs : List UInt8} (h : RdB w v bs) (hn : bs.length ≤ 1000000000) :
    Calls Try.prog 92 #[.int .u32 0, v] w fun e w' => e = .returned (.int .u32 (crcL bs : Nat)) ∧ w = w' := by
  obtain ⟨a, cap, rfl, hc⟩ := h
  have HC := Lib.hid hc
  have hnot : bits .xor .u32 IntKind.u32.max 0 = ((4294967295 : Nat) : Int) := by
    have := u32_xor_nat 4294967295 0 (by omega) (by omega)
    exact this
  have hfin : bits .xor .u32 IntKind.u32.max (crcTo 4294967295 bs : Nat) = ((crcL bs : Nat) : Int) := by
    have := u32_xor_nat 4294967295 (crcTo 4294967295 bs) (by omega) (crcTo_lt (by omega) bs)
    rw [Nat.xor_comm] at this
    exact this
  have HNOT := Lib.hid hnot
  have HFIN := Lib.hid hfin
  clear hnot hfin
  have hsg : IntKind.u32.signed = false := rfl
  clear hc
  go_enter Try.func92, Try.ntmps92
  go_wp2_with fail
  rw [HNOT.out]
  go_loop [5, 7, 8, 13] (fun c _ _ i => ∃ k : Nat, k ≤ bs.length ∧ i = .int .i64 k ∧ c = .int .u32 (crcTo 4294967295 (bs.take k) : Nat)) (fun _ _ _ i => bs.length - (intOf i).toNat)
  case atStart => exact ⟨0, Nat.zero_le _, rfl, rfl⟩
  case round =>
    obtain ⟨k, hk, rfl, rfl⟩ := hrel
    by_cases hlt : k < bs.length
    · obtain ⟨g, o, rfl, hcell⟩ := HC.out (by omega)
      have hx := hcell k hlt
      have hsn := crcTo_snoc 4294967295 (bs.take k) (bs.getD k 0)
      rw [← take_snoc' hlt] at hsn
      have hlc := crcTo_lt (c := 4294967295) (by omega) (bs.take k)
      have hxl := (bs.getD k 0).toNat_lt
      have HSN := Lib.hid hsn
      generalize crcTo 4294967295 (bs.take k) = c at *
      obtain ⟨x, hxx⟩ : ∃ x, x = bs.getD k 0 := ⟨_, rfl⟩
      rw [← hxx] at hx hxl HSN
      have hcx : bits .xor .u32 (c : Int) (x.toNat : Int) = ((c ^^^ x.toNat : Nat) : Int) := u32_xor_nat c x.toNat hlc (by omega)
      have hc0 : c ^^^ x.toNat < 4294967296 := xor_lt32 hlc (by omega)
      have HC0 := Lib.hid hc0
      have hki : (k : Int) < (bs.length : Int) := by omega
      clear hsn hcell hxx hc0
      go_wp2_with fail
      go_loop [5, 8, 21] (fun c' _ i => ∃ j : Nat, j ≤ 8 ∧ i = .int .i64 j ∧ c' = .int .u32 (crcBits j (c ^^^ x.toNat) : Nat)) (fun _ _ i => 8 - (intOf i).toNat)
      case atStart => exact ⟨0, Nat.zero_le _, rfl, rfl⟩
      case round =>
        clear hcx
        obtain ⟨j, hj, rfl, rfl⟩ := hrel
        have hb := crcBits_lt HC0.out j
        have hst : crcBits (j + 1) (c ^^^ x.toNat) = crcBit (crcBits j (c ^^^ x.toNat)) := rfl
        have H8 := Lib.hid HSN.out
        have HST := Lib.hid hst
        clear hst
        by_cases hj8 : j < 8
        · generalize crcBits j (c ^^^ x.toNat) = y at *
          have hji : (j : Int) < 8 := by omega
          have hand : bits .and .u32 (y : Int) 1 = ((y % 2 : Nat) : Int) := by
            have := u32_and_nat y 1 hb (by omega)
            rw [Nat.and_one_is_mod] at this
            exact this
          have hyy : y / 2 < 4294967296 := by omega
          have hxo : bits .xor .u32 ((y : Int) / 2) 2197175160 = (((y / 2) ^^^ 2197175160 : Nat) : Int) := u32_xor_nat (y / 2) 2197175160 hyy (by omega)
          rcases Nat.mod_two_eq_zero_or_one y with h2 | h2
          · have hb0 : ((((y % 2 : Nat) : Int)) == 1) = false := by rw [h2]; rfl
            have hcb : crcBit y = y / 2 := by unfold crcBit; rw [if_neg (by omega)]
            have HCB := Lib.hid hcb
            clear hcb h2 hxo
            go_wp2_with fail
            go_round
            case rel => exact ⟨j + 1, by omega, by go_num, by rw [HST.out, HCB.out]; rfl⟩
            case measure => simp [intOf]; omega
          · have hb0 : ((((y % 2 : Nat) : Int)) == 1) = true := by rw [h2]; rfl
            have hcb : crcBit y = (y / 2) ^^^ 2197175160 := by unfold crcBit; rw [if_pos (by omega)]
            have HCB := Lib.hid hcb
            clear hcb h2
            go_wp2_with fail
            go_round
            case rel => exact ⟨j + 1, by omega, by go_num, by rw [HST.out, HCB.out]⟩
            case measure => simp [intOf]; omega
        · have hj9 : j = 8 := by omega
          subst hj9
          go_wp2_with fail
          go_round
          case rel =>
            refine ⟨_, _, _, _, ⟨k + 1, by omega, ?_, ?_⟩, rfl, rfl, rfl, rfl⟩
            · go_num
            · rw [H8.out]; rfl
          case measure => simp [intOf]; omega
    · have hk2 : k = bs.length := by omega
      subst hk2
      have e : bs.take bs.length = bs := List.take_length
      have E := Lib.hid e
      have hfin := HFIN.out
      rw [← e] at hfin
      clear e
      go_wp2_with fail
      go_ret
      rw [HFIN.out]
      exact ⟨rfl, rfl⟩

theorem crc_eq {w : World} {v : Value} {bs : List UInt8} (h : RdB w v bs) (hn : bs.length ≤ 1000000000) :
    Calls Try.prog 66 #[v] w fun e w' => e = .returned (.int .u32 (crcL bs : Nat)) ∧ w = w' := by
  have H := Lib.hid h
  obtain ⟨a, cap, rfl, _⟩ := h
  go_enter Try.func66, Try.ntmps66
  go_wp2_with fail
  refine (more_eq H.out hn).mono ?_
  rintro e w' ⟨rfl, rfl⟩
  go_wp2_with fail
  go_ret
  exact ⟨rfl, rfl⟩

end Go.Proofs.Ytpdljgjofebgpaa
