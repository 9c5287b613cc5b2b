/-
  cellaretref4: Low, Up, crc (cellaretref1: More, Crc).
-/
import Derived.Test.YtpdljgjofebgpaaSupA
import Derived.Lib.ConvBytes
namespace Go.Proofs.Ytpdljgjofebgpaa
open Go.RowKit

set_option maxRecDepth 100000 in
set_option maxHeartbeats 1000000 in
theorem low_eq {w : World} (v n : Nat) (hn : n ≤ 8) :
    Calls Try.prog 67 #[.int .u64 v, .int .i64 n] w fun e w' => e = .returned (.string ⟨(le n v).toArray⟩) ∧ Fr Nob w w' := by
  have F0 : Hid (Fr Nob w w) := Lib.hid (Fr.refl _ _)
  go_enter Try.func67, Try.ntmps67
  go_wp2_with fail
  go_loopw [5, 6] (fun s i wr => ∃ k : Nat, k ≤ n ∧ i = .int .i64 k ∧ s = .string ⟨(le k v).toArray⟩ ∧ Hid (Fr Nob w wr)) (fun _ i _ => n - (intOf i).toNat)
  case atStart => exact ⟨0, Nat.zero_le _, rfl, rfl, F0⟩
  case round =>
    clear F0
    obtain ⟨k, hk, rfl, rfl, f⟩ := hrel
    by_cases hlt : k < n
    · have hki : (k : Int) < (n : Int) := by omega
      have hl : (le k v).length = k := le_len k v
      have hs := le_snoc k v
      have fb := (Fr.refl Nob wr).alloc (.cells #[.int .u8 ((v : Int) / 2 ^ (8 * k) % 256)] 5)
      have h9 : (wr.alloc (.cells #[.int .u8 ((v : Int) / 2 ^ (8 * k) % 256)] 5)).heap[wr.heap.size]? = some (.cells (bytesV [UInt8.ofNat (v / 256 ^ k % 256)]).toArray 5 (0, 0)) := by
        rw [byte_of]
        exact heap_alloc_new wr _
      have CV : (convert 34 9 (.slice (some ⟨wr.heap.size, 0, none⟩) 1 1)).run Try.prog (wr.alloc (.cells #[.int .u8 ((v : Int) / 2 ^ (8 * k) % 256)] 5)) = .ok (.string ⟨[UInt8.ofNat (v / 256 ^ k % 256)].toArray⟩) (wr.alloc (.cells #[.int .u8 ((v : Int) / 2 ^ (8 * k) % 256)] 5)) :=
        (RdB.of_block (cap := 1) h9).text _ _ _ Try.underlying34 Try.underlying5 Try.underlying9
      have F2 := Lib.hid (f.out.trans' fb)
      have HS := Lib.hid hs
      clear h9 fb hs
      generalize UInt8.ofNat (v / 256 ^ k % 256) = b at *
      go_wp2_with fail
      go_roundw
      case rel =>
        refine ⟨k + 1, by omega, by go_num, ?_, F2⟩
        rw [HS.out]
        congr 1
      case measure => simp [intOf]; omega
    · have : k = n := by omega
      subst this
      go_wp2_with fail
      go_ret
      exact ⟨rfl, f.out⟩

set_option maxRecDepth 100000 in
set_option maxHeartbeats 1000000 in
theorem up_eq {w : World} {bs : List UInt8} (hn : bs.length ≤ 8) :
    Calls Try.prog 69 #[.string ⟨bs.toArray⟩] w fun e w' => e = .returned (.int .u64 (upL bs : Nat)) ∧ w = w' := by
  go_enter Try.func69, Try.ntmps69
  go_wp2_with fail
  go_loop [3, 4] (fun v i => ∃ k : Nat, k ≤ bs.length ∧ i = .int .i64 ((k : Int) - 1) ∧ v = .int .u64 (upL (bs.drop k) : Nat)) (fun _ i => (intOf i + 1).toNat)
  case atStart => exact ⟨bs.length, Nat.le_refl _, by go_num, by rw [List.drop_length]; rfl⟩
  case round =>
    obtain ⟨k, hk, rfl, rfl⟩ := hrel
    by_cases h0 : 1 ≤ k
    · obtain ⟨j, rfl⟩ : ∃ j, k = j + 1 := ⟨k - 1, by omega⟩
      have hst := upL_drop (l := bs) (j := j) (by omega)
      have hxl : (bs.getD j 0).toNat < 256 := (bs.getD j 0).toNat_lt
      have hlt := upL_lt (bs.drop (j + 1))
      have hlt2 := upL_lt (bs.drop j)
      have hl1 : 256 ^ (bs.drop (j + 1)).length ≤ 256 ^ 7 := Nat.pow_le_pow_right (by omega) (by simp; omega)
      have hl2 : 256 ^ (bs.drop j).length ≤ 256 ^ 8 := Nat.pow_le_pow_right (by omega) (by simp; omega)
      have he : ∀ h : j < (⟨bs.toArray⟩ : ByteArray).size, (⟨bs.toArray⟩ : ByteArray)[j].toNat = (bs.getD j 0).toNat := fun h => by
        rw [List.getD_eq_getElem?_getD, List.getElem?_eq_getElem (by omega)]
        rfl
      generalize (bs.getD j 0).toNat = x at *
      generalize upL (bs.drop (j + 1)) = y at *
      have hy : y < 72057594037927936 := Nat.lt_of_lt_of_le hlt hl1
      have HOR := Lib.hid (or_step (v := y) hxl hy)
      have HST := Lib.hid hst
      have HE := Lib.hid he
      have w2 : IntKind.u64.wrap (x : Int) = (x : Int) := by rw [IntKind.wrap_u64]; omega
      have W2 := Lib.hid w2
      clear hlt hlt2 hl1 hl2 hst he w2
      go_wp2_with fail
      go_round
      case rel => exact ⟨j, by omega, rfl, by rw [HE.out, W2.out, HOR.out, HST.out]⟩
      case measure => simp [intOf]
    · have : k = 0 := by omega
      subst this
      go_wp2_with fail
      go_ret
      exact ⟨rfl, rfl⟩

/-- The document's sum, bit by bit: what stands after k bits of x. -/
def refBits (k c x : Nat) : Nat := crcBits k (c ^^^ x) ^^^ (x / 2 ^ k)
theorem refBits_zero (c x : Nat) : refBits 0 c x = c := by
  unfold refBits crcBits
  rw [Nat.pow_zero, Nat.div_one, Nat.xor_assoc, Nat.xor_self, Nat.xor_zero]
theorem refBits_bit (k c x : Nat) : (refBits k c x ^^^ (x / 2 ^ k)) = crcBits k (c ^^^ x) := by
  unfold refBits
  rw [Nat.xor_assoc, Nat.xor_self, Nat.xor_zero]
theorem xor_half (a b : Nat) : (a ^^^ b) / 2 = a / 2 ^^^ b / 2 := by
  have h := Nat.shiftRight_xor_distrib (a := a) (b := b) (i := 1)
  rw [Nat.shiftRight_eq_div_pow, Nat.shiftRight_eq_div_pow, Nat.shiftRight_eq_div_pow] at h
  exact h
theorem refBits_succ (k c x : Nat) : refBits (k + 1) c x = if crcBits k (c ^^^ x) % 2 = 1 then (refBits k c x / 2) ^^^ 2197175160 else refBits k c x / 2 := by
  have e : x / 2 ^ (k + 1) = x / 2 ^ k / 2 := by rw [Nat.div_div_eq_div_mul, Nat.pow_succ]
  unfold refBits
  rw [show crcBits (k + 1) (c ^^^ x) = crcBit (crcBits k (c ^^^ x)) from rfl, e]
  generalize crcBits k (c ^^^ x) = y
  generalize x / 2 ^ k = z
  unfold crcBit
  split
  · rw [xor_half, Nat.xor_assoc, Nat.xor_assoc, Nat.xor_comm 2197175160]
  · rw [xor_half]
theorem refBits_eight {c x : Nat} (h : x < 256) : refBits 8 c x = crcBits 8 (c ^^^ x) := by
  unfold refBits
  rw [Nat.div_eq_of_lt (by omega), Nat.xor_zero]
theorem refBits_lt {c x : Nat} (hc : c < 4294967296) (hx : x < 256) (k : Nat) : refBits k c x < 4294967296 :=
  xor_lt32 (crcBits_lt (xor_lt32 hc (by omega)) k) (Nat.lt_of_le_of_lt (Nat.div_le_self _ _) (by omega))

set_option maxRecDepth 100000 in
set_option maxHeartbeats 1000000 in
theorem refMore_eq {w : World} {v : Value} {bs : List UInt8} (h : RdB w v bs) (hn : bs.length ≤ 1000000000) :
    Calls Try.prog 104 #[.int .u32 0, v] w fun e w' => e = .returned (.int .u32 (crcL bs : Nat)) ∧ w = w' := by
  obtain ⟨a, cap, rfl, hc⟩ := h
  have HC := Lib.hid hc
  have hnot : bits .xor .u32 0 4294967295 = ((4294967295 : Nat) : Int) := by
    have := u32_xor_nat 0 4294967295 (by omega) (by omega)
    exact this
  have hfin : bits .xor .u32 (crcTo 4294967295 bs : Nat) 4294967295 = ((crcL bs : Nat) : Int) := by
    have := u32_xor_nat (crcTo 4294967295 bs) 4294967295 (crcTo_lt (by omega) bs) (by omega)
    exact this
  have HNOT := Lib.hid hnot
  have HFIN := Lib.hid hfin
  clear hnot hfin hc
  go_enter Try.func104, Try.ntmps104
  go_wp2_with fail
  rw [HNOT.out]
  go_loop [5, 6, 7, 8] (fun c i _ _ => ∃ k : Nat, k ≤ bs.length ∧ i = .int .i64 k ∧ c = .int .u32 (crcTo 4294967295 (bs.take k) : Nat)) (fun _ i _ _ => bs.length - (intOf i).toNat)
  case atStart => exact ⟨0, Nat.zero_le _, rfl, rfl⟩
  case round =>
    obtain ⟨k, hk, rfl, rfl⟩ := hrel
    by_cases hlt : k < bs.length
    · obtain ⟨g, o, rfl, hcell⟩ := HC.out (by omega)
      have hx := hcell k hlt
      have hsn := crcTo_snoc 4294967295 (bs.take k) (bs.getD k 0)
      rw [← take_snoc' hlt] at hsn
      have hlc := crcTo_lt (c := 4294967295) (by omega) (bs.take k)
      have HLC := Lib.hid hlc
      have HSN := Lib.hid hsn
      generalize crcTo 4294967295 (bs.take k) = c at *
      have hxl : (bs.getD k 0).toNat < 256 := (bs.getD k 0).toNat_lt
      unfold crcByte at HSN
      generalize (bs.getD k 0).toNat = x at *
      have HXL := Lib.hid hxl
      have hki : (k : Int) < (bs.length : Int) := by omega
      clear hsn hcell
      go_wp2_with fail
      go_loop [5, 7, 8] (fun c' j _ => ∃ j' : Nat, j' ≤ 8 ∧ j = .int .i64 j' ∧ c' = .int .u32 (refBits j' c x : Nat)) (fun _ j _ => 8 - (intOf j).toNat)
      case atStart => exact ⟨0, Nat.zero_le _, rfl, by rw [refBits_zero]⟩
      case round =>
        obtain ⟨j, hj, rfl, rfl⟩ := hrel
        by_cases hj8 : j < 8
        · have hji : (j : Int) < 8 := by omega
          have hxs : (x : Int) / 2 ^ j % 4294967296 = ((x / 2 ^ j : Nat) : Int) := by
            have h1 : x / 2 ^ j < 4294967296 := Nat.lt_of_le_of_lt (Nat.div_le_self _ _) (by omega)
            have h2 : (x : Int) / 2 ^ j = ((x / 2 ^ j : Nat) : Int) := by
              rw [Int.natCast_ediv, Int.natCast_pow]
              rfl
            rw [h2]
            generalize x / 2 ^ j = z at *
            omega
          have hrl := refBits_lt HLC.out HXL.out j
          have hbit : bits .and .u32 (bits .xor .u32 (refBits j c x : Nat) ((x : Int) / 2 ^ j % 4294967296)) 1 = ((crcBits j (c ^^^ x) % 2 : Nat) : Int) := by
            rw [hxs, u32_xor_nat _ _ hrl (Nat.lt_of_le_of_lt (Nat.div_le_self _ _) (by omega)), refBits_bit]
            have := u32_and_nat (crcBits j (c ^^^ x)) 1 (crcBits_lt (xor_lt32 HLC.out (by omega)) j) (by omega)
            rw [Nat.and_one_is_mod] at this
            exact this
          have hxo : bits .xor .u32 ((refBits j c x : Nat) / 2 : Int) 2197175160 = (((refBits j c x) / 2 ^^^ 2197175160 : Nat) : Int) := u32_xor_nat (refBits j c x / 2) 2197175160 (by omega) (by omega)
          have hsc := refBits_succ j c x
          have HSC := Lib.hid hsc
          have HXO := Lib.hid hxo
          clear hxs hsc hxo
          rcases Nat.mod_two_eq_zero_or_one (crcBits j (c ^^^ x)) with h2 | h2
          · have hb0 : (bits .and .u32 (bits .xor .u32 (refBits j c x : Nat) ((x : Int) / 2 ^ j % 4294967296)) 1 == 1) = false := by rw [hbit, h2]; rfl
            have H2 := Lib.hid h2
            clear hbit h2
            go_wp2_with fail
            go_round
            case rel => exact ⟨j + 1, by omega, by go_num, by rw [HSC.out, H2.out]; rfl⟩
            case measure => simp [intOf]; omega
          · have hb0 : (bits .and .u32 (bits .xor .u32 (refBits j c x : Nat) ((x : Int) / 2 ^ j % 4294967296)) 1 == 1) = true := by rw [hbit, h2]; rfl
            have H2 := Lib.hid h2
            clear hbit h2
            go_wp2_with fail
            go_round
            case rel => exact ⟨j + 1, by omega, by go_num, by rw [HSC.out, H2.out, HXO.out]; rfl⟩
            case measure => simp [intOf]; omega
        · have hj9 : j = 8 := by omega
          subst hj9
          go_wp2_with fail
          go_round
          case rel =>
            refine ⟨k + 1, by omega, by omega, ?_⟩
            rw [HSN.out, refBits_eight HXL.out]
          case measure => simp [intOf]; omega
    · have hk2 : k = bs.length := by omega
      subst hk2
      have e : bs.take bs.length = bs := List.take_length
      have E := Lib.hid e
      have hfin := HFIN.out
      rw [← e] at hfin
      clear e
      go_wp2_with fail
      go_ret
      rw [HFIN.out]
      exact ⟨rfl, rfl⟩

theorem refCrc_eq {w : World} {v : Value} {bs : List UInt8} (h : RdB w v bs) (hn : bs.length ≤ 1000000000) :
    Calls Try.prog 93 #[v] w fun e w' => e = .returned (.int .u32 (crcL bs : Nat)) ∧ w = w' := by
  have H := Lib.hid h
  obtain ⟨a, cap, rfl, _⟩ := h
  go_enter Try.func93, Try.ntmps93
  go_wp2_with fail
  refine (refMore_eq H.out hn).mono ?_
  rintro e _ ⟨rfl, rfl⟩
  go_wp2_with fail
  go_ret
  exact ⟨rfl, rfl⟩

theorem bytesWorld_fr (w : World) (e : TypeId) (s : ByteArray) : Fr Nob w (Lib.bytesWorld w e s) :=
  ⟨rfl, rfl, rfl, by rw [Lib.bytesWorld_size]; omega, fun k hk _ => Lib.bytesWorld_at_old w e s k hk⟩
theorem bytesWorld_rd (w : World) (bs : List UInt8) (cap : Nat) : RdB (Lib.bytesWorld w 5 ⟨bs.toArray⟩) (.slice (some ⟨w.heap.size, 0, none⟩) bs.length cap) bs :=
  ⟨_, _, rfl, fun _ => ⟨_, _, rfl, fun j hj => by
    have := Lib.bytesWorld_cell w 5 ⟨bs.toArray⟩ j (by show j < bs.toArray.size; simpa using hj)
    rw [Nat.zero_add]
    exact this⟩⟩

set_option maxRecDepth 100000 in
theorem textCrc_eq {w : World} {bs : List UInt8} (hn : bs.length ≤ 1000000) :
    Calls Try.prog 68 #[.string ⟨bs.toArray⟩] w fun e w' => e = .returned (.int .u64 (crcL bs : Nat)) ∧ Fr Nob w w' := by
  have CV := Lib.run_convert_string_bytes (P := Try.prog) w 9 34 5 ⟨bs.toArray⟩ Try.underlying9 Try.underlying34 Try.underlying5
  have hs : (⟨bs.toArray⟩ : ByteArray).size = bs.length := by simp [ByteArray.size]
  rw [hs] at CV
  have F := Lib.hid (bytesWorld_fr w 5 ⟨bs.toArray⟩)
  have R := Lib.hid (bytesWorld_rd w bs (grownCap w bs.length 0 5))
  have hl := crcL_lt bs
  generalize Lib.bytesWorld w 5 ⟨bs.toArray⟩ = w1 at *
  generalize grownCap w bs.length 0 5 = c at *
  go_enter Try.func68, Try.ntmps68
  go_wp2_with fail
  refine (refCrc_eq R.out (by omega)).mono ?_
  rintro e _ ⟨rfl, rfl⟩
  have hw : IntKind.u64.wrap ((crcL bs : Nat) : Int) = ((crcL bs : Nat) : Int) := by rw [IntKind.wrap_u64]; omega
  go_wp2_with fail
  go_ret
  exact ⟨rfl, F.out⟩

end Go.Proofs.Ytpdljgjofebgpaa
