/-
  The table in memory: chains of entries, rows of their heads; contracts of Hash, slot, find.
-/
import Derived.Test.YtpbbokpmlemboaaTabP
import Derived.Laws.BitsAllLaws
namespace Go.Proofs.Ytpbbokpmlemboaa.Tb
open Go.RowKit

theorem hstep_eq (h : Nat) (x : UInt8) (hh : h < 18446744073709551616) : IntKind.u64.wrap (bits .xor .u64 (h : Int) (x.toNat : Int) * 1099511628211) = ((hstep h x : Nat) : Int) := by
  have hx := x.toNat_lt
  rw [u64_xor_nat h x.toNat hh (by omega), IntKind.wrap_u64]
  unfold hstep
  omega

set_option maxHeartbeats 1000000 in
set_option maxRecDepth 100000 in
theorem fold_eq {w : World} (k : ByteArray) (h : Nat) (hh : h < 18446744073709551616) (hs : k.size < 9223372036854775808) :
    Calls Try.prog 69 #[.int .u64 h, .string k] w fun e w' => e = .returned (.int .u64 (foldN k.data.toList h : Nat)) ∧ w = w' := by
  have HSZ := Lib.hid (show k.size = k.data.toList.length by rw [Array.length_toList]; rfl)
  go_enter Try.func69, Try.ntmps69
  go_wp2_with fail
  go_loop [0, 5] (fun c i => ∃ j : Nat, j ≤ k.size ∧ i = .int .i64 j ∧ c = .int .u64 (foldN (k.data.toList.take j) h : Nat)) (fun _ i => k.size - (intOf i).toNat)
  case atStart => exact ⟨0, Nat.zero_le _, rfl, rfl⟩
  case round =>
    obtain ⟨j, hj, rfl, rfl⟩ := hrel
    by_cases hlt : j < k.size
    · have hg : j < k.data.toList.length := by rw [← HSZ.out]; exact hlt
      have hsn : foldN (k.data.toList.take (j + 1)) h = hstep (foldN (k.data.toList.take j) h) (k.data.toList[j]) := by
        unfold foldN; rw [List.take_add_one, List.getElem?_eq_getElem hg, List.foldl_append, Option.toList_some, List.foldl_cons, List.foldl_nil]
      have hlt2 := hfold_lt (k.data.toList.take j) h hh
      obtain ⟨x, hxx⟩ : ∃ x, x = k.data.toList[j] := ⟨_, rfl⟩
      have he : ∀ h : j < k.size, k[j].toNat = x.toNat := fun h => by rw [hxx]; rfl
      rw [← hxx] at hsn
      generalize foldN (k.data.toList.take j) h = c at *
      have HE := Lib.hid he
      have HS := Lib.hid hsn
      have HC := Lib.hid (hstep_eq c x hlt2)
      have hx := x.toNat_lt
      have w2 : IntKind.u64.wrap (x.toNat : Int) = (x.toNat : Int) := by rw [IntKind.wrap_u64]; omega
      have W2 := Lib.hid w2
      clear he hsn w2 hxx hg
      go_wp2_with fail
      go_round
      case rel => exact ⟨j + 1, by omega, by go_num, by rw [HE.out, W2.out, HC.out, HS.out]⟩
      case measure => simp [intOf]; omega
    · have : j = k.size := by omega
      subst this
      go_wp2_with fail
      go_ret
      rw [HSZ.out, List.take_length]
      exact ⟨rfl, rfl⟩
theorem hash_eq {w : World} (k : ByteArray) (hs : k.size < 9223372036854775808) :
    Calls Try.prog 61 #[.string k] w fun e w' => e = .returned (.int .u64 (hashK k : Nat)) ∧ w = w' := by
  go_enter Try.func61, Try.ntmps61
  go_wp2_with fail
  refine (fold_eq (w := w) k 14695981039346656037 (by omega) hs).mono ?_
  rintro e w' ⟨rfl, rfl⟩
  go_wp2_with fail
  go_ret
  exact ⟨rfl, rfl⟩

end Go.Proofs.Ytpbbokpmlemboaa.Tb
