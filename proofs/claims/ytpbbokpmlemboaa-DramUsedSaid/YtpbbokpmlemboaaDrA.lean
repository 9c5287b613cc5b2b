/-
  dram: items; contracts of rec.Good and rec.Size.
-/
import Derived.Test.YtpbbokpmlemboaaBase
namespace Go.Proofs.Ytpbbokpmlemboaa
open Go.RowKit

/-- An item: key, value, flags, time, version. -/
structure It where
  key : ByteArray
  val : ByteArray
  flags : Int
  exp : Int
  ver : Int
def itCs (x : It) : Array Value := #[.string x.key, .string x.val, .int .u32 x.flags, .int .i64 x.exp, .int .u64 x.ver]
def goodI (x : It) : Bool := decide (1 ≤ x.key.size) && decide (x.key.size ≤ 250) && decide (x.val.size ≤ 1024) && decide (0 < x.ver)
def sizeI (x : It) : Nat := 32 + x.key.size + x.val.size

set_option maxHeartbeats 2000000 in
set_option maxRecDepth 100000 in
theorem rsize_eq {w : World} (a b : ByteArray) (f e v : Int) (ha : a.size ≤ 1000000000) (hb : b.size ≤ 1000000000) :
    Calls Try.prog 26 #[.agg #[.string a, .string b, .int .u32 f, .int .i64 e, .int .u64 v]] w fun x w' => x = .returned (.int .i64 ((32 + a.size + b.size : Nat) : Int)) ∧ Fr Nob w w' := by
  have f1 : Hid (Fr Nob w (w.alloc (.cells #[.string a, .string b, .int .u32 f, .int .i64 e, .int .u64 v] 33))) := Lib.hid ((Fr.refl Nob w).alloc _)
  go_enter Try.func26, Try.ntmps26
  go_wp2_with fail
  go_ret
  exact ⟨ret_int (by omega), f1.out⟩

set_option maxHeartbeats 2000000 in
set_option maxRecDepth 100000 in
theorem rgood_eq {w : World} (a b : ByteArray) (f e v : Int) :
    Calls Try.prog 24 #[.agg #[.string a, .string b, .int .u32 f, .int .i64 e, .int .u64 v]] w fun x w' => x = .returned (.bool (goodI ⟨a, b, f, e, v⟩)) ∧ Fr Nob w w' := by
  have f1 : Hid (Fr Nob w (w.alloc (.cells #[.string a, .string b, .int .u32 f, .int .i64 e, .int .u64 v] 33))) := Lib.hid ((Fr.refl Nob w).alloc _)
  unfold goodI
  by_cases h1 : 1 ≤ a.size
  · by_cases h2 : a.size ≤ 250
    · by_cases h3 : b.size ≤ 1024
      · by_cases h4 : 0 < v
        all_goals
          have q1 : (1 : Int) ≤ (a.size : Int) := by omega
          have q2 : (a.size : Int) ≤ 250 := by omega
          have q3 : (b.size : Int) ≤ 1024 := by omega
          go_enter Try.func24, Try.ntmps24
          go_wp2_with fail
          go_ret
          exact ⟨ret_bool (by simp [h1, h2, h3, h4]), f1.out⟩
      · have q1 : (1 : Int) ≤ (a.size : Int) := by omega
        have q2 : (a.size : Int) ≤ 250 := by omega
        have q3 : ¬ (b.size : Int) ≤ 1024 := by omega
        go_enter Try.func24, Try.ntmps24
        go_wp2_with fail
        go_ret
        exact ⟨ret_bool (by simp), f1.out⟩
    · have q1 : (1 : Int) ≤ (a.size : Int) := by omega
      have q2 : ¬ (a.size : Int) ≤ 250 := by omega
      go_enter Try.func24, Try.ntmps24
      go_wp2_with fail
      go_ret
      exact ⟨ret_bool (by simp), f1.out⟩
  · have q1 : ¬ (1 : Int) ≤ (a.size : Int) := by omega
    go_enter Try.func24, Try.ntmps24
    go_wp2_with fail
    go_ret
    exact ⟨ret_bool (by simp), f1.out⟩
end Go.Proofs.Ytpbbokpmlemboaa
