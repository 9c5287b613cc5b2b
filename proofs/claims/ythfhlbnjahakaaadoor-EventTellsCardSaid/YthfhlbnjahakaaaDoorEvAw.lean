/-
  The law's awake.
-/
import Derived.Test.YthfhlbnjahakaaaDoorEvE
namespace Go.Proofs.YthfhlbnjahakaaaDoor
open Go.RowKit

theorem none_empty : noWord ⟨#[]⟩ := by unfold noWord; decide +kernel
theorem none_what : noWord ⟨#[119, 104, 97, 116]⟩ := by unfold noWord; decide +kernel
theorem ng1 : nameG false true = ⟨#[103, 101, 116, 115]⟩ := rfl
theorem ng2 : nameG true false = ⟨#[103, 97, 116]⟩ := rfl
theorem rd_one {w : World} {g : Nat} {k : ByteArray} (h : w.heap[g]? = some (.cells #[.string k] 9 (0, 0))) : RdS w (.slice (some ⟨g, 0, none⟩) 1 1) [k] :=
  ⟨_, 1, rfl, Nat.le_refl _, fun _ => ⟨g, 0, rfl, fun j x hx => by
    match j, hx with
    | 0, hx => cases hx; exact cell_of_row w g 0 _ _ (0, 0) h⟩⟩

set_option maxHeartbeats 8000000 in
set_option maxRecDepth 100000 in
theorem awake_ok (w : World) : Calls Tryd.prog 8 #[] w fun e w' => e = .returned (.bool true) ∧ Fr Nob w w' := by
  have r1 : RdS (w.alloc (.cells #[.string ⟨#[97]⟩] 9)) (.slice (some ⟨w.heap.size, 0, none⟩) 1 1) [⟨#[97]⟩] := rd_one (heap_alloc_new w _)
  have K1 := Lib.hid (keysF_touch ⟨#[]⟩ ⟨#[]⟩ _ 0 0 0 0 false false false false ⟨#[97]⟩ r1 rfl)
  have F0 := Lib.hid (frB (w := w) (.cells #[.string ⟨#[97]⟩] 9))
  clear r1
  go_enter Tryd.func8, Tryd.ntmps8
  go_wp2_with fail
  refine K1.out.mono ?_
  rintro e w1 ⟨g, rfl, h1, f1, _⟩
  have F1 := Lib.hid (F0.out.trans' f1.out)
  clear K1 F0 f1
  go_wp2_with fail
  refine (nameF_get ⟨#[]⟩ ⟨#[]⟩ (.slice none 0 0) 0 0 0 0 true false false false (RdS.nil w1) (by simp)).mono ?_
  rintro e w2 ⟨rfl, f2⟩
  rw [ng1]
  have F2 := Lib.hid (F1.out.trans' f2)
  have H2 := Lib.hid (f2.heap h1.out fun h => h)
  clear F1 f2 h1
  go_wp2_with fail
  refine (nameF_none ⟨#[]⟩ ⟨#[]⟩ ⟨#[]⟩ (.slice none 0 0) 0 0 0 0 false false false false none_empty).mono ?_
  rintro e w3 ⟨rfl, f3⟩
  have F3 := Lib.hid (F2.out.trans' f3)
  have c3 : w3.cell? ⟨g, 0, none⟩ = some (.string ⟨#[97]⟩) := cell_of_row w3 g 0 _ _ (0, 0) (f3.heap H2.out fun h => h)
  clear F2 f3 H2
  go_wp2_with fail
  refine (quietF_flush ⟨#[]⟩ ⟨#[]⟩ (.slice none 0 0) 0 0 0 0 false false false true).mono ?_
  rintro e w4 ⟨rfl, f4⟩
  have F4 := Lib.hid (F3.out.trans' f4)
  clear F3 f4 c3
  go_wp2_with fail
  refine (good_quit ⟨#[]⟩ (.slice none 0 0) 0 0 0 0 false false false false).mono ?_
  rintro e w5 ⟨rfl, f5⟩
  have F5 := Lib.hid (F4.out.trans' f5)
  clear F4 f5
  go_wp2_with fail
  refine (good_get0 ⟨#[]⟩ ⟨#[]⟩ (.slice none 0 0) 0 0 0 0 false false false false (RdS.nil _)).mono ?_
  rintro e w6 ⟨rfl, f6⟩
  have F6 := Lib.hid (F5.out.trans' f6)
  clear F5 f6
  go_wp2_with fail
  go_ret
  exact ⟨rfl, F6.out⟩
end Go.Proofs.YthfhlbnjahakaaaDoor
