/-
  The law EventKnown, walked.
-/
import Derived.Test.YthfhlbnjahakaaaDoorEvAw
namespace Go.Proofs.YthfhlbnjahakaaaDoor
open Go.RowKit

set_option maxHeartbeats 8000000 in
set_option maxRecDepth 100000 in
theorem eventKnown_walk (w : World) : Calls Tryd.prog 3 #[] w fun e w' => e = .returned (.bool true) ∧ Fr Nob w w' := by
  go_enter Tryd.func3, Tryd.ntmps3
  go_wp2_with fail
  refine (awake_ok w).mono ?_
  rintro e w1 ⟨rfl, f1⟩
  have F1 := Lib.hid f1
  clear f1
  go_wp2_with fail
  refine (nameF_none ⟨#[119, 104, 97, 116]⟩ ⟨#[]⟩ ⟨#[]⟩ (.slice none 0 0) 0 0 0 0 false false false false none_what).mono ?_
  rintro e w2 ⟨rfl, f2⟩
  have F2 := Lib.hid (F1.out.trans' f2)
  clear F1 f2
  go_wp2_with fail
  refine (nameF_bad ⟨#[]⟩ ⟨#[]⟩ (.slice none 0 0) 0 0 0 0 false false false false).mono ?_
  rintro e w3 ⟨rfl, f3⟩
  have F3 := Lib.hid (F2.out.trans' f3)
  clear F2 f3
  go_wp2_with fail
  refine (nameF_get ⟨#[]⟩ ⟨#[]⟩ (.slice none 0 0) 0 0 0 0 false true false false (RdS.nil w3) (by simp)).mono ?_
  rintro e w4 ⟨rfl, f4⟩
  rw [ng2]
  have F4 := Lib.hid (F3.out.trans' f4)
  clear F3 f4
  go_wp2_with fail
  refine (nameF_arith ⟨#[]⟩ ⟨#[]⟩ (.slice none 0 0) 0 0 0 0 false false true false (keyOf []) (RdS.nil w4) rfl).mono ?_
  rintro e w5 ⟨rfl, f5⟩
  rw [if_pos rfl]
  have F5 := Lib.hid (F4.out.trans' f5)
  clear F4 f5
  go_wp2_with fail
  refine (nameF_flush ⟨#[]⟩ ⟨#[]⟩ (.slice none 0 0) 0 0 0 0 false false false false).mono ?_
  rintro e w6 ⟨rfl, f6⟩
  have F6 := Lib.hid (F5.out.trans' f6)
  clear F5 f6
  go_wp2_with fail
  refine (nameF_delete ⟨#[]⟩ ⟨#[]⟩ (.slice none 0 0) 0 0 0 0 false false false false (keyOf []) (RdS.nil w6) rfl).mono ?_
  rintro e w7 ⟨rfl, f7⟩
  have F7 := Lib.hid (F6.out.trans' f7)
  clear F6 f7
  go_wp2_with fail
  refine (good_bad ⟨#[]⟩ ⟨#[]⟩ (.slice none 0 0) 0 0 0 0 false false false false).mono ?_
  rintro e w8 ⟨rfl, f8⟩
  have F8 := Lib.hid ((F7.out.trans' f8).trans' (frB (.cells #[.string ⟨#[97]⟩] 9)))
  clear F7 f8
  go_wp2_with fail
  refine (keysF_word ⟨#[]⟩ ⟨#[]⟩ _ 0 0 0 0 false false false false).mono ?_
  rintro e w9 ⟨rfl, f9⟩
  have F9 := Lib.hid (F8.out.trans' f9)
  clear F8 f9
  go_wp2_with fail
  refine (quietF_get ⟨#[]⟩ ⟨#[]⟩ (.slice none 0 0) 0 0 0 0 false false false true (RdS.nil w9) (by simp)).mono ?_
  rintro e w10 ⟨rfl, f10⟩
  have F10 := Lib.hid (F9.out.trans' f10)
  clear F9 f10
  go_wp2_with fail
  go_ret
  exact ⟨rfl, F10.out⟩
end Go.Proofs.YthfhlbnjahakaaaDoor
