/-
  event: words.Key at any string: spelt, the loop over the runes.
-/
import Derived.Test.YthfhlbnjahakaaaDoorEvE
import Derived.Test.YthfhlbnjahakaaaDoorShelfE
import Derived.Lib.RuneCountTail
import Derived.Lib.OthersKept
import Derived.Lib.TrimU
import Derived.Deep.LoopGhost
namespace Go.Proofs.YthfhlbnjahakaaaDoor
open Go.RowKit

def okR (s : ByteArray) (pos : Nat) : Bool := !((Utf8.decode s pos).1 == 65533 && (Utf8.decode s pos).2 == 1)
def badR (r : Nat) : Bool := decide (r ≤ 32) || (decide (127 ≤ r) && decide (r ≤ 160)) || r == 8232 || r == 8233
def keyL (s : ByteArray) : Nat → Nat → Bool
  | 0, _ => true
  | g + 1, pos => if pos < s.size then (if !okR s pos || badR (Utf8.decode s pos).1 then false else keyL s g (pos + (Utf8.decode s pos).2)) else true
def keyB (s : ByteArray) : Bool := decide (1 ≤ s.size) && decide (s.size ≤ 250) && keyL s s.size 0
theorem keyL_end (s : ByteArray) (g pos : Nat) (h : ¬ pos < s.size) : keyL s g pos = true := by
  cases g <;> simp [keyL, h]

abbrev U8 (w : World) : Prop := Lib.Utf8Tabs 0 1 w
theorem U8.fr {w w' : World} (h : U8 w) (f : Fr Nob w w') : U8 w' :=
  ⟨fun c hc => f.cell (h.1 c hc) fun h => h, fun i hi => ⟨f.cell (h.2 i hi).1 fun h => h, f.cell (h.2 i hi).2 fun h => h⟩⟩

set_option maxHeartbeats 4000000 in
set_option maxRecDepth 100000 in
theorem spelt_eq {w : World} (s : ByteArray) (pos : Nat) (hp : pos < s.size) (hU : U8 w) :
    Calls Tryd.prog 32 #[.string s, .int .i64 (pos : Int), .int .i32 ((Utf8.decode s pos).1 : Int)] w fun e w' => e = .returned (.bool (okR s pos)) ∧ Hid (Fr Nob w w') := by
  have hd : Lib.decodeGo (s.extract pos s.size) = Utf8.decode s pos := by
    have h0 := Lib.tail_size s pos
    unfold Lib.decodeGo
    rw [if_neg (by omega), Lib.tail_decode, Nat.add_zero]
  have cD : Calls Tryd.prog 34 _ _ _ := Any.utf8_DecodeRuneInString (P := Tryd.prog) (ρ := decR_ren) decR (s.extract pos s.size) w hU
  rw [hd] at cD
  have hw := Lib.decode_width_pos s pos hp
  have hle := Lib.rune_le s pos
  unfold okR
  obtain ⟨R, hR⟩ : ∃ R, (Utf8.decode s pos).1 = R := ⟨_, rfl⟩
  obtain ⟨K, hK⟩ : ∃ K, (Utf8.decode s pos).2 = K := ⟨_, rfl⟩
  rw [hR, hK] at cD
  rw [hK] at hw
  rw [hR] at hle
  rw [hR, hK]
  have fr0 := Lib.hid (Fr.refl Nob w)
  clear hd hR hK
  by_cases h1 : R = 65533
  · subst h1
    by_cases h2 : K = 1
    · subst h2
      go_enter Tryd.func32, Tryd.ntmps32
      go_wp2_with (go_at_call 34; refine cD.mono ?_; rintro e w' ⟨rfl, hb⟩; have F1 := Lib.hid (Fr.of_below hb); clear hb)
      go_ret
      exact ⟨rfl, F1⟩
    · have h3 : (1 : Int) < (K : Int) := by omega
      have h4 : (K == 1) = false := by simpa using h2
      go_enter Tryd.func32, Tryd.ntmps32
      go_wp2_with (go_at_call 34; refine cD.mono ?_; rintro e w' ⟨rfl, hb⟩; have F1 := Lib.hid (Fr.of_below hb); clear hb)
      go_ret
      exact ⟨by rw [h4]; rfl, F1⟩
  · have h4 : (R == 65533) = false := by simpa using h1
    have h5 : ((R : Int) == 65533) = false := by simpa using (by omega : ¬ (R : Int) = 65533)
    clear cD
    go_enter Tryd.func32, Tryd.ntmps32
    go_wp2_with fail
    go_ret
    exact ⟨by rw [h4]; rfl, fr0⟩
end Go.Proofs.YthfhlbnjahakaaaDoor
