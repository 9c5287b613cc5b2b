/-
  event: words.Key at any string.
-/
import Derived.Test.YthfhlbnjahakaaaDoorEvKA
namespace Go.Proofs.YthfhlbnjahakaaaDoor
open Go.RowKit

theorem len_i {a b : Nat} : ((a : Int) < (b : Int)) = (a < b) := by simp
set_option maxHeartbeats 8000000 in
set_option maxRecDepth 100000 in
theorem wkey_eq {w : World} (s : ByteArray) (hs : s.size ≤ 9223372036854775807) (hU : U8 w) :
    Calls Tryd.prog 24 #[.string s] w fun e w' => e = .returned (.bool (keyB s)) ∧ Hid (Fr Nob w w') := by
  have fr0 := Lib.hid (Fr.refl Nob w)
  have hn : ∀ ty, (Instr.next (.pointer (some ⟨w.heap.size, 0, none⟩)) true ty).run Tryd.prog w = (Instr.next (.pointer (some ⟨w.heap.size, 0, none⟩)) true ty).run Tryd.prog w := fun _ => rfl
  clear hn
  by_cases h1 : s.size < 1
  · have e : keyB s = false := by
      have : decide (1 ≤ s.size) = false := decide_eq_false (by omega)
      simp [keyB, this]
    have h1' : (s.size : Int) < 1 := by omega
    rw [e]
    clear hU
    go_enter Tryd.func24, Tryd.ntmps24
    go_wp2_with fail
    go_ret
    exact ⟨rfl, fr0⟩
  by_cases h2 : 250 < s.size
  · have e : keyB s = false := by
      have : decide (s.size ≤ 250) = false := decide_eq_false (by omega)
      simp [keyB, this]
    have h1' : ¬ (s.size : Int) < 1 := by omega
    have h2' : (250 : Int) < (s.size : Int) := by omega
    rw [e]
    clear hU
    go_enter Tryd.func24, Tryd.ntmps24
    go_wp2_with fail
    go_ret
    exact ⟨rfl, fr0⟩
  replace hs : s.size ≤ 1000000000 := by omega
  have e : keyB s = keyL s s.size 0 := by
    have h1' : decide (1 ≤ s.size) = true := decide_eq_true (by omega)
    have h2' : decide (s.size ≤ 250) = true := decide_eq_true (by omega)
    simp [keyB, h1', h2']
  rw [e]
  have h1' : ¬ (s.size : Int) < 1 := by omega
  have h2' : ¬ (250 : Int) < (s.size : Int) := by omega
  obtain ⟨Y, hY⟩ : ∃ Y, keyL s s.size 0 = Y := ⟨_, rfl⟩
  rw [hY]
  clear e h1 h2
  go_enter Tryd.func24, Tryd.ntmps24
  go_wp2_with fail
  go_loopg [3, 4] s.size (fun gf _ _ wx => ∃ pos : Nat, wx.heap[w.heap.size]? = some (.stringIter s pos) ∧ Hid (Below w.heap.size w wx) ∧ Hid (keyL s gf pos = Y) ∧ s.size ≤ pos + gf)
  case atStart => exact ⟨0, World.iter_heap w s 0, Lib.hid ((Below.refl _ w).alloc (Nat.le_refl _) _), Lib.hid hY, by omega⟩
  case round =>
    obtain ⟨pos, hit, hbw, hleft, hfu⟩ := hrel
    by_cases hps : pos < s.size
    · obtain ⟨g', rfl⟩ : ∃ g', gk = g' + 1 := ⟨gk - 1, by omega⟩
      have hnx : ∀ ty, (Instr.next (.pointer (some ⟨w.heap.size, 0, none⟩)) true ty).run Tryd.prog wr = _ := fun ty => Lib.run_next_any_at wr w.heap.size s pos ty hit hps
      have hwd := Lib.decode_width_pos s pos hps
      have hrl := Lib.rune_le s pos
      have cS := fun (W : World) (hU : U8 W) => spelt_eq (w := W) s pos hps hU
      have hl2 := hleft.out
      unfold keyL at hl2
      rw [if_pos hps] at hl2
      obtain ⟨O, hO⟩ : ∃ O, okR s pos = O := ⟨_, rfl⟩
      obtain ⟨R, hR⟩ : ∃ R, (Utf8.decode s pos).1 = R := ⟨_, rfl⟩
      obtain ⟨K, hK⟩ : ∃ K, (Utf8.decode s pos).2 = K := ⟨_, rfl⟩
      simp only [hO, hR, hK] at hl2 cS hnx hwd hrl
      have hit2 := Lib.iterAt_heap wr w.heap.size s pos (pos + K) hit
      have hbw2 := Lib.below_iterAt hbw.out (k := w.heap.size) (Nat.le_refl _) s (pos + K)
      obtain ⟨W, hWd⟩ : ∃ W, wr.iterAt w.heap.size s (pos + K) = W := ⟨_, rfl⟩
      rw [hWd] at hnx hit2 hbw2
      have hltW : w.heap.size < W.heap.size := (Array.getElem?_eq_some_iff.1 hit2).1
      have cS := cS W (hU.fr (Fr.of_below hbw2))
      have hbw3 := Lib.hid hbw2
      have hl3 := Lib.hid hl2
      clear hl2 hleft hbw hbw2 hO hR hK hU hit hWd
      have hps' := Lib.hid hps
      have hfu' := Lib.hid hfu
      have hlt' := Lib.hid hltW
      have hit' := Lib.hid hit2
      clear hps hfu hltW hit2 hY
      cases O
      · have hY : Y = false := by have := hl3.out; simpa using this.symm
        subst hY
        go_wp2_with (go_at_call 32; refine cS.mono ?_; rintro e W' ⟨rfl, hbc⟩)
        go_ret
        exact ⟨rfl, Lib.hid (Fr.of_below (hbw3.out.trans (hbc.out.nob_below.mono hbw3.out.size)))⟩
      by_cases g1 : R ≤ 32
      · have hY : Y = false := by have := hl3.out; simp [badR, g1] at this; first | exact this | exact this.symm
        subst hY
        have g1' : (R : Int) ≤ 32 := by omega
        go_wp2_with (go_at_call 32; refine cS.mono ?_; rintro e W' ⟨rfl, hbc⟩)
        go_ret
        exact ⟨rfl, Lib.hid (Fr.of_below (hbw3.out.trans (hbc.out.nob_below.mono hbw3.out.size)))⟩
      have g1' : ¬ (R : Int) ≤ 32 := by omega
      by_cases g2 : 127 ≤ R
      · have g2' : (127 : Int) ≤ (R : Int) := by omega
        by_cases g3 : R ≤ 160
        · have g3' : (R : Int) ≤ 160 := by omega
          have hY : Y = false := by have := hl3.out; simp [badR, g2, g3] at this; first | exact this | exact this.symm
          subst hY
          go_wp2_with (go_at_call 32; refine cS.mono ?_; rintro e W' ⟨rfl, hbc⟩)
          go_ret
          exact ⟨rfl, Lib.hid (Fr.of_below (hbw3.out.trans (hbc.out.nob_below.mono hbw3.out.size)))⟩
        have g3' : ¬ (R : Int) ≤ 160 := by omega
        by_cases g4 : R = 8232
        · subst g4
          have hY : Y = false := by have := hl3.out; simp [badR] at this; first | exact this | exact this.symm
          subst hY
          go_wp2_with (go_at_call 32; refine cS.mono ?_; rintro e W' ⟨rfl, hbc⟩)
          go_ret
          exact ⟨rfl, Lib.hid (Fr.of_below (hbw3.out.trans (hbc.out.nob_below.mono hbw3.out.size)))⟩
        have g4' : ((R : Int) == 8232) = false := by simpa using (by omega : ¬ (R : Int) = 8232)
        by_cases g5 : R = 8233
        · subst g5
          have hY : Y = false := by have := hl3.out; simp [badR] at this; first | exact this | exact this.symm
          subst hY
          go_wp2_with (go_at_call 32; refine cS.mono ?_; rintro e W' ⟨rfl, hbc⟩)
          go_ret
          exact ⟨rfl, Lib.hid (Fr.of_below (hbw3.out.trans (hbc.out.nob_below.mono hbw3.out.size)))⟩
        have g5' : ((R : Int) == 8233) = false := by simpa using (by omega : ¬ (R : Int) = 8233)
        go_wp2_with (go_at_call 32; refine cS.mono ?_; rintro e W' ⟨rfl, hbc⟩)
        go_roundg g'
        case measure => omega
        case rel => exact ⟨pos + K, (hbc.out.nob_below.block _ hlt'.out).trans hit'.out, Lib.hid (hbw3.out.trans (hbc.out.nob_below.mono hbw3.out.size)), Lib.hid (by have := hl3.out; simp [badR, g1, g3, g4, g5] at this; exact this), by have := hfu'.out; omega⟩
      · have g2' : ¬ (127 : Int) ≤ (R : Int) := by omega
        have g4' : ((R : Int) == 8232) = false := by simpa using (by omega : ¬ (R : Int) = 8232)
        have g5' : ((R : Int) == 8233) = false := by simpa using (by omega : ¬ (R : Int) = 8233)
        go_wp2_with (go_at_call 32; refine cS.mono ?_; rintro e W' ⟨rfl, hbc⟩)
        go_roundg g'
        case measure => omega
        case rel => exact ⟨pos + K, (hbc.out.nob_below.block _ hlt'.out).trans hit'.out, Lib.hid (hbw3.out.trans (hbc.out.nob_below.mono hbw3.out.size)), Lib.hid (by
          have := hl3.out
          have q1 : ¬ R = 8232 := by omega
          have q2 : ¬ R = 8233 := by omega
          simp [badR, g1, g2, q1, q2] at this; exact this), by have := hfu'.out; omega⟩
    · have hnx : ∀ ty, (Instr.next (.pointer (some ⟨w.heap.size, 0, none⟩)) true ty).run Tryd.prog wr = _ := fun ty => Lib.run_next_end_at wr w.heap.size s pos ty hit hps
      have hY2 : Y = true := by rw [← hleft.out]; exact keyL_end s gk pos hps
      subst hY2
      clear hU
      go_wp2
      go_ret
      exact ⟨rfl, Lib.hid (Fr.of_below hbw.out)⟩
end Go.Proofs.YthfhlbnjahakaaaDoor
