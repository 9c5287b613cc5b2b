/-
  Law 6: TombDone, walked.
-/
import Derived.Test.YtpdljgjofebgpaaTombIn
import Derived.Test.YtpdljgjofebgpaaTombQ
namespace Go.Proofs.Ytpdljgjofebgpaa
open Go.RowKit

theorem opened_whole {D : Dv} {first pages gen : Nat} {l : List Mk} (hg : gen < 18446744073709551616) (hl : l.length ≤ 23) (ho : ∀ m, m ∈ l → m.ok) (h0 : D.now first = .whole (pad (tpage gen l))) (h1 : D.now (first + 1) = .blank) (hp : 1 ≤ pages) :
    opened D first pages gen = ⟨first, pages, gen, 1, D.loss, noteL [] l⟩ := by
  obtain ⟨p, rfl⟩ : ∃ p, pages = p + 1 := ⟨pages - 1, by omega⟩
  unfold opened
  have h : openL D.now first gen (p + 1) 0 [] = (1, noteL [] l) := by
    rw [openL_some (bs := pad (tpage gen l)) (l := l) h0 (by unfold pad; rw [tread_page hg hl ho gen, if_pos rfl])]
    exact openL_blank h1
  rw [h]

section
variable {W w : World} {q : Nat} {K : Nat → Prop} {D : Dv} {j m : Nat} {J : Jn}
theorem JL.add_lost (a : JL W w q K D j m J) {v : Value} {l : List Mk} (hv : RdM w v l) (h0 : 0 < l.length) (hl : l.length ≤ 23) (hx : J.loss ≠ D.loss) :
    Calls Try.prog 50 #[.pointer (some ⟨j, 0, none⟩), v] w fun e w' => e = .returned (.int .i64 4) ∧ Fr Nob w w' := Go.Proofs.Ytpdljgjofebgpaa.add_lost a.dl a.ji hv h0 hl hx
theorem JL.add1_lost (a : JL W w q K D j m J) (x y : Nat) (hx : J.loss ≠ D.loss) :
    Calls Try.prog 50 #[.pointer (some ⟨j, 0, none⟩), .slice (some ⟨w.heap.size, 0, none⟩) 1 1] (w.alloc (.cells #[.int .u64 (x : Int), .int .u64 (y : Int)] 80)) fun e w' =>
      e = .returned (.int .i64 4) ∧ Fr Nob w w' := by
  refine ((a.nob ((Fr.refl Nob w).alloc _)).add_lost (rdM_new w [(x, y)] 1 rfl (by omega)) (by simp) (by simp) hx).mono ?_
  rintro e w' ⟨rfl, f⟩
  exact ⟨rfl, ((Fr.refl _ w).alloc _).trans' f⟩
theorem JL.on (a : JL W w q K D j m J) :
    Calls Try.prog 42 #[.pointer (some ⟨q, 0, none⟩)] w fun e w' => e = .returned (.tuple #[]) ∧ JL W w' q K D.on j m J ∧ Fr K w w' := by
  refine a.dl.on.mono ?_
  rintro e w' ⟨rfl, d, f⟩
  have hl : D.on.pg.length = D.pg.length := by show (settled D.pg []).length = _; rw [settled_len]
  exact ⟨rfl, ⟨d, a.ji.keep f a.kj a.km, a.kj, a.km, a.wj, a.wm, by rw [hl]; exact a.lt, by rw [hl]; exact a.le, a.us⟩, f⟩
end

set_option maxRecDepth 100000 in
set_option maxHeartbeats 4000000 in
theorem tombDone_walk (a b : Mk) (w : World) (ha : a.ok) (hb : b.ok) :
    Calls Try.prog 18 #[.agg #[.int .u64 (a.1 : Int), .int .u64 (a.2 : Int)], .agg #[.int .u64 (b.1 : Int), .int .u64 (b.2 : Int)]] w fun e w' => e = .returned (.bool true) ∧ Fr Nob w w' := by
  obtain ⟨a1, a2⟩ := a
  obtain ⟨b1, b2⟩ := b
  have OK := Lib.hid ha
  clear ha hb
  go_enter Try.func18, Try.ntmps18
  go_wp2_with fail
  have f1 : Fr Nob w ((w.alloc (.cells #[.int .u64 (a1 : Int), .int .u64 (a2 : Int)] 80)).alloc (.cells #[.int .u64 (b1 : Int), .int .u64 (b2 : Int)] 80)) := ((Fr.refl Nob w).alloc _).alloc _
  have r2 := ((Fr.refl Nob _).alloc (.cells #[.int .u64 (b1 : Int), .int .u64 (b2 : Int)] 80)).heap (heap_alloc_new w (.cells #[.int .u64 (a1 : Int), .int .u64 (a2 : Int)] 80)) (fun h => h)
  have r3 := heap_alloc_new (w.alloc (.cells #[.int .u64 (a1 : Int), .int .u64 (a2 : Int)] 80)) (.cells #[.int .u64 (b1 : Int), .int .u64 (b2 : Int)] 80)
  have hs : (w.alloc (.cells #[.int .u64 (a1 : Int), .int .u64 (a2 : Int)] 80)).heap.size = w.heap.size + 1 := by simp
  rw [hs] at r3
  obtain ⟨R2, hR2⟩ : ∃ R, R = w.heap.size := ⟨_, rfl⟩
  obtain ⟨R3, hR3⟩ : ∃ R, R = w.heap.size + 1 := ⟨_, rfl⟩
  rw [← hR3] at r3 ⊢
  rw [← hR2] at r2 ⊢
  have W1 := Lib.hid f1
  clear hs hR2 hR3 f1
  generalize (w.alloc (.cells #[.int .u64 (a1 : Int), .int .u64 (a2 : Int)] 80)).alloc (.cells #[.int .u64 (b1 : Int), .int .u64 (b2 : Int)] 80) = wb at *
  have B2 := Lib.hid r2
  have B3 := Lib.hid r3
  clear r2 r3
  refine (awake6_eq wb).mono ?_
  rintro e w0 ⟨rfl, f0⟩
  have F0 := Lib.hid f0
  clear f0
  go_wp2_with fail
  refine (DL.new (n := 5) F0.out (by omega) (by omega)).mono ?_
  rintro e w1 ⟨q, K, rfl, d, _, _⟩
  have KO := Lib.hid d.kle
  have OP := Lib.hid (JL.opened d rfl (first := 1) (pages := 4) (gen := 5) (by omega) (by simp [Dv.new]) (by simp [Dv.new]))
  clear d
  go_wp2_with fail
  refine OP.out.mono ?_
  rintro e w2 ⟨j, rfl, m, D1, a1', lk1, f2⟩
  rw [show opened (Dv.new 5) 1 4 5 = ⟨1, 4, 5, 0, 0, []⟩ from rfl] at a1'
  have C1 := Lib.hid ((CalmN.new 5).like lk1)
  have LS := Lib.hid (show D1.loss = 0 from lk1.loss)
  have N12 : Hid (D1.now 2 = .blank) := Lib.hid (lk1.now 2)
  have AD := Lib.hid (a1'.add1 C1.out a1 a2 LS.out.symm (by show 0 < 4; omega))
  have c0 := cell_of_row w2 R2 0 _ _ (0, 0) (a1'.fr.heap B2.out fun h => h)
  have c1 := cell_of_row w2 R2 1 _ _ (0, 0) (a1'.fr.heap B2.out fun h => h)
  clear a1' lk1 OP f2
  go_wp2_with fail
  refine AD.out.mono ?_
  rintro e w3 ⟨rfl, a3, _⟩
  obtain ⟨D3, hD3⟩ : ∃ D3, D3 = addD D1 ⟨1, 4, 5, 0, 0, []⟩ [(a1, a2)] := ⟨_, rfl⟩
  rw [← hD3, show addJ ⟨1, 4, 5, 0, 0, []⟩ [(a1, a2)] = ⟨1, 4, 5, 1, 0, [(a1, a2)]⟩ from rfl] at a3
  have C3 : Hid (CalmN 5 D3) := Lib.hid (by rw [hD3]; exact C1.out.addD _ _)
  have L3 : Hid (D3.loss = 0) := Lib.hid (by rw [hD3, C1.out.loss_addD]; exact LS.out)
  have N3 : Hid (D3.now 1 = .whole (pad (tpage 5 [(a1, a2)]))) := Lib.hid (by rw [hD3, C1.out.now_addD _ _ (by show 1 + 0 < 5; omega)]; exact if_pos rfl)
  have N32 : Hid (D3.now 2 = .blank) := Lib.hid (by rw [hD3, C1.out.now_addD _ _ (by show 1 + 0 < 5; omega)]; exact (if_neg (by show ¬ 2 = 1 + 0; omega)).trans N12.out)
  have S3 : Hid (Still D3) := Lib.hid (by rw [hD3]; exact still_flush (by rw [(C1.out.change _ _).spend]; exact (C1.out.change _ _).2.1))
  have ON := Lib.hid a3.on
  clear a3 hD3 AD c0 c1
  go_wp2_with fail
  refine ON.out.mono ?_
  rintro e w4 ⟨rfl, a4, _⟩
  obtain ⟨D4, hD4⟩ : ∃ D4, D4 = D3.on := ⟨_, rfl⟩
  rw [← hD4] at a4
  have C4 : Hid (CalmN 5 D4) := Lib.hid (by rw [hD4]; exact calm_on C3.out.1)
  have L4 : Hid (D4.loss = 1) := Lib.hid (by rw [hD4]; show inc D3.loss = 1; rw [L3.out]; show wrap64 (0 + 1) = 1; unfold wrap64; omega)
  have P4 : Hid (D4.pg = D3.pg) := Lib.hid (by rw [hD4]; exact on_pg S3.out)
  have LO := Lib.hid (a4.add1_lost b1 b2 (by rw [L4.out]; show (0 : Int) ≠ 1; omega))
  have c0 := cell_of_row w4 R3 0 _ _ (0, 0) (a4.fr.heap B3.out fun h => h)
  have c1 := cell_of_row w4 R3 1 _ _ (0, 0) (a4.fr.heap B3.out fun h => h)
  have A4 := Lib.hid a4
  clear a4 hD4 ON
  go_wp2_with fail
  refine LO.out.mono ?_
  rintro e w5 ⟨rfl, f5⟩
  have a5 := A4.out.nob f5
  have OP := Lib.hid (a5.open2 C4.out.2.1 (first := 1) (pages := 4) (gen := 5) (by omega) (by rw [C4.out.1]; omega))
  clear a5 f5 A4 LO c0 c1
  go_wp2_with fail
  refine OP.out.mono ?_
  rintro e w6 ⟨k, rfl, n, D6, b6, a6, _, _, _, _, _, _⟩
  rw [opened_whole (D := D4) (first := 1) (pages := 4) (gen := 5) (l := [(a1, a2)]) (by omega) (by simp) (by simpa using OK.out) (by rw [now_pg P4.out]; exact N3.out) (by rw [now_pg P4.out]; exact N32.out) (by omega)] at b6
  have G1 : Hid (Calls Try.prog 54 #[.pointer (some ⟨j, 0, none⟩), .int .u64 (a1 : Int), .int .u64 (a2 : Int)] w6 fun e w' => e = .returned (.bool true) ∧ w6 = w') := Lib.hid (a6.gone a1 a2 true (noteL_gone (m := (a1, a2)) [(a1, a2)] (M := []) (by simp)))
  have RO := Lib.hid (b6.room 3 (by show (3 : Int) = 4 - 1; omega))
  have c0 := cell_of_row w6 R2 0 _ _ (0, 0) (a6.fr.heap B2.out fun h => h)
  have c1 := cell_of_row w6 R2 1 _ _ (0, 0) (a6.fr.heap B2.out fun h => h)
  have B6 := Lib.hid b6
  clear b6 a6 OP
  go_wp2_with (first
    | (go_at_call 54; (with_reducible refine G1.out.mono ?_); rintro e w' ⟨rfl, rfl⟩)
    | (go_at_call 51; (with_reducible refine RO.out.mono ?_); rintro e w7 ⟨rfl, f7⟩; have MK := Lib.hid ((B6.out.nob f7).marks (by show 1 ≤ 1; omega)); have F7 := Lib.hid (B6.out.nob f7).fr; clear f7)
    | (go_at_call 52; (with_reducible refine MK.out.mono ?_); rintro e w8 ⟨lv, rfl, own8, f8⟩; obtain ⟨la, lc, rfl, _⟩ := RdM.of_row own8; have F8 := Lib.hid (F7.out.trans' f8); clear own8 f8)
    | (go_at_call 50; (with_reducible refine add_nil.mono ?_); rintro e w' ⟨rfl, rfl⟩))
  go_ret
  exact ⟨rfl, W1.out.trans' F8.out⟩

end Go.Proofs.Ytpdljgjofebgpaa
