/-
  tomb: the laws' awake.
-/
import Derived.Test.YtpdljgjofebgpaaTombL
namespace Go.Proofs.Ytpdljgjofebgpaa
open Go.RowKit

theorem rdM_new (w : World) (l : List Mk) (n : Nat) (hl : l.length = n) (hm : n ≤ 1000000) : RdM (w.alloc (.cells (mksV l).toArray 80)) (.slice (some ⟨w.heap.size, 0, none⟩) n n) l := by
  subst hl
  refine RdM.of_row (base := 0) ⟨mksV_len l, .inr ⟨w.heap.size, l.length, _, rfl, Nat.zero_le _, heap_alloc_new w _, Nat.le_refl _, by unfold maxLen; omega, ?_, ?_⟩⟩
  · simp [mksV_len]
  · rw [List.toList_toArray, List.take_of_length_le (by rw [mksV_len]; exact Nat.le_refl _)]

section
variable {W w : World} {q : Nat} {K : Nat → Prop} {D : Dv} {j m : Nat} {J : Jn} {n : Nat}
theorem JL.add_calm (a : JL W w q K D j m J) (hc : CalmN n D) {v : Value} {l : List Mk} (hv : RdM w v l) (h0 : 0 < l.length) (hl : l.length ≤ 23) (hx : J.loss = D.loss) (hu : J.used < J.pages) (hvk : ∀ k, v.ownBlock = some k → ¬ K k ∧ k ≠ j ∧ k ≠ m) :
    Calls Try.prog 50 #[.pointer (some ⟨j, 0, none⟩), v] w fun e w' => e = .returned (.int .i64 0) ∧ JL W w' q K (addD D J l) j m (addJ J l) ∧ Fr (fun k => K k ∨ k = j ∨ k = m) w w' := by
  have h := a.add hv h0 hl hx hu hvk
  rw [addTo_calm hc] at h
  exact h
theorem JL.add_full (a : JL W w q K D j m J) {v : Value} {l : List Mk} (hv : RdM w v l) (h0 : 0 < l.length) (hl : l.length ≤ 23) (hx : J.loss = D.loss) (hu : J.used = J.pages) :
    Calls Try.prog 50 #[.pointer (some ⟨j, 0, none⟩), v] w fun e w' => e = .returned (.int .i64 7) ∧ Fr Nob w w' :=
  Go.Proofs.Ytpdljgjofebgpaa.add_full a.dl a.ji hv h0 hl hx (by have := a.lt; have := a.le; omega) hu
/-- A block that is newer than all of these. -/
theorem JL.new (a : JL W w q K D j m J) : ∀ k, w.heap.size ≤ k → ¬ K k ∧ k ≠ j ∧ k ≠ m := fun k hk =>
  ⟨fun h => by have := a.dl.klt k h; omega, fun e => by have := lt_of_block a.ji.top; omega, fun e => by have := a.ji.map.lt; omega⟩
theorem JL.add1 (a : JL W w q K D j m J) (hc : CalmN n D) (x y : Nat) (hx : J.loss = D.loss) (hu : J.used < J.pages) :
    Calls Try.prog 50 #[.pointer (some ⟨j, 0, none⟩), .slice (some ⟨w.heap.size, 0, none⟩) 1 1] (w.alloc (.cells #[.int .u64 (x : Int), .int .u64 (y : Int)] 80)) fun e w' =>
      e = .returned (.int .i64 0) ∧ JL W w' q K (addD D J [(x, y)]) j m (addJ J [(x, y)]) ∧ Fr (fun k => K k ∨ k = j ∨ k = m) w w' := by
  refine ((a.nob ((Fr.refl Nob w).alloc _)).add_calm hc (rdM_new w [(x, y)] 1 rfl (by omega)) (by simp) (by simp) hx hu fun k hk => ?_).mono ?_
  · have : k = w.heap.size := by simpa [Value.ownBlock] using hk.symm
    subst this
    exact a.new _ (Nat.le_refl _)
  · rintro e w' ⟨rfl, b, f⟩
    exact ⟨rfl, b, Fr.trans (S' := fun k => K k ∨ k = j ∨ k = m) ((Fr.refl _ w).alloc _) f fun _ _ h => h⟩
theorem JL.add1_full (a : JL W w q K D j m J) (x y : Nat) (hx : J.loss = D.loss) (hu : J.used = J.pages) :
    Calls Try.prog 50 #[.pointer (some ⟨j, 0, none⟩), .slice (some ⟨w.heap.size, 0, none⟩) 1 1] (w.alloc (.cells #[.int .u64 (x : Int), .int .u64 (y : Int)] 80)) fun e w' =>
      e = .returned (.int .i64 7) ∧ Fr Nob w w' := by
  refine ((a.nob ((Fr.refl Nob w).alloc _)).add_full (rdM_new w [(x, y)] 1 rfl (by omega)) (by simp) (by simp) hx hu).mono ?_
  rintro e w' ⟨rfl, f⟩
  exact ⟨rfl, ((Fr.refl _ w).alloc _).trans' f⟩
end

set_option maxRecDepth 100000 in
set_option maxHeartbeats 4000000 in
theorem awake6_eq (w : World) : Calls Try.prog 48 #[] w fun e w' => e = .returned (.bool true) ∧ Fr Nob w w' := by
  go_enter Try.func48, Try.ntmps48
  go_wp2_with fail
  refine (DL.new (n := 4) (Fr.refl Nob w) (by omega) (by omega)).mono ?_
  rintro e w1 ⟨q, K, rfl, d, _, _⟩
  have OP := Lib.hid (JL.opened d rfl (first := 2) (pages := 1) (gen := 1) (by omega) (by simp [Dv.new]) (by simp [Dv.new]))
  clear d
  go_wp2_with fail
  refine OP.out.mono ?_
  rintro e w2 ⟨j, rfl, m, D1, a1, lk1, _⟩
  have hJ : opened (Dv.new 4) 2 1 1 = ⟨2, 1, 1, 0, 0, []⟩ := rfl
  rw [hJ] at a1
  have C1 := Lib.hid ((CalmN.new 4).like lk1)
  have LS := Lib.hid (show D1.loss = 0 from lk1.loss)
  have LK1 := Lib.hid lk1
  have A1 := Lib.hid a1
  have AD := Lib.hid (a1.add1 C1.out 5 9 LS.out.symm (by show 0 < 1; omega))
  clear a1 lk1 OP hJ
  go_wp2_with fail
  refine AD.out.mono ?_
  rintro e w3 ⟨rfl, a3, _⟩
  obtain ⟨D3, hD3⟩ : ∃ D3, D3 = addD D1 ⟨2, 1, 1, 0, 0, []⟩ [(5, 9)] := ⟨_, rfl⟩
  have hJ3 : addJ ⟨2, 1, 1, 0, 0, []⟩ [(5, 9)] = ⟨2, 1, 1, 1, 0, [(5, 9)]⟩ := rfl
  rw [← hD3, hJ3] at a3
  have C3 : Hid (CalmN 4 D3) := Lib.hid (by rw [hD3]; exact C1.out.addD _ _)
  have L3 : Hid (D3.loss = 0) := Lib.hid (by rw [hD3, C1.out.loss_addD]; exact LS.out)
  have N3 : Hid (D3.now 2 = .whole (pad (tpage 1 [(5, 9)]))) := Lib.hid (by rw [hD3, C1.out.now_addD _ _ (by show 2 + 0 < 4; omega)]; exact if_pos rfl)
  have FU := Lib.hid (a3.add1_full 5 10 L3.out.symm rfl)
  have A3 := Lib.hid a3
  clear a3 hJ3 hD3 AD
  go_wp2_with fail
  refine FU.out.mono ?_
  rintro e w4 ⟨rfl, f4⟩
  have a4 := A3.out.nob f4
  have MK := Lib.hid (a4.marks (by show 1 ≤ 1; omega))
  have A4 := Lib.hid a4
  clear f4 FU a4 A3
  go_wp2_with fail
  refine MK.out.mono ?_
  rintro e w5 ⟨lv, rfl, own5, f5⟩
  have a5 := A4.out.nob f5
  obtain ⟨la, lc, hlv, hlc⟩ := RdM.of_row own5
  obtain ⟨lg, lo, hla, hlcell⟩ := hlc (by show 0 < 1; omega)
  have hlc0 := hlcell 0 (by show 0 < 1; omega)
  have hlg : w4.heap.size ≤ lg := (own5.lt lg (by rw [hlv, hla]; rfl)).1
  have LC : Hid (w5.cell? ⟨lg, lo, none⟩ = some (.int .u64 5) ∧ w5.cell? ⟨lg, lo + 1, none⟩ = some (.int .u64 9)) := Lib.hid (by simpa using hlc0)
  have NG : Hid (¬ K lg ∧ lg ≠ j ∧ lg ≠ m) := Lib.hid (A4.out.new lg hlg)
  subst hla
  subst hlv
  have OP2 := Lib.hid (a5.open2 C3.out.2.1 (first := 2) (pages := 1) (gen := 1) (by omega) (by rw [C3.out.1]; omega))
  clear own5 f5 A4 MK hlc hlcell hlc0 hlg
  have A5 := Lib.hid a5
  clear a5
  go_wp2_with fail
  refine OP2.out.mono ?_
  rintro e w6 ⟨k, rfl, n, D6, b6, a6, lk6, f6, k1, k2, k3, k4⟩
  have hJ6 : opened D3 2 1 1 = ⟨2, 1, 1, 1, 0, [(5, 9)]⟩ := by
    unfold opened
    have h1 : openL D3.now 2 1 1 0 [] = (1, [(5, 9)]) := by
      rw [openL_some (bs := pad (tpage 1 [(5, 9)])) (l := [(5, 9)]) N3.out (by unfold pad; rw [tread_page (by omega) (by simp) (by simp [Mk.ok]) 1, if_pos rfl])]
      rfl
    rw [h1, L3.out]
  rw [hJ6] at b6
  have BG := Lib.hid (a6.begin 2)
  have B6 := Lib.hid b6.ji
  have LC6 : Hid (w6.cell? ⟨lg, lo, none⟩ = some (.int .u64 5) ∧ w6.cell? ⟨lg, lo + 1, none⟩ = some (.int .u64 9)) := Lib.hid ⟨f6.cell LC.out.1 NG.out.1, f6.cell LC.out.2 NG.out.1⟩
  have KJ := Lib.hid k1
  have KN := Lib.hid k3
  clear b6 a6 lk6 f6 k1 k2 k3 k4 OP2 hJ6 LC A5
  go_wp2_with fail
  refine BG.out.mono ?_
  rintro e w7 ⟨rfl, m', a7, f7, _⟩
  have b7 := B6.out.keep f7 (fun e => KJ.out e) (fun e => KN.out e)
  have c0 := f7.cell LC6.out.1 (fun e => NG.out.2.1 e)
  have c1 := f7.cell LC6.out.2 (fun e => NG.out.2.1 e)
  have G1 : Hid (Calls Try.prog 54 #[.pointer (some ⟨k, 0, none⟩), .int .u64 5, .int .u64 9] w7 fun e w' => e = .returned (.bool true) ∧ w7 = w') := Lib.hid (gone_eq b7 5 9)
  have G2 : Hid (Calls Try.prog 54 #[.pointer (some ⟨k, 0, none⟩), .int .u64 5, .int .u64 10] w7 fun e w' => e = .returned (.bool false) ∧ w7 = w') := Lib.hid (gone_eq b7 5 10)
  have R1 := Lib.hid (room_eq b7 (by show 1 ≤ 1; omega) (by show 1 ≤ 5000; omega) 0 (by show (0 : Int) = 1 - 1; omega))
  have A7 := Lib.hid a7
  clear a7 f7 b7 BG
  go_wp2_with (first
    | (go_at_call 54; (with_reducible refine G1.out.mono ?_); rintro e w' ⟨rfl, rfl⟩)
    | (go_at_call 54; (with_reducible refine G2.out.mono ?_); rintro e w' ⟨rfl, rfl⟩)
    | (go_at_call 51; (with_reducible refine R1.out.mono ?_); rintro e w8 ⟨rfl, f8⟩; have c08 := f8.cell c0 (fun h => h); have c18 := f8.cell c1 (fun h => h); have A8 := Lib.hid (A7.out.nob f8); have G3 := Lib.hid (show Calls Try.prog 54 #[.pointer (some ⟨j, 0, none⟩), .int .u64 5, .int .u64 9] w8 fun e w' => e = .returned (.bool false) ∧ w8 = w' from gone_eq (A7.out.nob f8).ji 5 9); have R2 := Lib.hid ((A7.out.nob f8).room 1 (by show (1 : Int) = 1 - 0; omega)); clear f8)
    | (go_at_call 54; (with_reducible refine G3.out.mono ?_); rintro e w' ⟨rfl, rfl⟩)
    | (go_at_call 51; (with_reducible refine R2.out.mono ?_); rintro e w9 ⟨rfl, f9⟩))
  go_ret
  exact ⟨rfl, (A8.out.nob f9).fr⟩

end Go.Proofs.Ytpdljgjofebgpaa
