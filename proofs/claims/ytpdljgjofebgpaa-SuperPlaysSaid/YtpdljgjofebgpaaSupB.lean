/-
  super: Encode.
-/
import Derived.Test.YtpdljgjofebgpaaSupA
namespace Go.Proofs.Ytpdljgjofebgpaa
open Go.RowKit

theorem u8_info' : (Try.prog.info? 5).map (fun i => (i.zero.map Value.cells, i.size, i.bytes)) = some (some #[.int .u8 0], 1, 1) := by kernel_rfl
theorem u8_size' : (Try.prog.info? 5).map (·.size) = some 1 := by kernel_rfl

def blkV (b : Blk) : Array Value := #[.int .u64 b.seq, .int .u64 b.epoch, .int .u64 b.res, .int .u64 b.hor, .int .u64 b.gen, .bool b.clean, .int .i64 b.image]

theorem magic_eq (w : World) : Calls Try.prog 64 #[] w fun e w' => ∃ v, e = .returned v ∧ RdB w' v magicB ∧ Fr Nob w w' := by
  go_enter Try.func64, Try.ntmps64
  go_wp2_with fail
  go_ret
  exact ⟨_, rfl, RdB.of_block (l := magicB) (cap := 4) (heap_alloc_new w _), (Fr.refl Nob w).alloc _⟩

/-- The row while it is filled: a beginning, and zeros. -/
def filled (A : List UInt8) (n : Nat) : List UInt8 := A ++ List.replicate n 0
theorem filled_len (A : List UInt8) (n : Nat) : (filled A n).length = A.length + n := by unfold filled; simp
theorem filled_splice {A bs : List UInt8} {n off : Nat} (ho : A.length = off) (h : bs.length ≤ n) : spliced (filled A n) off bs = filled (A ++ bs) (n - bs.length) := by
  subst ho
  unfold spliced filled
  rw [List.take_left, List.drop_append, List.append_assoc]
  have h1 : List.drop (A.length + bs.length) A = [] := List.drop_of_length_le (by omega)
  rw [h1, List.nil_append, List.drop_replicate, show n - (A.length + bs.length - A.length) = n - bs.length from by omega]
theorem filled_zero {A : List UInt8} {n k : Nat} (h : k ≤ n) : filled A n = filled (A ++ List.replicate k 0) (n - k) := by
  unfold filled
  rw [List.append_assoc, List.replicate_append_replicate, show k + (n - k) = n from by omega]
theorem filled_set {A : List UInt8} {n off : Nat} {b : UInt8} (ho : A.length = off) (h : 1 ≤ n) : (filled A n).set off b = filled (A ++ [b]) (n - 1) := by
  subst ho
  unfold filled
  rw [List.set_append_right _ _ (Nat.le_refl _), Nat.sub_self, List.append_assoc]
  congr 1
  obtain ⟨m, rfl⟩ : ∃ m, n = m + 1 := ⟨n - 1, by omega⟩
  rfl

theorem index5_0 (w : World) (a b c d e : Value) : (Instr.index 102 (.agg #[a, b, c, d, e]) (.int .i64 0)).run Try.prog w = .ok a w := by kernel_rfl
theorem index5_1 (w : World) (a b c d e : Value) : (Instr.index 102 (.agg #[a, b, c, d, e]) (.int .i64 1)).run Try.prog w = .ok b w := by kernel_rfl
theorem index5_2 (w : World) (a b c d e : Value) : (Instr.index 102 (.agg #[a, b, c, d, e]) (.int .i64 2)).run Try.prog w = .ok c w := by kernel_rfl
theorem index5_3 (w : World) (a b c d e : Value) : (Instr.index 102 (.agg #[a, b, c, d, e]) (.int .i64 3)).run Try.prog w = .ok d w := by kernel_rfl
theorem index5_4 (w : World) (a b c d e : Value) : (Instr.index 102 (.agg #[a, b, c, d, e]) (.int .i64 4)).run Try.prog w = .ok e w := by kernel_rfl

set_option maxRecDepth 100000 in
set_option maxHeartbeats 2000000 in
theorem encode_eq (b : Blk) (hok : b.ok) (w : World) :
    Calls Try.prog 28 #[.agg (blkV b)] w fun e w' => ∃ g, e = .returned (.slice (some ⟨g, 0, none⟩) 64 64) ∧ bytesAt w' g (enc b) ∧ Fr Nob w w' ∧ w.heap.size ≤ g := by
  obtain ⟨b0, b1, b2, b3, b4⟩ := hok
  unfold blkV
  go_enter Try.func28, Try.ntmps28
  go_wp2_with (with_reducible refine wpList_make_all rfl _ _ 34 rfl 5 #[.int .u8 0] 1 1 Try.underlying34 u8_info' .i64 .i64 64 rfl rfl (by omega) (by omega) ?_)
  intro cs hcs
  have hcs2 := hcs.out.trans (made_bytes 64)
  have hbox := heap_alloc_new w (.cells #[.int .u64 (b.seq : Int), .int .u64 (b.epoch : Int), .int .u64 (b.res : Int), .int .u64 (b.hor : Int), .int .u64 (b.gen : Int), .bool b.clean, .int .i64 b.image] 29)
  have f0 : Fr Nob w (w.alloc (.cells #[.int .u64 (b.seq : Int), .int .u64 (b.epoch : Int), .int .u64 (b.res : Int), .int .u64 (b.hor : Int), .int .u64 (b.gen : Int), .bool b.clean, .int .i64 b.image] 29)) := (Fr.refl Nob w).alloc _
  have hs1 : (w.alloc (.cells #[.int .u64 (b.seq : Int), .int .u64 (b.epoch : Int), .int .u64 (b.res : Int), .int .u64 (b.hor : Int), .int .u64 (b.gen : Int), .bool b.clean, .int .i64 b.image] 29)).heap.size = w.heap.size + 1 := by simp
  generalize w.alloc (.cells #[.int .u64 (b.seq : Int), .int .u64 (b.epoch : Int), .int .u64 (b.res : Int), .int .u64 (b.hor : Int), .int .u64 (b.gen : Int), .bool b.clean, .int .i64 b.image] 29) = w1 at *
  obtain ⟨B, hB⟩ : ∃ B, B = w.heap.size := ⟨_, rfl⟩
  obtain ⟨g, hg⟩ : ∃ g, g = w.heap.size + 1 := ⟨_, rfl⟩
  have hrow : bytesAt (w1.alloc (.cells cs 5)) g (filled [] 64) := by
    unfold bytesAt filled
    rw [hg, ← hs1, heap_alloc_new, hcs2, List.nil_append]
  have hbox2 := ((Fr.refl Nob w1).alloc (.cells cs 5)).heap hbox fun h => h
  have f2 := f0.alloc (.cells cs 5)
  rw [← hB] at hbox2
  rw [← hg, ← hB]
  have HB := Lib.hid hB
  have HG := Lib.hid hg
  have BOX := Lib.hid hbox2
  have ROW := Lib.hid hrow
  have F := Lib.hid f2
  clear hcs hcs2 hbox f0 hs1 hB hg hrow hbox2 f2
  generalize w1.alloc (.cells cs 5) = w2 at *
  go_wp2_with fail
  refine (magic_eq w2).mono ?_
  rintro e w3 ⟨v, rfl, rd, f3⟩
  obtain ⟨av, cv, rfl, hrd⟩ := rd
  rw [show magicB.length = 4 from rfl]
  have RD : Hid (RdB w3 (.slice av 4 cv) magicB) := Lib.hid ⟨av, cv, rfl, hrd⟩
  clear hrd
  replace ROW : Hid (bytesAt w3 g (filled [] 64)) := Lib.hid (f3.heap ROW.out fun h => h)
  replace BOX := Lib.hid (f3.heap BOX.out fun h => h)
  replace F := Lib.hid (F.out.trans' f3)
  clear f3
  have hgB : g ≠ B := by have := HB.out; have := HG.out; omega
  have HGB := Lib.hid hgB
  have hgw : w.heap.size ≤ g := by have := HG.out; omega
  have HGW := Lib.hid hgw
  clear hgB hgw
  have hl64 : (filled [] 64).length = 64 := by rw [filled_len]; rfl
  have H64 := Lib.hid hl64
  obtain ⟨Z, hZ⟩ : ∃ Z, Z = filled [] 64 := ⟨_, rfl⟩
  have HZ := Lib.hid hZ
  rw [← hZ] at ROW H64
  clear hl64 hZ
  go_wp2_with (with_reducible refine wpList_copyB (o := ⟨some 9, _, _, _, _, _⟩) rfl (.tmp 7) (.tmp 8) 34 34 rfl 5 Try.underlying34 u8_size' g 0 64 64 rfl magicB (.slice av 4 cv) rfl RD.out (by decide) Z 5 ROW.out (by rw [H64.out]; decide) ?_)
  intro w4 row4 f4
  have row4' : bytesAt w4 g (filled (magicB ++ numsB (b.nums.take 0)) (60 - 8 * 0)) := by
    have h := row4.out
    rw [HZ.out, filled_splice (A := []) (bs := magicB) (n := 64) (off := 0) rfl (by decide)] at h
    exact h
  have BOX4 := Lib.hid (f4.out.heap BOX.out fun h => HGB.out (Eq.symm h))
  have ROW4 := Lib.hid row4'
  have F4 : Hid (Fr Nob w w4) := Lib.hid (F.out.trans f4.out fun k hk h => by
    have h : k = g := h
    have := HGW.out
    omega)
  have hc := fun j => cell_of_row w4 B j _ _ (0, 0) BOX4.out
  have c0 := hc 0
  have c1 := hc 1
  have c2 := hc 2
  have c3 := hc 3
  have c4 := hc 4
  clear row4 row4' f4 ROW BOX F RD hc
  go_wp2_with fail
  go_loopw [4, 5, 21] (fun _ _ i wr => ∃ k : Nat, k ≤ 5 ∧ i = .int .i64 k ∧ Hid (bytesAt wr g (filled (magicB ++ numsB (b.nums.take k)) (60 - 8 * k))) ∧ Hid (Fr (One g) w4 wr)) (fun _ _ i _ => 5 - (intOf i).toNat)
  case atStart => exact ⟨0, by omega, rfl, ROW4, Lib.hid (Fr.refl _ _)⟩
  case round =>
    clear ROW4 c0 c1 c2 c3 c4
    obtain ⟨k, hk, rfl, row, fr⟩ := hrel
    by_cases hlt : k < 5
    · have hki : (k : Int) < 5 := by omega
      obtain ⟨x, hx⟩ : ∃ x, x = b.nums.getD k 0 := ⟨_, rfl⟩
      have hidx : (Instr.index 102 (.agg #[.int .u64 (b.seq : Int), .int .u64 (b.epoch : Int), .int .u64 (b.res : Int), .int .u64 (b.hor : Int), .int .u64 (b.gen : Int)]) (.int .i64 (k : Int))).run Try.prog wr = .ok (.int .u64 (x : Int)) wr := by
        rw [hx]
        match k, hlt with
        | 0, _ => exact index5_0 wr _ _ _ _ _
        | 1, _ => exact index5_1 wr _ _ _ _ _
        | 2, _ => exact index5_2 wr _ _ _ _ _
        | 3, _ => exact index5_3 wr _ _ _ _ _
        | 4, _ => exact index5_4 wr _ _ _ _ _
        | k + 5, h => omega
      have htk : b.nums.take (k + 1) = b.nums.take k ++ [x] := by
        have hn5 : k < b.nums.length := hlt
        rw [List.take_add_one, List.getElem?_eq_getElem hn5, hx, List.getD_eq_getElem?_getD, List.getElem?_eq_getElem hn5]
        rfl
      have hal : (magicB ++ numsB (b.nums.take k)).length = 4 + 8 * k := by
        rw [List.length_append, numsB_len, List.length_take, show b.nums.length = 5 from rfl, Nat.min_eq_left (by omega)]
        rfl
      have TK := Lib.hid htk
      have HAL := Lib.hid hal
      clear hx htk hal
      go_wp2_with fail
      refine (lay_eq (off := 4 + 8 * k) (n := 8) row.out (by omega) (by rw [filled_len, HAL.out]; omega) x).mono ?_
      rintro e w5 ⟨rfl, row5, f5⟩
      rw [filled_splice HAL.out (by rw [le_len]; omega), le_len, List.append_assoc, ← numsB_snoc, ← TK.out, show 60 - 8 * k - 8 = 60 - 8 * (k + 1) from by omega] at row5
      have R5 := Lib.hid row5
      have F5 := Lib.hid (fr.out.trans' f5)
      clear row5 f5 row fr hidx
      go_wp2_with fail
      go_roundw
      case rel => exact ⟨k + 1, by omega, by go_num, R5, F5⟩
      case measure => simp [intOf]; omega
    · have hk5 : k = 5 := by omega
      subst hk5
      have bx5 := fr.out.heap BOX4.out (fun h => HGB.out (Eq.symm h))
      have F5 : Hid (Fr Nob w wr) := Lib.hid (F4.out.trans fr.out fun k hk h => by
        have h : k = g := h
        have := HGW.out
        omega)
      have c5 := cell_of_row wr B 5 _ _ (0, 0) bx5
      have c6 := cell_of_row wr B 6 _ _ (0, 0) bx5
      have hrow : bytesAt wr g (filled (magicB ++ numsB b.nums) 20) := row.out
      have hA : (magicB ++ numsB b.nums).length = 44 := by rw [List.length_append, numsB_len]; rfl
      have HA := Lib.hid hA
      have cg : wr.cell? ⟨g, 44, none⟩ = some (.int .u8 (((filled (magicB ++ numsB b.nums) 20).getD 44 0).toNat : Int)) := bytesV_cell hrow (by rw [filled_len, hA]; omega)
      generalize ((filled (magicB ++ numsB b.nums) 20).getD 44 0).toNat = old at cg
      have zg := frozen_of_row wr g 44 _ _ hrow
      have hgb : ¬ g = B := HGB.out
      have hbg : ¬ B = g := fun h => HGB.out (Eq.symm h)
      have ROW := Lib.hid hrow
      have h3 : b.image < 0 ∨ 2147483647 < b.image ∨ (0 ≤ b.image ∧ b.image ≤ 2147483647) := by omega
      clear row hrow bx5 fr hA
      cases hcl : b.clean
      · rw [hcl] at c5
        rcases h3 with h3 | h3 | h3
        · go_wp2_with fail
          have row5 : bytesAt wr g (filled (magicB ++ numsB b.nums ++ [cleanB b.clean]) 19) := by
            have h := ROW.out
            rw [filled_zero (k := 1) (by omega)] at h
            rw [hcl]
            exact h
          have f5 : Fr Nob w wr := F5.out
          have d6 := c6
          generalize wr = W at *
          have A3 : (magicB ++ numsB b.nums ++ [cleanB b.clean] ++ [0, 0, 0]).length = 48 := by rw [List.length_append, List.length_append, HA.out]; rfl
          have row6 : bytesAt W g (filled (magicB ++ numsB b.nums ++ [cleanB b.clean] ++ [0, 0, 0]) 16) := by
            have h := row5
            rw [filled_zero (k := 3) (by omega)] at h
            exact h
          have HA3 := Lib.hid A3
          have himg : b.img = 0 := by unfold Blk.img; rw [if_neg (by omega)]
          have row7 : bytesAt W g (filled (magicB ++ numsB b.nums ++ [cleanB b.clean] ++ [0, 0, 0] ++ le 4 b.img) 12) := by
            have h := row6
            rw [filled_zero (k := 4) (by omega)] at h
            rw [himg, le_zero]
            exact h
          have f7 := f5
          clear row5 row6 f5 c5 c6 cg zg himg d6 A3
          generalize W = w6 at *
          have row8 : bytesAt w6 g (encHead b ++ List.replicate 4 0) := by
            have h := row7
            rw [filled_zero (k := 8) (by omega)] at h
            exact h
          have F7 := Lib.hid f7
          have R8 := Lib.hid row8
          have hrd : RdB w6 (.slice (some ⟨g, 0, none⟩) 60 64) (encHead b) := by
            refine ⟨_, 64, by rw [encHead_len], fun _ => ⟨g, 0, rfl, fun j hj => ?_⟩⟩
            rw [Nat.zero_add, bytesV_cell row8 (by rw [List.length_append]; omega)]
            rw [List.getD_eq_getElem?_getD, List.getD_eq_getElem?_getD, List.getElem?_append_left hj]
          have hcw : IntKind.u64.wrap ((crcL (encHead b) : Nat) : Int) = ((crcL (encHead b) : Nat) : Int) := by
            have := crcL_lt (encHead b)
            rw [IntKind.wrap_u64]
            omega
          have CRC := Lib.hid (crc_eq (hrd.nob ((Fr.refl Nob w6).drew)) (by rw [encHead_len]; omega))
          have LAY := Lib.hid (lay_eq (w := w6.drew) (g := g) (off := 60) (n := 4) (cap := 4) R8.out (by omega) (by rw [List.length_append, encHead_len]; exact Nat.le_refl 64) (crcL (encHead b)))
          clear row7 row8 f7 hrd hcl h3
          go_wp2_with fail
          go_region_with (first | (go_at_call 66; (with_reducible refine CRC.out.mono ?_); rintro e w8 ⟨rfl, rfl⟩) | (go_at_call 65; (with_reducible refine LAY.out.mono ?_); rintro e w9 ⟨rfl, row9, f9⟩))
          all_goals
            have e9 : spliced (encHead b ++ List.replicate 4 0) 60 (le 4 (crcL (encHead b))) = enc b := by
              have h := filled_splice (A := encHead b) (bs := le 4 (crcL (encHead b))) (n := 4) (encHead_len b) (by rw [le_len]; omega)
              rw [le_len] at h
              unfold filled at h
              rw [h]
              unfold enc
              simp
            rw [e9] at row9
            have R9 := Lib.hid row9
            have F9 := Lib.hid (Fr.undrew f9)
            clear row9 f9 e9
            go_wp2_with fail
            go_ret
            exact ⟨g, rfl, R9.out, F7.out.trans F9.out fun k hk h => by
              have h : k = g := h
              have := HGW.out
              omega, HGW.out⟩
        · go_wp2_with fail
          have row5 : bytesAt wr g (filled (magicB ++ numsB b.nums ++ [cleanB b.clean]) 19) := by
            have h := ROW.out
            rw [filled_zero (k := 1) (by omega)] at h
            rw [hcl]
            exact h
          have f5 : Fr Nob w wr := F5.out
          have d6 := c6
          generalize wr = W at *
          have A3 : (magicB ++ numsB b.nums ++ [cleanB b.clean] ++ [0, 0, 0]).length = 48 := by rw [List.length_append, List.length_append, HA.out]; rfl
          have row6 : bytesAt W g (filled (magicB ++ numsB b.nums ++ [cleanB b.clean] ++ [0, 0, 0]) 16) := by
            have h := row5
            rw [filled_zero (k := 3) (by omega)] at h
            exact h
          have HA3 := Lib.hid A3
          have himg : b.img = 0 := by unfold Blk.img; rw [if_neg (by omega)]
          have row7 : bytesAt W g (filled (magicB ++ numsB b.nums ++ [cleanB b.clean] ++ [0, 0, 0] ++ le 4 b.img) 12) := by
            have h := row6
            rw [filled_zero (k := 4) (by omega)] at h
            rw [himg, le_zero]
            exact h
          have f7 := f5
          clear row5 row6 f5 c5 c6 cg zg himg d6 A3
          generalize W = w6 at *
          have row8 : bytesAt w6 g (encHead b ++ List.replicate 4 0) := by
            have h := row7
            rw [filled_zero (k := 8) (by omega)] at h
            exact h
          have F7 := Lib.hid f7
          have R8 := Lib.hid row8
          have hrd : RdB w6 (.slice (some ⟨g, 0, none⟩) 60 64) (encHead b) := by
            refine ⟨_, 64, by rw [encHead_len], fun _ => ⟨g, 0, rfl, fun j hj => ?_⟩⟩
            rw [Nat.zero_add, bytesV_cell row8 (by rw [List.length_append]; omega)]
            rw [List.getD_eq_getElem?_getD, List.getD_eq_getElem?_getD, List.getElem?_append_left hj]
          have hcw : IntKind.u64.wrap ((crcL (encHead b) : Nat) : Int) = ((crcL (encHead b) : Nat) : Int) := by
            have := crcL_lt (encHead b)
            rw [IntKind.wrap_u64]
            omega
          have CRC := Lib.hid (crc_eq (hrd.nob ((Fr.refl Nob w6).drew)) (by rw [encHead_len]; omega))
          have LAY := Lib.hid (lay_eq (w := w6.drew) (g := g) (off := 60) (n := 4) (cap := 4) R8.out (by omega) (by rw [List.length_append, encHead_len]; exact Nat.le_refl 64) (crcL (encHead b)))
          clear row7 row8 f7 hrd hcl h3
          go_wp2_with fail
          go_region_with (first | (go_at_call 66; (with_reducible refine CRC.out.mono ?_); rintro e w8 ⟨rfl, rfl⟩) | (go_at_call 65; (with_reducible refine LAY.out.mono ?_); rintro e w9 ⟨rfl, row9, f9⟩))
          all_goals
            have e9 : spliced (encHead b ++ List.replicate 4 0) 60 (le 4 (crcL (encHead b))) = enc b := by
              have h := filled_splice (A := encHead b) (bs := le 4 (crcL (encHead b))) (n := 4) (encHead_len b) (by rw [le_len]; omega)
              rw [le_len] at h
              unfold filled at h
              rw [h]
              unfold enc
              simp
            rw [e9] at row9
            have R9 := Lib.hid row9
            have F9 := Lib.hid (Fr.undrew f9)
            clear row9 f9 e9
            go_wp2_with fail
            go_ret
            exact ⟨g, rfl, R9.out, F7.out.trans F9.out fun k hk h => by
              have h : k = g := h
              have := HGW.out
              omega, HGW.out⟩
        · go_wp2_with fail
          have row5 : bytesAt wr g (filled (magicB ++ numsB b.nums ++ [cleanB b.clean]) 19) := by
            have h := ROW.out
            rw [filled_zero (k := 1) (by omega)] at h
            rw [hcl]
            exact h
          have f5 : Fr Nob w wr := F5.out
          have d6 := c6
          generalize wr = W at *
          have A3 : (magicB ++ numsB b.nums ++ [cleanB b.clean] ++ [0, 0, 0]).length = 48 := by rw [List.length_append, List.length_append, HA.out]; rfl
          have row6 : bytesAt W g (filled (magicB ++ numsB b.nums ++ [cleanB b.clean] ++ [0, 0, 0]) 16) := by
            have h := row5
            rw [filled_zero (k := 3) (by omega)] at h
            exact h
          have HA3 := Lib.hid A3
          obtain ⟨im, him⟩ : ∃ im : Nat, im = b.image.toNat := ⟨_, rfl⟩
          have himg : b.img = im := by unfold Blk.img; rw [if_pos h3, him]
          have hwi : IntKind.u64.wrap b.image = (im : Int) := by rw [IntKind.wrap_u64]; omega
          have HIMG := Lib.hid himg
          have R6 := Lib.hid row6
          have F6 := Lib.hid f5
          clear row5 row6 f5 A3 c5 c6 cg zg himg
          have LAY6 := Lib.hid (lay_eq (w := W.drew) (g := g) (off := 48) (n := 4) (cap := 16) R6.out (by omega) (by rw [filled_len, HA3.out]; omega) im)
          clear him
          go_region_with (go_at_call 65; (with_reducible refine LAY6.out.mono ?_); rintro e w6 ⟨rfl, row6, f6⟩)
          clear LAY6
          rw [filled_splice HA3.out (by rw [le_len]; omega), le_len] at row6
          have row7 : bytesAt w6 g (filled (magicB ++ numsB b.nums ++ [cleanB b.clean] ++ [0, 0, 0] ++ le 4 b.img) 12) := by rw [HIMG.out]; exact row6
          have f7 : Fr Nob w w6 := F6.out.trans (Fr.undrew f6) fun k hk h => by
            have h : k = g := h
            have := HGW.out
            omega
          clear row6 f6 d6
          have row8 : bytesAt w6 g (encHead b ++ List.replicate 4 0) := by
            have h := row7
            rw [filled_zero (k := 8) (by omega)] at h
            exact h
          have F7 := Lib.hid f7
          have R8 := Lib.hid row8
          have hrd : RdB w6 (.slice (some ⟨g, 0, none⟩) 60 64) (encHead b) := by
            refine ⟨_, 64, by rw [encHead_len], fun _ => ⟨g, 0, rfl, fun j hj => ?_⟩⟩
            rw [Nat.zero_add, bytesV_cell row8 (by rw [List.length_append]; omega)]
            rw [List.getD_eq_getElem?_getD, List.getD_eq_getElem?_getD, List.getElem?_append_left hj]
          have hcw : IntKind.u64.wrap ((crcL (encHead b) : Nat) : Int) = ((crcL (encHead b) : Nat) : Int) := by
            have := crcL_lt (encHead b)
            rw [IntKind.wrap_u64]
            omega
          have CRC := Lib.hid (crc_eq (hrd.nob ((Fr.refl Nob w6).drew)) (by rw [encHead_len]; omega))
          have LAY := Lib.hid (lay_eq (w := w6.drew) (g := g) (off := 60) (n := 4) (cap := 4) R8.out (by omega) (by rw [List.length_append, encHead_len]; exact Nat.le_refl 64) (crcL (encHead b)))
          clear row7 row8 f7 hrd hcl h3
          go_wp2_with fail
          go_region_with (first | (go_at_call 66; (with_reducible refine CRC.out.mono ?_); rintro e w8 ⟨rfl, rfl⟩) | (go_at_call 65; (with_reducible refine LAY.out.mono ?_); rintro e w9 ⟨rfl, row9, f9⟩))
          all_goals
            have e9 : spliced (encHead b ++ List.replicate 4 0) 60 (le 4 (crcL (encHead b))) = enc b := by
              have h := filled_splice (A := encHead b) (bs := le 4 (crcL (encHead b))) (n := 4) (encHead_len b) (by rw [le_len]; omega)
              rw [le_len] at h
              unfold filled at h
              rw [h]
              unfold enc
              simp
            rw [e9] at row9
            have R9 := Lib.hid row9
            have F9 := Lib.hid (Fr.undrew f9)
            clear row9 f9 e9
            go_wp2_with fail
            go_ret
            exact ⟨g, rfl, R9.out, F7.out.trans F9.out fun k hk h => by
              have h : k = g := h
              have := HGW.out
              omega, HGW.out⟩
      · rw [hcl] at c5
        rcases h3 with h3 | h3 | h3
        · go_wp2_with fail
          have row5 : bytesAt (wr.setCell ⟨g, 44, none⟩ (.int .u8 1)) g (filled (magicB ++ numsB b.nums ++ [cleanB b.clean]) 19) := by
            have h := bytesAt_set ROW.out 44 1
            rw [filled_set HA.out (by omega)] at h
            rw [hcl]
            exact h
          have f5 : Fr Nob w (wr.setCell ⟨g, 44, none⟩ (.int .u8 1)) := F5.out.trans (Fr.set1 (Fr.refl (One g) wr) _) fun k hk h => by
            have h : k = g := h
            have := HGW.out
            omega
          have d6 : (wr.setCell ⟨g, 44, none⟩ (.int .u8 1)).cell? ⟨B, 6, none⟩ = some (.int .i64 b.image) := ((Fr.refl (One g) wr).set1 _).cell c6 hbg
          generalize wr.setCell ⟨g, 44, none⟩ (.int .u8 1) = W at *
          have A3 : (magicB ++ numsB b.nums ++ [cleanB b.clean] ++ [0, 0, 0]).length = 48 := by rw [List.length_append, List.length_append, HA.out]; rfl
          have row6 : bytesAt W g (filled (magicB ++ numsB b.nums ++ [cleanB b.clean] ++ [0, 0, 0]) 16) := by
            have h := row5
            rw [filled_zero (k := 3) (by omega)] at h
            exact h
          have HA3 := Lib.hid A3
          have himg : b.img = 0 := by unfold Blk.img; rw [if_neg (by omega)]
          have row7 : bytesAt W g (filled (magicB ++ numsB b.nums ++ [cleanB b.clean] ++ [0, 0, 0] ++ le 4 b.img) 12) := by
            have h := row6
            rw [filled_zero (k := 4) (by omega)] at h
            rw [himg, le_zero]
            exact h
          have f7 := f5
          clear row5 row6 f5 c5 c6 cg zg himg d6 A3
          generalize W = w6 at *
          have row8 : bytesAt w6 g (encHead b ++ List.replicate 4 0) := by
            have h := row7
            rw [filled_zero (k := 8) (by omega)] at h
            exact h
          have F7 := Lib.hid f7
          have R8 := Lib.hid row8
          have hrd : RdB w6 (.slice (some ⟨g, 0, none⟩) 60 64) (encHead b) := by
            refine ⟨_, 64, by rw [encHead_len], fun _ => ⟨g, 0, rfl, fun j hj => ?_⟩⟩
            rw [Nat.zero_add, bytesV_cell row8 (by rw [List.length_append]; omega)]
            rw [List.getD_eq_getElem?_getD, List.getD_eq_getElem?_getD, List.getElem?_append_left hj]
          have hcw : IntKind.u64.wrap ((crcL (encHead b) : Nat) : Int) = ((crcL (encHead b) : Nat) : Int) := by
            have := crcL_lt (encHead b)
            rw [IntKind.wrap_u64]
            omega
          have CRC := Lib.hid (crc_eq (hrd.nob ((Fr.refl Nob w6).drew)) (by rw [encHead_len]; omega))
          have LAY := Lib.hid (lay_eq (w := w6.drew) (g := g) (off := 60) (n := 4) (cap := 4) R8.out (by omega) (by rw [List.length_append, encHead_len]; exact Nat.le_refl 64) (crcL (encHead b)))
          clear row7 row8 f7 hrd hcl h3
          go_wp2_with fail
          go_region_with (first | (go_at_call 66; (with_reducible refine CRC.out.mono ?_); rintro e w8 ⟨rfl, rfl⟩) | (go_at_call 65; (with_reducible refine LAY.out.mono ?_); rintro e w9 ⟨rfl, row9, f9⟩))
          all_goals
            have e9 : spliced (encHead b ++ List.replicate 4 0) 60 (le 4 (crcL (encHead b))) = enc b := by
              have h := filled_splice (A := encHead b) (bs := le 4 (crcL (encHead b))) (n := 4) (encHead_len b) (by rw [le_len]; omega)
              rw [le_len] at h
              unfold filled at h
              rw [h]
              unfold enc
              simp
            rw [e9] at row9
            have R9 := Lib.hid row9
            have F9 := Lib.hid (Fr.undrew f9)
            clear row9 f9 e9
            go_wp2_with fail
            go_ret
            exact ⟨g, rfl, R9.out, F7.out.trans F9.out fun k hk h => by
              have h : k = g := h
              have := HGW.out
              omega, HGW.out⟩
        · go_wp2_with fail
          have row5 : bytesAt (wr.setCell ⟨g, 44, none⟩ (.int .u8 1)) g (filled (magicB ++ numsB b.nums ++ [cleanB b.clean]) 19) := by
            have h := bytesAt_set ROW.out 44 1
            rw [filled_set HA.out (by omega)] at h
            rw [hcl]
            exact h
          have f5 : Fr Nob w (wr.setCell ⟨g, 44, none⟩ (.int .u8 1)) := F5.out.trans (Fr.set1 (Fr.refl (One g) wr) _) fun k hk h => by
            have h : k = g := h
            have := HGW.out
            omega
          have d6 : (wr.setCell ⟨g, 44, none⟩ (.int .u8 1)).cell? ⟨B, 6, none⟩ = some (.int .i64 b.image) := ((Fr.refl (One g) wr).set1 _).cell c6 hbg
          generalize wr.setCell ⟨g, 44, none⟩ (.int .u8 1) = W at *
          have A3 : (magicB ++ numsB b.nums ++ [cleanB b.clean] ++ [0, 0, 0]).length = 48 := by rw [List.length_append, List.length_append, HA.out]; rfl
          have row6 : bytesAt W g (filled (magicB ++ numsB b.nums ++ [cleanB b.clean] ++ [0, 0, 0]) 16) := by
            have h := row5
            rw [filled_zero (k := 3) (by omega)] at h
            exact h
          have HA3 := Lib.hid A3
          have himg : b.img = 0 := by unfold Blk.img; rw [if_neg (by omega)]
          have row7 : bytesAt W g (filled (magicB ++ numsB b.nums ++ [cleanB b.clean] ++ [0, 0, 0] ++ le 4 b.img) 12) := by
            have h := row6
            rw [filled_zero (k := 4) (by omega)] at h
            rw [himg, le_zero]
            exact h
          have f7 := f5
          clear row5 row6 f5 c5 c6 cg zg himg d6 A3
          generalize W = w6 at *
          have row8 : bytesAt w6 g (encHead b ++ List.replicate 4 0) := by
            have h := row7
            rw [filled_zero (k := 8) (by omega)] at h
            exact h
          have F7 := Lib.hid f7
          have R8 := Lib.hid row8
          have hrd : RdB w6 (.slice (some ⟨g, 0, none⟩) 60 64) (encHead b) := by
            refine ⟨_, 64, by rw [encHead_len], fun _ => ⟨g, 0, rfl, fun j hj => ?_⟩⟩
            rw [Nat.zero_add, bytesV_cell row8 (by rw [List.length_append]; omega)]
            rw [List.getD_eq_getElem?_getD, List.getD_eq_getElem?_getD, List.getElem?_append_left hj]
          have hcw : IntKind.u64.wrap ((crcL (encHead b) : Nat) : Int) = ((crcL (encHead b) : Nat) : Int) := by
            have := crcL_lt (encHead b)
            rw [IntKind.wrap_u64]
            omega
          have CRC := Lib.hid (crc_eq (hrd.nob ((Fr.refl Nob w6).drew)) (by rw [encHead_len]; omega))
          have LAY := Lib.hid (lay_eq (w := w6.drew) (g := g) (off := 60) (n := 4) (cap := 4) R8.out (by omega) (by rw [List.length_append, encHead_len]; exact Nat.le_refl 64) (crcL (encHead b)))
          clear row7 row8 f7 hrd hcl h3
          go_wp2_with fail
          go_region_with (first | (go_at_call 66; (with_reducible refine CRC.out.mono ?_); rintro e w8 ⟨rfl, rfl⟩) | (go_at_call 65; (with_reducible refine LAY.out.mono ?_); rintro e w9 ⟨rfl, row9, f9⟩))
          all_goals
            have e9 : spliced (encHead b ++ List.replicate 4 0) 60 (le 4 (crcL (encHead b))) = enc b := by
              have h := filled_splice (A := encHead b) (bs := le 4 (crcL (encHead b))) (n := 4) (encHead_len b) (by rw [le_len]; omega)
              rw [le_len] at h
              unfold filled at h
              rw [h]
              unfold enc
              simp
            rw [e9] at row9
            have R9 := Lib.hid row9
            have F9 := Lib.hid (Fr.undrew f9)
            clear row9 f9 e9
            go_wp2_with fail
            go_ret
            exact ⟨g, rfl, R9.out, F7.out.trans F9.out fun k hk h => by
              have h : k = g := h
              have := HGW.out
              omega, HGW.out⟩
        · go_wp2_with fail
          have row5 : bytesAt (wr.setCell ⟨g, 44, none⟩ (.int .u8 1)) g (filled (magicB ++ numsB b.nums ++ [cleanB b.clean]) 19) := by
            have h := bytesAt_set ROW.out 44 1
            rw [filled_set HA.out (by omega)] at h
            rw [hcl]
            exact h
          have f5 : Fr Nob w (wr.setCell ⟨g, 44, none⟩ (.int .u8 1)) := F5.out.trans (Fr.set1 (Fr.refl (One g) wr) _) fun k hk h => by
            have h : k = g := h
            have := HGW.out
            omega
          have d6 : (wr.setCell ⟨g, 44, none⟩ (.int .u8 1)).cell? ⟨B, 6, none⟩ = some (.int .i64 b.image) := ((Fr.refl (One g) wr).set1 _).cell c6 hbg
          generalize wr.setCell ⟨g, 44, none⟩ (.int .u8 1) = W at *
          have A3 : (magicB ++ numsB b.nums ++ [cleanB b.clean] ++ [0, 0, 0]).length = 48 := by rw [List.length_append, List.length_append, HA.out]; rfl
          have row6 : bytesAt W g (filled (magicB ++ numsB b.nums ++ [cleanB b.clean] ++ [0, 0, 0]) 16) := by
            have h := row5
            rw [filled_zero (k := 3) (by omega)] at h
            exact h
          have HA3 := Lib.hid A3
          obtain ⟨im, him⟩ : ∃ im : Nat, im = b.image.toNat := ⟨_, rfl⟩
          have himg : b.img = im := by unfold Blk.img; rw [if_pos h3, him]
          have hwi : IntKind.u64.wrap b.image = (im : Int) := by rw [IntKind.wrap_u64]; omega
          have HIMG := Lib.hid himg
          have R6 := Lib.hid row6
          have F6 := Lib.hid f5
          clear row5 row6 f5 A3 c5 c6 cg zg himg
          have LAY6 := Lib.hid (lay_eq (w := W.drew) (g := g) (off := 48) (n := 4) (cap := 16) R6.out (by omega) (by rw [filled_len, HA3.out]; omega) im)
          clear him
          go_region_with (go_at_call 65; (with_reducible refine LAY6.out.mono ?_); rintro e w6 ⟨rfl, row6, f6⟩)
          clear LAY6
          rw [filled_splice HA3.out (by rw [le_len]; omega), le_len] at row6
          have row7 : bytesAt w6 g (filled (magicB ++ numsB b.nums ++ [cleanB b.clean] ++ [0, 0, 0] ++ le 4 b.img) 12) := by rw [HIMG.out]; exact row6
          have f7 : Fr Nob w w6 := F6.out.trans (Fr.undrew f6) fun k hk h => by
            have h : k = g := h
            have := HGW.out
            omega
          clear row6 f6 d6
          have row8 : bytesAt w6 g (encHead b ++ List.replicate 4 0) := by
            have h := row7
            rw [filled_zero (k := 8) (by omega)] at h
            exact h
          have F7 := Lib.hid f7
          have R8 := Lib.hid row8
          have hrd : RdB w6 (.slice (some ⟨g, 0, none⟩) 60 64) (encHead b) := by
            refine ⟨_, 64, by rw [encHead_len], fun _ => ⟨g, 0, rfl, fun j hj => ?_⟩⟩
            rw [Nat.zero_add, bytesV_cell row8 (by rw [List.length_append]; omega)]
            rw [List.getD_eq_getElem?_getD, List.getD_eq_getElem?_getD, List.getElem?_append_left hj]
          have hcw : IntKind.u64.wrap ((crcL (encHead b) : Nat) : Int) = ((crcL (encHead b) : Nat) : Int) := by
            have := crcL_lt (encHead b)
            rw [IntKind.wrap_u64]
            omega
          have CRC := Lib.hid (crc_eq (hrd.nob ((Fr.refl Nob w6).drew)) (by rw [encHead_len]; omega))
          have LAY := Lib.hid (lay_eq (w := w6.drew) (g := g) (off := 60) (n := 4) (cap := 4) R8.out (by omega) (by rw [List.length_append, encHead_len]; exact Nat.le_refl 64) (crcL (encHead b)))
          clear row7 row8 f7 hrd hcl h3
          go_wp2_with fail
          go_region_with (first | (go_at_call 66; (with_reducible refine CRC.out.mono ?_); rintro e w8 ⟨rfl, rfl⟩) | (go_at_call 65; (with_reducible refine LAY.out.mono ?_); rintro e w9 ⟨rfl, row9, f9⟩))
          all_goals
            have e9 : spliced (encHead b ++ List.replicate 4 0) 60 (le 4 (crcL (encHead b))) = enc b := by
              have h := filled_splice (A := encHead b) (bs := le 4 (crcL (encHead b))) (n := 4) (encHead_len b) (by rw [le_len]; omega)
              rw [le_len] at h
              unfold filled at h
              rw [h]
              unfold enc
              simp
            rw [e9] at row9
            have R9 := Lib.hid row9
            have F9 := Lib.hid (Fr.undrew f9)
            clear row9 f9 e9
            go_wp2_with fail
            go_ret
            exact ⟨g, rfl, R9.out, F7.out.trans F9.out fun k hk h => by
              have h : k = g := h
              have := HGW.out
              omega, HGW.out⟩

end Go.Proofs.Ytpdljgjofebgpaa
