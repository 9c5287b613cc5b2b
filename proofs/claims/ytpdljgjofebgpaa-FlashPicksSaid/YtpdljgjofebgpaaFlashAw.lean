/-
  Law 3: awake.
-/
import Derived.Test.YtpdljgjofebgpaaFlashL
namespace Go.Proofs.Ytpdljgjofebgpaa
open Go.RowKit

theorem one_byte (w : World) (x : UInt8) : RdB (w.alloc (.cells #[.int .u8 (x.toNat : Int)] 5)) (.slice (some ⟨w.heap.size, 0, none⟩) 1 1) [x] :=
  RdB.of_block (l := [x]) (cap := 1) (heap_alloc_new w _)

theorem DL.not_new {W w : World} {q : Nat} {K N : Nat → Prop} {D : Dv} (h : DL W w q K N D) : ∀ k, w.heap.size ≤ k → ¬ K k := fun k hk h2 => by
  have := h.klt k h2
  omega

theorem row_byte {w : World} {base : Nat} {g n cap : Nat} {l : List UInt8} (h : w.ownsRow base 5 1 (.slice (some ⟨g, 0, none⟩) n cap) n (bytesV l)) {j : Nat} (hj : j < l.length) : w.cell? ⟨g, j, none⟩ = some (.int .u8 ((l.getD j 0).toNat : Int)) := by
  have := h.cells (g := g) rfl j _ (bytesV_at hj)
  have hadd : (⟨g, 0, none⟩ : Addr).add j = ⟨g, j, none⟩ := by unfold Addr.add; split <;> simp_all
  rwa [hadd] at this
theorem row_nat {w : World} {base : Nat} {g n cap : Nat} {l : List Nat} (h : w.ownsRow base 3 1 (.slice (some ⟨g, 0, none⟩) n cap) n (natsV l)) {j i : Nat} (hj : l[j]? = some i) : w.cell? ⟨g, j, none⟩ = some (.int .i64 (i : Int)) := by
  have := h.cells (g := g) rfl j _ (natsV_at hj)
  have hadd : (⟨g, 0, none⟩ : Addr).add j = ⟨g, j, none⟩ := by unfold Addr.add; split <;> simp_all
  rwa [hadd] at this

def dO3 : Dv := (((Dv.new 2).change 0 (.whole (pad [7]))).flush.change 0 (.whole (pad [8]))).read
def dA3 : Dv := ((dO3.crash [2]).on.read).read
theorem wrap01 : wrap64 (0 + 1) = 1 := by unfold wrap64; omega
theorem wrap11 : wrap64 (1 + 1) = 2 := by unfold wrap64; omega
theorem dA3_loss : dA3.loss = 2 := by
  show wrap64 (wrap64 (0 + 1) + 1) = 2
  rw [wrap01, wrap11]
theorem dO3_loss : dO3.loss = 0 := by rfl
theorem dA3_off : dA3.off = false := by rfl
theorem dA3_len : dA3.pg.length = 2 := by rfl
theorem dA3_n3 : dA3.n3 = 1 := by
  show wrap64 (0 + 1) = 1
  exact wrap01
theorem stat_field (w : World) (a b c d : Value) : (Instr.field 99 (.agg #[a, b, c, d]) 3).run Try.prog w = .ok d w := by kernel_rfl

set_option maxRecDepth 100000 in
set_option maxHeartbeats 2000000 in
theorem awake3_eq (w : World) : Calls Try.prog 34 #[] w fun e w' => e = .returned (.bool true) ∧ Fr Nob w w' := by
  go_enter Try.func34, Try.ntmps34
  go_wp2_with fail
  refine (DL.new (n := 2) (Fr.refl Nob w) (by omega) (by omega)).mono ?_
  rintro e w1 ⟨q, K, rfl, d, _, _⟩
  have D := Lib.hid d
  clear d
  go_wp2_with fail
  -- Write(0, {7})
  have d := D.out.nob ((Fr.refl Nob w1).alloc (.cells #[.int .u8 7] 5))
  refine (d.write (i := 0) (bs := [7]) (by decide) (one_byte w1 7) (by decide) false rfl).mono ?_
  rintro e w2 ⟨rfl, d, _⟩
  rw [errOff_false]
  replace D := Lib.hid d
  clear d
  go_wp2_with fail
  refine (D.out.flush false rfl).mono ?_
  rintro e w3 ⟨rfl, d, _⟩
  rw [errOff_false]
  replace D := Lib.hid d
  clear d
  go_wp2_with fail
  have d := D.out.nob ((Fr.refl Nob w3).alloc (.cells #[.int .u8 8] 5))
  refine (d.write (i := 0) (bs := [8]) (by decide) (one_byte w3 8) (by decide) false rfl).mono ?_
  rintro e w4 ⟨rfl, d, _⟩
  rw [errOff_false]
  replace D := Lib.hid d
  clear d
  go_wp2_with fail
  refine (D.out.read_whole (i := 0) (bs := pad [8]) (by decide) rfl rfl).mono ?_
  rintro e w5 ⟨x, rfl, own, hl, d, f5⟩
  obtain ⟨bx, cx, rfl⟩ := row_some own (by omega)
  have x0 : w5.cell? ⟨bx, 0, none⟩ = some (.int .u8 8) := row_byte own (j := 0) (by rw [hl]; omega)
  have x1 : w5.cell? ⟨bx, 1, none⟩ = some (.int .u8 0) := row_byte own (j := 1) (by rw [hl]; omega)
  have hbx := D.out.not_new bx (own.lt bx rfl).1
  have HBX := Lib.hid hbx
  replace D := Lib.hid d
  clear d own hl hbx f5
  go_wp2_with fail
  refine (D.out.waiting).mono ?_
  rintro e w6 ⟨y, rfl, own, f6⟩
  rw [show waits (((Dv.new 2).change 0 (Pg.whole (pad [7]))).flush.change 0 (Pg.whole (pad [8]))).read.pg = [0] from rfl] at own
  obtain ⟨b2, c2, rfl⟩ := row_some own (by decide)
  have y0 : w6.cell? ⟨b2, 0, none⟩ = some (.int .i64 0) := row_nat own (j := 0) (i := 0) rfl
  have hb2 := D.out.not_new b2 (own.lt b2 rfl).1
  have HB2 := Lib.hid hb2
  replace D := Lib.hid (D.out.nob f6)
  replace x0 := f6.cell x0 fun h => h
  replace x1 := f6.cell x1 fun h => h
  clear own hb2 f6
  go_wp2_with fail
  refine (D.out.copy).mono ?_
  rintro e w7 ⟨qo, Ko, rfl, dO, d, f7, hko⟩
  have hk7 : ∀ k, Ko k → ¬ K k := fun k h => D.out.not_new k (hko k h)
  have HK7 := Lib.hid hk7
  replace D := Lib.hid d
  have O := Lib.hid dO
  replace x0 := f7.cell x0 fun h => h
  replace x1 := f7.cell x1 fun h => h
  replace y0 := f7.cell y0 fun h => h
  clear d dO f7 hko hk7
  go_wp2_with fail
  have fa := (Fr.refl Nob w7).alloc (.cells #[.int .u8 2] 5)
  have d := D.out.nob fa
  replace O := Lib.hid (O.out.nob fa)
  replace x0 := fa.cell x0 fun h => h
  replace x1 := fa.cell x1 fun h => h
  replace y0 := fa.cell y0 fun h => h
  refine (d.crash (picks := [2]) (one_byte w7 2) (by decide) (fun k hk => D.out.not_new k (by
    have : w7.heap.size = k := by simpa [Value.ownBlock] using hk
    omega))).mono ?_
  rintro e w8 ⟨rfl, d, f8⟩
  replace D := Lib.hid d
  replace O := Lib.hid (O.out.keep f8 (d.fr) fun k h _ => ⟨.inr h, fun h2 => HK7.out k h2 h⟩)
  replace x0 := f8.cell x0 HBX.out
  replace x1 := f8.cell x1 HBX.out
  replace y0 := f8.cell y0 HB2.out
  clear d fa f8
  go_wp2_with fail
  refine (D.out.read_off (i := 0) (by decide) rfl).mono ?_
  rintro e w9 ⟨rfl, rfl⟩
  go_wp2_with fail
  refine (D.out.on).mono ?_
  rintro e w10 ⟨rfl, d, f8⟩
  replace D := Lib.hid d
  replace O := Lib.hid (O.out.keep f8 (d.fr) fun k h _ => ⟨.inr h, fun h2 => HK7.out k h2 h⟩)
  replace x0 := f8.cell x0 HBX.out
  replace x1 := f8.cell x1 HBX.out
  replace y0 := f8.cell y0 HB2.out
  clear d f8
  go_wp2_with fail
  refine (D.out.read_torn (i := 0) (by decide) rfl rfl).mono ?_
  rintro e w11 ⟨rfl, d, f8⟩
  replace D := Lib.hid d
  replace O := Lib.hid (O.out.keep f8 (d.fr) fun k h _ => ⟨.inr h, fun h2 => HK7.out k h2 h⟩)
  replace x0 := f8.cell x0 HBX.out
  replace x1 := f8.cell x1 HBX.out
  replace y0 := f8.cell y0 HB2.out
  clear d f8
  go_wp2_with fail
  refine (D.out.read_blank (i := 1) (by decide) rfl rfl).mono ?_
  rintro e w12 ⟨rfl, d, f8⟩
  replace D := Lib.hid d
  replace O := Lib.hid (O.out.keep f8 (d.fr) fun k h _ => ⟨.inr h, fun h2 => HK7.out k h2 h⟩)
  replace x0 := f8.cell x0 HBX.out
  replace x1 := f8.cell x1 HBX.out
  replace y0 := f8.cell y0 HB2.out
  clear d f8
  go_wp2_with fail
  have DA : Hid (DL w w12 q K (fun k => Nob k ∨ Ko k) dA3) := D
  have OA : Hid (DL w w12 qo Ko (fun k => Nob k ∨ K k) dO3) := O
  clear D O
  refine (DA.out.losses).mono ?_
  rintro e w' ⟨rfl, rfl⟩
  rw [dA3_loss]
  go_wp2_with fail
  refine (OA.out.losses).mono ?_
  rintro e w' ⟨rfl, rfl⟩
  rw [dO3_loss]
  go_wp2_with fail
  refine (DA.out.power).mono ?_
  rintro e w' ⟨rfl, rfl⟩
  rw [dA3_off]
  go_wp2_with fail
  refine (DA.out.pages).mono ?_
  rintro e w' ⟨rfl, rfl⟩
  rw [dA3_len]
  go_wp2_with fail
  refine (DA.out.stat).mono ?_
  rintro e w13 ⟨rfl, f13⟩
  rw [dA3_n3]
  replace OA := Lib.hid (OA.out.nob f13)
  clear f13 x0 x1 y0
  have hsf := stat_field w13 (.int .i64 dA3.n0) (.int .i64 dA3.n1) (.int .i64 dA3.n2) (.int .i64 1)
  go_wp2_with fail
  refine (OA.out.erase (i := 1) (by decide) false rfl).mono ?_
  rintro e w14 ⟨rfl, d, f8⟩
  rw [errOff_false]
  have F := Lib.hid d.fr
  clear d f8
  go_wp2_with fail
  go_ret
  exact ⟨rfl, F.out⟩

end Go.Proofs.Ytpdljgjofebgpaa
