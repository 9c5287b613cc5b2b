/-
  The law's awake.
-/
import Derived.Test.YtefjcjmdmnfbhaaTabDT
namespace Go.Proofs.Ytefjcjmdmnfbhaa
open Go.RowKit

def kA : ByteArray := ⟨#[97]⟩
def kB : ByteArray := ⟨#[98]⟩
def kC : ByteArray := ⟨#[99]⟩
def aw1 : KT := setK (newK 1) kA 1
def aw2 : KT := setK aw1 kB 2
def aw3 : KT := setK aw2 kC 3
def aw4 : KT := delK aw3 kA
def aw5 : KT := delK aw4 kA
theorem aw_f1 : kA ∉ keysM (newK 1).m := by decide +kernel
theorem aw_f2 : kB ∉ keysM aw1.m := by decide +kernel
theorem aw_n2 : aw2.now.length = 2 ∧ aw2.left = 1 := by decide +kernel
theorem aw_f3 : kC ∉ keysM aw2.m := by decide +kernel
theorem aw_n3 : aw3.left = 0 := by decide +kernel
theorem aw_g3 : getV aw3.m kB = 2 ∧ getB aw3.m kB = true := by decide +kernel
theorem aw_d3 : kA ∈ keysM aw3.m := by decide +kernel
theorem aw_d4 : ¬ kA ∈ keysM aw4.m := by decide +kernel
theorem aw_m5 : keysM aw5.m = [kB, kC] ∧ aw5.m.length = 2 ∧ aw5.now.length = 2 := by decide +kernel
theorem aw_c5 : (aw5.now.getD 0 []).length + (aw5.now.getD 1 []).length = 2 := by decide +kernel
theorem aw_s5 : sortB (keysM aw5.m) = [kB, kC] := by
  rw [aw_m5.1]
  refine sortB_unique (List.Perm.refl _) ?_
  refine List.pairwise_cons.2 ⟨fun a ha => ?_, List.pairwise_singleton ..⟩
  rw [List.mem_singleton.1 ha]
  unfold leK
  decide +kernel
theorem aw_len : (newK 1).m.length ≤ 1000000 ∧ aw1.m.length ≤ 1000000 ∧ aw2.m.length ≤ 1000000 ∧ aw3.m.length ≤ 1000000 ∧ aw4.m.length ≤ 1000000 := by decide +kernel
theorem sz1 (b : UInt8) : (⟨#[b]⟩ : ByteArray).size < 9223372036854775808 := by show 1 < _; omega

set_option maxHeartbeats 8000000 in
set_option maxRecDepth 100000 in
theorem awake_ok (w : World) : Calls Try.prog 10 #[] w fun e w' => e = .returned (.bool true) ∧ Fr Nob w w' := by
  go_enter Try.func10, Try.ntmps10
  go_wp2_with fail
  refine (DT.new (W0 := w) (Fr.refl _ _) 1 (by omega) (by omega) (by decide +kernel)).mono ?_
  rintro e w1 ⟨t, rfl, s1, f1⟩
  clear f1
  go_wp2_with fail
  refine (s1.out.set kA 1 (sz1 _) aw_len.1).mono ?_
  rintro e w2 ⟨rfl, s2, f2⟩
  rw [decide_eq_true aw_f1]
  clear s1 f2
  go_wp2_with fail
  refine (DT.set (S := aw1) s2.out kB 2 (sz1 _) aw_len.2.1).mono ?_
  rintro e w3 ⟨rfl, s3, f3⟩
  rw [decide_eq_true aw_f2]
  clear s2 f3
  go_wp2_with fail
  have s3 : Hid (DT w w3 t aw2) := s3
  refine s3.out.buckets.mono ?_
  rintro e _ ⟨rfl, rfl⟩
  rw [aw_n2.1]
  go_wp2_with fail
  refine s3.out.left.mono ?_
  rintro e _ ⟨rfl, rfl⟩
  rw [aw_n2.2]
  go_wp2_with fail
  refine (s3.out.set kC 3 (sz1 _) aw_len.2.2.1).mono ?_
  rintro e w4 ⟨rfl, s4, f4⟩
  rw [decide_eq_true aw_f3]
  have s4 : Hid (DT w w4 t aw3) := s4
  clear s3 f4
  go_wp2_with fail
  refine s4.out.left.mono ?_
  rintro e _ ⟨rfl, rfl⟩
  rw [aw_n3]
  go_wp2_with fail
  refine (s4.out.get kB (sz1 _)).mono ?_
  rintro e w5 ⟨rfl, m, rfl⟩
  rw [aw_g3.1, aw_g3.2]
  have s5 := Lib.hid (s4.out.nob ((Fr.refl Nob w4).drewN m))
  clear s4
  generalize w4.drewN m = w5 at *
  go_wp2_with fail
  refine (s5.out.del kA (sz1 _) aw_len.2.2.2.1).mono ?_
  rintro e w6 ⟨rfl, s6, f6⟩
  rw [decide_eq_true aw_d3]
  have s6 : Hid (DT w w6 t aw4) := s6
  clear s5 f6
  go_wp2_with fail
  refine (s6.out.del kA (sz1 _) aw_len.2.2.2.2).mono ?_
  rintro e w7 ⟨rfl, s7, f7⟩
  rw [decide_eq_false aw_d4]
  have s7 : Hid (DT w w7 t aw5) := s7
  clear s6 f7
  go_wp2_with fail
  refine s7.out.len.mono ?_
  rintro e _ ⟨rfl, rfl⟩
  rw [aw_m5.2.1]
  go_wp2_with fail
  refine (s7.out.keys (by rw [aw_m5.2.1]; omega)).mono ?_
  rintro e w8 ⟨v8, rfl, o8, f8⟩
  rw [aw_m5.2.1, aw_s5] at o8
  have s8 := Lib.hid (s7.out.nob f8.out)
  clear s7 f8
  have f9 : Fr Nob w8 (w8.alloc (.cells #[.string ⟨#[98]⟩, .string ⟨#[99]⟩] 9)) := (Fr.refl Nob w8).alloc _
  have o9 := Lib.hid (RdS.of_row (f9.ownsRow o8.out fun _ _ h => h))
  have s9 := Lib.hid (s8.out.nob f9)
  have r9 : Hid (RdS (w8.alloc (.cells #[.string ⟨#[98]⟩, .string ⟨#[99]⟩] 9)) (.slice (some ⟨w8.heap.size, 0, none⟩) 2 2) [kB, kC]) := Lib.hid ⟨_, 2, rfl, fun _ => ⟨w8.heap.size, 0, rfl, fun j k hk => by
    have h := cell_of_row _ w8.heap.size (0 + j) _ _ (0, 0) (heap_alloc_new w8 (.cells #[.string ⟨#[98]⟩, .string ⟨#[99]⟩] 9))
    rw [h]
    rw [Nat.zero_add]
    match j, hk with
    | 0, hk => cases hk; rfl
    | 1, hk => cases hk; rfl⟩⟩
  clear f9 s8 o8
  go_wp2_with fail
  refine (texts_eq o9.out r9.out (by simp)).mono ?_
  rintro e w10 ⟨rfl, n, rfl⟩
  rw [decide_eq_true rfl]
  have s10 := Lib.hid (s9.out.nob ((Fr.refl Nob _).drewN n))
  clear s9 r9 o9
  generalize World.drewN _ n = w10 at *
  go_wp2_with fail
  refine (s10.out.chain (i := 0) (by rw [aw_m5.2.2]; omega) (by rw [aw_m5.2.1]; omega)).mono ?_
  rintro e w11 ⟨v11, rfl, o11, f11⟩
  have s11 := Lib.hid (s10.out.nob f11.out)
  clear s10 f11
  obtain ⟨a1, c1, rfl, h1, _, _⟩ := own_shape o11.out
  have hc := Lib.hid aw_c5
  generalize (aw5.now.getD 0 []).length = l0 at *
  go_wp2_with fail
  refine (s11.out.chain (i := 1) (by rw [aw_m5.2.2]; omega) (by rw [aw_m5.2.1]; omega)).mono ?_
  rintro e w12 ⟨v12, rfl, o12, f12⟩
  have s12 := Lib.hid (s11.out.nob f12.out)
  clear s11 f12
  obtain ⟨a2, c2, rfl, h2, _, _⟩ := own_shape o12.out
  generalize (aw5.now.getD 1 []).length = l1 at *
  have hs : ((l0 : Int) + (l1 : Int)) = 2 := by have := hc.out; omega
  go_wp2_with fail
  go_ret
  exact ⟨rfl, s12.out.fr⟩
end Go.Proofs.Ytefjcjmdmnfbhaa
