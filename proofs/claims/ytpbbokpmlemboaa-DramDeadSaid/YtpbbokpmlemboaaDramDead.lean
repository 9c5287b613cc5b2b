/-
  The law DramDead, walked. (Printed by gen/drdead.py.)
-/
import Derived.Test.YtpbbokpmlemboaaDrAw
import Derived.Test.YtpbbokpmlemboaaDrIn
namespace Go.Proofs.Ytpbbokpmlemboaa
open Go.RowKit Sl

theorem DW.peek_no {W w : World} {c : Nat} {C : DC} {X : Nat → Prop} (d : DW W w c C X) (k : ByteArray) (hs : k.size < 9223372036854775808) (hk : C.look k = none) :
    Calls Try.prog 15 #[.pointer (some ⟨c, 0, none⟩), .string k] w fun e w' => e = .returned (.tuple #[.agg #[.string ⟨#[]⟩, .string ⟨#[]⟩, .int .u32 0, .int .i64 0, .int .u64 0, .bool false], .bool false]) ∧ Fr Nob w w' := d.peek_none k hs hk

set_option maxHeartbeats 8000000 in
set_option maxRecDepth 100000 in
theorem dramDead_in (k v : ByteArray) (fl ex ve now : Int) (w : World) (hs : k.size < 9223372036854775808) : Calls Try.prog 6 #[.agg #[.string k, .string v, .int .u32 fl, .int .i64 ex, .int .u64 ve], .int .i64 now] w fun e w' => e = .returned (.bool true) ∧ Fr Nob w w' := by
  have f0 : Fr Nob w (w.alloc (.cells #[.string k, .string v, .int .u32 fl, .int .i64 ex, .int .u64 ve] 33)) := (Fr.refl Nob w).alloc _
  have a0 := heap_alloc_new w (.cells #[.string k, .string v, .int .u32 fl, .int .i64 ex, .int .u64 ve] 33)
  have F0 := Lib.hid f0
  clear f0
  go_enter Try.func6, Try.ntmps6
  go_upto_region 1 with fail
  generalize w.alloc (.cells #[.string k, .string v, .int .u32 fl, .int .i64 ex, .int .u64 ve] 33) = w0 at *
  go_wp2_with fail
  refine (awake_ok w0).mono ?_
  rintro e w1 ⟨rfl, f1⟩
  replace a0 := f1.heap a0 fun h => h
  have F1 := Lib.hid (F0.out.trans' f1)
  have n1 := lt_of_block a0
  clear f1 F0
  go_wp2_with fail
  refine (DW.new (X := fun k => k = w.heap.size) 3 F1.out (by omega) (by omega) (fun k hk => by omega)).mono ?_
  rintro e w2 ⟨c, rfl, d2, f2⟩
  replace a0 := f2.out.heap a0 fun h => h
  obtain ⟨p0, p1, p2, p3, p4, pz⟩ := box5 a0
  clear f2 F1 n1 pz
  by_cases hg : goodI ⟨k, v, fl, ex, ve⟩ = true
  · go_wp2_with fail
    refine (d2.out.put k v fl ex ve true hg).mono ?_
    rintro e w3 ⟨r, os, C3, rfl, p3', d3, row, f3⟩
    have td := p3'.out.told hg d2.out.ok
    have LK : Hid (C3.look k = some ((⟨k, v, fl, ex, ve⟩ : It), true)) := Lib.hid (by rw [td.look, if_pos rfl])
    replace a0 := f3.out.heap a0 rfl
    have d4 := Lib.hid (d3.out.less (Y := fun k => k = w.heap.size) fun _ h => .inl h)
    clear p3' d3 row f3 d2 p0 p1 p2 p3 p4 td
    obtain ⟨p0, p1, p2, p3, p4, pz⟩ := box5 a0
    clear pz
    by_cases h1 : ex = 0
    · subst h1
      have DD : Hid (deadI ⟨k, v, fl, 0, ve⟩ now = false) := Lib.hid rfl
      go_wp2_with fail
      refine (d4.out.peek_some (o := ((⟨k, v, fl, 0, ve⟩ : It), true)) k hs LK.out).mono ?_
      rintro e w5 ⟨rfl, f5⟩
      have d5 := Lib.hid (d4.out.nob f5)
      replace a0 := f5.heap a0 fun h => h
      clear d4 f5 p0 p1 p2 p3 p4
      go_upto_region 11 with fail
      have f6 : Fr Nob w5 (w5.alloc (.cells #[.string k, .string v, .int .u32 fl, .int .i64 0, .int .u64 ve, .bool true] 42)) := (Fr.refl Nob w5).alloc _
      have a10 := heap_alloc_new w5 (.cells #[.string k, .string v, .int .u32 fl, .int .i64 0, .int .u64 ve, .bool true] 42)
      have d6 := Lib.hid (d5.out.more f6 (Y := fun q => q = w5.heap.size) fun q hq => ⟨by omega, by rw [hq]; exact lt_of_block a10⟩)
      replace a0 := f6.heap a0 fun h => h
      clear d5 f6
      generalize w5.alloc (.cells #[.string k, .string v, .int .u32 fl, .int .i64 0, .int .u64 ve, .bool true] 42) = w6 at *
      generalize w5.heap.size = B10 at *
      have LK4 := LK
      clear LK
      obtain ⟨p0, p1, p2, p3, p4, pz⟩ := box5 a0
      clear pz
      go_wp2_with fail
      refine (d6.out.get_live (o := ((⟨k, v, fl, 0, ve⟩ : It), true)) k now hs LK4.out DD.out).mono ?_
      rintro e w8 ⟨rfl, x, hx, d8, f8⟩
      have LK5 : Hid ((touchC C3 x).look k = some (⟨k, v, fl, 0, ve⟩, true)) := LK4
      generalize touchC C3 x = C5 at *
      replace a0 := f8.out.heap a0 (.inl rfl)
      replace a10 := f8.out.heap a10 (.inr rfl)
      clear hx d6 f8 p0 p1 p2 p3 p4 LK4
      go_upto_region 12 with fail
      have f9 : Fr Nob w8 (w8.alloc (.cells #[.string k, .string v, .int .u32 fl, .int .i64 0, .int .u64 ve] 33)) := (Fr.refl Nob w8).alloc _
      have a12 := heap_alloc_new w8 (.cells #[.string k, .string v, .int .u32 fl, .int .i64 0, .int .u64 ve] 33)
      have d10 := Lib.hid (d8.out.more f9 (Y := fun q => q = w8.heap.size) fun q hq => ⟨by omega, by rw [hq]; exact lt_of_block a12⟩)
      replace a0 := f9.heap a0 fun h => h
      replace a10 := f9.heap a10 fun h => h
      clear d8 f9
      generalize w8.alloc (.cells #[.string k, .string v, .int .u32 fl, .int .i64 0, .int .u64 ve] 33) = w9 at *
      generalize w8.heap.size = B12 at *
      obtain ⟨p0, p1, p2, p3, p4, pz⟩ := box5 a0
      clear pz
      go_wp2_with fail
      refine (d10.out.peek_some (o := ((⟨k, v, fl, 0, ve⟩ : It), true)) k hs LK5.out).mono ?_
      rintro e w10 ⟨rfl, f10⟩
      have d11 := Lib.hid (d10.out.nob f10)
      replace a0 := f10.heap a0 fun h => h
      replace a10 := f10.heap a10 fun h => h
      replace a12 := f10.heap a12 fun h => h
      clear d10 f10 p0 p1 p2 p3 p4
      go_upto_region 13 with fail
      have f11 := (Fr.refl Nob w10).alloc (.cells #[.string k, .string v, .int .u32 fl, .int .i64 0, .int .u64 ve, .bool true] 42)
      have d12 := Lib.hid (d11.out.nob f11)
      replace a0 := f11.heap a0 fun h => h
      replace a10 := f11.heap a10 fun h => h
      replace a12 := f11.heap a12 fun h => h
      clear d11 f11
      generalize w10.alloc (.cells #[.string k, .string v, .int .u32 fl, .int .i64 0, .int .u64 ve, .bool true] 42) = w11 at *
      obtain ⟨p0, p1, p2, p3, p4, pz⟩ := box5 a0
      obtain ⟨q0, q1, q2, q3, q4, q5, qz⟩ := box6 a10
      obtain ⟨s0, s1, s2, s3, s4, sz⟩ := box5 a12
      clear pz qz sz
      have E1 := item_same k v fl 0 ve
      have E2 := item_same ⟨#[]⟩ ⟨#[]⟩ 0 0 0
      have DL : Hid (∀ W, Calls Try.prog 14 #[.pointer (some ⟨c, 0, none⟩), .agg #[.string k, .string v, .int .u32 fl, .int .i64 0, .int .u64 ve], .int .i64 now] W fun e w' => e = .returned (.bool false) ∧ Fr Nob W w') := Lib.hid fun W => by rw [← DD.out]; exact dead_eq k v fl 0 ve now
      go_wp2_with fail
      refine (DL.out _).mono ?_
      rintro e w12 ⟨rfl, f12⟩
      have d13 := Lib.hid (d12.out.nob f12)
      clear f12 d12 p0 p1 p2 p3 p4 q0 q1 q2 q3 q4 q5 s0 s1 s2 s3 s4 E1 E2
      go_wp2_with fail
      go_ret
      exact ⟨rfl, d13.out.fr⟩
    · have h1' : (ex == 0) = false := by simpa using h1
      have h1n : (ex != 0) = true := by simp [h1]
      have H1 := Lib.hid h1
      by_cases h2 : ex ≤ now
      · have DD : Hid (deadI ⟨k, v, fl, ex, ve⟩ now = true) := Lib.hid (by unfold deadI; simp [h1, h2])
        clear h1
        go_wp2_with fail
        refine (d4.out.peek_some (o := ((⟨k, v, fl, ex, ve⟩ : It), true)) k hs LK.out).mono ?_
        rintro e w5 ⟨rfl, f5⟩
        have d5 := Lib.hid (d4.out.nob f5)
        replace a0 := f5.heap a0 fun h => h
        clear d4 f5 p0 p1 p2 p3 p4
        go_upto_region 11 with fail
        have f6 : Fr Nob w5 (w5.alloc (.cells #[.string k, .string v, .int .u32 fl, .int .i64 ex, .int .u64 ve, .bool true] 42)) := (Fr.refl Nob w5).alloc _
        have a10 := heap_alloc_new w5 (.cells #[.string k, .string v, .int .u32 fl, .int .i64 ex, .int .u64 ve, .bool true] 42)
        have d6 := Lib.hid (d5.out.more f6 (Y := fun q => q = w5.heap.size) fun q hq => ⟨by omega, by rw [hq]; exact lt_of_block a10⟩)
        replace a0 := f6.heap a0 fun h => h
        clear d5 f6
        generalize w5.alloc (.cells #[.string k, .string v, .int .u32 fl, .int .i64 ex, .int .u64 ve, .bool true] 42) = w6 at *
        generalize w5.heap.size = B10 at *
        have LK4 := LK
        clear LK
        obtain ⟨p0, p1, p2, p3, p4, pz⟩ := box5 a0
        clear pz
        go_wp2_with fail
        refine (d6.out.get_dead (o := ((⟨k, v, fl, ex, ve⟩ : It), true)) k now hs LK4.out DD.out).mono ?_
        rintro e w8 ⟨rfl, C5, x, hx, dt, d8, f8⟩
        have LK5 : Hid (C5.look k = none) := Lib.hid (by rw [(dt.out.rid d6.out.ok).look d6.out.ok, if_pos rfl])
        replace a0 := f8.out.heap a0 (.inl rfl)
        replace a10 := f8.out.heap a10 (.inr rfl)
        clear hx dt d6 f8 p0 p1 p2 p3 p4 LK4
        go_upto_region 12 with fail
        have f9 : Fr Nob w8 (w8.alloc (.cells #[.string ⟨#[]⟩, .string ⟨#[]⟩, .int .u32 0, .int .i64 0, .int .u64 0] 33)) := (Fr.refl Nob w8).alloc _
        have a12 := heap_alloc_new w8 (.cells #[.string ⟨#[]⟩, .string ⟨#[]⟩, .int .u32 0, .int .i64 0, .int .u64 0] 33)
        have d10 := Lib.hid (d8.out.more f9 (Y := fun q => q = w8.heap.size) fun q hq => ⟨by omega, by rw [hq]; exact lt_of_block a12⟩)
        replace a0 := f9.heap a0 fun h => h
        replace a10 := f9.heap a10 fun h => h
        clear d8 f9
        generalize w8.alloc (.cells #[.string ⟨#[]⟩, .string ⟨#[]⟩, .int .u32 0, .int .i64 0, .int .u64 0] 33) = w9 at *
        generalize w8.heap.size = B12 at *
        obtain ⟨p0, p1, p2, p3, p4, pz⟩ := box5 a0
        clear pz
        go_wp2_with fail
        refine (d10.out.peek_no k hs LK5.out).mono ?_
        rintro e w10 ⟨rfl, f10⟩
        have d11 := Lib.hid (d10.out.nob f10)
        replace a0 := f10.heap a0 fun h => h
        replace a10 := f10.heap a10 fun h => h
        replace a12 := f10.heap a12 fun h => h
        clear d10 f10 p0 p1 p2 p3 p4
        go_upto_region 13 with fail
        have f11 := (Fr.refl Nob w10).alloc (.cells #[.string ⟨#[]⟩, .string ⟨#[]⟩, .int .u32 0, .int .i64 0, .int .u64 0, .bool false] 42)
        have d12 := Lib.hid (d11.out.nob f11)
        replace a0 := f11.heap a0 fun h => h
        replace a10 := f11.heap a10 fun h => h
        replace a12 := f11.heap a12 fun h => h
        clear d11 f11
        generalize w10.alloc (.cells #[.string ⟨#[]⟩, .string ⟨#[]⟩, .int .u32 0, .int .i64 0, .int .u64 0, .bool false] 42) = w11 at *
        obtain ⟨p0, p1, p2, p3, p4, pz⟩ := box5 a0
        obtain ⟨q0, q1, q2, q3, q4, q5, qz⟩ := box6 a10
        obtain ⟨s0, s1, s2, s3, s4, sz⟩ := box5 a12
        clear pz qz sz
        have E1 := item_same k v fl ex ve
        have E2 := item_same ⟨#[]⟩ ⟨#[]⟩ 0 0 0
        have DL : Hid (∀ W, Calls Try.prog 14 #[.pointer (some ⟨c, 0, none⟩), .agg #[.string k, .string v, .int .u32 fl, .int .i64 ex, .int .u64 ve], .int .i64 now] W fun e w' => e = .returned (.bool true) ∧ Fr Nob W w') := Lib.hid fun W => by rw [← DD.out]; exact dead_eq k v fl ex ve now
        go_wp2_with fail
        refine (DL.out _).mono ?_
        rintro e w12 ⟨rfl, f12⟩
        have d13 := Lib.hid (d12.out.nob f12)
        clear f12 d12 p0 p1 p2 p3 p4 q0 q1 q2 q3 q4 q5 s0 s1 s2 s3 s4 E1 E2
        go_wp2_with fail
        go_ret
        exact ⟨rfl, d13.out.fr⟩
      · have DD : Hid (deadI ⟨k, v, fl, ex, ve⟩ now = false) := Lib.hid (by unfold deadI; simp [h2])
        clear h1
        go_wp2_with fail
        refine (d4.out.peek_some (o := ((⟨k, v, fl, ex, ve⟩ : It), true)) k hs LK.out).mono ?_
        rintro e w5 ⟨rfl, f5⟩
        have d5 := Lib.hid (d4.out.nob f5)
        replace a0 := f5.heap a0 fun h => h
        clear d4 f5 p0 p1 p2 p3 p4
        go_upto_region 11 with fail
        have f6 : Fr Nob w5 (w5.alloc (.cells #[.string k, .string v, .int .u32 fl, .int .i64 ex, .int .u64 ve, .bool true] 42)) := (Fr.refl Nob w5).alloc _
        have a10 := heap_alloc_new w5 (.cells #[.string k, .string v, .int .u32 fl, .int .i64 ex, .int .u64 ve, .bool true] 42)
        have d6 := Lib.hid (d5.out.more f6 (Y := fun q => q = w5.heap.size) fun q hq => ⟨by omega, by rw [hq]; exact lt_of_block a10⟩)
        replace a0 := f6.heap a0 fun h => h
        clear d5 f6
        generalize w5.alloc (.cells #[.string k, .string v, .int .u32 fl, .int .i64 ex, .int .u64 ve, .bool true] 42) = w6 at *
        generalize w5.heap.size = B10 at *
        have LK4 := LK
        clear LK
        obtain ⟨p0, p1, p2, p3, p4, pz⟩ := box5 a0
        clear pz
        go_wp2_with fail
        refine (d6.out.get_live (o := ((⟨k, v, fl, ex, ve⟩ : It), true)) k now hs LK4.out DD.out).mono ?_
        rintro e w8 ⟨rfl, x, hx, d8, f8⟩
        have LK5 : Hid ((touchC C3 x).look k = some (⟨k, v, fl, ex, ve⟩, true)) := LK4
        generalize touchC C3 x = C5 at *
        replace a0 := f8.out.heap a0 (.inl rfl)
        replace a10 := f8.out.heap a10 (.inr rfl)
        clear hx d6 f8 p0 p1 p2 p3 p4 LK4
        go_upto_region 12 with fail
        have f9 : Fr Nob w8 (w8.alloc (.cells #[.string k, .string v, .int .u32 fl, .int .i64 ex, .int .u64 ve] 33)) := (Fr.refl Nob w8).alloc _
        have a12 := heap_alloc_new w8 (.cells #[.string k, .string v, .int .u32 fl, .int .i64 ex, .int .u64 ve] 33)
        have d10 := Lib.hid (d8.out.more f9 (Y := fun q => q = w8.heap.size) fun q hq => ⟨by omega, by rw [hq]; exact lt_of_block a12⟩)
        replace a0 := f9.heap a0 fun h => h
        replace a10 := f9.heap a10 fun h => h
        clear d8 f9
        generalize w8.alloc (.cells #[.string k, .string v, .int .u32 fl, .int .i64 ex, .int .u64 ve] 33) = w9 at *
        generalize w8.heap.size = B12 at *
        obtain ⟨p0, p1, p2, p3, p4, pz⟩ := box5 a0
        clear pz
        go_wp2_with fail
        refine (d10.out.peek_some (o := ((⟨k, v, fl, ex, ve⟩ : It), true)) k hs LK5.out).mono ?_
        rintro e w10 ⟨rfl, f10⟩
        have d11 := Lib.hid (d10.out.nob f10)
        replace a0 := f10.heap a0 fun h => h
        replace a10 := f10.heap a10 fun h => h
        replace a12 := f10.heap a12 fun h => h
        clear d10 f10 p0 p1 p2 p3 p4
        go_upto_region 13 with fail
        have f11 := (Fr.refl Nob w10).alloc (.cells #[.string k, .string v, .int .u32 fl, .int .i64 ex, .int .u64 ve, .bool true] 42)
        have d12 := Lib.hid (d11.out.nob f11)
        replace a0 := f11.heap a0 fun h => h
        replace a10 := f11.heap a10 fun h => h
        replace a12 := f11.heap a12 fun h => h
        clear d11 f11
        generalize w10.alloc (.cells #[.string k, .string v, .int .u32 fl, .int .i64 ex, .int .u64 ve, .bool true] 42) = w11 at *
        obtain ⟨p0, p1, p2, p3, p4, pz⟩ := box5 a0
        obtain ⟨q0, q1, q2, q3, q4, q5, qz⟩ := box6 a10
        obtain ⟨s0, s1, s2, s3, s4, sz⟩ := box5 a12
        clear pz qz sz
        have E1 := item_same k v fl ex ve
        have E2 := item_same ⟨#[]⟩ ⟨#[]⟩ 0 0 0
        have DL : Hid (∀ W, Calls Try.prog 14 #[.pointer (some ⟨c, 0, none⟩), .agg #[.string k, .string v, .int .u32 fl, .int .i64 ex, .int .u64 ve], .int .i64 now] W fun e w' => e = .returned (.bool false) ∧ Fr Nob W w') := Lib.hid fun W => by rw [← DD.out]; exact dead_eq k v fl ex ve now
        go_wp2_with fail
        refine (DL.out _).mono ?_
        rintro e w12 ⟨rfl, f12⟩
        have d13 := Lib.hid (d12.out.nob f12)
        clear f12 d12 p0 p1 p2 p3 p4 q0 q1 q2 q3 q4 q5 s0 s1 s2 s3 s4 E1 E2
        go_wp2_with fail
        go_ret
        exact ⟨rfl, d13.out.fr⟩
  · have hg : goodI ⟨k, v, fl, ex, ve⟩ = false := by simpa using hg
    go_wp2_with fail
    refine (put_bad k v fl ex ve true hg).mono ?_
    rintro e w3 ⟨rfl, f3⟩
    have d3 := Lib.hid (d2.out.nob f3)
    clear d2 f3 p0 p1 p2 p3 p4 a0
    go_wp2_with fail
    refine d3.out.len.mono ?_
    rintro e w' ⟨rfl, rfl⟩
    rw [show ((newC 3).M.length : Int) = 0 from rfl]
    go_wp2_with fail
    go_ret
    exact ⟨rfl, d3.out.fr⟩

theorem dramDead_walk (z : It) (now : Int) (w : World) (hz : z.in_) (_hn : (Lit.int .i64 now).wf = true) : Calls Try.prog 6 #[itV z, .int .i64 now] w fun e w' => e = .returned (.bool true) ∧ Fr Nob w w' :=
  dramDead_in z.key z.val z.flags z.exp z.ver now w hz.1
end Go.Proofs.Ytpbbokpmlemboaa
