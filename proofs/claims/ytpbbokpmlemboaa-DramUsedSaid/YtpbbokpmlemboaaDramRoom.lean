/-
  The law DramRoom, walked.
-/
import Derived.Test.YtpbbokpmlemboaaDrAw
import Derived.Test.YtpbbokpmlemboaaDrIn
import Derived.Test.YtpbbokpmlemboaaDrZ
namespace Go.Proofs.Ytpbbokpmlemboaa
open Go.RowKit Sl

theorem first_bad3 {a b c : Prop} [Decidable a] [Decidable b] [Decidable c] (h : ¬ (¬ a ∧ ¬ b ∧ ¬ c)) : a ∨ (¬ a ∧ b) ∨ (¬ a ∧ ¬ b ∧ c) := by
  by_cases ha : a
  · exact .inl ha
  · by_cases hb : b
    · exact .inr (.inl ⟨ha, hb⟩)
    · exact .inr (.inr ⟨ha, hb, Classical.byContradiction fun hc => h ⟨ha, hb, hc⟩⟩)

theorem DW.peek_no {W w : World} {c : Nat} {C : DC} {X : Nat → Prop} (d : DW W w c C X) (k : ByteArray) (hs : k.size < 9223372036854775808) (hk : C.look k = none) :
    Calls Try.prog 15 #[.pointer (some ⟨c, 0, none⟩), .string k] w fun e w' => e = .returned (.tuple #[.agg #[.string ⟨#[]⟩, .string ⟨#[]⟩, .int .u32 0, .int .i64 0, .int .u64 0, .bool false], .bool false]) ∧ Fr Nob w w' := d.peek_none k hs hk

theorem item_sameN (k v : ByteArray) (f e r : Int) (w : World) : (binOp .neq 33 (.agg #[.string k, .string v, .int .u32 f, .int .i64 e, .int .u64 r]) (.agg #[.string k, .string v, .int .u32 f, .int .i64 e, .int .u64 r])).run Try.prog w = .ok (.bool false) w := by
  have h := item_same k v f e r w
  rw [run_eql_struct] at h
  rw [run_neq_struct]
  generalize (Op.equalIn 10000 33 (.agg #[.string k, .string v, .int .u32 f, .int .i64 e, .int .u64 r]) (.agg #[.string k, .string v, .int .u32 f, .int .i64 e, .int .u64 r])).run Try.prog w = r at *
  cases r with
  | ok b w' =>
    simp [Result.andThen] at h ⊢
    obtain ⟨rfl, rfl⟩ := h
    exact ⟨rfl, rfl⟩
  | _ => simp [Result.andThen] at h
theorem box9 {w : World} {b : Nat} {v0 v1 v2 v3 v4 v5 v6 v7 v8 : Value} {t : TypeId} (h : w.heap[b]? = some (.cells #[v0, v1, v2, v3, v4, v5, v6, v7, v8] t (0, 0))) :
    w.cell? ⟨b, 0, none⟩ = some v0 ∧ w.cell? ⟨b, 1, none⟩ = some v1 ∧ w.cell? ⟨b, 2, none⟩ = some v2 ∧ w.cell? ⟨b, 3, none⟩ = some v3 ∧ w.cell? ⟨b, 4, none⟩ = some v4 ∧ w.cell? ⟨b, 5, none⟩ = some v5 ∧ w.cell? ⟨b, 6, none⟩ = some v6 ∧ w.cell? ⟨b, 7, none⟩ = some v7 ∧ w.cell? ⟨b, 8, none⟩ = some v8 := by
  have g := fun j => cell_of_row w b j _ _ (0, 0) h
  exact ⟨g 0, g 1, g 2, g 3, g 4, g 5, g 6, g 7, g 8⟩

set_option maxHeartbeats 8000000 in
set_option maxRecDepth 100000 in
theorem dramRoom_in (m : Nat) (A : Option Addr) (n cap : Nat) (z : List DAct) (w : World) (hm1 : 1 ≤ m) (hm2 : m ≤ 12) (hn : n ≤ 80) (hz : InD w A n cap z) :
    Calls Try.prog 4 #[.int .i64 m, .slice A n cap] w fun e w' => e = .returned (.bool true) ∧ Fr Nob w w' := by
  have e1 : ¬ (m : Int) < 1 := by omega
  have e2 : ¬ 12 < (m : Int) := by omega
  have e3 : ¬ 80 < (n : Int) := by omega
  have HZ := Lib.hid hz
  clear hz
  go_enter Try.func4, Try.ntmps4
  go_wp2_with fail
  refine (awake_ok w).mono ?_
  rintro e w1 ⟨rfl, f1⟩
  have F1 := Lib.hid f1
  clear f1
  go_wp2_with fail
  refine (DW.new (X := Nob) m F1.out (by omega) (by omega) (fun _ h => h.elim)).mono ?_
  rintro e w2 ⟨c, rfl, d2, -⟩
  clear F1
  go_wp2_with fail
  go_loopw [7, 8, 9, 10, 11, 12, 13, 14, 15] (fun i _ _ _ _ _ _ _ _ wr => ∃ j : Nat, j ≤ n ∧ i = .int .i64 j ∧ ∃ C, Hid (DW w wr c C Nob) ∧ Hid (C.M.length ≤ m) ∧ Hid (C.S.length = m)) (fun i _ _ _ _ _ _ _ _ _ => n - (Lib.intOf i).toNat)
  case atStart => exact ⟨0, Nat.zero_le _, rfl, newC m, d2, Lib.hid (Nat.zero_le _), Lib.hid List.length_replicate⟩
  case round =>
    clear d2
    obtain ⟨j, hj, rfl, C, D, ML, SL⟩ := hrel
    by_cases hlt : j < n
    · have hlt2 : (j : Int) < (n : Int) := by omega
      obtain ⟨g, o, z1, rfl, hz1, ⟨q0, q1, q2, q3, q4, q5, q6, q7, q8⟩, hin⟩ := HZ.out.cell D.out.fr hlt
      obtain ⟨op, ⟨xk, xv, xf, xe, xr⟩, xc, key, now⟩ := z1
      have hks : key.size < 9223372036854775808 := hin.2
      have hxs : xk.size < 9223372036854775808 := hin.1.1
      clear hin hz1
      by_cases hop : op = 2
      · subst hop
        go_upto_region 12 with fail
        have f3 : Fr Nob wr (wr.alloc (.cells #[.int .i64 2, .string xk, .string xv, .int .u32 xf, .int .i64 xe, .int .u64 xr, .bool xc, .string key, .int .i64 now] 40)) := (Fr.refl Nob wr).alloc _
        have a8 := heap_alloc_new wr (.cells #[.int .i64 2, .string xk, .string xv, .int .u32 xf, .int .i64 xe, .int .u64 xr, .bool xc, .string key, .int .i64 now] 40)
        have d3 := Lib.hid ((D.out.more f3 (Y := fun q => q = wr.heap.size) fun q hq => ⟨by omega, by rw [hq]; exact lt_of_block a8⟩).less (Y := fun q => q = wr.heap.size) fun _ h => .inr h)
        clear D f3 q0 q1 q2 q3 q4 q5 q6 q7 q8
        generalize wr.alloc (.cells #[.int .i64 2, .string xk, .string xv, .int .u32 xf, .int .i64 xe, .int .u64 xr, .bool xc, .string key, .int .i64 now] 40) = w3 at *
        generalize wr.heap.size = B8 at *
        obtain ⟨p0, p1, p2, p3, p4, p5, p6, p7, p8⟩ := box9 a8
        go_wp2_with fail
        refine (d3.out.del key hks).mono ?_
        rintro e w4 ⟨rfl, C2, dt, d4, -⟩
        have td := dt.out.told d3.out.ok
        have ML2 : Hid (C2.M.length ≤ m) := Lib.hid (by have := td.len; have := ML.out; omega)
        have SL2 : Hid (C2.S.length = m) := Lib.hid (td.sl.trans SL.out)
        have D4 := Lib.hid (d4.out.less (Y := Nob) fun _ h => h.elim)
        clear dt td d3 d4 ML SL
        go_wp2_with fail
        go_roundw
        case rel => exact ⟨j + 1, by omega, by go_num, C2, D4, ML2, SL2⟩
        case measure => simp [Lib.intOf]; omega
      · have hop2 : (op == 2) = false := by simpa using hop
        go_upto_region 12 with fail
        have f3 : Fr Nob wr (wr.alloc (.cells #[.int .i64 op, .string xk, .string xv, .int .u32 xf, .int .i64 xe, .int .u64 xr, .bool xc, .string key, .int .i64 now] 40)) := (Fr.refl Nob wr).alloc _
        have a8 := heap_alloc_new wr (.cells #[.int .i64 op, .string xk, .string xv, .int .u32 xf, .int .i64 xe, .int .u64 xr, .bool xc, .string key, .int .i64 now] 40)
        have d3 := Lib.hid ((D.out.more f3 (Y := fun q => q = wr.heap.size) fun q hq => ⟨by omega, by rw [hq]; exact lt_of_block a8⟩).less (Y := fun q => q = wr.heap.size) fun _ h => .inr h)
        clear D f3 q0 q1 q2 q3 q4 q5 q6 q7 q8
        generalize wr.alloc (.cells #[.int .i64 op, .string xk, .string xv, .int .u32 xf, .int .i64 xe, .int .u64 xr, .bool xc, .string key, .int .i64 now] 40) = w3 at *
        generalize wr.heap.size = B8 at *
        obtain ⟨p0, p1, p2, p3, p4, p5, p6, p7, p8⟩ := box9 a8
        cases hlk : C.look xk with
        | none =>
          have LK := Lib.hid hlk
          go_wp2_with fail
          refine (d3.out.peek_no xk hxs hlk).mono ?_
          rintro e w4 ⟨rfl, f4⟩
          have f4' := f4.trans' ((Fr.refl Nob w4).alloc (.cells #[.string ⟨#[]⟩, .string ⟨#[]⟩, .int .u32 0, .int .i64 0, .int .u64 0, .bool false] 42))
          have A8 := Lib.hid (f4'.heap a8 fun h => h)
          have d4 := Lib.hid (d3.out.nob f4')
          clear d3 f4 f4' p0 p1 p2 p3 p4 p5 p6 p7 p8 a8 hlk
          go_upto_region 15 with fail
          generalize w4.alloc (.cells #[.string ⟨#[]⟩, .string ⟨#[]⟩, .int .u32 0, .int .i64 0, .int .u64 0, .bool false] 42) = w5 at *
          obtain ⟨p0, p1, p2, p3, p4, p5, p6, p7, p8⟩ := box9 A8.out
          have ml := ML.out
          by_cases hfull : C.M.length < m
          · have hf2 : ¬ (m : Int) ≤ (C.M.length : Int) := by omega
            go_wp2_with fail
            refine d4.out.len.mono ?_
            rintro e w' ⟨rfl, rfl⟩
            go_wp2_with fail
            refine d4.out.len.mono ?_
            rintro e w' ⟨rfl, rfl⟩
            by_cases hg : goodI ⟨xk, xv, xf, xe, xr⟩ = true
            · go_wp2_with fail
              refine (d4.out.put xk xv xf xe xr false hg).mono ?_
              rintro e w5 ⟨r, os, C2, rfl, pt, d5, row, f5⟩
              have td := pt.out.told hg d4.out.ok
              have hos : os = [] := put_room pt.out d4.out.ok (by show _ < _ + (if (C.look xk).isSome then 1 else 0); rw [LK.out]; simp only [Option.isSome_none, if_false, Bool.false_eq_true]; have := SL.out; have := ML.out; omega)
              subst hos
              have LK2 : Hid (C2.look xk = some ((⟨xk, xv, xf, xe, xr⟩ : It), false)) := Lib.hid (by rw [td.look, if_pos rfl])
              have hlen := td.len
              rw [show C.look (⟨xk, xv, xf, xe, xr⟩ : It).key = none from LK.out] at hlen
              have LN : Hid (C2.M.length = C.M.length + 1) := Lib.hid (by simpa using hlen)
              have ML2 : Hid (C2.M.length ≤ m) := Lib.hid (by rw [LN.out]; have := ML.out; omega)
              have SL2 : Hid (C2.S.length = m) := Lib.hid (td.sl.trans SL.out)
              obtain ⟨A1, c1, rfl⟩ := own_form row.out
              have a8' := f5.out.heap A8.out rfl
              have A9 := Lib.hid a8'
              have d6 := Lib.hid (d5.out.less (Y := fun q => q = B8) fun _ h => .inl h)
              clear pt td hlen row f5 d5 d4 LK ML SL A8
              obtain ⟨p0, p1, p2, p3, p4, p5, p6, p7, p8⟩ := box9 a8'
              go_wp2_with fail
              refine (d6.out.peek_some (o := ((⟨xk, xv, xf, xe, xr⟩ : It), false)) xk hxs LK2.out).mono ?_
              rintro e w6 ⟨rfl, f6⟩
              have d7 := Lib.hid (d6.out.nob f6)
              have a9 := f6.heap A9.out fun h => h
              clear d6 f6 p0 p1 p2 p3 p4 p5 p6 p7 p8 a8' A9
              go_upto_region 20 with fail
              have f7 : Fr Nob w6 (w6.alloc (.cells #[.string xk, .string xv, .int .u32 xf, .int .i64 xe, .int .u64 xr, .bool false] 42)) := (Fr.refl Nob w6).alloc _
              have a14 := heap_alloc_new w6 (.cells #[.string xk, .string xv, .int .u32 xf, .int .i64 xe, .int .u64 xr, .bool false] 42)
              have d8 := Lib.hid (d7.out.nob f7)
              replace a9 := f7.heap a9 fun h => h
              clear d7 f7
              generalize w6.alloc (.cells #[.string xk, .string xv, .int .u32 xf, .int .i64 xe, .int .u64 xr, .bool false] 42) = w7 at *
              obtain ⟨p0, p1, p2, p3, p4, p5, p6, p7, p8⟩ := box9 a9
              obtain ⟨s0, s1, s2, s3, s4, s5, sz⟩ := box6 a14
              clear sz
              have E1 := item_sameN xk xv xf xe xr
              have ln2 := LN.out
              have lnE : (C2.M.length : Int) = (C.M.length : Int) + 1 := by omega
              have mb := ML2.out
              go_wp2_with fail
              refine d8.out.len.mono ?_
              rintro e w' ⟨rfl, rfl⟩
              have D8 := Lib.hid (d8.out.less (Y := Nob) fun _ h => h.elim)
              go_wp2_with fail
              go_roundw
              case rel => exact ⟨j + 1, by omega, by go_num, C2, D8, ML2, SL2⟩
              case measure => simp [Lib.intOf]; omega
            · have hg : goodI ⟨xk, xv, xf, xe, xr⟩ = false := by simpa using hg
              go_wp2_with fail
              refine (put_bad xk xv xf xe xr false hg).mono ?_
              rintro e w5 ⟨rfl, f5⟩
              have D5 := Lib.hid ((d4.out.nob f5).less (Y := Nob) fun _ h => h.elim)
              clear d4 f5
              go_wp2_with fail
              go_roundw
              case rel => exact ⟨j + 1, by omega, by go_num, C, D5, ML, SL⟩
              case measure => simp [Lib.intOf]; omega
          · have hf2 : (m : Int) ≤ (C.M.length : Int) := by omega
            go_wp2_with fail
            refine d4.out.len.mono ?_
            rintro e w' ⟨rfl, rfl⟩
            have D4 := Lib.hid (d4.out.less (Y := Nob) fun _ h => h.elim)
            go_wp2_with fail
            go_roundw
            case rel => exact ⟨j + 1, by omega, by go_num, C, D4, ML, SL⟩
            case measure => simp [Lib.intOf]; omega
        | some o =>
          have LK := Lib.hid hlk
          obtain ⟨⟨ok, ov, of', oe, or'⟩, oc⟩ := o
          go_wp2_with fail
          refine (d3.out.peek_some (o := ((⟨ok, ov, of', oe, or'⟩ : It), oc)) xk hxs hlk).mono ?_
          rintro e w4 ⟨rfl, f4⟩
          have f4' := f4.trans' ((Fr.refl Nob w4).alloc (.cells #[.string ok, .string ov, .int .u32 of', .int .i64 oe, .int .u64 or', .bool oc] 42))
          have A8 := Lib.hid (f4'.heap a8 fun h => h)
          have d4 := Lib.hid (d3.out.nob f4')
          clear d3 f4 f4' p0 p1 p2 p3 p4 p5 p6 p7 p8 a8 hlk
          go_upto_region 15 with fail
          generalize w4.alloc (.cells #[.string ok, .string ov, .int .u32 of', .int .i64 oe, .int .u64 or', .bool oc] 42) = w5 at *
          obtain ⟨p0, p1, p2, p3, p4, p5, p6, p7, p8⟩ := box9 A8.out
          have ml := ML.out
          go_wp2_with fail
          refine d4.out.len.mono ?_
          rintro e w' ⟨rfl, rfl⟩
          by_cases hg : goodI ⟨xk, xv, xf, xe, xr⟩ = true
          · go_wp2_with fail
            refine (d4.out.put xk xv xf xe xr false hg).mono ?_
            rintro e w5 ⟨r, os, C2, rfl, pt, d5, row, f5⟩
            have td := pt.out.told hg d4.out.ok
            have hos : os = [] := put_room pt.out d4.out.ok (by show _ < _ + (if (C.look xk).isSome then 1 else 0); rw [LK.out]; simp only [Option.isSome_some, if_true]; have := SL.out; have := ML.out; omega)
            subst hos
            have LK2 : Hid (C2.look xk = some ((⟨xk, xv, xf, xe, xr⟩ : It), false)) := Lib.hid (by rw [td.look, if_pos rfl])
            have hlen := td.len
            rw [show C.look (⟨xk, xv, xf, xe, xr⟩ : It).key = some ((⟨ok, ov, of', oe, or'⟩ : It), oc) from LK.out] at hlen
            have LN : Hid (C2.M.length = C.M.length) := Lib.hid (by simpa using hlen)
            have ML2 : Hid (C2.M.length ≤ m) := Lib.hid (by rw [LN.out]; have := ML.out; omega)
            have SL2 : Hid (C2.S.length = m) := Lib.hid (td.sl.trans SL.out)
            obtain ⟨A1, c1, rfl⟩ := own_form row.out
            have a8' := f5.out.heap A8.out rfl
            have A9 := Lib.hid a8'
            have d6 := Lib.hid (d5.out.less (Y := fun q => q = B8) fun _ h => .inl h)
            clear pt td hlen row f5 d5 d4 LK ML SL A8
            obtain ⟨p0, p1, p2, p3, p4, p5, p6, p7, p8⟩ := box9 a8'
            go_wp2_with fail
            refine (d6.out.peek_some (o := ((⟨xk, xv, xf, xe, xr⟩ : It), false)) xk hxs LK2.out).mono ?_
            rintro e w6 ⟨rfl, f6⟩
            have d7 := Lib.hid (d6.out.nob f6)
            have a9 := f6.heap A9.out fun h => h
            clear d6 f6 p0 p1 p2 p3 p4 p5 p6 p7 p8 a8' A9
            go_upto_region 20 with fail
            have f7 : Fr Nob w6 (w6.alloc (.cells #[.string xk, .string xv, .int .u32 xf, .int .i64 xe, .int .u64 xr, .bool false] 42)) := (Fr.refl Nob w6).alloc _
            have a14 := heap_alloc_new w6 (.cells #[.string xk, .string xv, .int .u32 xf, .int .i64 xe, .int .u64 xr, .bool false] 42)
            have d8 := Lib.hid (d7.out.nob f7)
            replace a9 := f7.heap a9 fun h => h
            clear d7 f7
            generalize w6.alloc (.cells #[.string xk, .string xv, .int .u32 xf, .int .i64 xe, .int .u64 xr, .bool false] 42) = w7 at *
            obtain ⟨p0, p1, p2, p3, p4, p5, p6, p7, p8⟩ := box9 a9
            obtain ⟨s0, s1, s2, s3, s4, s5, sz⟩ := box6 a14
            clear sz
            have E1 := item_sameN xk xv xf xe xr
            have ln2 := LN.out
            have lnE : (C2.M.length : Int) = (C.M.length : Int) := by omega
            have mb := ML2.out
            go_wp2_with fail
            refine d8.out.len.mono ?_
            rintro e w' ⟨rfl, rfl⟩
            have D8 := Lib.hid (d8.out.less (Y := Nob) fun _ h => h.elim)
            go_wp2_with fail
            go_roundw
            case rel => exact ⟨j + 1, by omega, by go_num, C2, D8, ML2, SL2⟩
            case measure => simp [Lib.intOf]; omega
          · have hg : goodI ⟨xk, xv, xf, xe, xr⟩ = false := by simpa using hg
            go_wp2_with fail
            refine (put_bad xk xv xf xe xr false hg).mono ?_
            rintro e w5 ⟨rfl, f5⟩
            have D5 := Lib.hid ((d4.out.nob f5).less (Y := Nob) fun _ h => h.elim)
            clear d4 f5
            go_wp2_with fail
            go_roundw
            case rel => exact ⟨j + 1, by omega, by go_num, C, D5, ML, SL⟩
            case measure => simp [Lib.intOf]; omega
    · go_wp2_with fail
      go_ret
      exact ⟨rfl, D.out.fr⟩

set_option maxHeartbeats 3200000 in
set_option maxRecDepth 100000 in
theorem dramRoom_walk (m : Int) (A : Option Addr) (n cap : Nat) (z : List DAct) (w : World) (_hm : (Lit.int .i64 m).wf = true) (hz : InD w A n cap z) :
    Calls Try.prog 4 #[.int .i64 m, .slice A n cap] w fun e w' => e = .returned (.bool true) ∧ Fr Nob w w' := by
  by_cases hin : ¬ m < 1 ∧ ¬ 12 < m ∧ ¬ 80 < (n : Int)
  · obtain ⟨h1, h2, h3⟩ := hin
    obtain ⟨m, rfl⟩ := Int.eq_ofNat_of_zero_le (show 0 ≤ m by omega)
    exact dramRoom_in m A n cap z w (by omega) (by omega) (by omega) hz
  · have hor := first_bad3 hin
    clear hin _hm hz
    rcases hor with h | ⟨h1, h⟩ | ⟨h1, h2, h⟩
    all_goals
      go_enter Try.func4, Try.ntmps4
      go_wp2_with fail
      refine (awake_ok w).mono ?_
      rintro e w0 ⟨rfl, f0⟩
      have f0 := Lib.hid f0
      go_wp2_with fail
      go_ret
      exact ⟨rfl, f0.out⟩
end Go.Proofs.Ytpbbokpmlemboaa
