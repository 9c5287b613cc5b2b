/-
  The law SegPlays, walked. (Printed by gen/segplays.py.)
-/
import Derived.Test.YthcalhmiielfkaaSegZ
import Derived.Test.YthcalhmiielfkaaSegShares
import Derived.Deep.RegionHeld3
namespace Go.Proofs.Ythcalhmiielfkaa
open Go.RowKit

set_option maxRecDepth 100000 in
set_option maxHeartbeats 8000000 in
theorem segPlays_walk (A : Option Addr) (n cap : Nat) (z : Nat → Int × Int) (w : World) (hz : ActRow w A n z) :
    Calls Try.prog 4 #[.slice A n cap] w fun e w' => e = .returned (.bool true) ∧ Fr Nob w w' := by
  have Z := Lib.hid hz
  clear hz
  by_cases hn : n ≤ 150
  · go_enter Try.func4, Try.ntmps4
    go_wp2_with fail
    refine (awake_ok w).mono ?_
    rintro e w0 ⟨rfl, f0⟩
    have F0 := Lib.hid f0
    clear f0
    go_wp2_with fail
    refine (new_eq w0).mono ?_
    rintro e w1 ⟨p, K, rfl, a1, f1, h1⟩
    have fa := (Fr.refl Nob w1).alloc (.cells #[.slice none 0 0, .slice none 0 0, .slice none 0 0] 33)
    have B0 := Lib.hid (Bth.start a1 (W := w) (fun k hk => Nat.le_trans F0.out.size (h1 k hk)) (F0.out.trans' f1) fa (Nat.le_refl _) (heap_alloc_new w1 _))
    have O0 := Lib.hid Sg.Ok.none
    have M0 := Lib.hid Sim.start
    obtain ⟨q, hq⟩ : ∃ q, q = w1.heap.size := ⟨_, rfl⟩
    rw [← hq] at B0
    clear a1 f1 h1 fa
    go_upto_region 7 with fail
    rw [← hq]
    clear hq
    generalize w1.alloc (.cells #[.slice none 0 0, .slice none 0 0, .slice none 0 0] 33) = w2 at *
    go_wp2_with fail
    go_loopw [5] (fun i wr => ∃ (k : Nat) (S : Sg) (R : Nat → List Nd), k ≤ n ∧ i = .int .i64 k ∧ Hid (Bth w wr p S q R 0 none) ∧ Hid S.Ok ∧ Hid (Sim S R) ∧ Hid (S.tot ≤ k)) (fun i _ => n - (Lib.intOf i).toNat)
    case atStart => exact ⟨0, _, _, by omega, rfl, B0, O0, M0, Lib.hid (by decide)⟩
    case round =>
      clear B0 O0 M0
      obtain ⟨k, S, R, hk, rfl, B3, O, M, T⟩ := hrel
      by_cases hkn : k < n
      · obtain ⟨b, o, rfl⟩ := Z.out.addr (by omega)
        obtain ⟨c1, c2⟩ := (Z.out.keep B3.out.fr).cell rfl hkn
        have i1 := Z.out.op k hkn
        generalize (z k).1 = op at c1 i1
        generalize (z k).2 = id at c2
        have T9 : Hid (S.tot ≤ 10000) := Lib.hid (Nat.le_trans T.out (by omega))
        have TR : Hid (rLen R ≤ 10000) := Lib.hid (by rw [M.out.tot]; exact T9.out)
        have hX1 := heap_alloc_new wr (.cells #[.int .i64 op, .int .i64 id] 35)
        have fX := (Fr.refl Nob wr).alloc (.cells #[.int .i64 op, .int .i64 id] 35)
        obtain ⟨X, hX⟩ : ∃ X, X = wr.heap.size := ⟨_, rfl⟩
        rw [← hX] at hX1
        have B4 := Lib.hid (B3.out.side fX (Y := X) (by omega) hX1)
        have hki : (k : Int) < (n : Int) := by omega
        clear hX1 fX B3
        go_upto_region 11 with fail
        rw [← hX]
        clear hX c1 c2
        generalize wr.alloc (.cells #[.int .i64 op, .int .i64 id] 35) = w4 at *
        by_cases h0 : op = 0
        · subst h0
          have x1 : w4.cell? ⟨X, 1, none⟩ = some (.int .i64 id) := cell_of_row w4 X 1 _ _ (0, 0) B4.out.at_
          have x0 : w4.cell? ⟨X, 0, none⟩ = some (.int .i64 0) := cell_of_row w4 X 0 _ _ (0, 0) B4.out.at_
          go_wp2_with fail
          go_region_held3 (fun w' => w'.cell? ⟨X, 1, none⟩ = some (.int .i64 id))
            (first | go_keep | exact x1 | assumption)
            (first
            | (go_at_call 15; (with_reducible refine ((B4.out.nob (Fr.refl Nob w4).drew).add O.out T9.out _).mono ?_); rintro e w5 ⟨rfl, SX, b5, h5⟩; have H5 := Lib.hid h5; clear h5; have y1 : w5.cell? ⟨X, 1, none⟩ = some (.int .i64 id) := cell_of_row w5 X 1 _ _ (0, 0) b5.at_; have B5 := Lib.hid b5; clear b5)
            | (go_at_call 16; (with_reducible refine (B5.out.radd M.out O.out TR.out H5.out).mono ?_); rintro e w6 ⟨rfl, RX, b6, m6⟩; have z1 : w6.cell? ⟨X, 1, none⟩ = some (.int .i64 id) := cell_of_row w6 X 1 _ _ (0, 0) b6.at_; have BB := Lib.hid b6; have MM := Lib.hid m6; clear b6 m6))
          have OO := Lib.hid H5.out.1
          have TT : Hid (SX.tot ≤ k + 1) := Lib.hid (Nat.le_trans H5.out.tot (Nat.succ_le_succ T.out))
          generalize (getM S.I id).isSome = b0
          clear y1 z1 x0 x1 H5 B5 B4
          have LS := Lib.hid (BB.out.lists (Nat.le_trans TT.out (by omega)))
          go_wp2_with fail
          refine LS.out.mono ?_
          rintro e w7 ⟨va, vb, vc, rfl, ra, rb, rc, f7⟩
          have B7 := Lib.hid ((BB.out.nob f7).off 0)
          have RA := Lib.hid ra
          have RB := Lib.hid rb
          have RC := Lib.hid rc
          obtain ⟨V, hV⟩ := B7.out.nodes
          have c0 := (hV 0 (by omega)).1
          have HV := Lib.hid hV
          have LE : Hid (∀ t, t < 3 → (SX.get t).length ≤ 200 ∧ (RX t).length ≤ 200 ∧ SX.get t = ids (RX t)) := Lib.hid fun t ht => by
            have h1 := SX.get_le ht
            have h2 := MM.out.ids t ht
            have h3 := TT.out
            have h4 : (ids (RX t)).length = (RX t).length := ids_len _
            rw [h2] at h4
            exact ⟨by omega, by omega, h2.symm⟩
          have HT : Hid (SX.tot ≤ 10000) := Lib.hid (Nat.le_trans TT.out (by omega))
          clear LS BB ra rb rc hV f7
          go_wp2_with fail
          refine (IDs_eq (HV.out 0 (by omega)).2 (by have := (LE.out 0 (by omega)).2.1; omega)).mono ?_
          rintro e w8 ⟨v8, rfl, o8, f8⟩
          have R8 : Hid (RdInts w8 v8 (ids (RX 0))) := Lib.hid (.of_row o8)
          have F8 := Lib.hid f8
          clear o8 f8 c0
          go_wp2_with fail
          refine (ints_eq (RA.out.keep F8.out fun _ _ h => h) R8.out (by have := (LE.out 0 (by omega)).1; omega) (by rw [ids_len]; have := (LE.out 0 (by omega)).2.1; omega)).mono ?_
          rintro e w9 ⟨rfl, n9, rfl⟩
          rw [decide_eq_true ((LE.out 0 (by omega)).2.2)]
          have F9 := Lib.hid (F8.out.drewN n9)
          generalize w8.drewN n9 = w9 at *
          have c1 := F9.out.cell (HV.out 1 (by omega)).1 fun h => h
          clear F8 R8 RA
          go_wp2_with fail
          refine (IDs_eq ((HV.out 1 (by omega)).2.keep F9.out fun _ _ h => h) (by have := (LE.out 1 (by omega)).2.1; omega)).mono ?_
          rintro e w10 ⟨v10, rfl, o10, f10⟩
          have R10 : Hid (RdInts w10 v10 (ids (RX 1))) := Lib.hid (.of_row o10)
          have F10 := Lib.hid (F9.out.trans' f10)
          clear o10 f10 c1 F9
          go_wp2_with fail
          refine (ints_eq (RB.out.keep F10.out fun _ _ h => h) R10.out (by have := (LE.out 1 (by omega)).1; omega) (by rw [ids_len]; have := (LE.out 1 (by omega)).2.1; omega)).mono ?_
          rintro e w11 ⟨rfl, n11, rfl⟩
          rw [decide_eq_true ((LE.out 1 (by omega)).2.2)]
          have F11 := Lib.hid (F10.out.drewN n11)
          generalize w10.drewN n11 = w11 at *
          have c2 := F11.out.cell (HV.out 2 (by omega)).1 fun h => h
          clear F10 R10 RB
          go_wp2_with fail
          refine (IDs_eq ((HV.out 2 (by omega)).2.keep F11.out fun _ _ h => h) (by have := (LE.out 2 (by omega)).2.1; omega)).mono ?_
          rintro e w12 ⟨v12, rfl, o12, f12⟩
          have R12 : Hid (RdInts w12 v12 (ids (RX 2))) := Lib.hid (.of_row o12)
          have F12 := Lib.hid (F11.out.trans' f12)
          clear o12 f12 c2 F11
          go_wp2_with fail
          refine (ints_eq (RC.out.keep F12.out fun _ _ h => h) R12.out (by have := (LE.out 2 (by omega)).1; omega) (by rw [ids_len]; have := (LE.out 2 (by omega)).2.1; omega)).mono ?_
          rintro e w13 ⟨rfl, n13, rfl⟩
          rw [decide_eq_true ((LE.out 2 (by omega)).2.2)]
          have B13 := Lib.hid (B7.out.nob (F12.out.drewN n13))
          generalize w12.drewN n13 = w13 at *
          clear F12 R12 RC B7 HV LE
          go_wp2_with fail
          refine (B13.out.len OO.out).mono ?_
          rintro e _ ⟨rfl, rfl⟩
          go_wp2_with fail
          refine (B13.out.rlen MM.out HT.out).mono ?_
          rintro e w14 ⟨rfl, f14⟩
          have B14 := Lib.hid (B13.out.nob f14)
          clear f14 B13 HT
          go_wp2_with fail
          go_roundw
          case rel => exact ⟨k + 1, SX, RX, by omega, by go_num, B14, OO, MM, TT⟩
          case measure => simp [Lib.intOf]; omega
        · by_cases h1 : op = 1
          · subst h1
            have x1 : w4.cell? ⟨X, 1, none⟩ = some (.int .i64 id) := cell_of_row w4 X 1 _ _ (0, 0) B4.out.at_
            have x0 : w4.cell? ⟨X, 0, none⟩ = some (.int .i64 1) := cell_of_row w4 X 0 _ _ (0, 0) B4.out.at_
            go_wp2_with fail
            go_region_held3 (fun w' => w'.cell? ⟨X, 1, none⟩ = some (.int .i64 id))
              (first | go_keep | exact x1 | assumption)
              (first
              | (go_at_call 12; (with_reducible refine ((B4.out.nob (Fr.refl Nob w4).drew).touch _).mono ?_); rintro e w5 ⟨rfl, b5⟩; have y1 : w5.cell? ⟨X, 1, none⟩ = some (.int .i64 id) := cell_of_row w5 X 1 _ _ (0, 0) b5.at_; have B5 := Lib.hid b5; clear b5)
              | (go_at_call 17; (with_reducible refine (B5.out.rtouch M.out O.out TR.out _ rfl).mono ?_); rintro e w6 ⟨rfl, RX, b6, m6⟩; have z1 : w6.cell? ⟨X, 1, none⟩ = some (.int .i64 id) := cell_of_row w6 X 1 _ _ (0, 0) b6.at_; have BB := Lib.hid b6; have MM := Lib.hid m6; clear b6 m6))
            have OO : Hid (if (getM S.I id).isSome then S.touched id else S).Ok := Lib.hid (by
              split
              · rename_i h; exact O.out.touch h
              · exact O.out)
            have TT : Hid ((if (getM S.I id).isSome then S.touched id else S).tot ≤ k + 1) := Lib.hid (by
              have := T.out
              split
              · show S.tot ≤ _; omega
              · omega)
            generalize (if (getM S.I id).isSome then S.touched id else S) = SX at *
            generalize (getM S.I id).isSome = b0
            clear y1 z1 x0 x1 B5 B4
            have LS := Lib.hid (BB.out.lists (Nat.le_trans TT.out (by omega)))
            go_wp2_with fail
            refine LS.out.mono ?_
            rintro e w7 ⟨va, vb, vc, rfl, ra, rb, rc, f7⟩
            have B7 := Lib.hid ((BB.out.nob f7).off 0)
            have RA := Lib.hid ra
            have RB := Lib.hid rb
            have RC := Lib.hid rc
            obtain ⟨V, hV⟩ := B7.out.nodes
            have c0 := (hV 0 (by omega)).1
            have HV := Lib.hid hV
            have LE : Hid (∀ t, t < 3 → (SX.get t).length ≤ 200 ∧ (RX t).length ≤ 200 ∧ SX.get t = ids (RX t)) := Lib.hid fun t ht => by
              have h1 := SX.get_le ht
              have h2 := MM.out.ids t ht
              have h3 := TT.out
              have h4 : (ids (RX t)).length = (RX t).length := ids_len _
              rw [h2] at h4
              exact ⟨by omega, by omega, h2.symm⟩
            have HT : Hid (SX.tot ≤ 10000) := Lib.hid (Nat.le_trans TT.out (by omega))
            clear LS BB ra rb rc hV f7
            go_wp2_with fail
            refine (IDs_eq (HV.out 0 (by omega)).2 (by have := (LE.out 0 (by omega)).2.1; omega)).mono ?_
            rintro e w8 ⟨v8, rfl, o8, f8⟩
            have R8 : Hid (RdInts w8 v8 (ids (RX 0))) := Lib.hid (.of_row o8)
            have F8 := Lib.hid f8
            clear o8 f8 c0
            go_wp2_with fail
            refine (ints_eq (RA.out.keep F8.out fun _ _ h => h) R8.out (by have := (LE.out 0 (by omega)).1; omega) (by rw [ids_len]; have := (LE.out 0 (by omega)).2.1; omega)).mono ?_
            rintro e w9 ⟨rfl, n9, rfl⟩
            rw [decide_eq_true ((LE.out 0 (by omega)).2.2)]
            have F9 := Lib.hid (F8.out.drewN n9)
            generalize w8.drewN n9 = w9 at *
            have c1 := F9.out.cell (HV.out 1 (by omega)).1 fun h => h
            clear F8 R8 RA
            go_wp2_with fail
            refine (IDs_eq ((HV.out 1 (by omega)).2.keep F9.out fun _ _ h => h) (by have := (LE.out 1 (by omega)).2.1; omega)).mono ?_
            rintro e w10 ⟨v10, rfl, o10, f10⟩
            have R10 : Hid (RdInts w10 v10 (ids (RX 1))) := Lib.hid (.of_row o10)
            have F10 := Lib.hid (F9.out.trans' f10)
            clear o10 f10 c1 F9
            go_wp2_with fail
            refine (ints_eq (RB.out.keep F10.out fun _ _ h => h) R10.out (by have := (LE.out 1 (by omega)).1; omega) (by rw [ids_len]; have := (LE.out 1 (by omega)).2.1; omega)).mono ?_
            rintro e w11 ⟨rfl, n11, rfl⟩
            rw [decide_eq_true ((LE.out 1 (by omega)).2.2)]
            have F11 := Lib.hid (F10.out.drewN n11)
            generalize w10.drewN n11 = w11 at *
            have c2 := F11.out.cell (HV.out 2 (by omega)).1 fun h => h
            clear F10 R10 RB
            go_wp2_with fail
            refine (IDs_eq ((HV.out 2 (by omega)).2.keep F11.out fun _ _ h => h) (by have := (LE.out 2 (by omega)).2.1; omega)).mono ?_
            rintro e w12 ⟨v12, rfl, o12, f12⟩
            have R12 : Hid (RdInts w12 v12 (ids (RX 2))) := Lib.hid (.of_row o12)
            have F12 := Lib.hid (F11.out.trans' f12)
            clear o12 f12 c2 F11
            go_wp2_with fail
            refine (ints_eq (RC.out.keep F12.out fun _ _ h => h) R12.out (by have := (LE.out 2 (by omega)).1; omega) (by rw [ids_len]; have := (LE.out 2 (by omega)).2.1; omega)).mono ?_
            rintro e w13 ⟨rfl, n13, rfl⟩
            rw [decide_eq_true ((LE.out 2 (by omega)).2.2)]
            have B13 := Lib.hid (B7.out.nob (F12.out.drewN n13))
            generalize w12.drewN n13 = w13 at *
            clear F12 R12 RC B7 HV LE
            go_wp2_with fail
            refine (B13.out.len OO.out).mono ?_
            rintro e _ ⟨rfl, rfl⟩
            go_wp2_with fail
            refine (B13.out.rlen MM.out HT.out).mono ?_
            rintro e w14 ⟨rfl, f14⟩
            have B14 := Lib.hid (B13.out.nob f14)
            clear f14 B13 HT
            go_wp2_with fail
            go_roundw
            case rel => exact ⟨k + 1, SX, RX, by omega, by go_num, B14, OO, MM, TT⟩
            case measure => simp [Lib.intOf]; omega
          · by_cases h2 : op = 2
            · subst h2
              have x1 : w4.cell? ⟨X, 1, none⟩ = some (.int .i64 id) := cell_of_row w4 X 1 _ _ (0, 0) B4.out.at_
              have x0 : w4.cell? ⟨X, 0, none⟩ = some (.int .i64 2) := cell_of_row w4 X 0 _ _ (0, 0) B4.out.at_
              go_wp2_with fail
              go_region_held3 (fun w' => w'.cell? ⟨X, 1, none⟩ = some (.int .i64 id))
                (first | go_keep | exact x1 | assumption)
                (first
                | (go_at_call 13; (with_reducible refine ((B4.out.nob (Fr.refl Nob w4).drew).remove O.out T9.out _).mono ?_); rintro e w5 ⟨rfl, SX, b5, h5⟩; have H5 := Lib.hid h5; clear h5; have y1 : w5.cell? ⟨X, 1, none⟩ = some (.int .i64 id) := cell_of_row w5 X 1 _ _ (0, 0) b5.at_; have B5 := Lib.hid b5; clear b5)
                | (go_at_call 18; (with_reducible refine (B5.out.rremove M.out O.out TR.out H5.out).mono ?_); rintro e w6 ⟨rfl, RX, b6, m6⟩; have z1 : w6.cell? ⟨X, 1, none⟩ = some (.int .i64 id) := cell_of_row w6 X 1 _ _ (0, 0) b6.at_; have BB := Lib.hid b6; have MM := Lib.hid m6; clear b6 m6))
              have OO := Lib.hid H5.out.1
              have TT : Hid (SX.tot ≤ k + 1) := Lib.hid (Nat.le_trans H5.out.tot (Nat.le_trans T.out (Nat.le_succ k)))
              generalize (getM S.I id).isSome = b0
              clear y1 z1 x0 x1 H5 B5 B4
              have LS := Lib.hid (BB.out.lists (Nat.le_trans TT.out (by omega)))
              go_wp2_with fail
              refine LS.out.mono ?_
              rintro e w7 ⟨va, vb, vc, rfl, ra, rb, rc, f7⟩
              have B7 := Lib.hid ((BB.out.nob f7).off 0)
              have RA := Lib.hid ra
              have RB := Lib.hid rb
              have RC := Lib.hid rc
              obtain ⟨V, hV⟩ := B7.out.nodes
              have c0 := (hV 0 (by omega)).1
              have HV := Lib.hid hV
              have LE : Hid (∀ t, t < 3 → (SX.get t).length ≤ 200 ∧ (RX t).length ≤ 200 ∧ SX.get t = ids (RX t)) := Lib.hid fun t ht => by
                have h1 := SX.get_le ht
                have h2 := MM.out.ids t ht
                have h3 := TT.out
                have h4 : (ids (RX t)).length = (RX t).length := ids_len _
                rw [h2] at h4
                exact ⟨by omega, by omega, h2.symm⟩
              have HT : Hid (SX.tot ≤ 10000) := Lib.hid (Nat.le_trans TT.out (by omega))
              clear LS BB ra rb rc hV f7
              go_wp2_with fail
              refine (IDs_eq (HV.out 0 (by omega)).2 (by have := (LE.out 0 (by omega)).2.1; omega)).mono ?_
              rintro e w8 ⟨v8, rfl, o8, f8⟩
              have R8 : Hid (RdInts w8 v8 (ids (RX 0))) := Lib.hid (.of_row o8)
              have F8 := Lib.hid f8
              clear o8 f8 c0
              go_wp2_with fail
              refine (ints_eq (RA.out.keep F8.out fun _ _ h => h) R8.out (by have := (LE.out 0 (by omega)).1; omega) (by rw [ids_len]; have := (LE.out 0 (by omega)).2.1; omega)).mono ?_
              rintro e w9 ⟨rfl, n9, rfl⟩
              rw [decide_eq_true ((LE.out 0 (by omega)).2.2)]
              have F9 := Lib.hid (F8.out.drewN n9)
              generalize w8.drewN n9 = w9 at *
              have c1 := F9.out.cell (HV.out 1 (by omega)).1 fun h => h
              clear F8 R8 RA
              go_wp2_with fail
              refine (IDs_eq ((HV.out 1 (by omega)).2.keep F9.out fun _ _ h => h) (by have := (LE.out 1 (by omega)).2.1; omega)).mono ?_
              rintro e w10 ⟨v10, rfl, o10, f10⟩
              have R10 : Hid (RdInts w10 v10 (ids (RX 1))) := Lib.hid (.of_row o10)
              have F10 := Lib.hid (F9.out.trans' f10)
              clear o10 f10 c1 F9
              go_wp2_with fail
              refine (ints_eq (RB.out.keep F10.out fun _ _ h => h) R10.out (by have := (LE.out 1 (by omega)).1; omega) (by rw [ids_len]; have := (LE.out 1 (by omega)).2.1; omega)).mono ?_
              rintro e w11 ⟨rfl, n11, rfl⟩
              rw [decide_eq_true ((LE.out 1 (by omega)).2.2)]
              have F11 := Lib.hid (F10.out.drewN n11)
              generalize w10.drewN n11 = w11 at *
              have c2 := F11.out.cell (HV.out 2 (by omega)).1 fun h => h
              clear F10 R10 RB
              go_wp2_with fail
              refine (IDs_eq ((HV.out 2 (by omega)).2.keep F11.out fun _ _ h => h) (by have := (LE.out 2 (by omega)).2.1; omega)).mono ?_
              rintro e w12 ⟨v12, rfl, o12, f12⟩
              have R12 : Hid (RdInts w12 v12 (ids (RX 2))) := Lib.hid (.of_row o12)
              have F12 := Lib.hid (F11.out.trans' f12)
              clear o12 f12 c2 F11
              go_wp2_with fail
              refine (ints_eq (RC.out.keep F12.out fun _ _ h => h) R12.out (by have := (LE.out 2 (by omega)).1; omega) (by rw [ids_len]; have := (LE.out 2 (by omega)).2.1; omega)).mono ?_
              rintro e w13 ⟨rfl, n13, rfl⟩
              rw [decide_eq_true ((LE.out 2 (by omega)).2.2)]
              have B13 := Lib.hid (B7.out.nob (F12.out.drewN n13))
              generalize w12.drewN n13 = w13 at *
              clear F12 R12 RC B7 HV LE
              go_wp2_with fail
              refine (B13.out.len OO.out).mono ?_
              rintro e _ ⟨rfl, rfl⟩
              go_wp2_with fail
              refine (B13.out.rlen MM.out HT.out).mono ?_
              rintro e w14 ⟨rfl, f14⟩
              have B14 := Lib.hid (B13.out.nob f14)
              clear f14 B13 HT
              go_wp2_with fail
              go_roundw
              case rel => exact ⟨k + 1, SX, RX, by omega, by go_num, B14, OO, MM, TT⟩
              case measure => simp [Lib.intOf]; omega
            · have b0 : (op == 0) = false := by simpa using h0
              have b1 : (op == 1) = false := by simpa using h1
              have b2 : (op == 2) = false := by simpa using h2
              have x0 : w4.cell? ⟨X, 0, none⟩ = some (.int .i64 op) := cell_of_row w4 X 0 _ _ (0, 0) B4.out.at_
              go_wp2_with fail
              refine (B4.out.evict O.out T9.out).mono ?_
              rintro e w5 ⟨x, ok, SX, rfl, b5, h5⟩
              have H5 := Lib.hid h5
              have B5 := Lib.hid b5
              clear h5 b5 x0 B4
              go_wp2_with fail
              refine (B5.out.revict M.out O.out TR.out H5.out).mono ?_
              rintro e w6 ⟨rfl, RX, b6, m6⟩
              have BB := Lib.hid b6
              have MM := Lib.hid m6
              have OO := Lib.hid H5.out.1
              have TT : Hid (SX.tot ≤ k + 1) := Lib.hid (Nat.le_trans H5.out.tot (Nat.le_trans T.out (Nat.le_succ k)))
              clear b6 m6 H5 B5
              have LS := Lib.hid (BB.out.lists (Nat.le_trans TT.out (by omega)))
              go_wp2_with fail
              refine LS.out.mono ?_
              rintro e w7 ⟨va, vb, vc, rfl, ra, rb, rc, f7⟩
              have B7 := Lib.hid ((BB.out.nob f7).off 0)
              have RA := Lib.hid ra
              have RB := Lib.hid rb
              have RC := Lib.hid rc
              obtain ⟨V, hV⟩ := B7.out.nodes
              have c0 := (hV 0 (by omega)).1
              have HV := Lib.hid hV
              have LE : Hid (∀ t, t < 3 → (SX.get t).length ≤ 200 ∧ (RX t).length ≤ 200 ∧ SX.get t = ids (RX t)) := Lib.hid fun t ht => by
                have h1 := SX.get_le ht
                have h2 := MM.out.ids t ht
                have h3 := TT.out
                have h4 : (ids (RX t)).length = (RX t).length := ids_len _
                rw [h2] at h4
                exact ⟨by omega, by omega, h2.symm⟩
              have HT : Hid (SX.tot ≤ 10000) := Lib.hid (Nat.le_trans TT.out (by omega))
              clear LS BB ra rb rc hV f7
              go_wp2_with fail
              refine (IDs_eq (HV.out 0 (by omega)).2 (by have := (LE.out 0 (by omega)).2.1; omega)).mono ?_
              rintro e w8 ⟨v8, rfl, o8, f8⟩
              have R8 : Hid (RdInts w8 v8 (ids (RX 0))) := Lib.hid (.of_row o8)
              have F8 := Lib.hid f8
              clear o8 f8 c0
              go_wp2_with fail
              refine (ints_eq (RA.out.keep F8.out fun _ _ h => h) R8.out (by have := (LE.out 0 (by omega)).1; omega) (by rw [ids_len]; have := (LE.out 0 (by omega)).2.1; omega)).mono ?_
              rintro e w9 ⟨rfl, n9, rfl⟩
              rw [decide_eq_true ((LE.out 0 (by omega)).2.2)]
              have F9 := Lib.hid (F8.out.drewN n9)
              generalize w8.drewN n9 = w9 at *
              have c1 := F9.out.cell (HV.out 1 (by omega)).1 fun h => h
              clear F8 R8 RA
              go_wp2_with fail
              refine (IDs_eq ((HV.out 1 (by omega)).2.keep F9.out fun _ _ h => h) (by have := (LE.out 1 (by omega)).2.1; omega)).mono ?_
              rintro e w10 ⟨v10, rfl, o10, f10⟩
              have R10 : Hid (RdInts w10 v10 (ids (RX 1))) := Lib.hid (.of_row o10)
              have F10 := Lib.hid (F9.out.trans' f10)
              clear o10 f10 c1 F9
              go_wp2_with fail
              refine (ints_eq (RB.out.keep F10.out fun _ _ h => h) R10.out (by have := (LE.out 1 (by omega)).1; omega) (by rw [ids_len]; have := (LE.out 1 (by omega)).2.1; omega)).mono ?_
              rintro e w11 ⟨rfl, n11, rfl⟩
              rw [decide_eq_true ((LE.out 1 (by omega)).2.2)]
              have F11 := Lib.hid (F10.out.drewN n11)
              generalize w10.drewN n11 = w11 at *
              have c2 := F11.out.cell (HV.out 2 (by omega)).1 fun h => h
              clear F10 R10 RB
              go_wp2_with fail
              refine (IDs_eq ((HV.out 2 (by omega)).2.keep F11.out fun _ _ h => h) (by have := (LE.out 2 (by omega)).2.1; omega)).mono ?_
              rintro e w12 ⟨v12, rfl, o12, f12⟩
              have R12 : Hid (RdInts w12 v12 (ids (RX 2))) := Lib.hid (.of_row o12)
              have F12 := Lib.hid (F11.out.trans' f12)
              clear o12 f12 c2 F11
              go_wp2_with fail
              refine (ints_eq (RC.out.keep F12.out fun _ _ h => h) R12.out (by have := (LE.out 2 (by omega)).1; omega) (by rw [ids_len]; have := (LE.out 2 (by omega)).2.1; omega)).mono ?_
              rintro e w13 ⟨rfl, n13, rfl⟩
              rw [decide_eq_true ((LE.out 2 (by omega)).2.2)]
              have B13 := Lib.hid (B7.out.nob (F12.out.drewN n13))
              generalize w12.drewN n13 = w13 at *
              clear F12 R12 RC B7 HV LE
              go_wp2_with fail
              refine (B13.out.len OO.out).mono ?_
              rintro e _ ⟨rfl, rfl⟩
              go_wp2_with fail
              refine (B13.out.rlen MM.out HT.out).mono ?_
              rintro e w14 ⟨rfl, f14⟩
              have B14 := Lib.hid (B13.out.nob f14)
              clear f14 B13 HT
              go_wp2_with fail
              go_roundw
              case rel => exact ⟨k + 1, SX, RX, by omega, by go_num, B14, OO, MM, TT⟩
              case measure => simp [Lib.intOf]; omega
      · have hkn : k = n := by omega
        subst hkn
        go_wp2_with fail
        go_ret
        exact ⟨rfl, B3.out.fr⟩
  · go_enter Try.func4, Try.ntmps4
    go_wp2_with fail
    refine (awake_ok w).mono ?_
    rintro e w0 ⟨rfl, f0⟩
    have f0 := Lib.hid f0
    go_wp2_with fail
    go_ret
    exact ⟨rfl, f0.out⟩

end Go.Proofs.Ythcalhmiielfkaa
