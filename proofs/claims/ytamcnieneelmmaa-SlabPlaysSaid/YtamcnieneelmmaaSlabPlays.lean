/-
  The law SlabPlays, walked.
-/
import Derived.Test.YtamcnieneelmmaaSlabW
import Derived.BigQuiet
namespace Go.Proofs.Ytamcnieneelmmaa
open Go.RowKit

set_option maxHeartbeats 6400000 in
set_option maxRecDepth 100000 in
theorem slabPlays_in (m : Nat) (A : Option Addr) (n cap : Nat) (z : Nat → ActD) (size : Int) (w : World) (hm1 : 1 ≤ m) (hm2 : m ≤ 40) (hn : n ≤ 200) (hz : ActRow w A n z) :
    Calls Try.prog 4 #[.int .i64 m, .slice A n cap, .int .i64 size] w fun e w' => e = .returned (.bool true) ∧ Fr Nob w w' := by
  have HZ := Lib.hid hz
  clear hz
  go_enter Try.func4, Try.ntmps4
  go_wp2_with fail
  refine (awake_ok w).mono ?_
  rintro e w0 ⟨rfl, f0⟩
  have f0 := Lib.hid f0
  go_wp2_with fail
  refine (new_eq _ m (by omega) (by omega)).mono ?_
  rintro e w1 ⟨p, b, rfl, s1, f1, hp, hb, -⟩
  have f1 := Lib.hid (f0.out.nob_new f1.out)
  have hb' : w.heap.size ≤ b := by have := f0.out.size; omega
  have hl := Lib.hid (List.length_replicate (n := m) (a := Pg.new))
  go_wp2_with fail
  refine (refNew_eq _ m (by omega) (by omega)).mono ?_
  rintro e w2 ⟨u, K, rfl, r2, f2, hK⟩
  have B := Lib.hid (show BS w w2 p b u K (List.replicate m Pg.new) (List.replicate m Pg.new) (.slice none 0 0) [] from
    ⟨s1.out.keep f2.out (fun h => h) (fun h => h), r2.out, f1.out.trans' f2.out, World.ownsRow_nil _ _ _ _, (fun _ _ h => by cases h), (fun k hk => by have := hK.out k hk; have := f1.out.size; omega), hb', (fun x hx => by cases hx)⟩)
  clear f0 s1 f1 r2 f2 hK hp hb
  go_wp2_with fail
  go_loopw [10, 11] (fun l i wr => ∃ (k : Nat) (K : Nat → Prop) (S : List Pg) (T : List Int), k ≤ n ∧ i = .int .i64 k ∧ T.length ≤ k ∧ Hid (BS w wr p b u K S S l T) ∧ Hid (S.length = m)) (fun _ i _ => n - (intOf i).toNat)
  case atStart => exact ⟨0, K, _, [], Nat.zero_le _, rfl, Nat.zero_le _, B, hl⟩
  case round =>
    clear B hl
    obtain ⟨k, K, S, T, hk, rfl, hT, B, hl⟩ := hrel
    obtain ⟨tA, tcap, rfl⟩ := own_form B.out.o
    by_cases hlt : k < n
    · obtain ⟨ba, oa, rfl⟩ := HZ.out.addr (by omega)
      obtain ⟨g0, g1, g2, g3⟩ := (HZ.out.keep B.out.f).cell rfl hlt
      have hatb := HZ.out.at_ k hlt
      have hofb := HZ.out.of_ k hlt
      generalize (z k).of_ = c at *
      generalize (z k).at_ = at_ at *
      generalize (z k).raw = raw at *
      generalize (z k).free = fre at *
      obtain ⟨X, hX⟩ : ∃ X, X = wr.heap.size := ⟨_, rfl⟩
      obtain ⟨wx, hx⟩ : ∃ wx, wx = wr.alloc (.cells #[.bool fre, .int .i64 at_, .int .i64 c, .bool raw] 37) := ⟨_, rfl⟩
      have BX : Hid (BS w wx p b u K S S (.slice tA T.length tcap) T) := by rw [hx]; exact B.out.quiet ((Fr.refl _ _).alloc _)
      have HX : Hid (wx.heap[X]? = some (.cells #[.bool fre, .int .i64 at_, .int .i64 c, .bool raw] 37 (0, 0))) := by rw [hx, hX]; exact heap_alloc_new wr _
      have HE := Lib.hid hX.symm
      have HW := Lib.hid hx.symm
      clear hX hx B
      obtain ⟨x0, x1, x2, x3⟩ := act_cells HX.out
      have hT2 : T.length ≤ k + 1 := by omega
      cases fre
      · go_wp2_with fail
        rw [HW.out, HE.out]
        by_cases hc : 0 ≤ c ∧ c < 6
        · obtain ⟨c0, c6⟩ := hc
          have c5 : ¬ 5 < c := by omega
          have cn : ¬ c < 0 := by omega
          rcases take_sevens (S := S) c0 c6 with hE | ⟨hE, hs⟩
          · obtain ⟨t1, t2, t3, t4⟩ := takeN_of c0 c6 BX.out.s.ok hE
            obtain ⟨x, hx⟩ : ∃ x, takeN S c = x := ⟨_, rfl⟩
            rw [hx] at t1 t2 t3 t4
            have hlen := BX.out.s.len
            have hx63 : x ≤ 9223372036854775807 := by omega
            have HN := Lib.hid hx
            have HE0 := Lib.hid hE
            have HO := Lib.hid t1
            have HR := Lib.hid t2
            have hl2 := Lib.hid ((takeS_len S c).trans hl.out)
            clear hx hE t1 t2 hlen t4
            refine (take_eq _ p b _ _ x 0 BX.out.s HN.out HE0.out).mono ?_
            rintro e w3 ⟨rfl, s3, f3⟩
            have B3 := Lib.hid (BX.out.prog s3.out f3.out)
            have HX3 := Lib.hid (f3.out.heap HX.out (BX.out.act HX.out).1)
            clear s3 f3 x0 x1 x2 x3
            obtain ⟨x0, x1, x2, x3⟩ := act_cells HX3.out
            go_wp2_with fail
            obtain ⟨go, gt, cgo, cgt, tb, rs, hK⟩ := B3.out.r
            refine (refTake_ok rs hK c0 c6).mono ?_
            clear rs hK
            rintro e w4 ⟨rfl, r4⟩
            rw [HR.out]
            obtain ⟨K4, b4, f4⟩ := B3.out.refr r4.out
            have B4 := Lib.hid b4
            have HX4 := Lib.hid (f4.heap HX3.out (B3.out.act HX3.out).2.1)
            clear b4 f4 r4 x0 x1 x2 x3
            obtain ⟨x0, x1, x2, x3⟩ := act_cells HX4.out
            have xn : ¬ x < 0 := by omega
            go_wp2_with fail
            go_quiet ((go_at_call 16; first | exact quietL (of_eq _ p b _ _ c hx63 (B4.out.s.keep ((Fr.refl Nob _).drewN _) (fun h => h) (fun h => h)) HO.out) | exact quietL' (of_eq _ p b _ _ c hx63 (B4.out.s.keep ((Fr.refl Nob _).drewN _) (fun h => h) (fun h => h)) HO.out)))
            have B5 := Lib.hid (B4.out.quiet ((Fr.refl Nob w4).drewN nq))
            have hs5 := B5.out.f.size
            clear B4 HX4 x0 x1 x2 x3 B3 HX3 BX HX
            generalize w4.drewN nq = w5 at *
            have B6 := Lib.hid (B5.out.quiet ((Fr.refl Nob w5).alloc (.cells #[.int .i64 x] 3)))
            go_wp2_with (with_reducible refine wpList_app (o := ⟨some 130, _, _, _, _, _⟩) rfl (.tmp 127) (.tmp 129) 35 rfl 3 #[.int .i64 0] 1 8 Try.underlying35 int_info rfl (by omega) w.heap.size (.slice tA T.length tcap) T.length (intRow T) rfl B6.out.o ⟨w5.heap.size, 0, none⟩ 1 1 [.int .i64 x] rfl rfl (new_one w5 _ _) (by simp [Value.oneCell']) (by omega) (by omega) (by simp; omega) ?_)
            intro v7 w7 o7 f7 h7
            have hlen : (T ++ [x]).length ≤ k + 1 := by rw [List.length_append]; simp; omega
            have B7 : Hid (BS w w7 p b u K4 (takeS S c) (takeS S c) v7 (T ++ [x])) := Lib.hid (B6.out.app f7.out (by
              have := o7.out
              rw [List.length_append]
              simpa [intRow] using this) (by simpa using h7.out) (fun y hy => by
                rcases List.mem_append.1 hy with h | h
                · exact B6.out.bd y h
                · have : y = x := by simpa using h
                  rw [this]; exact hx63))
            clear B6 B5 o7 f7 h7
            go_wp2_with fail
            go_roundw
            case rel => exact ⟨k + 1, K4, _, T ++ [x], by omega, by go_num, hlen, B7, hl2⟩
            case measure => simp [intOf]; omega
          · obtain ⟨t1, t2, t3, t4⟩ := take_no c0 c6 hs
            have HN := Lib.hid t2
            have HE0 := Lib.hid t3
            have HS := Lib.hid t1
            have HR := Lib.hid t4
            clear t1 t2 t3 t4 hE hs
            refine (take_eq _ p b _ _ 0 7 BX.out.s HN.out HE0.out).mono ?_
            rintro e w3 ⟨rfl, s3, f3⟩
            rw [HS.out] at s3
            have B3 := Lib.hid (BX.out.prog s3.out f3.out)
            have HX3 := Lib.hid (f3.out.heap HX.out (BX.out.act HX.out).1)
            clear s3 f3 x0 x1 x2 x3
            obtain ⟨x0, x1, x2, x3⟩ := act_cells HX3.out
            go_wp2_with fail
            obtain ⟨go, gt, cgo, cgt, tb, rs, hK⟩ := B3.out.r
            refine (refTake_ok rs hK c0 c6).mono ?_
            clear rs hK
            rintro e w4 ⟨rfl, r4⟩
            rw [HR.out]
            rw [HS.out] at r4
            obtain ⟨K4, b4, f4⟩ := B3.out.refr r4.out
            have B4 := Lib.hid b4
            clear b4 f4 r4 x0 x1 x2 x3
            go_wp2_with fail
            go_roundw
            case rel => exact ⟨k + 1, K4, S, T, by omega, by go_num, hT2, B4, hl⟩
            case measure => simp [intOf]; omega
        · refine (take_bad _ _ c (by omega)).mono ?_
          rintro e _ ⟨rfl, rfl⟩
          by_cases cn : c < 0
          · go_wp2_with fail
            go_roundw
            case rel => exact ⟨k + 1, K, S, T, by omega, by go_num, hT2, BX, hl⟩
            case measure => simp [intOf]; omega
          · have c5 : 5 < c := by omega
            go_wp2_with fail
            go_roundw
            case rel => exact ⟨k + 1, K, S, T, by omega, by go_num, hT2, BX, hl⟩
            case measure => simp [intOf]; omega
      · have ways : (raw = false ∧ 0 < T.length) ∨ (raw = false ∧ T.length = 0) ∨ raw = true := by
          cases raw
          · by_cases h : 0 < T.length
            · exact .inl ⟨rfl, h⟩
            · exact .inr (.inl ⟨rfl, by omega⟩)
          · exact .inr (.inr rfl)
        rcases ways with ⟨rfl, hT0⟩ | ⟨rfl, hT0⟩ | rfl
        case' inl =>
          obtain ⟨g, tcap', hv, hgb, hgl⟩ := BX.out.o.form hT0
          obtain ⟨rfl, rfl⟩ : tA = some ⟨g, 0, none⟩ ∧ tcap = tcap' := by cases hv; exact ⟨rfl, rfl⟩
          obtain ⟨y, hy⟩ : ∃ y : Nat, bits BinOp.and IntKind.i64 at_ 65535 = (y : Int) := ⟨(at_ % 65536).toNat, by rw [and65535]; omega⟩
          obtain ⟨j, hj, hjm⟩ : ∃ j : Nat, j < T.length ∧ ((y : Int) % (T.length : Int)) = (j : Int) := ⟨y % T.length, Nat.mod_lt _ hT0, by omega⟩
          have hc := BX.out.o.cells rfl j _ (intRow_get T _ hj)
          rw [show ((⟨g, 0, none⟩ : Addr).add j) = ⟨g, j, none⟩ by rw [Addr.add_lit, Nat.zero_add], ← HW.out] at hc
          have hcc := BX.out.bd T[j] (List.getElem_mem hj)
          generalize T[j] = cc at *
          clear hv x0 x1 x2 x3
          go_wp2_with fail
          rw [HW.out, HE.out]
        case' inr.inl =>
          have hT1 : ¬ (0 : Int) < (T.length : Int) := by omega
          have hcc : at_ ≤ 9223372036854775807 := hatb.2
          generalize at_ = cc at *
          clear hT0 x0 x1 x2 x3
          go_wp2_with fail
          rw [HW.out, HE.out]
        case' inr.inr =>
          have hcc : at_ ≤ 9223372036854775807 := hatb.2
          generalize at_ = cc at *
          clear x0 x1 x2 x3
          go_wp2_with fail
          rw [HW.out, HE.out]
        all_goals
          obtain ⟨tv, ht⟩ : ∃ tv, isTaken S cc = tv := ⟨_, rfl⟩
          have HT := Lib.hid ht
          refine (refFree_ok BX.out.r hcc ht).mono ?_
          rintro e w3 ⟨rfl, r3, f3⟩
          obtain ⟨K3, b3, _⟩ := BX.out.refr ⟨K, r3.out, f3.out, fun k hk => .inl hk⟩
          have B3 := Lib.hid b3
          have hl2 := Lib.hid ((freeS_len S cc).trans hl.out)
          clear b3 r3 f3 ht BX HX
          cases tv
        all_goals go_wp2_with fail
        all_goals first
          | refine (free_eq _ p b _ _ 5 hcc B3.out.s (by rw [HT.out]; rfl)).mono ?_
          | refine (free_eq _ p b _ _ 0 hcc B3.out.s (by rw [HT.out]; rfl)).mono ?_
        all_goals
          rintro e w4 ⟨rfl, s4, f4⟩
          have B4 := Lib.hid (B3.out.prog s4.out f4.out)
          clear s4 f4 B3
          go_wp2_with fail
          refine (of_eq _ p b _ _ (-1) hcc B4.out.s (free_of S cc)).mono ?_
          rintro e _ ⟨rfl, rfl⟩
          go_wp2_with fail
          go_roundw
          case rel => exact ⟨k + 1, K3, freeS S cc, T, by omega, by go_num, hT2, B4, hl2⟩
          case measure => simp [intOf]; omega
    · have hSm := hl.out
      go_wp2_with fail
      go_loopw [19, 20, 21, 22] (fun c _ _ _ wr => ∃ j : Nat, j ≤ 6 ∧ c = .int .i64 j ∧ Hid (BS w wr p b u K S S (.slice tA T.length tcap) T)) (fun c _ _ _ _ => 6 - (intOf c).toNat)
      case atStart => exact ⟨0, by omega, rfl, B⟩
      case round =>
        clear B
        obtain ⟨j, hj, rfl, B⟩ := hrel
        obtain ⟨go, gt, cgo, cgt, tb, rs, hK⟩ := B.out.r
        obtain ⟨cu0, cu1, cr⟩ := rs.cells
        have CR := Lib.hid cr
        have RS := Lib.hid rs
        have hok := Lib.hid B.out.s.ok
        have hl10 := B.out.s.len
        clear cr rs hK
        by_cases hj6 : j < 6
        · have hjn : (j : Int) ≠ -1 := by omega
          have hjb : ((j : Int) != -1) = true := bne_iff_ne.2 hjn
          go_wp2_with fail
          generalize decide ((j : Int) < 6) = tj
          go_loopw [20, 21, 22] (fun us hs i wq => ∃ r : Nat, r ≤ m ∧ i = .int .i64 r ∧ us = .int .i64 (sumBy (usedF j) (S.take r)) ∧ hs = .int .i64 ((S.take r).countP (pagesF j)) ∧ wq = wr) (fun _ _ i _ => m - (intOf i).toNat)
          case atStart => exact ⟨0, Nat.zero_le _, rfl, rfl, rfl, rfl⟩
          case round =>
            obtain ⟨r, hr, rfl, rfl, rfl, rfl⟩ := hrel
            have hb1 := used_bd (c := (j : Int)) (k := r) hok.out hl10
            have hb2 := count_bd (f := pagesF j) (k := r) hl10
            by_cases hrm : r < m
            · have hrS : r < S.length := by omega
              obtain ⟨cg, ct⟩ := CR.out r hrS
              have hus := (ok_of_mem hok.out hrS).us
              have e1 := Lib.hid (sumBy_succ (f := usedF j) hrS)
              have e2 := Lib.hid (count_succ (f := pagesF j) hrS)
              by_cases hA : (S[r].cls == (j : Int)) = true
              · obtain ⟨us, hu⟩ : ∃ us, S[r].us = us := ⟨_, rfl⟩
                rw [hu] at hus
                have u1 : usedF j S[r] = us := by unfold usedF; rw [if_pos hA]; exact hu
                have HU := Lib.hid hu
                clear hu
                have u2 : pagesF j S[r] = true := by unfold pagesF; rw [hA, hjb]; rfl
                have U1 := Lib.hid u1
                have U2 := Lib.hid u2
                clear u1 u2
                go_wp2_with (refine (refUsed_ok RS.out hrS HU.out).mono ?_; rintro e w' ⟨rfl, rfl⟩)
                go_roundw
                case rel => exact ⟨r + 1, by omega, by go_num, by rw [e1.out, U1.out], by rw [e2.out, if_pos U2.out]; go_num, trivial⟩
                case measure => simp [intOf]; omega
              · have hA' : (S[r].cls == (j : Int)) = false := by simpa using hA
                have u1 : usedF j S[r] = 0 := by unfold usedF; rw [if_neg hA]
                have u2 : pagesF j S[r] = false := by unfold pagesF; rw [hA']; rfl
                have U1 := Lib.hid u1
                have U2 := Lib.hid u2
                clear u1 u2 hA
                go_wp2_with fail
                go_roundw
                case rel => exact ⟨r + 1, by omega, by go_num, by rw [e1.out, U1.out, Int.add_zero], by rw [e2.out, U2.out]; rfl, trivial⟩
                case measure => simp [intOf]; omega
            · have hrS : S.take r = S := List.take_of_length_le (by omega)
              obtain ⟨vu, hvu⟩ : ∃ vu, sumBy (usedF j) (S.take r) = vu := ⟨_, rfl⟩
              obtain ⟨vh, hvh⟩ : ∃ vh : Nat, (S.take r).countP (pagesF j) = vh := ⟨_, rfl⟩
              rw [hvu, hvh]
              rw [hrS] at hvu hvh
              have HU := Lib.hid hvu
              have HH := Lib.hid hvh
              clear hvu hvh hrS hb1 hb2
              go_wp2_with fail
              refine (used_eq _ p b _ _ vu B.out.s HU.out).mono ?_
              rintro e w5 ⟨rfl, s5, f5⟩
              have B5 := Lib.hid (B.out.quiet f5.out)
              go_wp2_with fail
              refine (pages_eq _ p b _ _ vh B5.out.s (by rw [HH.out])).mono ?_
              rintro e w6 ⟨rfl, s6, f6⟩
              have B6 := Lib.hid (B5.out.quiet f6.out)
              clear s5 s6 f5 f6 B5 B
              go_wp2_with fail
              go_roundw
              case rel => exact ⟨j + 1, by omega, by go_num, B6⟩
              case measure => simp [intOf]; omega
        · go_wp2_with fail
          go_loop [18, 23] (fun lf i => ∃ r : Nat, r ≤ m ∧ i = .int .i64 r ∧ lf = .int .i64 ((S.take r).countP fits2)) (fun _ i => m - (intOf i).toNat)
          case atStart => exact ⟨0, Nat.zero_le _, rfl, rfl⟩
          case round =>
            obtain ⟨r, hr, rfl, rfl⟩ := hrel
            have hb2 := count_bd (f := fits2) (k := r) hl10
            by_cases hrm : r < m
            · have hrS : r < S.length := by omega
              obtain ⟨cg, ct⟩ := CR.out r hrS
              have e2 := Lib.hid (count_succ (f := fits2) hrS)
              by_cases hA : S[r].cls < 0
              · have u2 : fits2 S[r] = true := by
                  rcases RS.out.cls_ hrS with h | h
                  · unfold fits2; rw [h.1]; rfl
                  · omega
                have U2 := Lib.hid u2
                clear u2
                go_wp2_with fail
                go_round
                case rel => exact ⟨r + 1, by omega, by go_num, by rw [e2.out, if_pos U2.out]; go_num⟩
                case measure => simp [intOf]; omega
              · have u2 : fits2 S[r] = false := by
                  unfold fits2
                  rw [beq_eq_false_iff_ne]
                  omega
                have U2 := Lib.hid u2
                clear u2
                go_wp2_with fail
                go_round
                case rel => exact ⟨r + 1, by omega, by go_num, by rw [e2.out, U2.out]; rfl⟩
                case measure => simp [intOf]; omega
            · have hrS : S.take r = S := List.take_of_length_le (by omega)
              obtain ⟨vh, hvh⟩ : ∃ vh : Nat, (S.take r).countP fits2 = vh := ⟨_, rfl⟩
              rw [hvh]
              rw [hrS] at hvh
              have HH := Lib.hid hvh
              clear hvh hrS hb2
              go_wp2_with fail
              refine (left_eq _ p b _ vh B.out.s (by rw [HH.out])).mono ?_
              rintro e w6 ⟨rfl, s6, f6⟩
              have F := Lib.hid (B.out.f.trans' f6.out)
              go_wp2_with (first
                | (go_at_call 14; refine (class_ok _ _).mono ?_; rintro e _ ⟨rfl, rfl⟩)
                | (go_at_call 24; refine (refClass_ok _ _).mono ?_; rintro e _ ⟨rfl, rfl⟩))
              go_ret
              exact ⟨rfl, F.out⟩

set_option maxHeartbeats 3200000 in
set_option maxRecDepth 100000 in
theorem slabPlays_walk (m : Int) (A : Option Addr) (n cap : Nat) (z : Nat → ActD) (size : Int) (w : World) (hm : (Lit.int .i64 m).wf = true) (hz : ActRow w A n z) (_hs : (Lit.int .i64 size).wf = true) :
    Calls Try.prog 4 #[.int .i64 m, .slice A n cap, .int .i64 size] w fun e w' => e = .returned (.bool true) ∧ Fr Nob w w' := by
  by_cases hin : ¬ m < 1 ∧ ¬ 1024 < m
  · obtain ⟨h1, h2⟩ := hin
    obtain ⟨m, rfl⟩ := Int.eq_ofNat_of_zero_le (show 0 ≤ m by omega)
    by_cases hin2 : ¬ 200 < (n : Int) ∧ ¬ 40 < (m : Int)
    · exact slabPlays_in m A n cap z size w (by omega) (by omega) (by omega) hz
    · clear hz
      have hor : 200 < (n : Int) ∨ (¬ 200 < (n : Int) ∧ 40 < (m : Int)) := by omega
      clear hin2
      rcases hor with h | ⟨h3, h⟩
      all_goals
        go_enter Try.func4, Try.ntmps4
        go_wp2_with fail
        refine (awake_ok w).mono ?_
        rintro e w0 ⟨rfl, f0⟩
        have f0 := Lib.hid f0
        go_wp2_with fail
        refine (new_eq _ m (by omega) (by omega)).mono ?_
        rintro e w1 ⟨p, b, rfl, s1, f1, hp, hb, -⟩
        have f1 := Lib.hid (f0.out.nob_new f1.out)
        go_wp2_with fail
        go_ret
        exact ⟨rfl, f1.out⟩
  · have hor : m < 1 ∨ (¬ m < 1 ∧ 1024 < m) := by omega
    clear hin hz
    rcases hor with h | ⟨h1, h⟩
    all_goals
      go_enter Try.func4, Try.ntmps4
      go_wp2_with fail
      refine (awake_ok w).mono ?_
      rintro e w0 ⟨rfl, f0⟩
      have f0 := Lib.hid f0
      go_wp2_with fail
      refine (new_bad _ m (by omega)).mono ?_
      rintro e _ ⟨rfl, rfl⟩
      go_wp2_with fail
      go_ret
      exact ⟨rfl, f0.out⟩
end Go.Proofs.Ytamcnieneelmmaa
