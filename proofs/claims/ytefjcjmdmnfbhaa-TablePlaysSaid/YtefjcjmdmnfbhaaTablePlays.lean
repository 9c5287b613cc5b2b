/-
  The law TablePlays, walked.
-/
import Derived.Test.YtefjcjmdmnfbhaaRtM
import Derived.Test.YtefjcjmdmnfbhaaTabIn
namespace Go.Proofs.Ytefjcjmdmnfbhaa
open Go.RowKit

def powG (bk : Int) (e : Nat) : Bool := (List.range e).any fun i => decide ((2 : Int) ^ i = bk)
theorem pow_bits : ∀ k : Fin 1025, 1 ≤ k.val → (decide (bits .and .i64 (k.val : Int) ((k.val : Int) - 1) = 0) = powG (k.val : Int) 11) := by decide +kernel
theorem powG_out {bk : Int} (h : bk < 1 ∨ 1024 < bk) : powG bk 11 = false := by
  unfold powG
  rw [List.any_eq_false]
  intro i hi
  have hi := List.mem_range.1 hi
  simp only [decide_eq_true_eq]
  intro e
  match i, hi with
  | 0, _ | 1, _ | 2, _ | 3, _ | 4, _ | 5, _ | 6, _ | 7, _ | 8, _ | 9, _ | 10, _ => simp at e; omega
  | i + 11, h => omega
theorem powG_succ (bk : Int) (e : Nat) : powG bk (e + 1) = (powG bk e || decide ((2 : Int) ^ e = bk)) := by
  unfold powG
  rw [List.range_succ, List.any_append]
  simp
theorem pow_small (e : Nat) (h : e < 11) : (2 : Int) ^ e ≤ 1024 ∧ 0 < (2 : Int) ^ e := by
  match e, h with
  | 0, _ | 1, _ | 2, _ | 3, _ | 4, _ | 5, _ | 6, _ | 7, _ | 8, _ | 9, _ | 10, _ => decide
  | e + 11, h => omega
theorem act_far {w : World} {k : Nat} {cs : Array Value} {f : Nat × Nat} (h : w.heap[k]? = some (.cells cs 36 f)) : ¬ RB w k := by
  rintro ⟨cs', t', h', h2⟩
  rw [h] at h'
  injection h' with h'
  injection h' with _ e
  subst e
  rcases h2 with h2 | h2 | h2 | h2 <;> exact absurd h2 (by decide)
theorem tabs_cases (n : Int) : ((n < 1 ∨ 1024 < n ∨ ((1 ≤ n ∧ n ≤ 1024) ∧ bits .and .i64 n (n - 1) ≠ 0)) ∧ powG n 11 = false) ∨ ∃ k : Nat, n = (k : Int) ∧ 1 ≤ k ∧ k ≤ 1024 ∧ bits .and .i64 (k : Int) ((k : Int) - 1) = 0 ∧ powG n 11 = true := by
  by_cases h1 : n < 1
  · exact .inl ⟨.inl h1, powG_out (.inl h1)⟩
  by_cases h2 : 1024 < n
  · exact .inl ⟨.inr (.inl h2), powG_out (.inr h2)⟩
  have hk : n = (n.toNat : Int) := by omega
  have hp := pow_bits ⟨n.toNat, by omega⟩ (by show 1 ≤ n.toNat; omega)
  simp only [← hk] at hp
  by_cases h3 : bits .and .i64 n (n - 1) = 0
  · rw [decide_eq_true h3] at hp
    rw [hk] at h3
    exact .inr ⟨n.toNat, hk, by omega, by omega, h3, hp.symm⟩
  · rw [decide_eq_false h3] at hp
    exact .inl ⟨.inr (.inr ⟨⟨by omega, by omega⟩, h3⟩), hp.symm⟩

set_option maxHeartbeats 16000000 in
set_option maxRecDepth 100000 in
theorem tablePlays_walk (bk : Int) (A : Option Addr) (n cap : Nat) (l : List TAct) (w : World) (hb : (Lit.int .i64 bk).wf = true) (hl : InA w A n cap l) :
    Calls Try.prog 4 #[.int .i64 bk, .slice A n cap] w fun e w' => e = .returned (.bool true) ∧ Fr Nob w w' := by
  have HL := Lib.hid hl
  have hbd := i64_bd hb
  clear hl
  rcases tabs_cases bk with ⟨hbad, hpow⟩ | ⟨k0, rfl, hk1, hk2, hk3, hpow⟩
  · go_enter Try.func4, Try.ntmps4
    go_wp2_with fail
    refine (awake_ok w).mono ?_
    rintro e w0 ⟨rfl, f0⟩
    have f0 := Lib.hid f0
    have HB := Lib.hid hbad
    have HP := Lib.hid hpow
    clear hbad hpow
    go_wp2_with fail
    refine (new_bad bk w0 HB.out).mono ?_
    rintro e _ ⟨rfl, rfl⟩
    go_wp2_with fail
    go_loopw [7, 8] (fun G x wr => ∃ (e : Nat) (X : Int), e ≤ 11 ∧ X = 2 ^ e ∧ x = .int .i64 X ∧ G = .bool (powG bk e) ∧ wr = w0) (fun _ x _ => 2048 - (intOf x).toNat)
    case atStart => exact ⟨0, 1, by omega, rfl, rfl, rfl, rfl⟩
    case round =>
      obtain ⟨e, X, he, hX, rfl, rfl, rfl⟩ := hrel
      by_cases h11 : e < 11
      · have hle := pow_small e h11
        rw [← hX] at hle
        obtain ⟨hx1, hx0⟩ := hle
        have hs := powG_succ bk e
        rw [← hX] at hs
        have hX2 := Lib.hid (show 2 * X = 2 ^ (e + 1) by rw [Int.pow_succ, ← hX]; omega)
        cases hG : powG bk e with
        | true =>
          rw [hG, Bool.true_or] at hs
          have HS := Lib.hid hs
          clear hs hX hG
          go_wp2_with fail
          go_roundw
          case rel => exact ⟨e + 1, 2 * X, by omega, hX2.out, by go_num, by rw [HS.out], by first | trivial | rfl⟩
          case measure => simp [intOf]; omega
        | false =>
          rw [hG, Bool.false_or] at hs
          have HS := Lib.hid hs
          clear hs hX hG
          go_wp2_with fail
          go_roundw
          case rel => exact ⟨e + 1, 2 * X, by omega, hX2.out, by go_num, by rw [HS.out]; exact congrArg Value.bool (by by_cases h : X = bk <;> simp [h]), by first | trivial | rfl⟩
          case measure => simp [intOf]; omega
      · obtain rfl : e = 11 := by omega
        have hX2 : X = 2048 := by rw [hX]; decide
        subst hX2
        clear hX h11 he
        rw [HP.out]
        go_wp2_with fail
        go_ret
        exact ⟨rfl, f0.out⟩
  · have HP := Lib.hid hpow
    have HK3 := Lib.hid hk3
    clear hpow hk3 hb hbd
    by_cases hn : 120 < n
    · have hn' : (120 : Int) < (n : Int) := by omega
      go_enter Try.func4, Try.ntmps4
      go_wp2_with fail
      refine (awake_ok w).mono ?_
      rintro e w0 ⟨rfl, f0⟩
      have f0 := Lib.hid f0
      go_wp2_with fail
      refine (DT.new f0.out k0 hk1 hk2 HK3.out).mono ?_
      rintro e w1 ⟨t, rfl, s1, f1⟩
      clear f0 f1
      go_wp2_with fail
      go_loopw [7, 8] (fun G x wr => ∃ (e : Nat) (X : Int), e ≤ 11 ∧ X = 2 ^ e ∧ x = .int .i64 X ∧ G = .bool (powG (k0 : Int) e) ∧ wr = w1) (fun _ x _ => 2048 - (intOf x).toNat)
      case atStart => exact ⟨0, 1, by omega, rfl, rfl, rfl, rfl⟩
      case round =>
        obtain ⟨e, X, he, hX, rfl, rfl, rfl⟩ := hrel
        by_cases h11 : e < 11
        · have hle := pow_small e h11
          rw [← hX] at hle
          obtain ⟨hx1, hx0⟩ := hle
          have hs := powG_succ (k0 : Int) e
          rw [← hX] at hs
          have hX2 := Lib.hid (show 2 * X = 2 ^ (e + 1) by rw [Int.pow_succ, ← hX]; omega)
          cases hG : powG (k0 : Int) e with
          | true =>
            rw [hG, Bool.true_or] at hs
            have HS := Lib.hid hs
            clear hs hX hG
            go_wp2_with fail
            go_roundw
            case rel => exact ⟨e + 1, 2 * X, by omega, hX2.out, by go_num, by rw [HS.out], by first | trivial | rfl⟩
            case measure => simp [intOf]; omega
          | false =>
            rw [hG, Bool.false_or] at hs
            have HS := Lib.hid hs
            clear hs hX hG
            go_wp2_with fail
            go_roundw
            case rel => exact ⟨e + 1, 2 * X, by omega, hX2.out, by go_num, by rw [HS.out]; exact congrArg Value.bool (by by_cases h : X = (k0 : Int) <;> simp [h]), by first | trivial | rfl⟩
            case measure => simp [intOf]; omega
        · obtain rfl : e = 11 := by omega
          have hX2 : X = 2048 := by rw [hX]; decide
          subst hX2
          clear hX h11 he
          rw [HP.out]
          go_wp2_with fail
          go_ret
          exact ⟨rfl, s1.out.fr⟩
    · have hn' : ¬ (120 : Int) < (n : Int) := by omega
      go_enter Try.func4, Try.ntmps4
      go_wp2_with fail
      refine (awake_ok w).mono ?_
      rintro e w0 ⟨rfl, f0⟩
      have f0 := Lib.hid f0
      go_wp2_with fail
      refine (DT.new f0.out k0 hk1 hk2 HK3.out).mono ?_
      rintro e w1 ⟨t, rfl, s1, f1⟩
      clear f0 f1
      go_wp2_with fail
      go_loopw [7, 8] (fun G x wr => ∃ (e : Nat) (X : Int), e ≤ 11 ∧ X = 2 ^ e ∧ x = .int .i64 X ∧ G = .bool (powG (k0 : Int) e) ∧ wr = w1) (fun _ x _ => 2048 - (intOf x).toNat)
      case atStart => exact ⟨0, 1, by omega, rfl, rfl, rfl, rfl⟩
      case round =>
        obtain ⟨e, X, he, hX, rfl, rfl, rfl⟩ := hrel
        by_cases h11 : e < 11
        · have hle := pow_small e h11
          rw [← hX] at hle
          obtain ⟨hx1, hx0⟩ := hle
          have hs := powG_succ (k0 : Int) e
          rw [← hX] at hs
          have hX2 := Lib.hid (show 2 * X = 2 ^ (e + 1) by rw [Int.pow_succ, ← hX]; omega)
          cases hG : powG (k0 : Int) e with
          | true =>
            rw [hG, Bool.true_or] at hs
            have HS := Lib.hid hs
            clear hs hX hG
            go_wp2_with fail
            go_roundw
            case rel => exact ⟨e + 1, 2 * X, by omega, hX2.out, by go_num, by rw [HS.out], by first | trivial | rfl⟩
            case measure => simp [intOf]; omega
          | false =>
            rw [hG, Bool.false_or] at hs
            have HS := Lib.hid hs
            clear hs hX hG
            go_wp2_with fail
            go_roundw
            case rel => exact ⟨e + 1, 2 * X, by omega, hX2.out, by go_num, by rw [HS.out]; exact congrArg Value.bool (by by_cases h : X = (k0 : Int) <;> simp [h]), by first | trivial | rfl⟩
            case measure => simp [intOf]; omega
        · obtain rfl : e = 11 := by omega
          have hX2 : X = 2048 := by rw [hX]; decide
          subst hX2
          clear hX h11 he
          rw [HP.out]
          go_wp2_with fail
          refine (PT.new s1.out k0 hk1 hk2).mono ?_
          rintro e w2 ⟨r, rfl, p2, f2⟩
          clear s1 f2
          have hm0 : (newK k0).m.length ≤ 0 := Nat.le_refl _
          go_wp2_with fail
          go_loopw [10, 11, 12, 13, 14, 15] (fun i _ _ _ _ _ wr => ∃ (k : Nat) (S : KT), k ≤ n ∧ i = .int .i64 k ∧ Hid (PT w wr t r S S) ∧ S.m.length ≤ k) (fun i _ _ _ _ _ _ => n - (intOf i).toNat)
          case atStart => exact ⟨0, newK k0, Nat.zero_le _, rfl, p2, hm0⟩
          case round =>
            clear p2 hm0
            obtain ⟨k, S, hk, rfl, ps, hm⟩ := hrel
            by_cases hlt : k < n
            · obtain ⟨g, o, x, rfl, hx, ⟨x0, x1, x2⟩, hxs⟩ := HL.out.cell ps.out.dt.fr hlt
              have hm6 : S.m.length ≤ 1000000 := by omega
              have fB : Hid (Fr Nob wr (wr.alloc (.cells #[.int .i64 x.op, .int .i64 x.v, .string x.key] 36))) := Lib.hid ((Fr.refl Nob wr).alloc _)
              have hB := heap_alloc_new wr (.cells #[.int .i64 x.op, .int .i64 x.v, .string x.key] 36)
              have PB := Lib.hid (ps.out.nob fB.out)
              have HB := Lib.hid hB
              have hlt1 : (k : Int) < (n : Int) := by omega
              have hk0 : (0 : Int) ≤ (k : Int) := by omega
              clear hB hx ps
              by_cases h5 : 500 < x.key.size
              · have h5' : (500 : Int) < (x.key.size : Int) := by omega
                go_wp2_with fail
                go_ret
                exact ⟨rfl, PB.out.dt.fr⟩
              have h5' : ¬ (500 : Int) < (x.key.size : Int) := by omega
              go_upto_block 4 with fail
              obtain ⟨B, hBe⟩ : ∃ B, wr.heap.size = B := ⟨_, rfl⟩
              rw [hBe] at HB ⊢
              clear hBe fB x0 x1 x2
              generalize wr.alloc (.cells #[.int .i64 x.op, .int .i64 x.v, .string x.key] 36) = w3 at *
              go_cut [] (fun W => ∃ S2, Hid (PT w W t r S2 S2) ∧ S2.m.length ≤ k + 1 ∧ Hid (W.heap[B]? = some (.cells #[.int .i64 x.op, .int .i64 x.v, .string x.key] 36 (0, 0))))
              case first =>
                have LS : Hid (∀ W : World, W.heap[B]? = some (.cells #[.int .i64 x.op, .int .i64 x.v, .string x.key] 36 (0, 0)) → (W.cell? ⟨B, 0, none⟩ = some (.int .i64 x.op) ∧ W.cell? ⟨B, 1, none⟩ = some (.int .i64 x.v) ∧ W.cell? ⟨B, 2, none⟩ = some (.string x.key))) := Lib.hid fun W h => ⟨cell_of_row W B 0 _ _ (0, 0) h, cell_of_row W B 1 _ _ (0, 0) h, cell_of_row W B 2 _ _ (0, 0) h⟩
                have PD : Hid (PT w w3.drew t r S S) := Lib.hid (PB.out.nob (Fr.refl Nob w3).drew)
                have HBd : Hid (w3.drew.heap[B]? = some (.cells #[.int .i64 x.op, .int .i64 x.v, .string x.key] 36 (0, 0))) := Lib.hid HB.out
                obtain ⟨b0, b1, b2⟩ := LS.out w3 HB.out
                by_cases h0 : x.op = 0
                · have h0b : (x.op == 0) = true := by rw [h0]; rfl
                  clear h0
                  go_wp2_with fail
                  go_region_held3 (fun w' => w'.cell? ⟨B, 0, none⟩ = some (.int .i64 x.op) ∧ w'.cell? ⟨B, 1, none⟩ = some (.int .i64 x.v) ∧ w'.cell? ⟨B, 2, none⟩ = some (.string x.key))
                    (first | with_reducible exact LS.out _ HBd.out | with_reducible exact LS.out _ HB5.out | with_reducible exact LS.out _ HB6.out)
                    (first
                    | (go_at_call 16; refine (PD.out.set x.key x.v hxs hm6).mono ?_; rintro e w5 ⟨rfl, p5, f5⟩; have HB5 := Lib.hid (f5.out.heap HBd.out (TabB.far HBd.out (by decide))); clear f5)
                    | (go_at_call 17; refine (p5.out.rset x.key x.v hxs hm6).mono ?_; rintro e w6 ⟨rfl, p6, f6⟩; have HB6 := Lib.hid (f6.out.heap HB5.out (fun h => act_far HB5.out h.1)); clear f6))
                  all_goals
                    go_wp2_with fail
                    go_meet
                    exact ⟨_, p6, by have := setK_len S x.key x.v; omega, HB6⟩
                by_cases h1 : x.op = 1
                · have h0b : (x.op == 0) = false := by rw [h1]; rfl
                  have h1b : (x.op == 1) = true := by rw [h1]; rfl
                  clear h1 h0
                  go_wp2_with fail
                  go_region_held3 (fun w' => w'.cell? ⟨B, 0, none⟩ = some (.int .i64 x.op) ∧ w'.cell? ⟨B, 1, none⟩ = some (.int .i64 x.v) ∧ w'.cell? ⟨B, 2, none⟩ = some (.string x.key))
                    (first | with_reducible exact LS.out _ HBd.out | with_reducible exact LS.out _ HB5.out | with_reducible exact LS.out _ HB6.out)
                    (first
                    | (go_at_call 18; refine (PD.out.del x.key hxs hm6).mono ?_; rintro e w5 ⟨rfl, p5, f5⟩; have HB5 := Lib.hid (f5.out.heap HBd.out (TabB.far HBd.out (by decide))); clear f5)
                    | (go_at_call 19; refine (p5.out.rdel x.key hm6).mono ?_; rintro e w6 ⟨rfl, p6, f6⟩; have HB6 := Lib.hid (f6.out.heap HB5.out (fun h => act_far HB5.out h.1)); clear f6))
                  all_goals
                    go_wp2_with fail
                    go_meet
                    exact ⟨_, p6, by have := delK_len S x.key; omega, HB6⟩
                have h0b : (x.op == 0) = false := by simpa using h0
                have h1b : (x.op == 1) = false := by simpa using h1
                go_wp2_with fail
                go_meet
                exact ⟨S, PB, by omega, HB⟩
              case rest =>
                obtain ⟨S2, p4, hm2, h4⟩ := hcut
                generalize wc = w4 at *
                have c2 : w4.cell? ⟨B, 2, none⟩ = some (.string x.key) := cell_of_row w4 B 2 _ _ (0, 0) h4.out
                have G1 := Lib.hid (p4.out.dt.get x.key hxs)
                have hm9 : S2.m.length ≤ 1000001 := by omega
                clear h4 PB HB
                go_wp2_with fail
                refine G1.out.mono ?_
                rintro e w5 ⟨rfl, q5, rfl⟩
                have FQ := (Fr.refl Nob w4).drewN q5
                have P5 := Lib.hid (p4.out.nob FQ)
                have c5 := FQ.cell c2 fun h => h
                clear c2 p4 FQ G1
                generalize w4.drewN q5 = w5 at *
                go_wp2_with fail
                refine (P5.out.rget x.key hm9).mono ?_
                rintro e w6 ⟨rfl, rfl⟩
                have LE : Hid (∀ q, Calls Try.prog 21 #[.pointer (some ⟨t, 0, none⟩)] (w6.drewN q) fun e w' => e = .returned (.int .i64 S2.m.length) ∧ w6.drewN q = w') := Lib.hid fun q => (P5.out.nob ((Fr.refl Nob w6).drewN q)).dt.len
                have BU : Hid (∀ q, Calls Try.prog 22 #[.pointer (some ⟨t, 0, none⟩)] (w6.drewN q) fun e w' => e = .returned (.int .i64 S2.now.length) ∧ w6.drewN q = w') := Lib.hid fun q => (P5.out.nob ((Fr.refl Nob w6).drewN q)).dt.buckets
                have LF : Hid (∀ q, Calls Try.prog 23 #[.pointer (some ⟨t, 0, none⟩)] (w6.drewN q) fun e w' => e = .returned (.int .i64 S2.left) ∧ w6.drewN q = w') := Lib.hid fun q => (P5.out.nob ((Fr.refl Nob w6).drewN q)).dt.left
                have RL : Hid (∀ q, Calls Try.prog 24 #[.pointer (some ⟨r, 0, none⟩)] (w6.drewN q) fun e w' => e = .returned (.int .i64 S2.left) ∧ ∃ m, w' = (w6.drewN q).drewN m) := Lib.hid fun q => (P5.out.nob ((Fr.refl Nob w6).drewN q)).rleft
                obtain ⟨gn, kv, cs, cap2, e0, e3, ⟨A3, rfl⟩, _, _⟩ := P5.out.rhd
                obtain ⟨vV, hvV⟩ : ∃ vV, getV S2.m x.key = vV := ⟨_, rfl⟩
                obtain ⟨vB, hvB⟩ : ∃ vB, getB S2.m x.key = vB := ⟨_, rfl⟩
                rw [hvV, hvB]
                clear hvV hvB
                go_wp2_with fail
                go_quiet (first
                  | (go_at_call 21; first | exact quietL (LE.out _) | exact quietL' (LE.out _))
                  | (go_at_call 22; first | exact quietL (BU.out _) | exact quietL' (BU.out _))
                  | (go_at_call 23; first | exact quietL (LF.out _) | exact quietL' (LF.out _))
                  | (go_at_call 24; first | exact quietD (RL.out _) | exact quietD' (RL.out _)))
                go_wp2_with fail
                go_roundw
                case rel => exact ⟨k + 1, S2, by omega, by go_num, Lib.hid (P5.out.nob ((Fr.refl Nob _).drewN _)), hm2⟩
                case measure => simp [intOf]; omega
            · obtain rfl : k = n := by omega
              have hm9 : S.m.length ≤ 1000000 := by omega
              have hnb : S.now.length ≤ 131072 := ps.out.ok.big
              go_wp2_with fail
              go_loopw [16] (fun x w3 => ∃ j : Nat, j ≤ S.now.length ∧ x = .int .i64 j ∧ Hid (PT w w3 t r S S)) (fun x _ => S.now.length - (intOf x).toNat)
              case atStart => exact ⟨0, Nat.zero_le _, rfl, ps⟩
              case round =>
                clear ps
                obtain ⟨j, hj, rfl, ps⟩ := hrel
                obtain ⟨gn, kv, cs, cap2, e0, e3, _, c, hr⟩ := ps.out.rhd
                by_cases hjl : j < S.now.length
                · obtain ⟨y, hy⟩ : ∃ y, S.now[j]? = some y := ⟨_, List.getElem?_eq_getElem hjl⟩
                  obtain ⟨u, hu, hrd⟩ := hr j y hy
                  have hgd : S.now.getD j [] = y := by rw [List.getD_eq_getElem?_getD, hy]; rfl
                  have cb : wr.cell? ⟨gn, j, none⟩ = some u := by rw [cell_of_row wr gn j _ _ (0, 0) c]; exact hu
                  have CH := Lib.hid ((ps.out.nob (Fr.refl Nob wr).drew).dt.chain hjl (by omega))
                  rw [hgd] at CH
                  have hyl : y.length ≤ 1000000000 := by
                    have h1 := ps.out.ok.len
                    have h2 := chain_len (l := S.now) (i := j)
                    rw [hgd] at h2
                    omega
                  have SF : Hid (∀ W, Fr Nob wr W → W.cell? ⟨r, 0, none⟩ = some (.slice (some ⟨gn, 0, none⟩) S.now.length S.now.length) ∧ W.cell? ⟨gn, j, none⟩ = some u) := Lib.hid fun W f => ⟨f.cell e0 fun h => h, f.cell cb fun h => h⟩
                  have FD : Hid (Fr Nob wr wr.drew) := Lib.hid (Fr.refl Nob wr).drew
                  have HRD := Lib.hid hrd
                  have hjl1 : (j : Int) < (S.now.length : Int) := by omega
                  have hj0 : (0 : Int) ≤ (j : Int) := by omega
                  have HJ := Lib.hid hjl
                  have e0' := e0
                  clear hr hu hy hgd c hjl e3 hrd
                  go_wp2_with fail
                  go_region_held3 (fun w' => w'.cell? ⟨r, 0, none⟩ = some (.slice (some ⟨gn, 0, none⟩) S.now.length S.now.length) ∧ w'.cell? ⟨gn, j, none⟩ = some u)
                    (first | with_reducible exact SF.out _ FD.out | with_reducible exact SF.out _ F5.out | with_reducible exact SF.out _ F6.out)
                    (first
                    | (go_at_call 13; refine CH.out.mono ?_; rintro e w5 ⟨v5, rfl, o5, f5⟩; have F5 : Hid (Fr Nob wr w5) := Lib.hid (FD.out.trans' f5.out); clear f5)
                    | (go_at_call 25; refine (texts_eq (RdS.of_row o5.out) (HRD.out.nob F5.out) hyl).mono ?_; rintro e w6 ⟨rfl, q6, rfl⟩; have F6 : Hid (Fr Nob wr (w5.drewN q6)) := Lib.hid (F5.out.drewN q6)))
                  all_goals
                    have P6 := Lib.hid (ps.out.nob F6.out)
                    try rw [decide_eq_true (rfl : y = y)]
                    go_wp2_with fail
                    go_roundw
                    case rel => exact ⟨j + 1, by have := HJ.out; omega, by go_num, P6⟩
                    case measure => have := HJ.out; simp [intOf]; omega
                · obtain rfl : j = S.now.length := by omega
                  have KE := Lib.hid (ps.out.dt.keys (by omega))
                  have hsl : (sortB (keysM S.m)).length ≤ 1000000000 := by
                    rw [(sortB_perm _).length_eq, keysM_len]
                    omega
                  clear hr c e3
                  go_wp2_with fail
                  refine KE.out.mono ?_
                  rintro e w5 ⟨v5, rfl, o5, f5⟩
                  have p5 := ps.out.nob f5.out
                  go_wp2_with fail
                  refine (p5.rsorted hm9).mono ?_
                  rintro e w6 ⟨v6, rfl, r6, f6⟩
                  have R5 := (RdS.of_row o5.out).nob f6.out
                  have p6 := p5.nob f6.out
                  go_wp2_with fail
                  refine (texts_eq R5 r6.out hsl).mono ?_
                  rintro e w7 ⟨rfl, q7, rfl⟩
                  rw [decide_eq_true (rfl : sortB (keysM S.m) = sortB (keysM S.m))]
                  go_wp2_with fail
                  go_ret
                  exact ⟨rfl, p6.dt.fr.drewN q7⟩
end Go.Proofs.Ytefjcjmdmnfbhaa
