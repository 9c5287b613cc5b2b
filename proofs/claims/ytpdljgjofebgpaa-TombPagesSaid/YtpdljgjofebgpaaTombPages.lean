/-
  Law 6: TombPages, walked.
-/
import Derived.Test.YtpdljgjofebgpaaTombGens
import Derived.Laws.Bits128
namespace Go.Proofs.Ytpdljgjofebgpaa
open Go.RowKit Go.ChangeShapes Go.WideShapes Go.Deep

theorem i64_and31 (n : Int) : bits .and .i64 n 31 = n % 32 := by
  have h31 : (BitVec.ofInt 64 31).toNat = 2 ^ 5 - 1 := by decide
  have key : (BitVec.ofInt 64 n &&& BitVec.ofInt 64 31).toNat = (n % ((2 ^ 64 : Nat) : Int)).toNat % 2 ^ 5 := by
    rw [BitVec.toNat_and, BitVec.toNat_ofInt, h31, Nat.and_two_pow_sub_one_eq_mod]
  show IntKind.i64.wrap ((BitVec.ofInt 64 n &&& BitVec.ofInt 64 31).toNat : Nat) = n % 32
  rw [key, IntKind.wrap_i64]
  omega

/-- A []int that came in. -/
structure IntArg (w : World) (A : Option Addr) (n : Nat) (z : Nat → Int) : Prop where
  rows : ArgRows w 1 A n fun i => [.int .i64 (z i)]
theorem open_intarg {H : Type} {enc : TypeId × Value → H} {w : World} {held : Bool} {n c : Nat} {A : Option Addr} {d : DataW H} {ps : List MemPlace}
    (h : DataW.Trod enc Try.prog w 0 (fun _ => true) held 62 (.slice A n c) d ps) : ∃ z : Nat → Int, IntArg w A n z := by
  obtain ⟨f, h1, _, _, h2⟩ := open_rows (size := 1) Try.underlying62 (by kernel_rfl) (by omega) h
  obtain ⟨z, hz⟩ := choose_lt (α := Int) (n := n) (p := fun i x => f i = [.int .i64 x]) (fun i hi => by
    obtain ⟨fuel, x, hx⟩ := h2 i hi
    obtain ⟨n0, e0, _, w0⟩ := DataW.trod_int Try.underlying3 hx
    exact ⟨n0, e0⟩)
  refine ⟨z, ⟨fun hn => ?_⟩⟩
  obtain ⟨b, o, hA, hb, hc⟩ := h1 hn
  exact ⟨b, o, hA, hb, fun i hi => by
    have := hc i hi
    rw [hz i hi] at this
    exact this⟩
theorem IntArg.cell {w : World} {A : Option Addr} {n : Nat} {z : Nat → Int} (h : IntArg w A n z) {i : Nat} (hi : i < n) : ∃ b o, A = some ⟨b, o, none⟩ ∧ w.cell? ⟨b, o + i, none⟩ = some (.int .i64 (z i)) := by
  obtain ⟨b, o, hA, _, hc⟩ := h.rows (by omega)
  refine ⟨b, o, hA, ?_⟩
  have := (hc i hi).2 0 (by omega)
  simpa using this
theorem IntArg.keep {w w' : World} {A : Option Addr} {n : Nat} {z : Nat → Int} (h : IntArg w A n z) (f : Fr Nob w w') : IntArg w' A n z := ⟨h.rows.keep f⟩

/-- The marks of a round. -/
def mks6 (i c : Nat) : List Mk := (List.range c).map fun k => (i, k)
theorem mks6_len (i c : Nat) : (mks6 i c).length = c := by unfold mks6; simp
theorem mks6_succ (i c : Nat) : mks6 i (c + 1) = mks6 i c ++ [(i, c)] := by unfold mks6; rw [List.range_succ, List.map_append]; rfl

set_option maxRecDepth 100000 in
set_option maxHeartbeats 8000000 in
theorem tombPages_main (pages : Nat) (A : Option Addr) (n cap : Nat) (z : Nat → Int) (w : World) (hz : IntArg w A n z) (h1 : 1 ≤ pages) (h10 : pages ≤ 10) (hn : n ≤ 20) :
    Calls Try.prog 17 #[.int .i64 pages, .slice A n cap] w fun e w' => e = .returned (.bool true) ∧ Fr Nob w w' := by
  have Z := Lib.hid hz
  have e1 : ¬ (pages : Int) < 1 := by omega
  have e2 : ¬ (10 : Int) < (pages : Int) := by omega
  have e3 : ¬ (20 : Int) < (n : Int) := by omega
  clear hz
  go_enter Try.func17, Try.ntmps17
  go_wp2_with fail
  refine (awake6_eq w).mono ?_
  rintro e w0 ⟨rfl, f0⟩
  have F0 := Lib.hid f0
  clear f0
  go_wp2_with fail
  refine (DL.new (n := 10) F0.out (by omega) (by omega)).mono ?_
  rintro e w1 ⟨q, K, rfl, d, _, _⟩
  have OP := Lib.hid (JL.opened d rfl (first := 0) (pages := pages) (gen := 3) (by omega) (by simp [Dv.new]; omega) (by simp [Dv.new]))
  clear d
  go_wp2_with fail
  refine OP.out.mono ?_
  rintro e w2 ⟨j, rfl, m, D1, a1, lk1, _⟩
  rw [opened_none (show (Dv.new 10).now 0 = .blank from rfl)] at a1
  have C1 := Lib.hid ((CalmN.new 10).like lk1)
  have L1 : Hid ((⟨0, pages, 3, 0, (Dv.new 10).loss, []⟩ : Jn).loss = D1.loss) := Lib.hid lk1.loss.symm
  have A1 := Lib.hid a1
  clear a1 lk1 OP
  go_wp2_with fail
  go_loopw [9, 10] (fun lf i wr => ∃ (k : Nat) (D : Dv) (J : Jn), k ≤ n ∧ i = .int .i64 k ∧ lf = .int .i64 ((pages : Int) - J.used) ∧ Hid (JL w wr q K D j m J) ∧ Hid (CalmN 10 D) ∧ Hid (J.loss = D.loss) ∧ Hid (J.pages = pages)) (fun _ i _ => n - (intOf i).toNat)
  case atStart => exact ⟨0, D1, _, Nat.zero_le _, rfl, by simp, A1, C1, L1, Lib.hid rfl⟩
  case round =>
    clear A1 C1 L1
    obtain ⟨k, D, J, hk, rfl, rfl, A2, C2, L2, P2⟩ := hrel
    by_cases hlt : k < n
    · have hki : (k : Int) < (n : Int) := by omega
      obtain ⟨b, o, rfl, hc⟩ := (Z.out.keep A2.out.fr).cell hlt
      generalize z k = x at hc
      have hand := i64_and31 x
      obtain ⟨c, hcx⟩ : ∃ c : Nat, (x % 32) % 24 = c := ⟨((x % 32) % 24).toNat, by omega⟩
      have hc23 : c ≤ 23 := by omega
      go_wp2_with fail
      rw [hcx]
      generalize hWo : wr = Wo at *
      clear hWo wr hcx hand hc
      go_loopw [12, 13] (fun u i wr => ∃ cc : Nat, cc ≤ c ∧ i = .int .i64 cc ∧ Hid (wr.ownsRow Wo.heap.size 80 2 u (mks6 k cc).length (mksV (mks6 k cc))) ∧ Hid (Fr Nob Wo wr)) (fun _ i _ => c - (intOf i).toNat)
      case atStart => exact ⟨0, Nat.zero_le _, rfl, Lib.hid (World.ownsRow_nil _ _ _ _), Lib.hid (Fr.refl _ _)⟩
      case round =>
        obtain ⟨cc, hcc, rfl, own, fr⟩ := hrel
        by_cases hl2 : cc < c
        · have hci : (cc : Int) < (c : Int) := by omega
          have HL : Hid ((mks6 k cc).length = cc) := Lib.hid (mks6_len k cc)
          have BS : Hid (Wo.heap.size ≤ wr.heap.size) := Lib.hid fr.out.size
          have hwk : IntKind.u64.wrap (k : Int) = (k : Int) := by rw [IntKind.wrap_u64]; omega
          have hwc : IntKind.u64.wrap (cc : Int) = (cc : Int) := by rw [IntKind.wrap_u64]; omega
          go_wp2_with (with_reducible refine wpList_app (o := ⟨some 65, _, _, _, _, _⟩) rfl (.tmp 58) (.tmp 64) 74 rfl 80 #[.int .u64 0, .int .u64 0] 2 16 Try.underlying74 mk_info rfl (by omega) Wo.heap.size u12 (mks6 k cc).length (mksV (mks6 k cc)) rfl (((Fr.refl Nob wr).alloc _).ownsRow own.out fun _ _ h => h) ⟨wr.heap.size, 0, none⟩ 1 1 [.int .u64 (k : Int), .int .u64 (cc : Int)] rfl rfl (new_two wr _ _ _) (by simp [Value.oneCell']) (by rw [HL.out]; omega) (by rw [HL.out]; omega) (by have := BS.out; simp; omega) ?_)
          intro v' w5 o5 f5 h5
          have own5 : Hid (w5.ownsRow Wo.heap.size 80 2 v' (mks6 k (cc + 1)).length (mksV (mks6 k (cc + 1)))) := Lib.hid (by
            have := o5.out
            rw [mks6_len, mks6_succ, mksV_append]
            rw [HL.out] at this
            exact this)
          have F5 : Hid (Fr Nob Wo w5) := Lib.hid ((fr.out.alloc (.cells #[.int .u64 (k : Int), .int .u64 (cc : Int)] 80)).trans f5.out fun i hi (e : u12.ownBlock = some i) => absurd ((own.out.lt i e).1) (by omega))
          clear own fr o5 f5 h5
          go_wp2_with fail
          go_roundw
          case rel => exact ⟨cc + 1, by omega, by go_num, own5, F5⟩
          case measure => simp [intOf]; omega
        · have hce : cc = c := by omega
          subst hce
          have A5 := Lib.hid (A2.out.nob fr.out)
          have RD := Lib.hid (RdM.of_row own.out)
          have OLD : Hid (∀ i, u12.ownBlock = some i → ¬ K i ∧ i ≠ j ∧ i ≠ m) := Lib.hid fun i hi => A2.out.new i (own.out.lt i hi).1
          have LN := Lib.hid (mks6_len k cc)
          obtain ⟨ma, mc, hmv⟩ : ∃ a c', u12 = .slice a cc c' := by
            obtain ⟨a, c', h, _⟩ := RD.out
            rw [LN.out] at h
            exact ⟨a, c', h⟩
          subst hmv
          have hus := A2.out.us
          rw [P2.out] at hus
          clear own fr
          by_cases hc0 : cc = 0
          · have hd0 : ¬ (0 : Int) < (cc : Int) := by omega
            have hd1 : ((cc : Int) == 0) = true := by simp [hc0]
            have AD : Hid (Calls Try.prog 50 #[.pointer (some ⟨j, 0, none⟩), .slice ma cc mc] wr fun e w' => e = .returned (.int .i64 0) ∧ wr = w') := Lib.hid (add_none (by
              have := RD.out
              rw [show mks6 k cc = [] by rw [hc0]; rfl] at this
              exact this))
            have RO := Lib.hid (A5.out.room ((pages : Int) - J.used) (by rw [P2.out]))
            subst hc0
            go_wp2_with (go_at_call 50; (with_reducible refine AD.out.mono ?_); rintro e w' ⟨rfl, rfl⟩)
            refine RO.out.mono ?_
            rintro e w9 ⟨rfl, f9⟩
            have A9 := Lib.hid (A5.out.nob f9)
            clear f9 RO AD A5 RD OLD
            go_wp2_with fail
            go_roundw
            case rel => exact ⟨k + 1, D, J, by omega, by go_num, rfl, A9, C2, L2, P2⟩
            case measure => simp [intOf]; omega
          · have hd0 : (0 : Int) < (cc : Int) := by omega
            have hd1 : ((cc : Int) == 0) = false := beq_false_of_ne (by omega)
            by_cases hlu : J.used < pages
            · have hd2 : (0 : Int) < (pages : Int) - J.used := by omega
              have AD := Lib.hid (A5.out.add_calm C2.out RD.out (by rw [LN.out]; omega) (by rw [LN.out]; omega) L2.out (by rw [P2.out]; exact hlu) OLD.out)
              go_wp2_with fail
              refine AD.out.mono ?_
              rintro e w8 ⟨rfl, a8, _⟩
              have RO := Lib.hid (a8.room ((pages : Int) - J.used - 1) (by show _ = ((J.pages : Nat) : Int) - ((J.used + 1 : Nat) : Int); rw [P2.out]; omega))
              have A8 := Lib.hid a8
              have hw1 : IntKind.i64.wrap ((pages : Int) - J.used - 1) = (pages : Int) - J.used - 1 := by rw [IntKind.wrap_i64]; omega
              clear a8 AD A5 RD OLD
              go_wp2_with fail
              refine RO.out.mono ?_
              rintro e w9 ⟨rfl, f9⟩
              have A9 := Lib.hid (A8.out.nob f9)
              have C9 := Lib.hid (C2.out.addD J (mks6 k cc))
              have L9 : Hid ((addJ J (mks6 k cc)).loss = (addD D J (mks6 k cc)).loss) := Lib.hid (by rw [C2.out.loss_addD]; exact L2.out)
              have P9 : Hid ((addJ J (mks6 k cc)).pages = pages) := Lib.hid P2.out
              clear f9 RO A8
              go_wp2_with fail
              go_roundw
              case rel => exact ⟨k + 1, _, _, by omega, by go_num, congrArg (Value.int .i64) (by show _ = (pages : Int) - ((J.used + 1 : Nat) : Int); omega), A9, C9, L9, P9⟩
              case measure => simp [intOf]; omega
            · have hue : J.used = pages := by omega
              have hd2 : ¬ (0 : Int) < (pages : Int) - J.used := by omega
              have AD := Lib.hid (A5.out.add_full RD.out (by rw [LN.out]; omega) (by rw [LN.out]; omega) L2.out (by rw [P2.out]; exact hue))
              go_wp2_with fail
              refine AD.out.mono ?_
              rintro e w8 ⟨rfl, f8⟩
              have RO := Lib.hid ((A5.out.nob f8).room ((pages : Int) - J.used) (by rw [P2.out]))
              have A8 := Lib.hid (A5.out.nob f8)
              clear f8 AD A5 RD OLD
              go_wp2_with fail
              refine RO.out.mono ?_
              rintro e w9 ⟨rfl, f9⟩
              have A9 := Lib.hid (A8.out.nob f9)
              clear f9 RO A8
              go_wp2_with fail
              go_roundw
              case rel => exact ⟨k + 1, D, J, by omega, by go_num, congrArg (Value.int .i64) (by omega), A9, C2, L2, P2⟩
              case measure => simp [intOf]; omega
    · have hke : k = n := by omega
      subst hke
      go_wp2_with fail
      go_ret
      exact ⟨rfl, A2.out.fr⟩

set_option maxHeartbeats 1000000 in
theorem tombPages_walk (p : Int) (A : Option Addr) (n cap : Nat) (z : Nat → Int) (w : World) (hp : (Lit.int .i64 p).wf = true) (hz : IntArg w A n z) :
    Calls Try.prog 17 #[.int .i64 p, .slice A n cap] w fun e w' => e = .returned (.bool true) ∧ Fr Nob w w' := by
  by_cases h1 : p < 1
  · go_enter Try.func17, Try.ntmps17
    go_wp2_with fail
    refine (awake6_eq w).mono ?_
    rintro e w0 ⟨rfl, f0⟩
    go_wp2_with fail
    go_ret
    exact ⟨rfl, f0⟩
  · by_cases h2 : 10 < p
    · go_enter Try.func17, Try.ntmps17
      go_wp2_with fail
      refine (awake6_eq w).mono ?_
      rintro e w0 ⟨rfl, f0⟩
      go_wp2_with fail
      go_ret
      exact ⟨rfl, f0⟩
    · by_cases h3 : n ≤ 20
      · obtain ⟨pages, rfl⟩ : ∃ k : Nat, p = k := ⟨p.toNat, by omega⟩
        exact tombPages_main pages A n cap z w hz (by omega) (by omega) h3
      · have h3' : (20 : Int) < (n : Int) := by omega
        go_enter Try.func17, Try.ntmps17
        go_wp2_with fail
        refine (awake6_eq w).mono ?_
        rintro e w0 ⟨rfl, f0⟩
        go_wp2_with fail
        go_ret
        exact ⟨rfl, f0⟩

end Go.Proofs.Ytpdljgjofebgpaa
