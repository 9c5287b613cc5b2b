/-
  event: the law EventBounds, walked (keyB true, memB true): written by gen/ebounds2.py.
-/
import Derived.Test.YthfhlbnjahakaaaDoorEb0
namespace Go.Proofs.YthfhlbnjahakaaaDoor
open Go.RowKit

set_option linter.unusedSimpArgs false in
set_option maxHeartbeats 16000000 in
set_option maxRecDepth 100000 in
theorem eb_111 (n d : Nat) (key verb : ByteArray) (w : World) (hn : n ≤ 80) (hd : d ≤ 1200) (hk : key.size ≤ 400) (hU : U8 w) (hy0 : keyB key = true) (hM0 : memB verb verbsL = true) (hD0 : decide (d ≤ 1024) = true) :
    Calls Tryd.prog 7 #[.int .i64 n, .string key, .int .i64 d, .string verb] w fun e w' => e = .returned (.bool true) ∧ Fr Nob w w' := by
  have g1 : ¬ (n : Int) < 0 := by omega
  have g2 : ¬ (80 : Int) < (n : Int) := by omega
  have g3 : ¬ (d : Int) < 0 := by omega
  have g4 : ¬ (1200 : Int) < (d : Int) := by omega
  have g5 : ¬ (400 : Int) < (key.size : Int) := by omega
  have HU := Lib.hid hU
  have HK := Lib.hid hk
  clear hU hk
  have HY0 := Lib.hid hy0
  have HM0 := Lib.hid hM0
  have HD0 := Lib.hid hD0
  clear hy0 hM0 hD0
  go_enter Tryd.func7, Tryd.ntmps7
  go_wp2_with fail
  refine (awake_ok w).mono ?_
  rintro e w0 ⟨rfl, f0⟩
  have F0 := Lib.hid f0
  clear f0
  go_wp2_with fail
  go_loopw [9, 10] (fun v i wr => ∃ j : Nat, j ≤ n ∧ i = .int .i64 j ∧ Hid (wr.ownsRow w0.heap.size 9 1 v j (strsV (List.replicate j key))) ∧ Hid (Fr Nob w wr) ∧ Hid (w0.heap.size ≤ wr.heap.size)) (fun _ i _ => n - (intOf i).toNat)
  case atStart => exact ⟨0, Nat.zero_le _, rfl, Lib.hid (World.ownsRow_nil _ _ _ _), F0, Lib.hid (Nat.le_refl _)⟩
  case round =>
    obtain ⟨j, hj, rfl, o1, f1, hsz⟩ := hrel
    by_cases hlt : j < n
    · have hlt1 : (j : Int) < (n : Int) := by omega
      have fb := (Fr.refl Nob wr).alloc (.cells #[.string key] 9)
      have h24 := heap_alloc_new wr (.cells #[.string key] 9)
      have O2 := Lib.hid (fb.ownsRow o1.out fun _ _ h => h)
      have F2 := Lib.hid (f1.out.trans' fb)
      have NEWS : Hid (∀ (i : Nat) (v : Value), [Value.string key][i]? = some v → (wr.alloc (.cells #[.string key] 9)).cell? ((⟨wr.heap.size, 0, none⟩ : Addr).add i) = some v) := Lib.hid fun i v h => by
        rw [Addr.add_lit, Nat.zero_add, cell_of_row _ wr.heap.size i _ _ (0, 0) h24, ← Array.getElem?_toList]
        exact h
      have ONE : Hid (∀ v ∈ [Value.string key], v.oneCell' = true) := Lib.hid fun v hv => by
        simp only [List.mem_singleton] at hv
        subst hv
        rfl
      have hbase : w0.heap.size ≤ (wr.alloc (.cells #[.string key] 9)).heap.size := Nat.le_trans hsz.out fb.size
      clear fb h24 o1 f1
      go_wp2_with (with_reducible refine wpList_app (o := ⟨some 42, _, _, _, _, _⟩) rfl (.tmp 39) (.tmp 41) 24 rfl 9 #[.string ⟨#[]⟩] 1 16 Tryd.underlying24 str_info rfl (by omega) w0.heap.size u9 j (strsV (List.replicate j key)) rfl O2.out ⟨wr.heap.size, 0, none⟩ 1 1 [Value.string key] rfl rfl NEWS.out ONE.out (by omega) (by omega) hbase ?_)
      intro v' w6 o6 f6 hor
      have O6 : Hid (w6.ownsRow w0.heap.size 9 1 v' (j + 1) (strsV (List.replicate (j + 1) key))) := Lib.hid (by
        rw [List.replicate_succ', strsV_snoc]
        exact o6)
      have F6 : Hid (Fr Nob w w6) := Lib.hid (F2.out.trans f6.out fun i hi h => by
        have h1 := (O2.out.lt i h).1
        have h2 := F0.out.size
        omega)
      have Z6 : Hid (w0.heap.size ≤ w6.heap.size) := Lib.hid (Nat.le_trans hbase f6.out.size)
      clear o6 f6 hor NEWS ONE O2 F2 hbase hsz
      go_wp2_with fail
      go_roundw
      case rel => exact ⟨j + 1, by omega, by go_num, O6, F6, Z6⟩
      case measure => simp [intOf]; omega
    · obtain rfl : j = n := by omega
      go_wp2_with fail
      refine (rkey_eq key (by have := HK.out; omega)).mono ?_
      rintro e w1 ⟨rfl, hw1⟩
      obtain rfl := hw1.out
      go_upto_region 11 with fail
      obtain ⟨M, hM⟩ : ∃ M, memB verb verbsL = M := ⟨_, rfl⟩
      have HM := Lib.hid hM
      clear hM
      go_cut [12] (fun t W => t = .bool M ∧ W = w1)
      case first =>
        by_cases e0 : verb = ⟨#[115, 101, 116]⟩
        · subst e0
          have hz : M = true := by rw [← HM.out]; decide +kernel
          subst hz
          clear HM
          go_wp2_with fail
          go_meet
          exact ⟨rfl, rfl⟩
        have x0 := lit_ne e0
        by_cases e1 : verb = ⟨#[97, 100, 100]⟩
        · subst e1
          have hz : M = true := by rw [← HM.out]; decide +kernel
          subst hz
          clear HM
          go_wp2_with fail
          go_meet
          exact ⟨rfl, rfl⟩
        have x1 := lit_ne e1
        by_cases e2 : verb = ⟨#[114, 101, 112, 108, 97, 99, 101]⟩
        · subst e2
          have hz : M = true := by rw [← HM.out]; decide +kernel
          subst hz
          clear HM
          go_wp2_with fail
          go_meet
          exact ⟨rfl, rfl⟩
        have x2 := lit_ne e2
        by_cases e3 : verb = ⟨#[97, 112, 112, 101, 110, 100]⟩
        · subst e3
          have hz : M = true := by rw [← HM.out]; decide +kernel
          subst hz
          clear HM
          go_wp2_with fail
          go_meet
          exact ⟨rfl, rfl⟩
        have x3 := lit_ne e3
        by_cases e4 : verb = ⟨#[112, 114, 101, 112, 101, 110, 100]⟩
        · subst e4
          have hz : M = true := by rw [← HM.out]; decide +kernel
          subst hz
          clear HM
          go_wp2_with fail
          go_meet
          exact ⟨rfl, rfl⟩
        have x4 := lit_ne e4
        by_cases e5 : verb = ⟨#[99, 97, 115]⟩
        · subst e5
          have hz : M = true := by rw [← HM.out]; decide +kernel
          subst hz
          clear HM
          go_wp2_with fail
          go_meet
          exact ⟨rfl, rfl⟩
        have x5 := lit_ne e5
        have hz : M = false := by
          rw [← HM.out]
          simp only [memB, verbsL, List.any_cons, List.any_nil, txt_ne e0, txt_ne e1, txt_ne e2, txt_ne e3, txt_ne e4, txt_ne e5, Bool.or_false]
        subst hz
        clear HM e0 e1 e2 e3 e4 e5
        go_wp2_with fail
        go_meet
        exact ⟨rfl, rfl⟩
      case rest =>
        obtain ⟨rfl, rfl⟩ := hcut
        obtain ⟨y, hy⟩ : ∃ y, keyB key = y := ⟨_, rfl⟩
        have R1 := own_rd o1.out
        have hbk : badKey (List.replicate j key) = (decide (1 ≤ j) && !y) := by
          rw [← hy]
          unfold badKey
          cases j with
          | zero => rfl
          | succ j => rw [List.any_replicate]; simp
        have cG := good_get (w := wc) ⟨#[]⟩ ⟨#[]⟩ u9 0 0 0 0 false false false false R1 (by rw [List.length_replicate]; omega) (by intro x hx; rw [List.eq_of_mem_replicate hx]; have := HK.out; omega) (HU.out.fr f1.out)
        unfold manyOk at cG
        rw [hbk, List.length_replicate] at cG
        obtain ⟨a9, c9, rfl⟩ := own_sl o1.out
        have HY := Lib.hid hy
        rw [hy]
        clear o1 R1 hbk hy
        obtain rfl : M = true := by rw [← HM.out]; exact HM0.out
        obtain rfl : y = true := by rw [← HY.out]; exact HY0.out
        have HD := HD0
        have hd1 : decide ((d : Int) ≤ 1024) = true := by rw [← HD0.out]; exact decide_eq_decide.2 (by omega)
        have q1 : decide ((1 : Int) ≤ (j : Int)) = decide (1 ≤ j) := decide_eq_decide.2 (by omega)
        have q2 : decide ((j : Int) ≤ 64) = decide (j ≤ 64) := decide_eq_decide.2 (by omega)
        have nz : ¬ (decide (1 ≤ j) = false ∧ decide (j ≤ 64) = false) := by simp; omega
        obtain ⟨a, ha⟩ : ∃ a, decide (1 ≤ j) = a := ⟨_, rfl⟩
        obtain ⟨b, hb⟩ : ∃ b, decide (j ≤ 64) = b := ⟨_, rfl⟩
        rw [ha, hb] at cG nz
        rw [ha] at q1
        rw [hb] at q2
        clear ha hb HY0 HM0 HD0
        cases a <;> cases b
        · exact absurd ⟨rfl, rfl⟩ nz
        all_goals
          clear nz
          simp only [Bool.true_and, Bool.false_and, Bool.and_true, Bool.and_false, Bool.not_true, Bool.not_false] at cG
          go_wp2_with fail
          refine cG.mono ?_
          rintro e w2 ⟨rfl, f2⟩
          have F2 := Lib.hid (f1.out.trans' f2)
          clear f2 f1 cG
          have MK := fun W => run_makeU (n := d) hd W
          have TX := fun (W : World) g hg => run_textZ (n := d) W g hg
          have hw2 : (w2.alloc (.cells #[.string key] 9)).heap.size = w2.heap.size + 1 := by simp
          have TX := TX (w2.alloc (.cells #[.string key] 9)) _ hw2.symm
          have F3 : Hid (Fr Nob w ((w2.alloc (.cells #[.string key] 9)).alloc (.cells (madeCells #[.int .u8 0] d) 5))) := Lib.hid ((F2.out.alloc _).alloc _)
          have cS := good_store (w := (w2.alloc (.cells #[.string key] 9)).alloc (.cells (madeCells #[.int .u8 0] d) 5)) verb ⟨Array.replicate d 0⟩ (.slice (some ⟨w2.heap.size, 0, none⟩) 1 1) 0 0 0 0 false false false false (l := [key]) key ((rds_one (heap_alloc_new _ _)).nob (frB _)) rfl (by have := HK.out; omega) (by show (Array.replicate d (0 : UInt8)).size ≤ 1000000000; simp; omega) (HU.out.fr F3.out)
          have hsz : (⟨Array.replicate d 0⟩ : ByteArray).size = d := by show (Array.replicate d (0 : UInt8)).size = d; simp
          rw [HM.out, HY.out, hsz, HD.out] at cS
          clear hw2 F2 hsz
          go_wp2_with fail
          refine cS.mono ?_
          rintro e w5 ⟨rfl, f⟩
          have F5 := Lib.hid (F3.out.trans' f)
          clear f F3 cS MK TX
          go_wp2_with fail
          refine (good_delete (w := w5.alloc (.cells #[.string key] 9)) ⟨#[]⟩ ⟨#[]⟩ (.slice (some ⟨w5.heap.size, 0, none⟩) 1 1) 0 0 0 0 false false false false (l := [key]) key (rds_one (heap_alloc_new _ _)) rfl (by have := HK.out; omega) (HU.out.fr (F5.out.trans' (frB _)))).mono ?_
          rw [HY.out]
          rintro e w6 ⟨rfl, f⟩
          have F6 := Lib.hid ((F5.out.trans' (frB _)).trans' f)
          clear f F5
          go_wp2_with fail
          refine (good_touch (w := w6.alloc (.cells #[.string key] 9)) ⟨#[]⟩ ⟨#[]⟩ (.slice (some ⟨w6.heap.size, 0, none⟩) 1 1) 0 0 0 0 false false false false (l := [key]) key (rds_one (heap_alloc_new _ _)) rfl (by have := HK.out; omega) (HU.out.fr (F6.out.trans' (frB _)))).mono ?_
          rw [HY.out]
          rintro e w7 ⟨rfl, f⟩
          have F7 := Lib.hid ((F6.out.trans' (frB _)).trans' f)
          clear f F6
          go_wp2_with fail
          refine (good_arith (w := w7.alloc (.cells #[.string key] 9)) ⟨#[]⟩ ⟨#[]⟩ (.slice (some ⟨w7.heap.size, 0, none⟩) 1 1) 0 0 0 0 false false false false (l := [key]) key (rds_one (heap_alloc_new _ _)) rfl (by have := HK.out; omega) (HU.out.fr (F7.out.trans' (frB _)))).mono ?_
          rw [HY.out]
          rintro e w8 ⟨rfl, f⟩
          have F8 := Lib.hid ((F7.out.trans' (frB _)).trans' f)
          clear f F7
          go_wp2_with fail
          go_ret
          exact ⟨rfl, F8.out⟩

set_option linter.unusedSimpArgs false in
set_option maxHeartbeats 16000000 in
set_option maxRecDepth 100000 in
theorem eb_110 (n d : Nat) (key verb : ByteArray) (w : World) (hn : n ≤ 80) (hd : d ≤ 1200) (hk : key.size ≤ 400) (hU : U8 w) (hy0 : keyB key = true) (hM0 : memB verb verbsL = true) (hD0 : decide (d ≤ 1024) = false) :
    Calls Tryd.prog 7 #[.int .i64 n, .string key, .int .i64 d, .string verb] w fun e w' => e = .returned (.bool true) ∧ Fr Nob w w' := by
  have g1 : ¬ (n : Int) < 0 := by omega
  have g2 : ¬ (80 : Int) < (n : Int) := by omega
  have g3 : ¬ (d : Int) < 0 := by omega
  have g4 : ¬ (1200 : Int) < (d : Int) := by omega
  have g5 : ¬ (400 : Int) < (key.size : Int) := by omega
  have HU := Lib.hid hU
  have HK := Lib.hid hk
  clear hU hk
  have HY0 := Lib.hid hy0
  have HM0 := Lib.hid hM0
  have HD0 := Lib.hid hD0
  clear hy0 hM0 hD0
  go_enter Tryd.func7, Tryd.ntmps7
  go_wp2_with fail
  refine (awake_ok w).mono ?_
  rintro e w0 ⟨rfl, f0⟩
  have F0 := Lib.hid f0
  clear f0
  go_wp2_with fail
  go_loopw [9, 10] (fun v i wr => ∃ j : Nat, j ≤ n ∧ i = .int .i64 j ∧ Hid (wr.ownsRow w0.heap.size 9 1 v j (strsV (List.replicate j key))) ∧ Hid (Fr Nob w wr) ∧ Hid (w0.heap.size ≤ wr.heap.size)) (fun _ i _ => n - (intOf i).toNat)
  case atStart => exact ⟨0, Nat.zero_le _, rfl, Lib.hid (World.ownsRow_nil _ _ _ _), F0, Lib.hid (Nat.le_refl _)⟩
  case round =>
    obtain ⟨j, hj, rfl, o1, f1, hsz⟩ := hrel
    by_cases hlt : j < n
    · have hlt1 : (j : Int) < (n : Int) := by omega
      have fb := (Fr.refl Nob wr).alloc (.cells #[.string key] 9)
      have h24 := heap_alloc_new wr (.cells #[.string key] 9)
      have O2 := Lib.hid (fb.ownsRow o1.out fun _ _ h => h)
      have F2 := Lib.hid (f1.out.trans' fb)
      have NEWS : Hid (∀ (i : Nat) (v : Value), [Value.string key][i]? = some v → (wr.alloc (.cells #[.string key] 9)).cell? ((⟨wr.heap.size, 0, none⟩ : Addr).add i) = some v) := Lib.hid fun i v h => by
        rw [Addr.add_lit, Nat.zero_add, cell_of_row _ wr.heap.size i _ _ (0, 0) h24, ← Array.getElem?_toList]
        exact h
      have ONE : Hid (∀ v ∈ [Value.string key], v.oneCell' = true) := Lib.hid fun v hv => by
        simp only [List.mem_singleton] at hv
        subst hv
        rfl
      have hbase : w0.heap.size ≤ (wr.alloc (.cells #[.string key] 9)).heap.size := Nat.le_trans hsz.out fb.size
      clear fb h24 o1 f1
      go_wp2_with (with_reducible refine wpList_app (o := ⟨some 42, _, _, _, _, _⟩) rfl (.tmp 39) (.tmp 41) 24 rfl 9 #[.string ⟨#[]⟩] 1 16 Tryd.underlying24 str_info rfl (by omega) w0.heap.size u9 j (strsV (List.replicate j key)) rfl O2.out ⟨wr.heap.size, 0, none⟩ 1 1 [Value.string key] rfl rfl NEWS.out ONE.out (by omega) (by omega) hbase ?_)
      intro v' w6 o6 f6 hor
      have O6 : Hid (w6.ownsRow w0.heap.size 9 1 v' (j + 1) (strsV (List.replicate (j + 1) key))) := Lib.hid (by
        rw [List.replicate_succ', strsV_snoc]
        exact o6)
      have F6 : Hid (Fr Nob w w6) := Lib.hid (F2.out.trans f6.out fun i hi h => by
        have h1 := (O2.out.lt i h).1
        have h2 := F0.out.size
        omega)
      have Z6 : Hid (w0.heap.size ≤ w6.heap.size) := Lib.hid (Nat.le_trans hbase f6.out.size)
      clear o6 f6 hor NEWS ONE O2 F2 hbase hsz
      go_wp2_with fail
      go_roundw
      case rel => exact ⟨j + 1, by omega, by go_num, O6, F6, Z6⟩
      case measure => simp [intOf]; omega
    · obtain rfl : j = n := by omega
      go_wp2_with fail
      refine (rkey_eq key (by have := HK.out; omega)).mono ?_
      rintro e w1 ⟨rfl, hw1⟩
      obtain rfl := hw1.out
      go_upto_region 11 with fail
      obtain ⟨M, hM⟩ : ∃ M, memB verb verbsL = M := ⟨_, rfl⟩
      have HM := Lib.hid hM
      clear hM
      go_cut [12] (fun t W => t = .bool M ∧ W = w1)
      case first =>
        by_cases e0 : verb = ⟨#[115, 101, 116]⟩
        · subst e0
          have hz : M = true := by rw [← HM.out]; decide +kernel
          subst hz
          clear HM
          go_wp2_with fail
          go_meet
          exact ⟨rfl, rfl⟩
        have x0 := lit_ne e0
        by_cases e1 : verb = ⟨#[97, 100, 100]⟩
        · subst e1
          have hz : M = true := by rw [← HM.out]; decide +kernel
          subst hz
          clear HM
          go_wp2_with fail
          go_meet
          exact ⟨rfl, rfl⟩
        have x1 := lit_ne e1
        by_cases e2 : verb = ⟨#[114, 101, 112, 108, 97, 99, 101]⟩
        · subst e2
          have hz : M = true := by rw [← HM.out]; decide +kernel
          subst hz
          clear HM
          go_wp2_with fail
          go_meet
          exact ⟨rfl, rfl⟩
        have x2 := lit_ne e2
        by_cases e3 : verb = ⟨#[97, 112, 112, 101, 110, 100]⟩
        · subst e3
          have hz : M = true := by rw [← HM.out]; decide +kernel
          subst hz
          clear HM
          go_wp2_with fail
          go_meet
          exact ⟨rfl, rfl⟩
        have x3 := lit_ne e3
        by_cases e4 : verb = ⟨#[112, 114, 101, 112, 101, 110, 100]⟩
        · subst e4
          have hz : M = true := by rw [← HM.out]; decide +kernel
          subst hz
          clear HM
          go_wp2_with fail
          go_meet
          exact ⟨rfl, rfl⟩
        have x4 := lit_ne e4
        by_cases e5 : verb = ⟨#[99, 97, 115]⟩
        · subst e5
          have hz : M = true := by rw [← HM.out]; decide +kernel
          subst hz
          clear HM
          go_wp2_with fail
          go_meet
          exact ⟨rfl, rfl⟩
        have x5 := lit_ne e5
        have hz : M = false := by
          rw [← HM.out]
          simp only [memB, verbsL, List.any_cons, List.any_nil, txt_ne e0, txt_ne e1, txt_ne e2, txt_ne e3, txt_ne e4, txt_ne e5, Bool.or_false]
        subst hz
        clear HM e0 e1 e2 e3 e4 e5
        go_wp2_with fail
        go_meet
        exact ⟨rfl, rfl⟩
      case rest =>
        obtain ⟨rfl, rfl⟩ := hcut
        obtain ⟨y, hy⟩ : ∃ y, keyB key = y := ⟨_, rfl⟩
        have R1 := own_rd o1.out
        have hbk : badKey (List.replicate j key) = (decide (1 ≤ j) && !y) := by
          rw [← hy]
          unfold badKey
          cases j with
          | zero => rfl
          | succ j => rw [List.any_replicate]; simp
        have cG := good_get (w := wc) ⟨#[]⟩ ⟨#[]⟩ u9 0 0 0 0 false false false false R1 (by rw [List.length_replicate]; omega) (by intro x hx; rw [List.eq_of_mem_replicate hx]; have := HK.out; omega) (HU.out.fr f1.out)
        unfold manyOk at cG
        rw [hbk, List.length_replicate] at cG
        obtain ⟨a9, c9, rfl⟩ := own_sl o1.out
        have HY := Lib.hid hy
        rw [hy]
        clear o1 R1 hbk hy
        obtain rfl : M = true := by rw [← HM.out]; exact HM0.out
        obtain rfl : y = true := by rw [← HY.out]; exact HY0.out
        have HD := HD0
        have hd1 : decide ((d : Int) ≤ 1024) = false := by rw [← HD0.out]; exact decide_eq_decide.2 (by omega)
        have q1 : decide ((1 : Int) ≤ (j : Int)) = decide (1 ≤ j) := decide_eq_decide.2 (by omega)
        have q2 : decide ((j : Int) ≤ 64) = decide (j ≤ 64) := decide_eq_decide.2 (by omega)
        have nz : ¬ (decide (1 ≤ j) = false ∧ decide (j ≤ 64) = false) := by simp; omega
        obtain ⟨a, ha⟩ : ∃ a, decide (1 ≤ j) = a := ⟨_, rfl⟩
        obtain ⟨b, hb⟩ : ∃ b, decide (j ≤ 64) = b := ⟨_, rfl⟩
        rw [ha, hb] at cG nz
        rw [ha] at q1
        rw [hb] at q2
        clear ha hb HY0 HM0 HD0
        cases a <;> cases b
        · exact absurd ⟨rfl, rfl⟩ nz
        all_goals
          clear nz
          simp only [Bool.true_and, Bool.false_and, Bool.and_true, Bool.and_false, Bool.not_true, Bool.not_false] at cG
          go_wp2_with fail
          refine cG.mono ?_
          rintro e w2 ⟨rfl, f2⟩
          have F2 := Lib.hid (f1.out.trans' f2)
          clear f2 f1 cG
          have MK := fun W => run_makeU (n := d) hd W
          have TX := fun (W : World) g hg => run_textZ (n := d) W g hg
          have hw2 : (w2.alloc (.cells #[.string key] 9)).heap.size = w2.heap.size + 1 := by simp
          have TX := TX (w2.alloc (.cells #[.string key] 9)) _ hw2.symm
          have F3 : Hid (Fr Nob w ((w2.alloc (.cells #[.string key] 9)).alloc (.cells (madeCells #[.int .u8 0] d) 5))) := Lib.hid ((F2.out.alloc _).alloc _)
          have cS := good_store (w := (w2.alloc (.cells #[.string key] 9)).alloc (.cells (madeCells #[.int .u8 0] d) 5)) verb ⟨Array.replicate d 0⟩ (.slice (some ⟨w2.heap.size, 0, none⟩) 1 1) 0 0 0 0 false false false false (l := [key]) key ((rds_one (heap_alloc_new _ _)).nob (frB _)) rfl (by have := HK.out; omega) (by show (Array.replicate d (0 : UInt8)).size ≤ 1000000000; simp; omega) (HU.out.fr F3.out)
          have hsz : (⟨Array.replicate d 0⟩ : ByteArray).size = d := by show (Array.replicate d (0 : UInt8)).size = d; simp
          rw [HM.out, HY.out, hsz, HD.out] at cS
          clear hw2 F2 hsz
          go_wp2_with fail
          refine cS.mono ?_
          rintro e w5 ⟨rfl, f⟩
          have F5 := Lib.hid (F3.out.trans' f)
          clear f F3 cS MK TX
          go_wp2_with fail
          refine (good_delete (w := w5.alloc (.cells #[.string key] 9)) ⟨#[]⟩ ⟨#[]⟩ (.slice (some ⟨w5.heap.size, 0, none⟩) 1 1) 0 0 0 0 false false false false (l := [key]) key (rds_one (heap_alloc_new _ _)) rfl (by have := HK.out; omega) (HU.out.fr (F5.out.trans' (frB _)))).mono ?_
          rw [HY.out]
          rintro e w6 ⟨rfl, f⟩
          have F6 := Lib.hid ((F5.out.trans' (frB _)).trans' f)
          clear f F5
          go_wp2_with fail
          refine (good_touch (w := w6.alloc (.cells #[.string key] 9)) ⟨#[]⟩ ⟨#[]⟩ (.slice (some ⟨w6.heap.size, 0, none⟩) 1 1) 0 0 0 0 false false false false (l := [key]) key (rds_one (heap_alloc_new _ _)) rfl (by have := HK.out; omega) (HU.out.fr (F6.out.trans' (frB _)))).mono ?_
          rw [HY.out]
          rintro e w7 ⟨rfl, f⟩
          have F7 := Lib.hid ((F6.out.trans' (frB _)).trans' f)
          clear f F6
          go_wp2_with fail
          refine (good_arith (w := w7.alloc (.cells #[.string key] 9)) ⟨#[]⟩ ⟨#[]⟩ (.slice (some ⟨w7.heap.size, 0, none⟩) 1 1) 0 0 0 0 false false false false (l := [key]) key (rds_one (heap_alloc_new _ _)) rfl (by have := HK.out; omega) (HU.out.fr (F7.out.trans' (frB _)))).mono ?_
          rw [HY.out]
          rintro e w8 ⟨rfl, f⟩
          have F8 := Lib.hid ((F7.out.trans' (frB _)).trans' f)
          clear f F7
          go_wp2_with fail
          go_ret
          exact ⟨rfl, F8.out⟩

end Go.Proofs.YthfhlbnjahakaaaDoor
