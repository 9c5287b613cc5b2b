/-
  The law EventTells, walked (written by gen/evtells.py).
-/
import Derived.Test.YthfhlbnjahakaaaDoorEvY
import Derived.Test.YthfhlbnjahakaaaDoorEvAw
import Derived.Deep.CutBlock
import Derived.Deep.DeepCutAuto
import Derived.BigQuiet
namespace Go.Proofs.YthfhlbnjahakaaaDoor
open Go.RowKit

theorem back_get {w : World} {l : List ByteArray} (b d : ByteArray) (v : Value) (n1 n2 n3 n4 : Int) (b1 b2 b3 b4 : Bool) (h : RdS w v l) (hn : l.length ≤ 1000000000) :
    Calls Tryd.prog 13 #[.agg #[.string ⟨#[103, 101, 116]⟩, .string b, v, .string d, .int .u32 n1, .int .i64 n2, .int .u64 n3, .int .u64 n4, .bool b1, .bool b2, .bool b3, .bool b4]] w fun e w' => ∃ v', e = .returned (.agg #[.string ⟨#[103, 101, 116]⟩, .string ⟨#[]⟩, v', .string ⟨#[]⟩, .int .u32 0, .int .i64 n2, .int .u64 0, .int .u64 0, .bool b1, .bool b2, .bool false, .bool false]) ∧ Hid (RdS w' v' l) ∧ Hid (Fr Nob w w') := by
  cases l with
  | nil => exact back_get0 b d v n1 n2 n3 n4 b1 b2 b3 b4 h
  | cons k r => exact back_get1 b d v n1 n2 n3 n4 b1 b2 b3 b4 h hn (by simp)
theorem keyOf_le {l : List ByteArray} {B : Nat} (h : ∀ k ∈ l, k.size ≤ B) : (keyOf l).size ≤ B := by
  cases l with
  | nil => exact Nat.zero_le _
  | cons k r => exact h k (by simp)
set_option maxHeartbeats 8000000 in
set_option maxRecDepth 100000 in
theorem tells_many {w : World} (a b d : ByteArray) (n1 n2 n3 n4 : Int) (b1 b2 b3 b4 : Bool) (A : Option Addr) (n cap : Nat) (hm : 100 < n) : Calls Tryd.prog 4 #[.agg #[.string a, .string b, .slice A n cap, .string d, .int .u32 n1, .int .i64 n2, .int .u64 n3, .int .u64 n4, .bool b1, .bool b2, .bool b3, .bool b4]] w fun e w' => e = .returned (.bool true) ∧ Fr Nob w w' := by
  have hm1 : (100 : Int) < (n : Int) := by omega
  obtain ⟨w1, hw1⟩ : ∃ w1, w1 = w.alloc (.cells #[.string a, .string b, .slice A n cap, .string d, .int .u32 n1, .int .i64 n2, .int .u64 n3, .int .u64 n4, .bool b1, .bool b2, .bool b3, .bool b4] 31) := ⟨_, rfl⟩
  obtain ⟨B, hB⟩ : ∃ B, B = w.heap.size := ⟨_, rfl⟩
  have f1 : Fr Nob w w1 := by rw [hw1]; exact frB _
  have h1 : w1.heap[B]? = some (.cells #[.string a, .string b, .slice A n cap, .string d, .int .u32 n1, .int .i64 n2, .int .u64 n3, .int .u64 n4, .bool b1, .bool b2, .bool b3, .bool b4] 31 (0, 0)) := by rw [hw1, hB]; exact heap_alloc_new w _
  have F1 := Lib.hid f1
  have H1 := Lib.hid h1
  have HW := Lib.hid hw1.symm
  have HB := Lib.hid hB.symm
  clear hw1 hB f1 h1
  go_enter Tryd.func4, Tryd.ntmps4
  go_wp2_with fail
  rw [HW.out, HB.out]
  refine (awake_ok w1).mono ?_
  rintro e w2 ⟨rfl, f2⟩
  have F2 := Lib.hid (F1.out.trans' f2)
  have H2 := Lib.hid (f2.heap H1.out fun h => h)
  have c0 : w2.cell? ⟨B, 0, none⟩ = some (.string a) := cell_of_row _ B 0 _ _ (0, 0) H2.out
  have c2 : w2.cell? ⟨B, 2, none⟩ = some (.slice A n cap) := cell_of_row _ B 2 _ _ (0, 0) H2.out
  have fz := frozen_of_row w2 B 2 _ _ H2.out
  clear f2 F1 H1 HW
  clear fz c0 HB
  go_wp2_with fail
  go_ret
  exact ⟨rfl, F2.out⟩

set_option maxHeartbeats 8000000 in
set_option maxRecDepth 100000 in
theorem eventTells_main {w : World} (a b d : ByteArray) (n1 n2 n3 n4 : Int) (b1 b2 b3 b4 : Bool) (A : Option Addr) (n cap : Nat) (l : List ByteArray) (hin : InS w A n cap l) (hks : ∀ k ∈ l, k.size ≤ 9223372036854775807) (hd : d.size ≤ 9223372036854775807) (hm : n ≤ 100) (hU : U8 w) : Calls Tryd.prog 4 #[.agg #[.string a, .string b, .slice A n cap, .string d, .int .u32 n1, .int .i64 n2, .int .u64 n3, .int .u64 n4, .bool b1, .bool b2, .bool b3, .bool b4]] w fun e w' => e = .returned (.bool true) ∧ Fr Nob w w' := by
  have hm1 : ¬ (100 : Int) < (n : Int) := by omega
  have HI := Lib.hid hin
  have HK := Lib.hid hks
  have HD := Lib.hid hd
  have HU := Lib.hid hU
  clear hin hks hd hU
  obtain ⟨w1, hw1⟩ : ∃ w1, w1 = w.alloc (.cells #[.string a, .string b, .slice A n cap, .string d, .int .u32 n1, .int .i64 n2, .int .u64 n3, .int .u64 n4, .bool b1, .bool b2, .bool b3, .bool b4] 31) := ⟨_, rfl⟩
  obtain ⟨B, hB⟩ : ∃ B, B = w.heap.size := ⟨_, rfl⟩
  have f1 : Fr Nob w w1 := by rw [hw1]; exact frB _
  have h1 : w1.heap[B]? = some (.cells #[.string a, .string b, .slice A n cap, .string d, .int .u32 n1, .int .i64 n2, .int .u64 n3, .int .u64 n4, .bool b1, .bool b2, .bool b3, .bool b4] 31 (0, 0)) := by rw [hw1, hB]; exact heap_alloc_new w _
  have F1 := Lib.hid f1
  have H1 := Lib.hid h1
  have HW := Lib.hid hw1.symm
  have HB := Lib.hid hB.symm
  clear hw1 hB f1 h1
  go_enter Tryd.func4, Tryd.ntmps4
  go_wp2_with fail
  rw [HW.out, HB.out]
  refine (awake_ok w1).mono ?_
  rintro e w2 ⟨rfl, f2⟩
  have F2 := Lib.hid (F1.out.trans' f2)
  have H2 := Lib.hid (f2.heap H1.out fun h => h)
  have c0 : w2.cell? ⟨B, 0, none⟩ = some (.string a) := cell_of_row _ B 0 _ _ (0, 0) H2.out
  have c2 : w2.cell? ⟨B, 2, none⟩ = some (.slice A n cap) := cell_of_row _ B 2 _ _ (0, 0) H2.out
  have fz := frozen_of_row w2 B 2 _ _ H2.out
  clear f2 F1 H1 HW
  obtain ⟨T, hT⟩ : ∃ T, (!decide (a = ⟨#[103, 101, 116]⟩) && decide (1 < n)) = T := ⟨_, rfl⟩
  have HT := Lib.hid hT
  clear hT
  go_upto_region 5 with fail
  go_cut [21] (fun t W => t = .bool T ∧ W = w2)
  case first =>
    by_cases hg : a = ⟨#[103, 101, 116]⟩
    · subst hg
      obtain rfl : T = false := by rw [← HT.out]; rfl
      go_wp2_with fail
      go_meet
      first | trivial | exact ⟨rfl, rfl⟩
    · have x0 := lit_ne hg
      by_cases h1 : 1 < n
      · have h1' : (1 : Int) < (n : Int) := by omega
        obtain rfl : T = true := by rw [← HT.out, decide_eq_false hg, decide_eq_true h1]; rfl
        clear hg HT
        go_wp2_with fail
        go_meet
        exact ⟨rfl, rfl⟩
      · have h1' : ¬ (1 : Int) < (n : Int) := by omega
        obtain rfl : T = false := by rw [← HT.out, decide_eq_false hg, decide_eq_false h1]; rfl
        clear hg HT
        go_wp2_with fail
        go_meet
        exact ⟨rfl, rfl⟩
  case rest =>
    obtain ⟨rfl, rfl⟩ := hcut
    go_upto_if 21 with fail
    go_cut [] (fun W => ∃ (v1 : Value) (l1 : List ByteArray), Hid (W.heap[B]? = some (.cells #[.string a, .string b, v1, .string d, .int .u32 n1, .int .i64 n2, .int .u64 n3, .int .u64 n4, .bool b1, .bool b2, .bool b3, .bool b4] 31 (0, 0))) ∧ Hid (RdS W v1 l1) ∧ (a = ⟨#[103, 101, 116]⟩ ∨ l1.length ≤ 1) ∧ l1.length ≤ 100 ∧ Hid (∀ k ∈ l1, k.size ≤ 9223372036854775807) ∧ Hid (Fr Nob w W))
    case first =>
      have hln := HI.out.len
      cases T with
      | false =>
        have hor : a = ⟨#[103, 101, 116]⟩ ∨ l.length ≤ 1 := by
          by_cases hg : a = ⟨#[103, 101, 116]⟩
          · exact .inl hg
          · refine .inr ?_
            have := HT.out
            rw [decide_eq_false hg] at this
            have : ¬ 1 < n := by simpa using this
            omega
        have HOR := Lib.hid hor
        clear hor
        go_wp2_with fail
        go_meet
        exact ⟨_, l, H2, Lib.hid (HI.out.rd.nob F2.out), HOR.out, by omega, HK, F2⟩
      | true =>
        have h1 : 1 < n := by
          have := HT.out
          simp at this
          exact this.2
        obtain ⟨A', c', he, hcap, hcell⟩ := HI.out.rd
        injection he with he1 he2 he3
        subst he1 he3
        obtain ⟨ga, oa, rfl, hc⟩ := hcell (by omega)
        have hc1 : 1 ≤ cap := by omega
        obtain ⟨k0, r, rfl⟩ : ∃ k0 r, l = k0 :: r := by
          cases l with
          | nil => simp at hln; omega
          | cons k0 r => exact ⟨k0, r, rfl⟩
        have HC := Lib.hid (F2.out.cell (hc 0 k0 rfl) fun h => h)
        have hc1' : (1 : Int) ≤ (cap : Int) := by omega
        have hnp := Lib.hid (show 0 < n by omega)
        clear hc hcell hcap hln he2 HT h1
        go_wp2_with fail
        go_meet
        have hgB : ga ≠ B := by
          have := HI.out.old hnp.out ga rfl
          have := HB.out
          omega
        have fs : Fr (One B) wc (wc.setCell ⟨B, 2, none⟩ (.slice (some ⟨ga, oa, none⟩) 1 cap)) := (Fr.refl _ _).set1 _
        refine ⟨_, [k0], Lib.hid (heap_setCell_same wc B 2 _ _ _ H2.out), Lib.hid ⟨_, cap, rfl, hc1, fun _ => ⟨ga, oa, rfl, fun j k hk => ?_⟩⟩, .inr (by simp), by simp, Lib.hid fun k hk => HK.out k (by rw [List.mem_singleton.1 hk]; simp), Lib.hid (F2.out.trans fs fun i hi e => ?_)⟩
        · cases j with
          | zero => cases hk; exact fs.cell HC.out hgB
          | succ j => simp at hk
        · have := HB.out
          unfold One at e
          omega
    case rest =>
      obtain ⟨v1, l1, H3, R3, hor, hl1, K3, F3⟩ := hcut
      generalize wc = w3 at *
      clear c0 c2 fz H2 F2 HT T
      obtain ⟨A1, cap1, rfl, hcp1, hr1⟩ := id R3.out
      clear hcp1 hr1
      have c0 : w3.cell? ⟨B, 0, none⟩ = some (.string a) := cell_of_row _ B 0 _ _ (0, 0) H3.out
      have c1 : w3.cell? ⟨B, 1, none⟩ = some (.string b) := cell_of_row _ B 1 _ _ (0, 0) H3.out
      have c2 : w3.cell? ⟨B, 2, none⟩ = some (.slice A1 l1.length cap1) := cell_of_row _ B 2 _ _ (0, 0) H3.out
      have c3 : w3.cell? ⟨B, 3, none⟩ = some (.string d) := cell_of_row _ B 3 _ _ (0, 0) H3.out
      have c4 : w3.cell? ⟨B, 4, none⟩ = some (.int .u32 n1) := cell_of_row _ B 4 _ _ (0, 0) H3.out
      have c5 : w3.cell? ⟨B, 5, none⟩ = some (.int .i64 n2) := cell_of_row _ B 5 _ _ (0, 0) H3.out
      have c6 : w3.cell? ⟨B, 6, none⟩ = some (.int .u64 n3) := cell_of_row _ B 6 _ _ (0, 0) H3.out
      have c7 : w3.cell? ⟨B, 7, none⟩ = some (.int .u64 n4) := cell_of_row _ B 7 _ _ (0, 0) H3.out
      have c8 : w3.cell? ⟨B, 8, none⟩ = some (.bool b1) := cell_of_row _ B 8 _ _ (0, 0) H3.out
      have c9 : w3.cell? ⟨B, 9, none⟩ = some (.bool b2) := cell_of_row _ B 9 _ _ (0, 0) H3.out
      have c10 : w3.cell? ⟨B, 10, none⟩ = some (.bool b3) := cell_of_row _ B 10 _ _ (0, 0) H3.out
      have c11 : w3.cell? ⟨B, 11, none⟩ = some (.bool b4) := cell_of_row _ B 11 _ _ (0, 0) H3.out
      go_upto_region 7 with fail
      go_cut [3] (fun t W => ∃ (X : Nat) (a' b' d' : ByteArray) (v' : Value) (m1 m2 m3 m4 : Int) (e1 e2 e3 e4 : Bool) (l' : List ByteArray) (G : Bool) (NM : ByteArray), t = .pointer (some ⟨X, 0, none⟩) ∧ Hid (W.heap[X]? = some (.cells #[.string a', .string b', v', .string d', .int .u32 m1, .int .i64 m2, .int .u64 m3, .int .u64 m4, .bool e1, .bool e2, .bool e3, .bool e4] 28 (0, 0))) ∧ Hid (Same W a' b' d' v' m1 m2 m3 m4 e1 e2 e3 e4 l' G NM) ∧ Hid (Fr Nob w W))
      case first =>
        by_cases q0 : a = ⟨#[103, 101, 116]⟩
        · subst q0
          go_wp2_with fail
          refine (back_get b d _ n1 n2 n3 n4 b1 b2 b3 b4 R3.out (by omega)).mono ?_
          rintro e w7 ⟨v7, rfl, r7, f7⟩
          obtain ⟨A7, cap7, rfl, hcp7, hr7⟩ := id r7.out
          clear hcp7 hr7
          go_wp2_with fail
          go_meet
          exact ⟨_, _, _, _, _, _, _, _, _, _, _, _, _, _, _, _, rfl, Lib.hid (heap_alloc_new w7 _), Lib.hid (same_get n2 b1 b2 (r7.out.nob (frB (w := w7) _)) (by omega) K3.out (HU.out.fr ((F3.out.trans' f7.out).alloc _))), Lib.hid ((F3.out.trans' f7.out).alloc _)⟩
        by_cases q1 : a = ⟨#[115, 116, 111, 114, 101]⟩
        · subst q1
          go_wp2_with fail
          refine (back_store (keyOf l1) b d _ n1 n2 n3 n4 b1 b2 b3 b4 R3.out rfl).mono ?_
          rintro e w7 ⟨g7, rfl, h7, f7⟩
          go_wp2_with fail
          go_meet
          exact ⟨_, _, _, _, _, _, _, _, _, _, _, _, _, _, _, _, rfl, Lib.hid (heap_alloc_new w7 _), Lib.hid (same_store b d n1 n2 n3 b4 (keyOf l1) (rds_one ((frB (w := w7) _).heap h7.out fun h => h)) (keyOf_le K3.out) HD.out (HU.out.fr ((F3.out.trans' f7.out).alloc _))), Lib.hid ((F3.out.trans' f7.out).alloc _)⟩
        by_cases q2 : a = ⟨#[97, 114, 105, 116, 104]⟩
        · subst q2
          go_wp2_with fail
          refine (back_arith (keyOf l1) b d _ n1 n2 n3 n4 b1 b2 b3 b4 R3.out rfl).mono ?_
          rintro e w7 ⟨g7, rfl, h7, f7⟩
          go_wp2_with fail
          go_meet
          exact ⟨_, _, _, _, _, _, _, _, _, _, _, _, _, _, _, _, rfl, Lib.hid (heap_alloc_new w7 _), Lib.hid (same_arith n4 b3 b4 (keyOf l1) (rds_one ((frB (w := w7) _).heap h7.out fun h => h)) (keyOf_le K3.out) (HU.out.fr ((F3.out.trans' f7.out).alloc _))), Lib.hid ((F3.out.trans' f7.out).alloc _)⟩
        by_cases q3 : a = ⟨#[116, 111, 117, 99, 104]⟩
        · subst q3
          go_wp2_with fail
          refine (back_touch (keyOf l1) b d _ n1 n2 n3 n4 b1 b2 b3 b4 R3.out rfl).mono ?_
          rintro e w7 ⟨g7, rfl, h7, f7⟩
          go_wp2_with fail
          go_meet
          exact ⟨_, _, _, _, _, _, _, _, _, _, _, _, _, _, _, _, rfl, Lib.hid (heap_alloc_new w7 _), Lib.hid (same_touch n2 b4 (keyOf l1) (rds_one ((frB (w := w7) _).heap h7.out fun h => h)) (keyOf_le K3.out) (HU.out.fr ((F3.out.trans' f7.out).alloc _))), Lib.hid ((F3.out.trans' f7.out).alloc _)⟩
        by_cases q4 : a = ⟨#[100, 101, 108, 101, 116, 101]⟩
        · subst q4
          go_wp2_with fail
          refine (back_delete (keyOf l1) b d _ n1 n2 n3 n4 b1 b2 b3 b4 R3.out rfl).mono ?_
          rintro e w7 ⟨g7, rfl, h7, f7⟩
          go_wp2_with fail
          go_meet
          exact ⟨_, _, _, _, _, _, _, _, _, _, _, _, _, _, _, _, rfl, Lib.hid (heap_alloc_new w7 _), Lib.hid (same_delete b4 (keyOf l1) (rds_one ((frB (w := w7) _).heap h7.out fun h => h)) (keyOf_le K3.out) (HU.out.fr ((F3.out.trans' f7.out).alloc _))), Lib.hid ((F3.out.trans' f7.out).alloc _)⟩
        by_cases q5 : a = ⟨#[102, 108, 117, 115, 104]⟩
        · subst q5
          go_wp2_with fail
          refine (back_flush b d _ n1 n2 n3 n4 b1 b2 b3 b4 R3.out).mono ?_
          rintro e w7 ⟨rfl, f7⟩
          go_wp2_with fail
          go_meet
          exact ⟨_, _, _, _, _, _, _, _, _, _, _, _, _, _, _, _, rfl, Lib.hid (heap_alloc_new w7 _), Lib.hid (same_flush b4 (RdS.nil _)), Lib.hid ((F3.out.trans' f7).alloc _)⟩
        by_cases q6 : a = ⟨#[98, 97, 100]⟩
        · subst q6
          go_wp2_with fail
          refine (back_bad b d _ n1 n2 n3 n4 b1 b2 b3 b4 R3.out).mono ?_
          rintro e w7 ⟨rfl, f7⟩
          go_wp2_with fail
          go_meet
          exact ⟨_, _, _, _, _, _, _, _, _, _, _, _, _, _, _, _, rfl, Lib.hid (heap_alloc_new w7 _), Lib.hid (same_bad b (RdS.nil _)), Lib.hid ((F3.out.trans' f7).alloc _)⟩
        by_cases q7 : a = ⟨#[119, 111, 114, 100]⟩
        · subst q7
          go_wp2_with fail
          refine (back_word b d _ n1 n2 n3 n4 b1 b2 b3 b4 R3.out).mono ?_
          rintro e w7 ⟨rfl, f7⟩
          go_wp2_with fail
          go_meet
          exact ⟨_, _, _, _, _, _, _, _, _, _, _, _, _, _, _, _, rfl, Lib.hid (heap_alloc_new w7 _), Lib.hid (same_word b (RdS.nil _)), Lib.hid ((F3.out.trans' f7).alloc _)⟩
        have hno : Hid (noWord a) := Lib.hid ⟨q0, q1, q2, q3, q4, q5, q6, q7⟩
        clear q0 q1 q2 q3 q4 q5 q6 q7
        go_wp2_with fail
        refine (back_none a b d _ n1 n2 n3 n4 b1 b2 b3 b4 R3.out hno.out).mono ?_
        rintro e w7 ⟨rfl, f7⟩
        go_wp2_with fail
        go_meet
        exact ⟨_, _, _, _, _, _, _, _, _, _, _, _, _, _, _, _, rfl, Lib.hid (heap_alloc_new w7 _), Lib.hid (same_none  (RdS.nil _)), Lib.hid ((F3.out.trans' f7).alloc _)⟩
      case rest =>
        obtain ⟨X, a', b', d', v', m1, m2, m3, m4, e1, e2, e3, e4, l', G, NM, rfl, H4, SM, F4⟩ := hcut
        generalize wc = w4 at *
        clear c0 c1 c2 c3 c4 c5 c6 c7 c8 c9 c10 c11 H3 R3 hor K3
        obtain ⟨A1, cap1, rfl, hcp1, hr1⟩ := id SM.out.rd
        clear hcp1 hr1
        have x0 : w4.cell? ⟨X, 0, none⟩ = some (.string a') := cell_of_row _ X 0 _ _ (0, 0) H4.out
        have x1 : w4.cell? ⟨X, 1, none⟩ = some (.string b') := cell_of_row _ X 1 _ _ (0, 0) H4.out
        have x2 : w4.cell? ⟨X, 2, none⟩ = some (.slice A1 l'.length cap1) := cell_of_row _ X 2 _ _ (0, 0) H4.out
        have x3 : w4.cell? ⟨X, 3, none⟩ = some (.string d') := cell_of_row _ X 3 _ _ (0, 0) H4.out
        have x4 : w4.cell? ⟨X, 4, none⟩ = some (.int .u32 m1) := cell_of_row _ X 4 _ _ (0, 0) H4.out
        have x5 : w4.cell? ⟨X, 5, none⟩ = some (.int .i64 m2) := cell_of_row _ X 5 _ _ (0, 0) H4.out
        have x6 : w4.cell? ⟨X, 6, none⟩ = some (.int .u64 m3) := cell_of_row _ X 6 _ _ (0, 0) H4.out
        have x7 : w4.cell? ⟨X, 7, none⟩ = some (.int .u64 m4) := cell_of_row _ X 7 _ _ (0, 0) H4.out
        have x8 : w4.cell? ⟨X, 8, none⟩ = some (.bool e1) := cell_of_row _ X 8 _ _ (0, 0) H4.out
        have x9 : w4.cell? ⟨X, 9, none⟩ = some (.bool e2) := cell_of_row _ X 9 _ _ (0, 0) H4.out
        have x10 : w4.cell? ⟨X, 10, none⟩ = some (.bool e3) := cell_of_row _ X 10 _ _ (0, 0) H4.out
        have x11 : w4.cell? ⟨X, 11, none⟩ = some (.bool e4) := cell_of_row _ X 11 _ _ (0, 0) H4.out
        go_wp2_with fail
        refine (cmd17_eq a' b' d' _ m1 m2 m3 m4 e1 e2 e3 e4 SM.out.rd SM.out.len).mono ?_
        rintro e w5 ⟨v5, rfl, r5, f5⟩
        obtain ⟨A5, cap5, rfl, hcp5, hr5⟩ := id r5.out
        have FX := Lib.hid (f5.out.alloc (.cells #[.string a', .string b', .slice A5 l'.length cap5, .string d', .int .u32 m1, .int .i64 m2, .int .u64 m3, .int .u64 m4, .bool e1, .bool e2, .bool e3, .bool e4] 31))
        have HX := Lib.hid (FX.out.heap H4.out fun h => h)
        have HY := Lib.hid (heap_alloc_new w5 (.cells #[.string a', .string b', .slice A5 l'.length cap5, .string d', .int .u32 m1, .int .i64 m2, .int .u64 m3, .int .u64 m4, .bool e1, .bool e2, .bool e3, .bool e4] 31))
        have RY := Lib.hid (r5.out.nob (frB (w := w5) (.cells #[.string a', .string b', .slice A5 l'.length cap5, .string d', .int .u32 m1, .int .i64 m2, .int .u64 m3, .int .u64 m4, .bool e1, .bool e2, .bool e3, .bool e4] 31)))
        clear hcp5 hr5 x0 x1 x2 x3 x4 x5 x6 x7 x8 x9 x10 x11 f5 r5
        go_upto_region 9 with fail
        obtain ⟨Y, hY⟩ : ∃ Y, w5.heap.size = Y := ⟨_, rfl⟩
        rw [hY] at HY ⊢
        clear hY
        generalize w5.alloc (.cells #[.string a', .string b', .slice A5 l'.length cap5, .string d', .int .u32 m1, .int .i64 m2, .int .u64 m3, .int .u64 m4, .bool e1, .bool e2, .bool e3, .bool e4] 31) = w6 at *
        clear H4
        have LS : Hid (∀ W : World, W.heap[X]? = some (.cells #[.string a', .string b', .slice A1 l'.length cap1, .string d', .int .u32 m1, .int .i64 m2, .int .u64 m3, .int .u64 m4, .bool e1, .bool e2, .bool e3, .bool e4] 28 (0, 0)) → W.heap[Y]? = some (.cells #[.string a', .string b', .slice A5 l'.length cap5, .string d', .int .u32 m1, .int .i64 m2, .int .u64 m3, .int .u64 m4, .bool e1, .bool e2, .bool e3, .bool e4] 31 (0, 0)) → (W.cell? ⟨X, 0, none⟩ = some (.string a') ∧ W.cell? ⟨X, 1, none⟩ = some (.string b') ∧ W.cell? ⟨X, 2, none⟩ = some (.slice A1 l'.length cap1) ∧ W.cell? ⟨X, 3, none⟩ = some (.string d') ∧ W.cell? ⟨X, 4, none⟩ = some (.int .u32 m1) ∧ W.cell? ⟨X, 5, none⟩ = some (.int .i64 m2) ∧ W.cell? ⟨X, 6, none⟩ = some (.int .u64 m3) ∧ W.cell? ⟨X, 7, none⟩ = some (.int .u64 m4) ∧ W.cell? ⟨X, 8, none⟩ = some (.bool e1) ∧ W.cell? ⟨X, 9, none⟩ = some (.bool e2) ∧ W.cell? ⟨X, 10, none⟩ = some (.bool e3) ∧ W.cell? ⟨X, 11, none⟩ = some (.bool e4) ∧ W.cell? ⟨Y, 0, none⟩ = some (.string a') ∧ W.cell? ⟨Y, 1, none⟩ = some (.string b') ∧ W.cell? ⟨Y, 2, none⟩ = some (.slice A5 l'.length cap5) ∧ W.cell? ⟨Y, 3, none⟩ = some (.string d') ∧ W.cell? ⟨Y, 4, none⟩ = some (.int .u32 m1) ∧ W.cell? ⟨Y, 5, none⟩ = some (.int .i64 m2) ∧ W.cell? ⟨Y, 6, none⟩ = some (.int .u64 m3) ∧ W.cell? ⟨Y, 7, none⟩ = some (.int .u64 m4) ∧ W.cell? ⟨Y, 8, none⟩ = some (.bool e1) ∧ W.cell? ⟨Y, 9, none⟩ = some (.bool e2) ∧ W.cell? ⟨Y, 10, none⟩ = some (.bool e3) ∧ W.cell? ⟨Y, 11, none⟩ = some (.bool e4))) := Lib.hid fun W h r => ⟨cell_of_row W X 0 _ _ (0, 0) h, cell_of_row W X 1 _ _ (0, 0) h, cell_of_row W X 2 _ _ (0, 0) h, cell_of_row W X 3 _ _ (0, 0) h, cell_of_row W X 4 _ _ (0, 0) h, cell_of_row W X 5 _ _ (0, 0) h, cell_of_row W X 6 _ _ (0, 0) h, cell_of_row W X 7 _ _ (0, 0) h, cell_of_row W X 8 _ _ (0, 0) h, cell_of_row W X 9 _ _ (0, 0) h, cell_of_row W X 10 _ _ (0, 0) h, cell_of_row W X 11 _ _ (0, 0) h, cell_of_row W Y 0 _ _ (0, 0) r, cell_of_row W Y 1 _ _ (0, 0) r, cell_of_row W Y 2 _ _ (0, 0) r, cell_of_row W Y 3 _ _ (0, 0) r, cell_of_row W Y 4 _ _ (0, 0) r, cell_of_row W Y 5 _ _ (0, 0) r, cell_of_row W Y 6 _ _ (0, 0) r, cell_of_row W Y 7 _ _ (0, 0) r, cell_of_row W Y 8 _ _ (0, 0) r, cell_of_row W Y 9 _ _ (0, 0) r, cell_of_row W Y 10 _ _ (0, 0) r, cell_of_row W Y 11 _ _ (0, 0) r⟩
        have GX := Lib.hid fun (W : World) (f : Fr Nob w6 W) => SM.out.good W (FX.out.trans' f)
        have GY := Lib.hid fun (W : World) (f : Fr Nob w6 W) => SM.out.good' W _ (FX.out.trans' f) (RY.out.nob f)
        have QX := Lib.hid fun (W : World) (f : Fr Nob w6 W) => SM.out.quiet W (FX.out.trans' f)
        have NX := Lib.hid fun (W : World) (f : Fr Nob w6 W) => SM.out.name W (FX.out.trans' f)
        have NY := Lib.hid fun (W : World) (f : Fr Nob w6 W) => SM.out.name' W _ (FX.out.trans' f) (RY.out.nob f)
        have FD : Hid (Fr Nob w6 w6.drew) := Lib.hid (Fr.refl Nob w6).drew
        have HXd : Hid (w6.drew.heap[X]? = some (.cells #[.string a', .string b', .slice A1 l'.length cap1, .string d', .int .u32 m1, .int .i64 m2, .int .u64 m3, .int .u64 m4, .bool e1, .bool e2, .bool e3, .bool e4] 28 (0, 0))) := Lib.hid HX.out
        have HYd : Hid (w6.drew.heap[Y]? = some (.cells #[.string a', .string b', .slice A5 l'.length cap5, .string d', .int .u32 m1, .int .i64 m2, .int .u64 m3, .int .u64 m4, .bool e1, .bool e2, .bool e3, .bool e4] 31 (0, 0))) := Lib.hid HY.out
        go_cut [48] (fun t W => t = .bool false ∧ Hid (Fr Nob w6 W))
        case first =>
          go_region_held3 (fun w' => w'.cell? ⟨X, 0, none⟩ = some (.string a') ∧ w'.cell? ⟨X, 1, none⟩ = some (.string b') ∧ w'.cell? ⟨X, 2, none⟩ = some (.slice A1 l'.length cap1) ∧ w'.cell? ⟨X, 3, none⟩ = some (.string d') ∧ w'.cell? ⟨X, 4, none⟩ = some (.int .u32 m1) ∧ w'.cell? ⟨X, 5, none⟩ = some (.int .i64 m2) ∧ w'.cell? ⟨X, 6, none⟩ = some (.int .u64 m3) ∧ w'.cell? ⟨X, 7, none⟩ = some (.int .u64 m4) ∧ w'.cell? ⟨X, 8, none⟩ = some (.bool e1) ∧ w'.cell? ⟨X, 9, none⟩ = some (.bool e2) ∧ w'.cell? ⟨X, 10, none⟩ = some (.bool e3) ∧ w'.cell? ⟨X, 11, none⟩ = some (.bool e4) ∧ w'.cell? ⟨Y, 0, none⟩ = some (.string a') ∧ w'.cell? ⟨Y, 1, none⟩ = some (.string b') ∧ w'.cell? ⟨Y, 2, none⟩ = some (.slice A5 l'.length cap5) ∧ w'.cell? ⟨Y, 3, none⟩ = some (.string d') ∧ w'.cell? ⟨Y, 4, none⟩ = some (.int .u32 m1) ∧ w'.cell? ⟨Y, 5, none⟩ = some (.int .i64 m2) ∧ w'.cell? ⟨Y, 6, none⟩ = some (.int .u64 m3) ∧ w'.cell? ⟨Y, 7, none⟩ = some (.int .u64 m4) ∧ w'.cell? ⟨Y, 8, none⟩ = some (.bool e1) ∧ w'.cell? ⟨Y, 9, none⟩ = some (.bool e2) ∧ w'.cell? ⟨Y, 10, none⟩ = some (.bool e3) ∧ w'.cell? ⟨Y, 11, none⟩ = some (.bool e4))
            (with_reducible exact LS.out _ HXd.out HYd.out)
            (first
            | (go_at_call 10; (with_reducible refine (GX.out _ FD.out).mono ?_); rintro e w8 ⟨rfl, f8⟩; have HXd := Lib.hid (f8.heap HXd.out fun h => h); have HYd := Lib.hid (f8.heap HYd.out fun h => h); have FD := Lib.hid (FD.out.trans' f8); clear f8)
            | (go_at_call 15; (with_reducible refine (GY.out _ FD.out).mono ?_); rintro e w8 ⟨rfl, f8⟩; have HXd := Lib.hid (f8.heap HXd.out fun h => h); have HYd := Lib.hid (f8.heap HYd.out fun h => h); have FD := Lib.hid (FD.out.trans' f8); clear f8)
            | (go_at_call 12; (with_reducible refine (QX.out _ FD.out).mono ?_); rintro e w8 ⟨rfl, f8⟩; have HXd := Lib.hid (f8.heap HXd.out fun h => h); have HYd := Lib.hid (f8.heap HYd.out fun h => h); have FD := Lib.hid (FD.out.trans' f8); clear f8)
            | (go_at_call 9; (with_reducible refine (NX.out _ FD.out).mono ?_); rintro e w8 ⟨rfl, f8⟩; have HXd := Lib.hid (f8.heap HXd.out fun h => h); have HYd := Lib.hid (f8.heap HYd.out fun h => h); have FD := Lib.hid (FD.out.trans' f8); clear f8)
            | (go_at_call 16; (with_reducible refine (NY.out _ FD.out).mono ?_); rintro e w8 ⟨rfl, f8⟩; have HXd := Lib.hid (f8.heap HXd.out fun h => h); have HYd := Lib.hid (f8.heap HYd.out fun h => h); have FD := Lib.hid (FD.out.trans' f8); clear f8))
          all_goals
            go_wp2_with fail
            go_meet
            exact ⟨rfl, FD⟩
        case rest =>
          obtain ⟨rfl, f7⟩ := hcut
          generalize wc = w7 at *
          have KX := Lib.hid (SM.out.keys w7 (FX.out.trans' f7.out))
          have RY7 := Lib.hid (RY.out.nob f7.out)
          have HX7 := Lib.hid (f7.out.heap HX.out fun h => h)
          have HY7 := Lib.hid (f7.out.heap HY.out fun h => h)
          have FF := Lib.hid ((F4.out.trans' FX.out).trans' f7.out)
          clear LS GX GY QX NX NY FD HXd HYd
          have x0 : w7.cell? ⟨X, 0, none⟩ = some (.string a') := cell_of_row _ X 0 _ _ (0, 0) HX7.out
          have x1 : w7.cell? ⟨X, 1, none⟩ = some (.string b') := cell_of_row _ X 1 _ _ (0, 0) HX7.out
          have x2 : w7.cell? ⟨X, 2, none⟩ = some (.slice A1 l'.length cap1) := cell_of_row _ X 2 _ _ (0, 0) HX7.out
          have x3 : w7.cell? ⟨X, 3, none⟩ = some (.string d') := cell_of_row _ X 3 _ _ (0, 0) HX7.out
          have x4 : w7.cell? ⟨X, 4, none⟩ = some (.int .u32 m1) := cell_of_row _ X 4 _ _ (0, 0) HX7.out
          have x5 : w7.cell? ⟨X, 5, none⟩ = some (.int .i64 m2) := cell_of_row _ X 5 _ _ (0, 0) HX7.out
          have x6 : w7.cell? ⟨X, 6, none⟩ = some (.int .u64 m3) := cell_of_row _ X 6 _ _ (0, 0) HX7.out
          have x7 : w7.cell? ⟨X, 7, none⟩ = some (.int .u64 m4) := cell_of_row _ X 7 _ _ (0, 0) HX7.out
          have x8 : w7.cell? ⟨X, 8, none⟩ = some (.bool e1) := cell_of_row _ X 8 _ _ (0, 0) HX7.out
          have x9 : w7.cell? ⟨X, 9, none⟩ = some (.bool e2) := cell_of_row _ X 9 _ _ (0, 0) HX7.out
          have x10 : w7.cell? ⟨X, 10, none⟩ = some (.bool e3) := cell_of_row _ X 10 _ _ (0, 0) HX7.out
          have x11 : w7.cell? ⟨X, 11, none⟩ = some (.bool e4) := cell_of_row _ X 11 _ _ (0, 0) HX7.out
          go_wp2_with fail
          refine KX.out.mono ?_
          rintro e w8 ⟨A8, cap8, rfl, r8, f8⟩
          have RY8 := Lib.hid (RY7.out.nob f8.out)
          have HY8 := Lib.hid (f8.out.heap HY7.out fun h => h)
          have F8 := Lib.hid (FF.out.trans' f8.out)
          clear x0 x1 x2 x3 x4 x5 x6 x7 x8 x9 x10 x11 f8 HX7 HY7 RY7 KX
          have y2 : w8.cell? ⟨Y, 2, none⟩ = some (.slice A5 l'.length cap5) := cell_of_row _ Y 2 _ _ (0, 0) HY8.out
          have hll := SM.out.len
          go_wp2_with fail
          go_loopw [6] (fun i wr => ∃ j : Nat, j ≤ l'.length ∧ i = .int .i64 j ∧ Hid (Fr Nob w8 wr)) (fun i _ => l'.length - (intOf i).toNat)
          case atStart => exact ⟨0, Nat.zero_le _, rfl, Lib.hid (Fr.refl _ _)⟩
          case round =>
            obtain ⟨j, hj, rfl, fr⟩ := hrel
            have y2 := fr.out.cell y2 fun h => h
            by_cases hlt : j < l'.length
            · obtain ⟨k, hk⟩ : ∃ k, l'[j]? = some k := ⟨_, List.getElem?_eq_getElem hlt⟩
              obtain ⟨_, _, h8, _, hc8⟩ := (r8.out.nob fr.out)
              injection h8 with h81 h82 h83
              subst h81
              obtain ⟨g8, o8, rfl, hd8⟩ := hc8 (by omega)
              obtain ⟨_, _, h9, _, hc9⟩ := (RY8.out.nob fr.out)
              injection h9 with h91 h92 h93
              subst h91
              obtain ⟨g5, o5, rfl, hd9⟩ := hc9 (by omega)
              have k8 := hd8 j k hk
              have k9 := hd9 j k hk
              have hlt1 : (j : Int) < (l'.length : Int) := by omega
              have h0 : (0 : Int) ≤ (j : Int) := by omega
              have HLT := Lib.hid hlt
              clear hc8 hc9 hd8 hd9 hk h82 h83 h92 h93 hlt
              go_wp2_with fail
              go_quiet (fail)
              go_wp2_with fail
              go_roundw
              case rel => exact ⟨j + 1, by have := HLT.out; omega, by go_num, Lib.hid (fr.out.drewN _)⟩
              case measure => have := HLT.out; simp [intOf]; omega
            · obtain rfl : j = l'.length := by omega
              go_wp2_with fail
              go_ret
              exact ⟨rfl, F8.out.trans' fr.out⟩

theorem eventTells_walk (z : Cm) (w : World) (hz : CmIn w z) (hU : U8 w) : Calls Tryd.prog 4 #[.agg (cmCs z)] w fun e w' => e = .returned (.bool true) ∧ Fr Nob w w' := by
  obtain ⟨a, b, v, d, n1, n2, n3, n4, b1, b2, b3, b4⟩ := z
  obtain ⟨_, _, hd, l, A, n, cap, hk, hin, hks⟩ := hz
  have hm : maxLen ≤ 9223372036854775807 := by decide
  obtain rfl : v = .slice A n cap := hk
  by_cases h : 100 < n
  · exact tells_many a b d n1 n2 n3 n4 b1 b2 b3 b4 A n cap h
  · exact eventTells_main a b d n1 n2 n3 n4 b1 b2 b3 b4 A n cap l hin (fun k hk => Nat.le_trans (hks k hk) hm) (Nat.le_trans hd hm) (by omega) hU
end Go.Proofs.YthfhlbnjahakaaaDoor
