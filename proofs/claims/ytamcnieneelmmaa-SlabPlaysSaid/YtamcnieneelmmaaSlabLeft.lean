/-
  The law SlabLeft, walked: all pages that are left and all that classes have are together the pages; no class has more chunks taken than its pages hold.
-/
import Derived.Test.YtamcnieneelmmaaSlabActs
namespace Go.Proofs.Ytamcnieneelmmaa
open Go.RowKit

/-- How many pages belong to the classes below k. -/
def pagesBelow (S : List Pg) : Nat → Nat
  | 0 => 0
  | k + 1 => pagesBelow S k + S.countP (pagesF k)

theorem pagesBelow_cons (q : Pg) (S : List Pg) (k : Nat) : pagesBelow (q :: S) k = pagesBelow S k + (if 0 ≤ q.cls ∧ q.cls < k then 1 else 0) := by
  induction k with
  | zero => simp [pagesBelow]
  | succ k ih =>
    unfold pagesBelow
    rw [ih, List.countP_cons]
    have : pagesF (k : Int) q = decide (q.cls = k) := by
      unfold pagesF
      by_cases h : q.cls = (k : Int)
      · simp [h]; try omega
      · simp [h]
    rw [this]
    simp only [decide_eq_true_eq]
    have e : ((k + 1 : Nat) : Int) = (k : Int) + 1 := by omega
    rw [e]
    (repeat' split) <;> omega

theorem left_sum (S : List Pg) (h : ∀ q, q ∈ S → q.ok) : S.countP fits2 + pagesBelow S 6 = S.length := by
  induction S with
  | nil => rfl
  | cons q S ih =>
    have := ih fun r hr => h r (List.mem_cons_of_mem _ hr)
    rw [pagesBelow_cons, List.countP_cons, List.length_cons]
    have hq := h q List.mem_cons_self
    have : (if fits2 q = true then 1 else 0) + (if 0 ≤ q.cls ∧ q.cls < (6 : Nat) then 1 else 0) = 1 := by
      rcases hq with hq | hq
      · rw [if_pos (by simp [fits2, hq.1]), if_neg (by omega)]
      · rw [if_neg (by simp [fits2]; omega), if_pos ⟨hq.1, hq.2.1⟩]
    omega

theorem used_le (S : List Pg) (h : ∀ q, q ∈ S → q.ok) (c : Int) (h0 : 0 ≤ c) (h6 : c < 6) : sumBy (usedF c) S ≤ (S.countP (pagesF c) : Int) * chunksOf c := by
  have hp := chunksOf_pos c h0 h6
  induction S with
  | nil => simp [sumBy]
  | cons q S ih =>
    have := ih fun r hr => h r (List.mem_cons_of_mem _ hr)
    rw [List.countP_cons]
    simp only [sumBy, List.map_cons, List.sum_cons] at this ⊢
    have hq := h q List.mem_cons_self
    by_cases hc : q.cls = c
    · have e1 : usedF c q = q.us := by simp [usedF, hc]
      have e2 : pagesF c q = true := by simp [pagesF, hc]; omega
      have e3 : q.us ≤ chunksOf c := by
        rcases hq with hq | ⟨_, _, hq, _⟩
        · omega
        · have := cnt_le q.tk (chunksOf q.cls).toNat
          rw [hc] at this hq
          omega
      rw [e1, e2, if_pos rfl, Int.natCast_add, Int.add_mul]
      omega
    · have e1 : usedF c q = 0 := by simp [usedF, hc]
      have e2 : pagesF c q = false := by simp [pagesF, hc]
      rw [e1, e2]
      simp only [Bool.false_eq_true, if_false, Nat.add_zero]
      omega

theorem pagesBelow_le (S : List Pg) (k : Nat) : pagesBelow S k ≤ S.length := by
  induction S with
  | nil => induction k with
    | zero => exact Nat.le_refl _
    | succ k ih => simpa [pagesBelow] using ih
  | cons q S ih => rw [pagesBelow_cons, List.length_cons]; split <;> omega

theorem takeS_len (S : List Pg) (c : Int) : (takeS S c).length = S.length := by
  unfold takeS
  split
  · split
    · rfl
    · simp
  · rfl
def freeE (S : List Pg) (x : Int) : Int := if isTaken S x then 0 else 5
theorem freeS_len (S : List Pg) (x : Int) : (freeS S x).length = S.length := by
  unfold freeS
  split
  · simp
  · rfl

set_option maxHeartbeats 6400000 in
set_option maxRecDepth 100000 in
theorem slabLeft_in (m : Nat) (A : Option Addr) (n cap : Nat) (z : Nat → ActD) (w : World) (hm1 : 1 ≤ m) (hm2 : m ≤ 20) (hn : n ≤ 100) (hz : ActRow w A n z) :
    Calls Try.prog 9 #[.int .i64 m, .slice A n cap] w fun e w' => e = .returned (.bool true) ∧ Fr Nob w w' := by
  have HZ := Lib.hid hz
  clear hz
  go_enter Try.func9, Try.ntmps9
  go_wp2_with fail
  refine (awake_ok w).mono ?_
  rintro e w0 ⟨rfl, f0⟩
  have f0 := Lib.hid f0
  go_wp2_with fail
  refine (new_eq _ m (by omega) (by omega)).mono ?_
  rintro e w1 ⟨p, b, rfl, s1, f1, hp, hb, -⟩
  have f1 := Lib.hid (f0.out.nob_new f1.out)
  have hb' : w.heap.size ≤ b := by have := f0.out.size; omega
  have hl := Lib.hid (List.length_replicate (n := m) (a := Pg.new))
  go_wp2_with fail
  go_loopw [7, 8, 9] (fun i _ _ wr => ∃ (k : Nat) (S : List Pg), k ≤ n ∧ i = .int .i64 k ∧ Hid (SlabAt wr p b S) ∧ Hid (Fr Nob w wr) ∧ Hid (S.length = m)) (fun i _ _ _ => n - (intOf i).toNat)
  case atStart => exact ⟨0, _, Nat.zero_le _, rfl, s1, f1, hl⟩
  case round =>
    clear s1 f1 hl
    obtain ⟨k, S, hk, rfl, s1, f1, hl⟩ := hrel
    by_cases hlt : k < n
    · obtain ⟨ba, oa, rfl⟩ := HZ.out.addr (by omega)
      obtain ⟨g0, g1, g2, g3⟩ := (HZ.out.keep f1.out).cell rfl hlt
      have hi1 := (HZ.out.at_ k hlt).2
      cases hfr : (z k).free
      · rw [hfr] at g0
        clear hfr
        go_wp2_with fail
        refine (take_ok _ p b _ _ s1.out).mono ?_
        rintro e w2 ⟨rfl, s2, f2⟩
        obtain ⟨S2, s2, hl2⟩ : ∃ S2, Hid (SlabAt w2 p b S2) ∧ Hid (S2.length = m) := ⟨_, s2, (takeS_len _ _).trans hl.out⟩
        have f2 := Lib.hid (f1.out.one_new f2 hb')
        clear s1 f1 hl g0 g1 g2 g3
        have hsum := left_sum S2 s2.out.ok
        have hlen := s2.out.len
        have hc1 : S2.countP fits2 ≤ S2.length := List.countP_le_length
        have hsum' := Lib.hid hsum
        have hbd : (S2.countP fits2 : Int) ≤ 1024 := by omega
        clear hsum hlen hc1
        go_wp2_with fail
        refine (left_eq _ p b _ _ s2.out rfl).mono ?_
        rintro e w3 ⟨rfl, s3, f3⟩
        have f3 := Lib.hid (f2.out.nob_new f3.out)
        clear s2 f2
        go_wp2_with fail
        go_loopw [8, 9] (fun n i wr => ∃ (j : Nat), j ≤ 6 ∧ i = .int .i64 j ∧ Hid (SlabAt wr p b S2) ∧ Hid (Fr Nob w wr) ∧ n = .int .i64 ((S2.countP fits2 + pagesBelow S2 j : Nat) : Int)) (fun _ i _ => 6 - (intOf i).toNat)
        case atStart => exact ⟨0, by omega, rfl, s3, f3, rfl⟩
        case round =>
          clear s3 f3
          obtain ⟨j, hj, rfl, s3, f3, rfl⟩ := hrel
          by_cases hj6 : j < 6
          · have hu := used_le S2 s3.out.ok (j : Int) (by omega) (by omega)
            have hcp := chunkOf_pos (j : Int) (by omega) (by omega)
            have hcs := chunksOf_pos (j : Int) (by omega) (by omega)
            have hub := used_bd (c := (j : Int)) (k := S2.length) s3.out.ok s3.out.len
            rw [List.take_length] at hub
            have hpb := pagesBelow_le S2 (j + 1)
            have hpl := s3.out.len
            have hpc : S2.countP (pagesF j) ≤ S2.length := List.countP_le_length
            have hbd2 : (S2.countP (pagesF j) : Int) ≤ 1024 := by omega
            have hbd3 : ((S2.countP fits2 + pagesBelow S2 j : Nat) : Int) ≤ 4096 := by have := pagesBelow_le S2 j; omega
            have hdv := chunksOf_div (j : Int) (by omega) (by omega)
            have hmul : (S2.countP (pagesF j) : Int) * (4096 / chunkOf j) ≤ 65536 ∧ 0 ≤ (S2.countP (pagesF j) : Int) * (4096 / chunkOf j) := by
              rw [hdv]
              refine ⟨Int.le_trans (Int.mul_le_mul hbd2 hcs.2 (by omega) (by omega)) (by omega), Int.mul_nonneg (by omega) (by omega)⟩
            have hq : ¬ (S2.countP (pagesF j) : Int) * (4096 / chunkOf j) < sumBy (usedF j) S2 := by rw [hdv]; omega
            have hdb : 0 ≤ 4096 / chunkOf (j : Int) ∧ 4096 / chunkOf (j : Int) ≤ 64 := by rw [hdv]; omega
            clear hu hpb hpl hpc hdv
            go_wp2_with fail
            refine (pages_eq _ p b _ _ _ s3.out rfl).mono ?_
            rintro e w4 ⟨rfl, s4, f4⟩
            have f4 := Lib.hid (f3.out.nob_new f4.out)
            go_wp2_with fail
            refine (used_eq _ p b _ _ _ s4.out rfl).mono ?_
            rintro e w5 ⟨rfl, s5, f5⟩
            have f5 := Lib.hid (f4.out.nob_new f5.out)
            go_wp2_with fail
            refine (pages_eq _ p b _ _ _ s5.out rfl).mono ?_
            rintro e w6 ⟨rfl, s6, f6⟩
            have f6 := Lib.hid (f5.out.nob_new f6.out)
            go_wp2_with fail
            refine (chunk_in _ _ (by omega) (by omega)).mono ?_
            rintro e w' ⟨rfl, rfl⟩
            go_wp2_with fail
            go_roundw
            case rel => exact ⟨j + 1, by omega, by go_num, s6, f6, by rw [pagesBelow]; go_num⟩
            case measure => simp [intOf]; omega
          · have hj' : j = 6 := by omega
            subst hj'
            have hq : (((S2.countP fits2 + pagesBelow S2 6 : Nat) : Int) != (m : Int)) = false := by
              rw [hsum'.out, hl2.out]; simp
            go_wp2_with fail
            go_roundw
            case rel => exact ⟨k + 1, S2, by omega, by go_num, s3, f3, hl2⟩
            case measure => simp [intOf]; omega
      · rw [hfr] at g0
        clear hfr
        go_wp2_with fail
        refine (free_eq _ p b _ _ (freeE S (z k).at_) hi1 s1.out rfl).mono ?_
        rintro e w2 ⟨rfl, s2, f2⟩
        obtain ⟨S2, s2, hl2⟩ : ∃ S2, Hid (SlabAt w2 p b S2) ∧ Hid (S2.length = m) := ⟨_, s2, (freeS_len _ _).trans hl.out⟩
        have f2 := Lib.hid (f1.out.one_new f2 hb')
        clear s1 f1 hl g0 g1 g2 g3
        have hsum := left_sum S2 s2.out.ok
        have hlen := s2.out.len
        have hc1 : S2.countP fits2 ≤ S2.length := List.countP_le_length
        have hsum' := Lib.hid hsum
        have hbd : (S2.countP fits2 : Int) ≤ 1024 := by omega
        clear hsum hlen hc1
        go_wp2_with fail
        refine (left_eq _ p b _ _ s2.out rfl).mono ?_
        rintro e w3 ⟨rfl, s3, f3⟩
        have f3 := Lib.hid (f2.out.nob_new f3.out)
        clear s2 f2
        go_wp2_with fail
        go_loopw [8, 9] (fun n i wr => ∃ (j : Nat), j ≤ 6 ∧ i = .int .i64 j ∧ Hid (SlabAt wr p b S2) ∧ Hid (Fr Nob w wr) ∧ n = .int .i64 ((S2.countP fits2 + pagesBelow S2 j : Nat) : Int)) (fun _ i _ => 6 - (intOf i).toNat)
        case atStart => exact ⟨0, by omega, rfl, s3, f3, rfl⟩
        case round =>
          clear s3 f3
          obtain ⟨j, hj, rfl, s3, f3, rfl⟩ := hrel
          by_cases hj6 : j < 6
          · have hu := used_le S2 s3.out.ok (j : Int) (by omega) (by omega)
            have hcp := chunkOf_pos (j : Int) (by omega) (by omega)
            have hcs := chunksOf_pos (j : Int) (by omega) (by omega)
            have hub := used_bd (c := (j : Int)) (k := S2.length) s3.out.ok s3.out.len
            rw [List.take_length] at hub
            have hpb := pagesBelow_le S2 (j + 1)
            have hpl := s3.out.len
            have hpc : S2.countP (pagesF j) ≤ S2.length := List.countP_le_length
            have hbd2 : (S2.countP (pagesF j) : Int) ≤ 1024 := by omega
            have hbd3 : ((S2.countP fits2 + pagesBelow S2 j : Nat) : Int) ≤ 4096 := by have := pagesBelow_le S2 j; omega
            have hdv := chunksOf_div (j : Int) (by omega) (by omega)
            have hmul : (S2.countP (pagesF j) : Int) * (4096 / chunkOf j) ≤ 65536 ∧ 0 ≤ (S2.countP (pagesF j) : Int) * (4096 / chunkOf j) := by
              rw [hdv]
              refine ⟨Int.le_trans (Int.mul_le_mul hbd2 hcs.2 (by omega) (by omega)) (by omega), Int.mul_nonneg (by omega) (by omega)⟩
            have hq : ¬ (S2.countP (pagesF j) : Int) * (4096 / chunkOf j) < sumBy (usedF j) S2 := by rw [hdv]; omega
            have hdb : 0 ≤ 4096 / chunkOf (j : Int) ∧ 4096 / chunkOf (j : Int) ≤ 64 := by rw [hdv]; omega
            clear hu hpb hpl hpc hdv
            go_wp2_with fail
            refine (pages_eq _ p b _ _ _ s3.out rfl).mono ?_
            rintro e w4 ⟨rfl, s4, f4⟩
            have f4 := Lib.hid (f3.out.nob_new f4.out)
            go_wp2_with fail
            refine (used_eq _ p b _ _ _ s4.out rfl).mono ?_
            rintro e w5 ⟨rfl, s5, f5⟩
            have f5 := Lib.hid (f4.out.nob_new f5.out)
            go_wp2_with fail
            refine (pages_eq _ p b _ _ _ s5.out rfl).mono ?_
            rintro e w6 ⟨rfl, s6, f6⟩
            have f6 := Lib.hid (f5.out.nob_new f6.out)
            go_wp2_with fail
            refine (chunk_in _ _ (by omega) (by omega)).mono ?_
            rintro e w' ⟨rfl, rfl⟩
            go_wp2_with fail
            go_roundw
            case rel => exact ⟨j + 1, by omega, by go_num, s6, f6, by rw [pagesBelow]; go_num⟩
            case measure => simp [intOf]; omega
          · have hj' : j = 6 := by omega
            subst hj'
            have hq : (((S2.countP fits2 + pagesBelow S2 6 : Nat) : Int) != (m : Int)) = false := by
              rw [hsum'.out, hl2.out]; simp
            go_wp2_with fail
            go_roundw
            case rel => exact ⟨k + 1, S2, by omega, by go_num, s3, f3, hl2⟩
            case measure => simp [intOf]; omega
    · go_wp2_with fail
      go_ret
      exact ⟨rfl, f1.out⟩

theorem first_bad3 {a b c : Prop} [Decidable a] [Decidable b] [Decidable c] (h : ¬ (¬ a ∧ ¬ b ∧ ¬ c)) : a ∨ (¬ a ∧ b) ∨ (¬ a ∧ ¬ b ∧ c) := by
  by_cases ha : a <;> by_cases hb : b <;> by_cases hc : c <;> simp_all

set_option maxHeartbeats 3200000 in
set_option maxRecDepth 100000 in
theorem slabLeft_walk (m : Int) (A : Option Addr) (n cap : Nat) (z : Nat → ActD) (w : World) (_hm : (Lit.int .i64 m).wf = true) (hz : ActRow w A n z) :
    Calls Try.prog 9 #[.int .i64 m, .slice A n cap] w fun e w' => e = .returned (.bool true) ∧ Fr Nob w w' := by
  by_cases hin : ¬ m < 1 ∧ ¬ 20 < m ∧ ¬ 100 < (n : Int)
  · obtain ⟨h1, h2, h3⟩ := hin
    obtain ⟨m, rfl⟩ := Int.eq_ofNat_of_zero_le (show 0 ≤ m by omega)
    exact slabLeft_in m A n cap z w (by omega) (by omega) (by omega) hz
  · have hor := first_bad3 hin
    clear hin _hm hz
    rcases hor with h | ⟨h1, h⟩ | ⟨h1, h2, h⟩
    all_goals
      go_enter Try.func9, Try.ntmps9
      go_wp2_with fail
      refine (awake_ok w).mono ?_
      rintro e w0 ⟨rfl, f0⟩
      have f0 := Lib.hid f0
      go_wp2_with fail
      go_ret
      exact ⟨rfl, f0.out⟩

end Go.Proofs.Ytamcnieneelmmaa
