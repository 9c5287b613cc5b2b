/-
  The law SlabAgain, walked: a chunk that was given back is the next of its class; given back twice it is refused.
-/
import Derived.Test.YtamcnieneelmmaaSlabP
namespace Go.Proofs.Ytamcnieneelmmaa
open Go.RowKit

theorem int_info : (Try.prog.info? 3).map (fun i => (i.zero.map Value.cells, i.size, i.bytes)) = some (some #[.int .i64 0], 1, 8) := by kernel_rfl

theorem slab_own_ne {w : World} {p b base n : Nat} {S : List Pg} {v : Value} {xs : List Value} (h : SlabAt w p b S) (ho : w.ownsRow base 3 1 v n xs) : ¬ v.ownBlock = some p ∧ ¬ v.ownBlock = some b := by
  obtain ⟨cur, h1, _⟩ := h.row
  exact ⟨ownsRow_ne ho h.hd (by decide), ownsRow_ne ho h1 (by decide)⟩

set_option maxHeartbeats 3200000 in
set_option maxRecDepth 100000 in
theorem slabAgain_in (m n at_ : Nat) (c : Int) (w : World) (hm1 : 1 ≤ m) (hm2 : m ≤ 20) (c0 : 0 ≤ c) (c6 : c < 6) (hn1 : 1 ≤ n) (hn2 : n ≤ 60) (ha : (at_ : Int) ≤ 9223372036854775807) :
    Calls Try.prog 7 #[.int .i64 m, .int .i64 c, .int .i64 n, .int .i64 at_] w fun e w' => e = .returned (.bool true) ∧ Fr Nob w w' := by
  have hcs := chunksOf_pos c c0 c6
  go_enter Try.func7, Try.ntmps7
  go_wp2_with fail
  refine (awake_ok w).mono ?_
  rintro e w0 ⟨rfl, f0⟩
  have f0 := Lib.hid f0
  go_wp2_with fail
  refine (new_eq _ m (by omega) (by omega)).mono ?_
  rintro e w1 ⟨p, b, rfl, s1, f1, hp, hb, -⟩
  have f1 := Lib.hid (f0.out.nob_new f1.out)
  have hb' : w.heap.size ≤ b := by have := f0.out.size; omega
  rw [runS_new c m] at s1
  go_wp2_with fail
  go_loopw [11, 12] (fun l i wr => ∃ (k : Nat), k ≤ n ∧ i = .int .i64 k ∧ Hid (SlabAt wr p b (runS Pg.new c m (min k (m * (chunksOf c).toNat)))) ∧ Hid (Fr Nob w wr) ∧ Hid (wr.ownsRow w.heap.size 3 1 l (min k (m * (chunksOf c).toNat)) (chunkRow c (min k (m * (chunksOf c).toNat))))) (fun _ i _ => n - (intOf i).toNat)
  case atStart => exact ⟨0, Nat.zero_le _, rfl, by rw [Nat.zero_min]; exact s1, f1, by rw [Nat.zero_min]; exact World.ownsRow_nil _ _ _ _⟩
  case round =>
    clear s1 f1
    obtain ⟨k, hk, rfl, s1, f1, o1⟩ := hrel
    by_cases hlt : k < n
    · by_cases hfit : k < m * (chunksOf c).toNat
      · rw [Nat.min_eq_left (by omega)] at s1 o1
        obtain ⟨t1, t2, t3⟩ := run_take (m := m) (n := k) c0 c6 (emp_new c c0) hfit
        have T1 := Lib.hid t1
        have T2 := Lib.hid t2
        have T3 := Lib.hid t3
        clear t1 t2 t3
        have hne := Lib.hid (slab_own_ne s1.out o1.out)
        go_wp2_with fail
        refine (take_eq _ p b _ c (chunkNo c k) 0 s1.out T2.out T3.out).mono ?_
        rintro e w2 ⟨rfl, s2, f2⟩
        have o2 := Lib.hid (f2.out.ownsRow o1.out (fun i hi e => hne.out.2 (by rw [hi]; exact congrArg some e)))
        have f2 := Lib.hid (f1.out.one_new f2.out hb')
        rw [T1.out] at s2
        have hsz : w.heap.size ≤ w2.heap.size := f2.out.size
        go_wp2_with (with_reducible refine wpList_app (o := ⟨some 68, _, _, _, _, _⟩) rfl (.tmp 65) (.tmp 67) 35 rfl 3 #[.int .i64 0] 1 8 Try.underlying35 int_info rfl (by omega) w.heap.size u11 k (chunkRow c k) rfl (o2.out.alloc _) ⟨w2.heap.size, 0, none⟩ 1 1 [.int .i64 (chunkNo c k)] rfl rfl (new_one w2 _ _) (by simp [Value.oneCell']) (by omega) (by omega) (by simp; omega) ?_)
        intro v' w3 o3 f3 h3
        have fa := (Fr.refl (One b) w2).alloc (.cells #[.int .i64 (chunkNo c k)] 3)
        have s3 := Lib.hid ((s2.out.keep ((Fr.refl Nob w2).alloc (.cells #[.int .i64 (chunkNo c k)] 3)) (fun h => h) (fun h => h)).keep f3.out hne.out.1 hne.out.2)
        have f3' := Lib.hid ((f2.out.alloc (.cells #[.int .i64 (chunkNo c k)] 3)).trans f3.out (fun i hi e => ownsRow_base o2.out i hi e))
        rw [chunkRow_succ] at o3
        go_wp2_with fail
        go_roundw
        case rel => exact ⟨k + 1, by omega, by go_num, by rw [Nat.min_eq_left (by omega)]; exact s3, f3', by rw [Nat.min_eq_left (by omega)]; exact o3⟩
        case measure => simp [intOf]; omega
      · rw [Nat.min_eq_right (by omega)] at s1 o1
        have ⟨t1, t2, t3⟩ := run_full (e0 := Pg.new) (m := m) (n := m * (chunksOf c).toNat) c0 c6 c0 c6 (Nat.le_refl _)
        have T1 := Lib.hid t1
        have T2 := Lib.hid t2
        have T3 := Lib.hid t3
        clear t1 t2 t3
        have hne := Lib.hid (slab_own_ne s1.out o1.out)
        go_wp2_with fail
        refine (take_eq _ p b _ c 0 7 s1.out T2.out T3.out).mono ?_
        rintro e w2 ⟨rfl, s2, f2⟩
        have o2 := Lib.hid (f2.out.ownsRow o1.out (fun i hi e => hne.out.2 (by rw [hi]; exact congrArg some e)))
        have f2 := Lib.hid (f1.out.one_new f2.out hb')
        rw [T1.out] at s2
        go_wp2_with fail
        go_roundw
        case rel => exact ⟨k + 1, by omega, by go_num, by rw [Nat.min_eq_right (by omega)]; exact s2, f2, by rw [Nat.min_eq_right (by omega)]; exact o2⟩
        case measure => simp [intOf]; omega
    · have hkn : k = n := by omega
      have hmC : 1 ≤ m * (chunksOf c).toNat := Nat.mul_pos (by omega) (by omega)
      obtain ⟨t, ht⟩ : ∃ t, t = min k (m * (chunksOf c).toNat) := ⟨_, rfl⟩
      rw [← ht] at s1 o1
      have ht1 : 1 ≤ t := by omega
      have ht2 : t ≤ m * (chunksOf c).toNat := by omega
      have ht60 : t ≤ 60 := by omega
      clear ht hkn
      have hj : at_ % t < t := Nat.mod_lt _ (by omega)
      obtain ⟨r1, r2, r3, r4⟩ := run_taken (m := m) c0 c6 ht2 hj
      have hcell := fun g (hg : u11.ownBlock = some g) => o1.out.cells hg (at_ % t) _ (chunkRow_get c t _ hj)
      have hbd := chunkNo_bd (m := m) (j := at_ % t) c0 c6 (by omega) (by omega)
      obtain ⟨g, cap, rfl, hgb, hgl⟩ := o1.out.form ht1
      have hc := hcell g rfl
      have R1 := Lib.hid r1
      have R2 := Lib.hid r2
      have R3 := Lib.hid r3
      have R4 := Lib.hid r4
      clear r1 r2 r3 r4 hcell
      rw [show ((⟨g, 0, none⟩ : Addr).add (at_ % t)) = ⟨g, at_ % t, none⟩ by rw [Addr.add_lit, Nat.zero_add]] at hc
      go_wp2_with fail
      refine (free_eq _ p b _ _ 0 (by omega) s1.out (by rw [R1.out]; rfl)).mono ?_
      rintro e w2 ⟨rfl, s2, f2⟩
      have f2 := Lib.hid (f1.out.one_new f2.out hb')
      go_wp2_with fail
      refine (free_eq _ p b _ _ 5 (by omega) s2.out (by rw [R2.out]; rfl)).mono ?_
      rintro e w3 ⟨rfl, s3, f3⟩
      have hs : freeS (freeS (runS Pg.new c m t) (chunkNo c (at_ % t))) (chunkNo c (at_ % t)) = freeS (runS Pg.new c m t) (chunkNo c (at_ % t)) := by
        rw [freeS, if_neg (by rw [R2.out]; exact Bool.false_ne_true)]
      rw [hs] at s3
      clear hs
      have f3 := Lib.hid (f2.out.one_new f3.out hb')
      go_wp2_with fail
      refine (take_eq _ p b _ c _ 0 s3.out R3.out R4.out).mono ?_
      rintro e w4 ⟨rfl, s4, f4⟩
      have f4 := Lib.hid (f3.out.one_new f4.out hb')
      go_wp2_with fail
      go_ret
      exact ⟨rfl, f4.out⟩

theorem first_bad {a b c d e f g : Prop} [Decidable a] [Decidable b] [Decidable c] [Decidable d] [Decidable e] [Decidable f] [Decidable g] (h : ¬ (¬ a ∧ ¬ b ∧ ¬ c ∧ ¬ d ∧ ¬ e ∧ ¬ f ∧ ¬ g)) :
    a ∨ (¬ a ∧ b) ∨ (¬ a ∧ ¬ b ∧ c) ∨ (¬ a ∧ ¬ b ∧ ¬ c ∧ d) ∨ (¬ a ∧ ¬ b ∧ ¬ c ∧ ¬ d ∧ e) ∨ (¬ a ∧ ¬ b ∧ ¬ c ∧ ¬ d ∧ ¬ e ∧ f) ∨ (¬ a ∧ ¬ b ∧ ¬ c ∧ ¬ d ∧ ¬ e ∧ ¬ f ∧ g) := by
  by_cases ha : a <;> by_cases hb : b <;> by_cases hc : c <;> by_cases hd : d <;> by_cases he : e <;> by_cases hf : f <;> by_cases hg : g <;> simp_all

set_option maxHeartbeats 3200000 in
set_option maxRecDepth 100000 in
theorem slabAgain_walk (m c n at_ : Int) (w : World) (_hm : (Lit.int .i64 m).wf = true) (_hc : (Lit.int .i64 c).wf = true) (_hn : (Lit.int .i64 n).wf = true) (ha : (Lit.int .i64 at_).wf = true) :
    Calls Try.prog 7 #[.int .i64 m, .int .i64 c, .int .i64 n, .int .i64 at_] w fun e w' => e = .returned (.bool true) ∧ Fr Nob w w' := by
  have hb := i64_bd ha
  by_cases hin : ¬ m < 1 ∧ ¬ 20 < m ∧ ¬ c < 0 ∧ ¬ 5 < c ∧ ¬ n < 1 ∧ ¬ 60 < n ∧ ¬ at_ < 0
  · obtain ⟨h1, h2, h3, h4, h5, h6, h7⟩ := hin
    obtain ⟨m, rfl⟩ := Int.eq_ofNat_of_zero_le (show 0 ≤ m by omega)
    obtain ⟨n, rfl⟩ := Int.eq_ofNat_of_zero_le (show 0 ≤ n by omega)
    obtain ⟨at_, rfl⟩ := Int.eq_ofNat_of_zero_le (show 0 ≤ at_ by omega)
    exact slabAgain_in m n at_ c w (by omega) (by omega) (by omega) (by omega) (by omega) (by omega) hb.2
  · have hor := first_bad hin
    clear hin _hm _hc _hn ha
    rcases hor with h | ⟨h1, h⟩ | ⟨h1, h2, h⟩ | ⟨h1, h2, h3, h⟩ | ⟨h1, h2, h3, h4, h⟩ | ⟨h1, h2, h3, h4, h5, h⟩ | ⟨h1, h2, h3, h4, h5, h6, h⟩
    all_goals
      go_enter Try.func7, Try.ntmps7
      go_wp2_with fail
      refine (awake_ok w).mono ?_
      rintro e w0 ⟨rfl, f0⟩
      have f0 := Lib.hid f0
      go_wp2_with fail
      go_ret
      exact ⟨rfl, f0.out⟩

end Go.Proofs.Ytamcnieneelmmaa
